/-
  Contract: the sorted list of the holidays on working days.
-/
import Derived.Test.YtpddpdkdlodniaaNKClosed
import Derived.Test.YtpddpdkdlodniaaNKBase
import Derived.Test.YtpddpdkdlodniaaOShelf
import Derived.Deep.AppendLies
import Derived.Laws.AppendOwnNone
import Derived.Laws.OwnMore
import Derived.Sort.OwnSortedInts
import Derived.Lib.OwnBridge
import Derived.OwnWalk
namespace Go.Proofs.Ytpddpdkdlodniaa
open Go.RowKit Go.Sort

theorem Try.infoInt : (Try.prog.info? 3).map (fun i => (i.zero, i.size, i.bytes)) = some (some (.int .i64 0), 1, 8) := by kernel_rfl
theorem info_split {P : Program} {e : TypeId} {z : Value} {s b : Nat} (h : (P.info? e).map (fun i => (i.zero, i.size, i.bytes)) = some (some z, s, b)) : ∃ i, P.info? e = some i ∧ i.zero = some z ∧ i.size = s ∧ i.bytes = b := by
  cases hi : P.info? e with
  | none => rw [hi] at h; cases h
  | some i =>
    rw [hi] at h
    simp only [Option.map_some, Option.some.injEq, Prod.mk.injEq] at h
    exact ⟨i, rfl, h.1, h.2.1, h.2.2⟩

def icells (l : List Int) : List Value := l.map (Value.int .i64)

theorem ints_of_owns {w : World} {base g cap : Nat} {e : TypeId} {l : List Int} (h : w.ownsRow base e 1 (.slice (some ⟨g, 0, none⟩) l.length cap) l.length (l.map (Value.int .i64))) : Ints w (some ⟨g, 0, none⟩) l := by
  by_cases h0 : l.length = 0
  · exact .inl h0
  · rcases h.2 with ⟨e0, _⟩ | ⟨g', cap', cur, e0, hb, hg, hn, hm, hs, ht⟩
    · cases e0
    · cases e0
      refine .inr ⟨g, 0, rfl, (Array.getElem?_eq_some_iff.1 hg).1, fun i hi j hj => ?_⟩
      obtain rfl : j = 0 := by omega
      have := h.cellAt i (by omega)
      simp only [Nat.zero_add, Nat.mul_one, Nat.add_zero] at this ⊢
      rw [this]
      simp [List.getD, hi]

theorem owns_slice {w : World} {base n : Nat} {e : TypeId} {v : Value} {l : List Int} (h : w.ownsRow base e 1 v n (l.map (Value.int .i64))) : l.length = n ∧ ((v = .slice none 0 0 ∧ l = []) ∨ ∃ g cap, v = .slice (some ⟨g, 0, none⟩) n cap ∧ base ≤ g ∧ g < w.heap.size ∧ n ≤ cap) := by
  have hl : l.length = n := by simpa using h.1
  refine ⟨hl, ?_⟩
  rcases h.2 with ⟨e0, h0, _⟩ | ⟨g, cap, cur, rfl, hb, hg, hn, hm, hs, ht⟩
  · exact .inl ⟨e0, List.eq_nil_of_length_eq_zero (by omega)⟩
  · exact .inr ⟨g, cap, rfl, hb, (Array.getElem?_eq_some_iff.1 hg).1, hn⟩

/-- Sort and Compact on a slice of the call's own. -/
theorem sort_any (base g cap : Nat) (L : List Int) (w : World) (hown : w.ownsRow base 3 1 (.slice (some ⟨g, 0, none⟩) L.length cap) L.length (L.map (Value.int .i64))) (hl : L.length ≤ 1000000) :
    Calls Try.prog 82 #[.slice (some ⟨g, 0, none⟩) L.length cap] w fun e w' => e = .returned (.tuple #[]) ∧
      w'.ownsRow base 3 1 (.slice (some ⟨g, 0, none⟩) L.length cap) L.length ((L.mergeSort fun x y => decide (x ≤ y)).map (Value.int .i64)) ∧ w.grownBy w' (some g) := by
  have hown0 := hown
  rcases hown.2 with ⟨e0, _⟩ | ⟨g', cap', cur, e0, hb, hg, hn, hm, hs, ht⟩
  · cases e0
  cases e0
  have hH : Holds (Value.int .i64) w g 0 L.toArray := holds_of_blockI hg (by simpa using ht)
  have h := AnyM.slices_Sort_int Ytpddpdkdlodniaa.laysSort g 0 cap L w hH (Array.getElem?_eq_some_iff.1 hg).1 (by omega)
  refine Calls.mono (f := 82) h ?_
  rintro e w' ⟨rfl, n, os, rfl⟩
  exact ⟨rfl, ownsRow_sortedI (List.length_mergeSort L) hb hg hn hm hs, grownBy_sortedI _⟩

theorem sort_none (cap : Nat) (w : World) : Calls Try.prog 82 #[.slice none 0 cap] w fun e w' => e = .returned (.tuple #[]) ∧ w' = w := AnyM.slices_Sort_int_none Ytpddpdkdlodniaa.laysSort none cap w
theorem compact_none (cap : Nat) (w : World) : Calls Try.prog 83 #[.slice none 0 cap] w fun e w' => e = .returned (.slice none 0 cap) ∧ w' = w := AnyG.slices_Compact_int_empty Ytpddpdkdlodniaa.laysCompact none cap w

theorem compact_any (base g cap : Nat) (L : List Int) (w : World) (hown : w.ownsRow base 3 1 (.slice (some ⟨g, 0, none⟩) L.length cap) L.length (L.map (Value.int .i64))) (hl : L.length ≤ 1000000) :
    Calls Try.prog 83 #[.slice (some ⟨g, 0, none⟩) L.length cap] w fun e w' => e = .returned (.slice (some ⟨g, 0, none⟩) (Lib.compact L).length cap) ∧
      w'.ownsRow base 3 1 (.slice (some ⟨g, 0, none⟩) (Lib.compact L).length cap) (Lib.compact L).length ((Lib.compact L).map (Value.int .i64)) ∧ w.grownBy w' (some g) := by
  have hle := Lib.compact_length_le L
  rcases hown.2 with ⟨e0, _⟩ | ⟨g', cap', cur, e0, hb, hg, hn, hm, hs, ht⟩
  · cases e0
  cases e0
  have hH : Holds (Value.int .i64) w g 0 L.toArray := holds_of_blockI hg (by simpa using ht)
  have h := AnyG.slices_Compact_int Ytpddpdkdlodniaa.laysCompact g 0 cap L w hH (by omega) hn
  refine Calls.mono (f := 83) h ?_
  rintro e w' ⟨rfl, q, rfl⟩
  have hc := Lib.ownsRow_putRow (enc := Value.int .i64) (q := q) (k := (Lib.compact L).length) (ys := Lib.compact L ++ List.replicate (L.length - (Lib.compact L).length) 0) hown (by simp; omega) (by omega)
  rw [List.take_left] at hc
  refine ⟨rfl, hc, ?_⟩
  have := grownBy_sortedI (w := w) (g := g) (n := q) (os := #[]) (Lib.compact L ++ List.replicate (L.length - (Lib.compact L).length) 0).toArray
  rwa [grow_empty] at this

/-- What the loop of 'sorted' has gathered. -/
def gathered (H : List Int) (k : Nat) : List Int := (H.take k).filter onWork

set_option maxRecDepth 100000 in
set_option maxHeartbeats 2000000 in
theorem sorted_any (ao : Option Addr) (cap : Nat) (H : List Int) (w : World) (hI : Ints w ao H) (hl : H.length ≤ 1000) :
    Calls Try.prog 66 #[.slice ao H.length cap] w fun e w' => ∃ so sc C, e = .returned (.slice so C.length sc) ∧ Closed H C ∧ Ints w' so C ∧ Below w.heap.size w w' := by
  obtain ⟨i0, hi, hz0, hz1, hz2⟩ := info_split Try.infoInt
  have HI := Lib.hid hI
  clear hI
  go_enter Try.func66, Try.ntmps66
  go_wp2_with fail
  go_loopw [3, 8] (fun v i wr => ∃ k : Nat, k ≤ H.length ∧ i = .int .i64 k ∧ wr.ownsRow w.heap.size 3 1 v (gathered H k).length ((gathered H k).map (Value.int .i64)) ∧ Below w.heap.size w wr) (fun _ i _ => H.length - (intOf i).toNat)
  case atStart => exact ⟨0, Nat.zero_le _, rfl, World.ownsRow_nil _ _ _ _, Below.refl _ _⟩
  case round =>
    obtain ⟨k, hk, rfl, hown, hb⟩ := hrel
    have hsr := hb.size
    by_cases hlt : k < H.length
    · obtain ⟨b, off, rfl, hbw, hc0⟩ := HI.out.cells (by omega)
      have hc : wr.cell? ⟨b, off + k, none⟩ = some (.int .i64 (H.getD k 0)) := (hb.cell (p := ⟨b, off + k, none⟩) hbw).trans (hc0 k hlt)
      have hgl : (gathered H k).length ≤ 1000 := Nat.le_trans (List.length_filter_le _ _) (by simp; omega)
      have hft : gathered H (k + 1) = gathered H k ++ (if onWork (H.getD k 0) then [H.getD k 0] else []) := filter_take H k hlt
      obtain ⟨z, hz⟩ : ∃ z, z = H.getD k 0 := ⟨_, rfl⟩
      rw [← hz] at hc hft
      have HD := Lib.hid (isDay_any z wr)
      have HWD := Lib.hid (weekday_any z wr)
      have HO := Lib.hid hown
      have HB := Lib.hid hb
      have hk0 : (0 : Int) ≤ (k : Int) := Int.natCast_nonneg _
      have hk1 : (k : Int) < (H.length : Int) := by omega
      have hside : (isDayF z = true ∧ z % 7 < 5 ∧ onWork z = true) ∨ (isDayF z = true ∧ ¬ z % 7 < 5 ∧ onWork z = false) ∨ (isDayF z = false ∧ onWork z = false) := by
        by_cases h1 : isDayF z = true
        · by_cases h2 : z % 7 < 5
          · exact .inl ⟨h1, h2, by simp only [isDayF] at h1; simp only [onWork, h1, h2, decide_true, Bool.and_self]⟩
          · exact .inr (.inl ⟨h1, h2, by simp [onWork, h2]⟩)
        · have h1 : isDayF z = false := by simpa using h1
          exact .inr (.inr ⟨h1, by simp only [isDayF] at h1; simp only [onWork, h1, Bool.false_and]⟩)
      have hm0 : 0 ≤ z % 7 := by omega
      have hm1 : z % 7 ≤ 6 := by omega
      clear hc0 hz hown hb
      rcases hside with ⟨h1, h2, h3⟩ | ⟨h1, h2, h3⟩ | ⟨h1, h3⟩
      · rw [h1] at HD
        rw [h3, if_pos rfl] at hft
        have HF := Lib.hid hft
        clear hft h1 h3
        go_wp2_with (first
          | (go_at_call 65
             go_must (refine HD.out.mono ?_)
             rintro e w3 ⟨rfl, rfl⟩)
          | (go_at_call 81
             go_must (refine HWD.out.mono ?_)
             rintro e w4 ⟨rfl, rfl⟩)
          | (at_builtin
             refine wpList_append_lies _ rfl (.tmp 19) (.tmp 21) 113 rfl w.heap.size 3 i0 (.int .i64 0) 1 8 Try.underlying113 hi hz0 hz1 hz2 rfl (by decide) _ (gathered H k).length _ rfl (HO.out.alloc _)
               ⟨wr.heap.size, 0, none⟩ 1 1 [.int .i64 z] rfl rfl (World.news_of_block (cs := #[.int .i64 z]) (t := 3) (fr := (0, 0)) (heap_alloc_new wr _)) (by simp [Value.oneCell'])
               (by omega) (by unfold maxLen; omega) (by omega) (by simp; omega) (wr.heap.size + 1) (by simp) ?_
             intro gg cap5 w5 hown5 hg5 hat5 hlt5
             have hb5 : Below w.heap.size w w5 := (HB.out.alloc hsr _).grown hg5 (by simp; omega) (fun j hj => (HO.out.lt j hj).1)))
        go_roundw
        case rel =>
          refine ⟨k + 1, hlt, by go_num, ?_, hb5⟩
          rw [HF.out]
          simpa using hown5
        case measure => simp [intOf]; omega
      · rw [h1] at HD
        rw [h3, if_neg (by simp), List.append_nil] at hft
        have HF := Lib.hid hft
        have h2' : 5 ≤ z % 7 := by omega
        clear hft h1 h3
        go_wp2_with (first
          | (go_at_call 65
             go_must (refine HD.out.mono ?_)
             rintro e w3 ⟨rfl, rfl⟩)
          | (go_at_call 81
             go_must (refine HWD.out.mono ?_)
             rintro e w4 ⟨rfl, rfl⟩))
        go_roundw
        case rel => exact ⟨k + 1, hlt, by go_num, by rw [HF.out]; exact HO.out, HB.out⟩
        case measure => simp [intOf]; omega
      · rw [h1] at HD
        rw [h3, if_neg (by simp), List.append_nil] at hft
        have HF := Lib.hid hft
        clear hft h1 h3
        go_wp2_with (first
          | (go_at_call 65
             go_must (refine HD.out.mono ?_)
             rintro e w3 ⟨rfl, rfl⟩))
        go_roundw
        case rel => exact ⟨k + 1, hlt, by go_num, by rw [HF.out]; exact HO.out, HB.out⟩
        case measure => simp [intOf]; omega
    · obtain rfl : k = H.length := by omega
      have hgl : gathered H H.length = H.filter onWork := by simp [gathered]
      rw [hgl] at hown
      have hcl := closed_of H
      have hlen : (H.filter onWork).length ≤ 1000 := Nat.le_trans (List.length_filter_le _ _) hl
      generalize H.filter onWork = L at hown hcl hlen
      obtain ⟨-, ⟨rfl, rfl⟩ | ⟨g, cp, rfl, hbg, hgl, hncap⟩⟩ := owns_slice hown
      · have HCL := Lib.hid hcl
        clear hcl hown hgl
        go_wp2_with (first
          | (go_at_call 82
             go_must (refine (sort_none 0 _).mono ?_)
             rintro e w6 ⟨rfl, rfl⟩)
          | (go_at_call 83
             go_must (refine (compact_none 0 _).mono ?_)
             rintro e w7 ⟨rfl, rfl⟩))
        go_ret
        exact ⟨none, 0, [], rfl, by have := HCL.out; simpa [Lib.compact, Lib.compactUpTo] using this, .inl rfl, hb⟩
      · have hml := List.length_mergeSort (le := fun x y : Int => decide (x ≤ y)) L
        have HS := Lib.hid (sort_any w.heap.size g cp L wr hown (by omega))
        have HCL := Lib.hid hcl
        have HB := Lib.hid hb
        clear hown hcl hb
        go_wp2_with fail
        refine HS.out.mono ?_
        rintro e w6 ⟨rfl, hown6, hg6⟩
        have hb6 := HB.out.grown hg6 hsr (fun j hj => by cases hj; exact hbg)
        rw [← hml] at hown6
        have HC := Lib.hid (compact_any w.heap.size g cp _ w6 hown6 (by omega))
        rw [hml] at HC
        have HB6 := Lib.hid hb6
        clear hown6 hb6 HS HB
        go_wp2_with fail
        refine HC.out.mono ?_
        rintro e w7 ⟨rfl, hown7, hg7⟩
        have hb7 := HB6.out.grown hg7 HB6.out.size (fun j hj => by cases hj; exact hbg)
        have HI7 := Lib.hid (ints_of_owns hown7)
        have HB7 := Lib.hid hb7
        clear hown7 hb7 HC HB6
        go_wp2_with fail
        go_ret
        exact ⟨_, _, _, rfl, HCL.out, HI7.out, HB7.out⟩
end Go.Proofs.Ytpddpdkdlodniaa
