/-
  CalendarSplit returns true for every input, and turns nothing that was there.
-/
import Derived.Test.YtgabecolmldbjaaKLawB
namespace Go.Proofs.Ytgabecolmldbjaa
open Go.RowKit

theorem count_found {H : List Int} {m n : Nat} {c e : Int} (h : CountIs H m n c e) (hl : H.length ≤ 1000) (hm : m ≤ 1000) (n1 : n ≤ 1000) : e = 0 ∧ c = if n ≤ m then 0 else (cnt H n : Int) - (cnt H m : Nat) := by
  have h1 : isDayF (m : Int) = true := by simp [isDayF]; omega
  have h2 : isDayF (n : Int) = true := by simp [isDayF]; omega
  rcases h with ⟨h, -⟩ | ⟨-, h, -⟩ | ⟨-, -, -, hc, he⟩
  · omega
  · rw [h1, h2] at h
    simp at h
  · refine ⟨he, ?_⟩
    rw [hc]
    simp only [betweenF, Int.toNat_natCast]
    by_cases hle : n ≤ m
    · rw [if_pos hle, if_pos (by omega)]
    · rw [if_neg hle, if_neg (by omega)]

theorem reverse_take (H : List Int) (k : Nat) (h : k < H.length) : H.reverse.take (k + 1) = H.reverse.take k ++ [H.getD (H.length - 1 - k) 0] := by
  have hr : k < H.reverse.length := by simpa using h
  rw [List.take_succ_eq_append_getElem hr]
  congr 1
  have hi : H.length - 1 - k < H.length := by omega
  simp [List.getD, hi]

theorem owns_ints {w : World} {base : Nat} {e : TypeId} {v : Value} {l : List Int} (h : w.ownsRow base e 1 v l.length (l.map (Value.int .i64))) : ∃ ro rc, v = .slice ro l.length rc ∧ Ints w ro l := by
  obtain ⟨-, ⟨rfl, rfl⟩ | ⟨g, cp, rfl, hbg, hgl, hncap⟩⟩ := owns_slice h
  · exact ⟨none, 0, rfl, .inl rfl⟩
  · exact ⟨_, _, rfl, ints_of_owns h⟩

theorem split_sum {m p q : Nat} {A B C x y z : Int} (h1 : p = 0 → B = A) (h2 : q = 0 → C = B) (hx : x = if m + p ≤ m then 0 else B - A) (hy : y = if m + p + q ≤ m + p then 0 else C - B) (hz : z = if m + p + q ≤ m then 0 else C - A) : x + y = z := by
  by_cases hp : p = 0 <;> by_cases hq : q = 0
  · have := h1 hp
    have := h2 hq
    split at hx <;> split at hy <;> split at hz <;> omega
  · have := h1 hp
    split at hx <;> split at hy <;> split at hz <;> omega
  · have := h2 hq
    split at hx <;> split at hy <;> split at hz <;> omega
  · split at hx <;> split at hy <;> split at hz <;> omega

set_option maxRecDepth 100000 in
set_option maxHeartbeats 2000000 in
theorem calendarSplit_walk (a l2 l3 : Int) (ao : Option Addr) (cap : Nat) (l : List Int) (w : World) (d0 : 0 ≤ a) (d1 : a ≤ 255) (n0 : 0 ≤ l2) (n1 : l2 ≤ 255) (k0 : 0 ≤ l3) (k1 : l3 ≤ 255) (hr : ∀ i, 0 ≤ l.getD i 0 ∧ l.getD i 0 ≤ 255) (hL : U8s w ao l) :
    Calls Try.prog 9 #[.int .u8 a, .int .u8 l2, .int .u8 l3, .slice ao l.length cap] w fun e w' => e = .returned (.bool true) ∧ Below w.heap.size w w' := by
  obtain ⟨i0, hi, hz0, hz1, hz2⟩ := info_split Try.infoInt
  have HDY := Lib.hid (days_any ao cap l w hL hr)
  clear hL hr
  obtain ⟨m, rfl⟩ : ∃ m : Nat, a = m := ⟨a.toNat, by omega⟩
  obtain ⟨p, rfl⟩ : ∃ p : Nat, l2 = p := ⟨l2.toNat, by omega⟩
  obtain ⟨q, rfl⟩ : ∃ q : Nat, l3 = q := ⟨l3.toNat, by omega⟩
  go_enter Try.func9, Try.ntmps9
  go_wp2_with fail
  refine HDY.out.mono ?_
  rintro e w1 ⟨so, sc, H, rfl, hI, hl, hb1⟩
  have HI := Lib.hid hI
  have HB1 := Lib.hid hb1
  clear hI hb1 HDY
  go_wp2_with fail
  go_loopw [10, 11] (fun v i wr => ∃ k : Nat, k ≤ H.length ∧ i = .int .i64 ((H.length : Int) - 1 - k) ∧ wr.ownsRow w1.heap.size 3 1 v k ((H.reverse.take k).map (Value.int .i64)) ∧ Below w1.heap.size w1 wr) (fun _ i _ => (intOf i + 1).toNat)
  case atStart => exact ⟨0, Nat.zero_le _, by simp, World.ownsRow_nil _ _ _ _, Below.refl _ _⟩
  case round =>
    obtain ⟨k, hk, rfl, hown, hb⟩ := hrel
    have hsr := hb.size
    by_cases hlt : k < H.length
    · obtain ⟨b, off, rfl, hbw, hc0⟩ := HI.out.cells (by omega)
      obtain ⟨j, hj⟩ : ∃ j : Nat, H.length - 1 - k = j := ⟨_, rfl⟩
      have hji : (H.length : Int) - 1 - k = j := by omega
      have hc : wr.cell? ⟨b, off + j, none⟩ = some (.int .i64 (H.getD j 0)) := (hb.cell (p := ⟨b, off + j, none⟩) hbw).trans (hc0 j (by omega))
      have hds := reverse_take H k hlt
      rw [hj] at hds
      rw [hji]
      generalize H.getD j 0 = z at hc hds
      have HDS := Lib.hid hds
      have HO := Lib.hid hown
      have HB := Lib.hid hb
      have hk0 : (0 : Int) ≤ (j : Int) := Int.natCast_nonneg _
      have hk1 : (j : Int) < (H.length : Int) := by omega
      clear hc0 hds hown hb
      go_wp2_with (at_builtin
                   refine wpList_append_lies _ rfl (.tmp 32) (.tmp 37) 25 rfl w1.heap.size 3 i0 (.int .i64 0) 1 8 Try.underlying25 hi hz0 hz1 hz2 rfl (by decide) _ k _ rfl (HO.out.alloc _) ⟨wr.heap.size, 0, none⟩ 1 1 [.int .i64 z] rfl rfl (World.news_of_block (cs := #[.int .i64 z]) (t := 3) (fr := (0, 0)) (heap_alloc_new wr _)) (by simp [Value.oneCell']) (by omega) (by unfold maxLen; omega) (by omega) (by simp; omega) (wr.heap.size + 1) (by simp) ?_
                   intro gg cap5 w5 hown5 hg5 hat5 hlt5
                   have hb5 : Below w1.heap.size w1 w5 := (HB.out.alloc hsr _).grown hg5 (by simp; omega) (fun j hj => (HO.out.lt j hj).1))
      go_roundw
      case rel =>
        refine ⟨k + 1, hlt, by congr 1 <;> omega, ?_, hb5⟩
        rw [HDS.out]
        simpa using hown5
      case measure => simp [intOf] <;> omega
    · obtain rfl : k = H.length := by omega
      have hrt : H.reverse.take H.length = H.reverse := by rw [List.take_of_length_le (by simp)]
      rw [hrt] at hown
      have hrl : H.reverse.length = H.length := by simp
      have hcs : ∀ n, cnt H.reverse n = cnt H n := fun n => cnt_same (fun x => List.mem_reverse) n
      generalize H.reverse = R at hown hrl hcs
      rw [← hrl] at hown
      obtain ⟨ro, rc, rfl, hIR⟩ := owns_ints hown
      have HIR := Lib.hid hIR
      have HI0 := Lib.hid (HI.out.next hb)
      have HB0 := Lib.hid (HB1.out.trans (hb.mono HB1.out.size))
      have HCS := Lib.hid hcs
      have HRL := Lib.hid hrl
      have hneg : (H.length : Int) - 1 - H.length = -1 := by omega
      rw [hneg]
      have c1 := cnt_mono H (show m ≤ m + p by omega)
      have c2 := cnt_mono H (show m + p ≤ m + p + q by omega)
      have c3 := cnt_le H (m + p + q)
      clear hIR hb hcs hown hneg hrl
      go_wp2_with fail
      refine (count_any m ((m : Int) + p) so sc H _ HI0.out).mono ?_
      rintro e w5 ⟨x, ex, rfl, hA, hb5⟩
      obtain ⟨rfl, hx⟩ := count_found (m := m) (n := m + p) (by rw [show ((m + p : Nat) : Int) = (m : Int) + p by omega]; exact hA) (by omega) (by omega) (by omega)
      have HIR5 := Lib.hid (HIR.out.next hb5)
      have HI5 := Lib.hid (HI0.out.next hb5)
      have HB5 := Lib.hid (HB0.out.trans (hb5.mono HB0.out.size))
      have HXV := Lib.hid hx
      have hx0 : 0 ≤ x ∧ x ≤ 2000 := by split at hx <;> omega
      clear hA hb5 hx
      go_wp2_with fail
      refine (count_any ((m : Int) + p) ((m : Int) + p + q) ro rc R _ HIR5.out).mono ?_
      rintro e w6 ⟨y, ey, rfl, hA, hb6⟩
      obtain ⟨rfl, hy⟩ := count_found (m := m + p) (n := m + p + q) (by rw [show ((m + p + q : Nat) : Int) = (m : Int) + p + q by omega, show ((m + p : Nat) : Int) = (m : Int) + p by omega]; exact hA) (by rw [HRL.out]; omega) (by omega) (by omega)
      rw [HCS.out, HCS.out] at hy
      have HI6 := Lib.hid (HI5.out.next hb6)
      have HB6 := Lib.hid (HB5.out.trans (hb6.mono HB5.out.size))
      have HYV := Lib.hid hy
      have hy0 : 0 ≤ y ∧ y ≤ 2000 := by split at hy <;> omega
      clear hA hb6 hy
      go_wp2_with fail
      refine (count_any m ((m : Int) + p + q) so sc H _ HI6.out).mono ?_
      rintro e w7 ⟨z, ez, rfl, hA, hb7⟩
      obtain ⟨rfl, hz⟩ := count_found (m := m) (n := m + p + q) (by rw [show ((m + p + q : Nat) : Int) = (m : Int) + p + q by omega]; exact hA) (by omega) (by omega) (by omega)
      have hsum : x + y = z := split_sum (fun h => by rw [h]; rfl) (fun h => by rw [h]; rfl) HXV.out HYV.out hz
      have HI7 := Lib.hid (HI6.out.next hb7)
      have HB7 := Lib.hid (HB6.out.trans (hb7.mono HB6.out.size))
      clear hA hb7 hz
      go_wp2_with fail
      refine (count_any ((m : Int) + p + q) m so sc H _ HI7.out).mono ?_
      rintro e w8 ⟨u, eu, rfl, hA, hb8⟩
      obtain ⟨rfl, hu⟩ := count_found (m := m + p + q) (n := m) (by rw [show ((m + p + q : Nat) : Int) = (m : Int) + p + q by omega]; exact hA) (by omega) (by omega) (by omega)
      rw [if_pos (by omega)] at hu
      subst hu
      have HB8 := Lib.hid (HB7.out.trans (hb8.mono HB7.out.size))
      clear hA hb8
      go_wp2_with fail
      refine (awake_any _).mono ?_
      rintro e w9 ⟨rfl, hb9⟩
      have HB9 := Lib.hid (HB8.out.trans (hb9.mono HB8.out.size))
      clear hb9
      subst hsum
      go_wp2_with fail
      go_ret
      exact ⟨rfl, HB9.out⟩
end Go.Proofs.Ytgabecolmldbjaa
