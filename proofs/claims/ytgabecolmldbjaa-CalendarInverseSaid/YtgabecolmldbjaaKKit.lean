/-
  Contracts: the laws' own helpers: the examples of the chapter, days near the ends, holidays out of bytes.
-/
import Derived.Test.YtgabecolmldbjaaKCount
namespace Go.Proofs.Ytgabecolmldbjaa
open Go.RowKit

theorem ex_next {d e : Int} (h : AddIs [] 5 0 d e) : d = 7 ∧ e = 0 :=
  add_unique h (.inr (.inr ⟨by decide, by decide, by decide, by decide, .inl ⟨7, rfl, by decide, by decide, by decide, rfl⟩⟩))
theorem ex_next7 {d e : Int} (h : AddIs [7] 5 0 d e) : d = 8 ∧ e = 0 :=
  add_unique h (.inr (.inr ⟨by decide, by decide, by decide, by decide, .inl ⟨8, rfl, by decide, by decide, by decide, rfl⟩⟩))
theorem ex_add {d e : Int} (h : AddIs [] 3 2 d e) : d = 7 ∧ e = 0 :=
  add_unique h (.inr (.inr ⟨by decide, by decide, by decide, by decide, .inl ⟨7, rfl, by decide, by decide, by decide, rfl⟩⟩))

theorem ints_none (w : World) : Ints w none [] := .inl rfl
theorem ints_one (w : World) (x : Int) : Ints (w.alloc (.cells #[.int .i64 x] 3)) (some ⟨w.heap.size, 0, none⟩) [x] := by
  refine .inr ⟨w.heap.size, 0, rfl, by simp, fun i hi j hj => ?_⟩
  obtain rfl : i = 0 := by simpa using hi
  obtain rfl : j = 0 := by omega
  rw [cell_of_row _ _ _ _ _ _ (heap_alloc_new w _)]
  rfl

set_option maxRecDepth 100000 in
set_option maxHeartbeats 1000000 in
theorem awake_any (w : World) : Calls Try.prog 14 #[] w fun e w' => e = .returned (.bool true) ∧ Below w.heap.size w w' := by
  go_enter Try.func14, Try.ntmps14
  go_wp2_with fail
  refine (next_any 5 none 0 [] _ (ints_none _)).mono ?_
  rintro e w1 ⟨d1, e1, rfl, hA, hb1⟩
  obtain ⟨rfl, rfl⟩ := ex_next hA
  clear hA
  go_wp2_with fail
  refine (next_any 5 (some ⟨w1.heap.size, 0, none⟩) 1 [7] _ (ints_one w1 7)).mono ?_
  rintro e w2 ⟨d2, e2, rfl, hA, hb2⟩
  obtain ⟨rfl, rfl⟩ := ex_next7 hA
  have hb12 : Below w.heap.size w w2 := (hb1.alloc hb1.size _).trans (hb2.mono (by simp; have := hb1.size; omega))
  have HB := Lib.hid hb12
  clear hA hb1 hb2 hb12
  go_wp2_with fail
  refine (add_any 3 2 none 0 [] _ (ints_none _)).mono ?_
  rintro e w3 ⟨d3, e3, rfl, hA, hb3⟩
  obtain ⟨rfl, rfl⟩ := ex_add hA
  have HB3 := Lib.hid (HB.out.trans (hb3.mono HB.out.size))
  clear hA hb3
  go_wp2_with fail
  refine (weekday_any 5 _).mono ?_
  rintro e w4 ⟨rfl, rfl⟩
  go_wp2_with fail
  go_ret
  exact ⟨rfl, HB3.out⟩

set_option maxHeartbeats 1000000 in
theorem near_any (d : Int) (w : World) : Calls Try.prog 16 #[.int .i64 d] w fun e w' => ∃ x, e = .returned (.int .i64 x) ∧ w = w' := by
  go_enter Try.func16, Try.ntmps16
  go_wp2_with fail
  all_goals go_ret
  all_goals exact ⟨_, rfl, rfl⟩

/-- A slice of bytes. -/
def U8s (w : World) (ao : Option Addr) (l : List Int) : Prop := LiesAt w ao 1 l.length (fun i _ => .int .u8 (l.getD i 0))
/-- The holidays that 'days' makes. -/
def daysOf (l : List Int) (k : Nat) : List Int := (l.take k).map (· % 90)
theorem daysOf_succ (l : List Int) (k : Nat) (h : k < l.length) : daysOf l (k + 1) = daysOf l k ++ [l.getD k 0 % 90] := by
  unfold daysOf
  rw [List.take_succ_eq_append_getElem h, List.map_append]
  simp [List.getD, h]
theorem daysOf_length (l : List Int) (k : Nat) (h : k ≤ l.length) : (daysOf l k).length = k := by simp [daysOf]; omega
theorem daysOf_bd (l : List Int) (k : Nat) : ∀ x ∈ daysOf l k, 0 ≤ x ∧ x < 90 := by
  intro x hx
  obtain ⟨y, _, rfl⟩ := List.mem_map.1 hx
  omega

set_option maxRecDepth 100000 in
set_option maxHeartbeats 2000000 in
theorem days_any (ao : Option Addr) (cap : Nat) (l : List Int) (w : World) (hL : U8s w ao l) (hr : ∀ i, 0 ≤ l.getD i 0 ∧ l.getD i 0 ≤ 255) :
    Calls Try.prog 21 #[.slice ao l.length cap] w fun e w' => ∃ so sc H, e = .returned (.slice so H.length sc) ∧ Ints w' so H ∧ H.length ≤ 40 ∧ Below w.heap.size w w' := by
  obtain ⟨i0, hi, hz0, hz1, hz2⟩ := info_split Try.infoInt
  have HI := Lib.hid hL
  have HR := Lib.hid hr
  clear hL hr
  go_enter Try.func21, Try.ntmps21
  go_wp2_with fail
  go_loopw [3, 4] (fun v i wr => ∃ k : Nat, k ≤ l.length ∧ k ≤ 40 ∧ i = .int .i64 k ∧ wr.ownsRow w.heap.size 3 1 v k ((daysOf l k).map (Value.int .i64)) ∧ Below w.heap.size w wr) (fun _ i _ => 40 - (intOf i).toNat)
  case atStart => exact ⟨0, Nat.zero_le _, by omega, rfl, World.ownsRow_nil _ _ _ _, Below.refl _ _⟩
  case round =>
    obtain ⟨k, hk, hk40, rfl, hown, hb⟩ := hrel
    have hsr := hb.size
    by_cases hlt : k < l.length ∧ k < 40
    · obtain ⟨hlt, h40⟩ := hlt
      rcases HI.out with h0 | ⟨b, off, rfl, hbw, hc0⟩
      · omega
      have hc : wr.cell? ⟨b, off + k, none⟩ = some (.int .u8 (l.getD k 0)) := by
        have := hc0 k hlt 0 (by omega)
        rw [Nat.mul_one, Nat.add_zero] at this
        exact (hb.cell (p := ⟨b, off + k, none⟩) hbw).trans this
      have hds := daysOf_succ l k hlt
      obtain ⟨z0, z1⟩ := HR.out k
      obtain ⟨z, hz⟩ : ∃ z, z = l.getD k 0 := ⟨_, rfl⟩
      rw [← hz] at hc hds z0 z1
      have hmod : z.tmod 90 = z % 90 := Int.tmod_eq_emod_of_nonneg z0
      have hb0 : 0 ≤ z % 90 := by omega
      have hb1 : z % 90 < 90 := by omega
      have HDS := Lib.hid hds
      have HO := Lib.hid hown
      have HB := Lib.hid hb
      have hk0 : (0 : Int) ≤ (k : Int) := Int.natCast_nonneg _
      have hk1 : (k : Int) < (l.length : Int) := by omega
      clear hc0 hz hds hown hb
      go_wp2_with (at_builtin
                   refine wpList_append_lies _ rfl (.tmp 15) (.tmp 22) 25 rfl w.heap.size 3 i0 (.int .i64 0) 1 8 Try.underlying25 hi hz0 hz1 hz2 rfl (by decide) _ k _ rfl (HO.out.alloc _) ⟨wr.heap.size, 0, none⟩ 1 1 [.int .i64 (z % 90)] rfl rfl (World.news_of_block (cs := #[.int .i64 (z % 90)]) (t := 3) (fr := (0, 0)) (heap_alloc_new wr _)) (by simp [Value.oneCell']) (by omega) (by unfold maxLen; omega) (by omega) (by simp; omega) (wr.heap.size + 1) (by simp) ?_
                   intro gg cap5 w5 hown5 hg5 hat5 hlt5
                   have hb5 : Below w.heap.size w w5 := (HB.out.alloc hsr _).grown hg5 (by simp; omega) (fun j hj => (HO.out.lt j hj).1))
      go_roundw
      case rel =>
        refine ⟨k + 1, hlt, h40, by go_num, ?_, hb5⟩
        rw [HDS.out]
        simpa using hown5
      case measure => simp [intOf]; omega
    · have hside : ¬ k < l.length ∨ k < l.length ∧ ¬ k < 40 := by omega
      have hdl := daysOf_length l k hk
      generalize daysOf l k = H at hown hdl
      rw [← hdl] at hown
      obtain ⟨-, ⟨rfl, rfl⟩ | ⟨g, cp, rfl, hbg, hgl, hncap⟩⟩ := owns_slice hown
      · clear hown
        rcases hside with hs | ⟨hs, hs2⟩
        all_goals
          go_wp2_with fail
          go_ret
          exact ⟨none, 0, [], rfl, .inl rfl, by simp, hb⟩
      · have HIn := Lib.hid (ints_of_owns hown)
        clear hown
        rcases hside with hs | ⟨hs, hs2⟩
        all_goals
          go_wp2_with fail
          go_ret
          exact ⟨_, _, H, rfl, HIn.out, by omega, hb⟩
end Go.Proofs.Ytgabecolmldbjaa
