/-
  Contracts: the comparison of rulings.
-/
import Derived.Test.YtpddpdkdlodniaaOClone
import Derived.Test.YtpddpdkdlodniaaOPure
import Derived.Deep.RegionHeld3
import Derived.StillTailTactics
namespace Go.Proofs.Ytpddpdkdlodniaa
open Go.RowKit Go.Shelf Go.Sort

def rlCells (r : Rl) : List Value := [.int .i64 r.id, .int .i64 r.day, .int .i64 r.opt]

/-- The first number that is not 0. -/
def orF (c1 c2 : Int) : Int := if c1 ≠ 0 then c1 else c2
/-- What the program's comparison answers. -/
def cmpR (x y : Rl) : Int := orF (Lib.compareInt x.day y.day) (Lib.compareInt x.id y.id)
theorem cmp_bd (x y : Int) : (Lib.compareInt x y = 0 ↔ x = y) ∧ (Lib.compareInt x y < 0 ↔ x < y) := by
  unfold Lib.compareInt
  split
  · omega
  · split <;> omega
theorem cmpR_lt (x y : Rl) : ltOf cmpR x y = decide (x.day < y.day ∨ (x.day = y.day ∧ x.id < y.id)) := by
  unfold ltOf cmpR orF
  obtain ⟨h1, h2⟩ := cmp_bd x.day y.day
  obtain ⟨h3, h4⟩ := cmp_bd x.id y.id
  rw [Bool.eq_iff_iff]
  simp only [decide_eq_true_eq]
  split <;> omega
theorem swoR : SWO (ltOf cmpR) where
  irrefl x := by rw [cmpR_lt]; simp
  trans x y z h1 h2 := by rw [cmpR_lt] at *; simp at *; omega
  ntrans x y z h1 h2 := by rw [cmpR_lt] at *; simp at *; omega

theorem compare_any (x y : Int) (w : World) : Calls Try.prog 54 #[.int .i64 x, .int .i64 y] w fun e w' => e = .returned (.int .i64 (Lib.compareInt x y)) ∧ w' = w :=
  AnyG.cmp_Compare_int Ytpddpdkdlodniaa.laysCmp x y w

/-- The first k numbers are 0. -/
def OrAt (c1 c2 : Int) (k : Nat) : Prop := (0 < k → c1 = 0) ∧ (1 < k → c2 = 0)

set_option maxHeartbeats 1000000 in
theorem or_any (b : Nat) (c1 c2 : Int) (w : World) (h1 : w.cell? ⟨b, 0, none⟩ = some (.int .i64 c1)) (h2 : w.cell? ⟨b, 1, none⟩ = some (.int .i64 c2)) :
    Calls Try.prog 53 #[.slice (some ⟨b, 0, none⟩) 2 2] w fun e w' => e = .returned (.int .i64 (orF c1 c2)) ∧ w' = w := by
  go_enter Try.func53, Try.ntmps53
  go_wp2_with fail
  go_loop [8] (fun i => ∃ k : Nat, k ≤ 2 ∧ i = .int .i64 k ∧ OrAt c1 c2 k) (fun i => 2 - (intOf i).toNat)
  case atStart => exact ⟨0, by omega, rfl, by simp [OrAt]⟩
  case round =>
    obtain ⟨k, hk, rfl, hg⟩ := hrel
    have hk3 : k = 0 ∨ k = 1 ∨ k = 2 := by omega
    clear hk
    rcases hk3 with rfl | rfl | rfl
    · by_cases hc : c1 = 0
      · subst hc
        go_wp2_with fail
        go_round
        case rel => exact ⟨1, by omega, rfl, by simp [OrAt]⟩
        case measure => simp [intOf]
      · have hq : (c1 != 0) = true := by simpa using hc
        have HE : Hid (orF c1 c2 = c1) := Lib.hid (by simp [orF, hc])
        go_wp2_with fail
        go_ret
        exact ⟨by rw [HE.out]; rfl, rfl⟩
    · obtain rfl := hg.1 (by omega)
      by_cases hc : c2 = 0
      · subst hc
        go_wp2_with fail
        go_round
        case rel => exact ⟨2, by omega, rfl, by simp [OrAt]⟩
        case measure => simp [intOf]
      · have hq : (c2 != 0) = true := by simpa using hc
        have HE : Hid (orF 0 c2 = c2) := Lib.hid (by simp [orF])
        go_wp2_with fail
        go_ret
        exact ⟨by rw [HE.out]; rfl, rfl⟩
    · obtain rfl := hg.1 (by omega)
      obtain rfl := hg.2 (by omega)
      go_wp2_with fail
      go_ret
      exact ⟨rfl, rfl⟩

set_option maxRecDepth 100000 in
set_option maxHeartbeats 2000000 in
/-- The comparison: it lays blocks of its own, and turns nothing. -/
theorem cmp_closure (x y : Rl) (W : World) : Calls Try.prog 52 #[.agg #[.int .i64 x.id, .int .i64 x.day, .int .i64 x.opt], .agg #[.int .i64 y.id, .int .i64 y.day, .int .i64 y.opt]] W fun e w' => e = .returned (.int .i64 (cmpR x y)) ∧ ∃ q os', w' = grow (W.drewN q) os' := by
  unfold cmpR
  have HC1 := Lib.hid (fun W' => compare_any x.day y.day W')
  have HC2 := Lib.hid (fun W' => compare_any x.id y.id W')
  generalize Lib.compareInt x.day y.day = c1 at HC1 ⊢
  generalize Lib.compareInt x.id y.id = c2 at HC2 ⊢
  go_enter Try.func52, Try.ntmps52
  go_wp2_with fail
  obtain ⟨W2, hW⟩ : ∃ W2, (W.alloc (.cells #[.int .i64 x.id, .int .i64 x.day, .int .i64 x.opt] 52)).alloc (.cells #[.int .i64 y.id, .int .i64 y.day, .int .i64 y.opt] 52) = W2 := ⟨_, rfl⟩
  have d1 : W2.cell? ⟨W.heap.size, 1, none⟩ = some (.int .i64 x.day) := by rw [← hW]; simp
  have d2 : W2.cell? ⟨W.heap.size + 1, 1, none⟩ = some (.int .i64 y.day) := by rw [← hW]; simp
  have d3 : W2.cell? ⟨W.heap.size, 0, none⟩ = some (.int .i64 x.id) := by rw [← hW]; simp
  have d4 : W2.cell? ⟨W.heap.size + 1, 0, none⟩ = some (.int .i64 y.id) := by rw [← hW]; simp
  have hs2 : W2.heap.size = W.heap.size + 2 := by rw [← hW]; simp
  rw [hW]
  have HW := Lib.hid hW
  clear hW
  refine wp_region_still_tail 10 (by kernel_rfl) (by kernel_rfl) ?_
  simp only [List.take_succ_cons, List.take_zero, List.drop_succ_cons, List.drop_zero]
  still_step
  still_step
  still_step
  still_step
  still_call (HC1.out _)
  still_step
  still_step
  still_step
  still_step
  still_call (HC2.out _)
  refine wpStill_nil ?_
  change wpList _ _ _ _ _ W2.drew
  have HO := Lib.hid (or_any (W.heap.size + 2) c1 c2 (W2.alloc (.cells #[.int .i64 c1, .int .i64 c2] 3)).drew (by rw [← hs2]; simp) (by rw [← hs2]; simp))
  go_wp2_with fail
  refine HO.out.mono ?_
  rintro e w4 ⟨rfl, rfl⟩
  go_wp2_with fail
  go_ret
  refine ⟨rfl, 1, #[.cells #[.int .i64 x.id, .int .i64 x.day, .int .i64 x.opt] 52, .cells #[.int .i64 y.id, .int .i64 y.day, .int .i64 y.opt] 52, .cells #[.int .i64 c1, .int .i64 c2] 3], ?_⟩
  rw [← HW.out, alloc_eq_grow, alloc_eq_grow, alloc_eq_grow, grow_grow, grow_grow]
  rfl
end Go.Proofs.Ytpddpdkdlodniaa
