/-
  The reference's SameServices says true of two slices that hold the same services.
-/
import Derived.Test.YtlblacgmecgbkaaServeA
import Derived.BigQuiet
import Derived.WalkSmall
namespace Go.Proofs.Ytlblacgmecgbkaa
open Go.RowKit

set_option maxHeartbeats 1000000 in
theorem same_any (ao bo : Option Addr) (c c' n : Nat) (ss : List ServiceD) (w : World) (ha : LiesAt w ao 4 n (serviceCell ss)) (hb : LiesAt w bo 4 n (serviceCell ss)) (hn : n ≤ 1000) :
    Calls Try.prog 17 #[.slice ao n c, .slice bo n c'] w fun e w' => e = .returned (.bool true) ∧ Below w.heap.size w w' := by
  go_enter Try.func17, Try.ntmps17
  go_wp2_with fail
  go_loopw [5] (fun i wr => ∃ k : Nat, k ≤ n ∧ i = .int .i64 k ∧ Below w.heap.size w wr) (fun i _ => n - (intOf i).toNat)
  case atStart => exact ⟨0, Nat.zero_le _, rfl, Below.refl _ _⟩
  case round =>
    obtain ⟨k, hk, rfl, hbl⟩ := hrel
    by_cases hlt : k < n
    · rcases ha.below hbl (Nat.le_refl _) with h0 | ⟨b, off, rfl, hbw, hc⟩
      · omega
      rcases hb.below hbl (Nat.le_refl _) with h0 | ⟨b2, off2, rfl, hbw2, hd⟩
      · omega
      have hc0 := hc k hlt 0 (by omega)
      have hc1 := hc k hlt 1 (by omega)
      have hc2 := hc k hlt 2 (by omega)
      have hc3 := hc k hlt 3 (by omega)
      have hd0 := hd k hlt 0 (by omega)
      have hd1 := hd k hlt 1 (by omega)
      have hd2 := hd k hlt 2 (by omega)
      have hd3 := hd k hlt 3 (by omega)
      simp only [serviceCell, serviceCells, Nat.add_zero, List.getD_cons_zero, List.getD_cons_succ] at hc0 hc1 hc2 hc3 hd0 hd1 hd2 hd3
      obtain ⟨x, hx⟩ : ∃ x, x = ss.getD k (0, 0, 0, false) := ⟨_, rfl⟩
      rw [← hx] at hc0 hc1 hc2 hc3 hd0 hd1 hd2 hd3
      clear hx hc hd ha hb
      have hk0 : (0 : Int) ≤ (k : Int) := Int.natCast_nonneg _
      have hk1 : (k : Int) < (n : Int) := by omega
      go_wp2_with fail
      go_quiet (fail)
      go_wp2_with fail
      go_roundw
      case rel => exact ⟨k + 1, hlt, by go_num, below_drewN hbl _⟩
      case measure => simp [intOf]; omega
    · go_wp2_with fail
      go_ret
      exact ⟨rfl, hbl⟩
end Go.Proofs.Ytlblacgmecgbkaa
