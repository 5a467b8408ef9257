/-
  The reference's serve computes serveF.
-/
import Derived.Test.YtlblacgmecgbkaaGone
import Derived.Test.YtlblacgmecgbkaaServeW
namespace Go.Proofs.Ytlblacgmecgbkaa
open Go.RowKit

set_option maxHeartbeats 2000000 in
theorem serveR1_any (ev tr pu pa da no : Int) (ao : Option Addr) (c : Nat) (l : List LossD) (w : World) (hl : LiesAt w ao 3 l.length (lossCell l)) (hlen : l.length ≤ 1000000)
    (h1 : 1 ≤ ev) (h2 : ev ≤ 1000) (h3 : 1 ≤ tr) (h4 : tr ≤ 16) (h5 : 0 ≤ da) (h6 : da ≤ 1048576) :
    Calls Try.prog 22 #[.agg #[.int .i64 ev, .int .i64 tr, .int .i64 pu], .agg #[.int .i64 pa, .int .i64 da], .int .i64 no, .slice ao l.length c] w fun e w' =>
      e = .returned (serviceVal (serveF ev tr pu (pa, da) no l)) ∧ Below w.heap.size w w' := by
  go_enter Try.func22, Try.ntmps22
  go_wp2_with fail
  go_loopw [10, 11] (fun f t wr => ∃ (k : Nat) (day rec : Int), (k : Int) ≤ tr ∧ 0 ≤ rec ∧ rec ≤ k ∧ f = .int .i64 day ∧ t = .int .i64 k ∧ wr = serveWorld w ev tr pu pa da 0 k rec false ∧
      serveGo ev tr pu da no l (tr.toNat - k) k day rec = serveF ev tr pu (pa, da) no l) (fun _ t _ => tr.toNat - (intOf t).toNat)
  case atStart => exact ⟨0, 0, 0, by omega, by omega, by simp, rfl, rfl, rfl, rfl⟩
  case round =>
    obtain ⟨k, day, rec, hk, hr0, hr1, rfl, rfl, rfl, hgo⟩ := hrel
    have hl' := hl.below (serveWorld_below w ev tr pu pa da 0 k rec false) (Nat.le_refl _)
    have hl2 := hl.below (serveWorld_below w ev tr pu pa da 0 (k + 1) rec false) (Nat.le_refl _)
    have hl3 := hl.below (serveWorld_below w ev tr pu pa da 0 (k + 1) (rec + 1) false) (Nat.le_refl _)
    have HL2 := Lib.hid hl2
    have HL3 := Lib.hid hl3
    clear hl hl' hl2 hl3
    by_cases hlt : (k : Int) < tr
    · rw [serveGo_step _ _ _ _ _ _ _ _ _ hlt] at hgo
      obtain ⟨m0, m1⟩ := mul_bd h1 h2 (Int.natCast_nonneg k) (by omega : (k : Int) ≤ 16)
      rw [Int.mul_comm] at m0 m1
      by_cases g1 : goneF l (no, (k : Int), false) = true
      · rw [if_pos g1] at hgo
        have HG := Lib.hid hgo
        clear hgo
        unfold serveWorld
        go_wp2_with (go_at_call 23; refine (gone_any _ _ l _ _ _ _ (by exact HL2.out) hlen).mono ?_; rintro e w' ⟨rfl, rfl⟩)
        go_roundw
        case rel => exact ⟨k + 1, day, rec, by omega, hr0, by omega, rfl, by go_num, rfl, HG.out⟩
        case measure => simp [intOf]; omega
      · have g1' : goneF l (no, (k : Int), false) = false := by simpa using g1
        rw [if_neg g1] at hgo
        clear g1
        by_cases hr : rec = 0
        · subst hr
          by_cases g2 : goneF l (no, (k : Int), true) = true
          · rw [if_pos g2, if_pos rfl] at hgo
            have HG := Lib.hid hgo
            clear hgo
            unfold serveWorld
            go_wp2_with (first | (go_at_call 23; (with_reducible refine (gone_any _ _ l _ _ false _ ?_ hlen).mono ?_); exact HL2.out; rintro e w' ⟨rfl, rfl⟩) | (go_at_call 23; (with_reducible refine (gone_any _ _ l _ _ true _ ?_ hlen).mono ?_); exact HL3.out; rintro e w' ⟨rfl, rfl⟩))
            go_roundw
            case rel => exact ⟨k + 1, da + ev * k, 1, by omega, by omega, by omega, by rw [Int.mul_comm ev], by go_num, rfl, HG.out⟩
            case measure => simp [intOf]; omega
          · have g2' : goneF l (no, (k : Int), true) = false := by simpa using g2
            rw [if_neg g2, if_pos rfl] at hgo
            have HG := Lib.hid hgo
            clear hgo g2
            unfold serveWorld
            go_wp2_with (first | (go_at_call 23; (with_reducible refine (gone_any _ _ l _ _ false _ ?_ hlen).mono ?_); exact HL2.out; rintro e w' ⟨rfl, rfl⟩) | (go_at_call 23; (with_reducible refine (gone_any _ _ l _ _ true _ ?_ hlen).mono ?_); exact HL3.out; rintro e w' ⟨rfl, rfl⟩))
            go_returns
            refine ⟨?_, ?_⟩
            · rw [← HG.out, Int.mul_comm ev]; rfl
            · go_grown
        · by_cases g2 : goneF l (no, (k : Int), true) = true
          · rw [if_pos g2, if_neg hr] at hgo
            have HG := Lib.hid hgo
            clear hgo
            unfold serveWorld
            go_wp2_with (first | (go_at_call 23; (with_reducible refine (gone_any _ _ l _ _ false _ ?_ hlen).mono ?_); exact HL2.out; rintro e w' ⟨rfl, rfl⟩) | (go_at_call 23; (with_reducible refine (gone_any _ _ l _ _ true _ ?_ hlen).mono ?_); exact HL3.out; rintro e w' ⟨rfl, rfl⟩))
            go_roundw
            case rel => exact ⟨k + 1, day, rec + 1, by omega, by omega, by omega, rfl, by go_num, rfl, HG.out⟩
            case measure => simp [intOf]; omega
          · have g2' : goneF l (no, (k : Int), true) = false := by simpa using g2
            rw [if_neg g2, if_neg hr] at hgo
            have HG := Lib.hid hgo
            clear hgo g2
            unfold serveWorld
            go_wp2_with (first | (go_at_call 23; (with_reducible refine (gone_any _ _ l _ _ false _ ?_ hlen).mono ?_); exact HL2.out; rintro e w' ⟨rfl, rfl⟩) | (go_at_call 23; (with_reducible refine (gone_any _ _ l _ _ true _ ?_ hlen).mono ?_); exact HL3.out; rintro e w' ⟨rfl, rfl⟩))
            go_returns
            refine ⟨?_, ?_⟩
            · rw [← HG.out]; rfl
            · go_grown
    · have hk' : (k : Int) = tr := by omega
      have hk'' := serveGo_end ev tr pu da no l k day rec hk'
      rw [hgo] at hk''
      have HG := Lib.hid hk''
      have HK := Lib.hid hk'
      clear hgo hk' hk''
      unfold serveWorld
      go_wp2_with (go_at_call 19; (with_reducible refine (latestR_any _ _ _ _ _ _).mono ?_); rintro e w' ⟨rfl, rfl⟩)
      go_returns
      refine ⟨?_, ?_⟩
      · rw [HG.out]; rfl
      · go_grown
end Go.Proofs.Ytlblacgmecgbkaa
