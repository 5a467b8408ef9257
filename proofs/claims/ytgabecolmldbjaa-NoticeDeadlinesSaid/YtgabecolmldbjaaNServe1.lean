/-
  notice.serve computes serveF.
-/
import Derived.Test.YtgabecolmldbjaaNMap
import Derived.Test.YtgabecolmldbjaaNServeW
namespace Go.Proofs.Ytgabecolmldbjaa
open Go.RowKit

theorem wf_small {n : Int} (h1 : -1000000000 ≤ n) (h2 : n ≤ 1000000000) : (Lit.int .i64 n).wf = true := by
  have e1 : IntKind.i64.min = -9223372036854775808 := rfl
  have e2 : IntKind.i64.max = 9223372036854775807 := rfl
  simp only [Lit.wf, Bool.and_eq_true, decide_eq_true_eq]
  omega

set_option maxHeartbeats 2000000 in
theorem serve1_any (ev tr pu pa da no : Int) (b : Nat) (l : List LossD) (w : World) (hl : LossMap w b l)
    (h1 : 1 ≤ ev) (h2 : ev ≤ 1000) (h3 : 1 ≤ tr) (h4 : tr ≤ 16) (h5 : 0 ≤ da) (h6 : da ≤ 1048576) (h7 : 0 ≤ no) (h8 : no ≤ 1000) :
    Calls Try.prog 46 #[.agg #[.int .i64 ev, .int .i64 tr, .int .i64 pu], .agg #[.int .i64 pa, .int .i64 da], .int .i64 no, .map (some b)] w fun e w' =>
      e = .returned (serviceVal (serveF ev tr pu (pa, da) no l)) ∧ Below w.heap.size w w' := by
  go_enter Try.func46, Try.ntmps46
  go_wp2_with fail
  go_loopw [13] (fun t wr => ∃ (k : Nat) (day rec : Int), (k : Int) ≤ tr ∧ 0 ≤ rec ∧ rec ≤ k ∧ t = .int .i64 k ∧ wr = serveWorld w ev tr pu pa da day k rec false ∧
      serveGo ev tr pu da no l (tr.toNat - k) k day rec = serveF ev tr pu (pa, da) no l) (fun t _ => tr.toNat - (intOf t).toNat)
  case atStart => exact ⟨0, 0, 0, by omega, by omega, by simp, rfl, rfl, rfl⟩
  case round =>
    obtain ⟨k, day, rec, hk, hr0, hr1, rfl, rfl, hgo⟩ := hrel
    have hlw : ∀ (d s r : Int) (c : Bool), LossMap (serveWorld w ev tr pu pa da d s r c) b l := fun d s r c => hl.below (serveWorld_below w ev tr pu pa da d s r c) hl.lt
    have HLW := Lib.hid hlw
    clear hl hlw
    by_cases hlt : (k : Int) < tr
    · rw [serveGo_step _ _ _ _ _ _ _ _ _ hlt] at hgo
      obtain ⟨m0, m1⟩ := mul_bd h1 h2 (Int.natCast_nonneg k) (by omega : (k : Int) ≤ 16)
      have hfa : (Lit.int .i64 no).wf = true ∧ (Lit.int .i64 (k : Int)).wf = true := ⟨wf_small (by omega) (by omega), wf_small (by omega) (by omega)⟩
      have hf0 : LossFits (no, (k : Int), false) := hfa
      have hf1 : LossFits (no, (k : Int), true) := hfa
      have HF0 := Lib.hid hf0
      have HF1 := Lib.hid hf1
      clear hf0 hf1 hfa
      by_cases g1 : goneF l (no, (k : Int), false) = true
      · rw [if_pos g1] at hgo
        have HG := Lib.hid hgo
        clear hgo
        unfold serveWorld
        go_wp2_with (at_lookup; refine wpList_look_loss _ rfl (.tmp 20) (.tmp 23) rfl b l rfl ?_ (no, (k : Int), false) rfl HF0.out true g1 ?_; exact HLW.out _ _ _ _)
        go_roundw
        case rel => exact ⟨k + 1, day, rec, by omega, hr0, by omega, by go_num, rfl, HG.out⟩
        case measure => simp [intOf]; omega
      · have g1' : goneF l (no, (k : Int), false) = false := by simpa using g1
        rw [if_neg g1] at hgo
        clear g1
        by_cases hr : rec = 0
        · subst hr
          by_cases g2 : goneF l (no, (k : Int), true) = true
          · rw [if_pos g2, if_pos rfl] at hgo
            have HG := Lib.hid hgo
            clear hgo
            unfold serveWorld
            go_wp2_with (first | (at_lookup; refine wpList_look_loss _ rfl (.tmp 20) (.tmp 23) rfl b l rfl ?_ (no, (k : Int), false) rfl HF0.out false g1' ?_; exact HLW.out _ _ _ _) | (at_lookup; refine wpList_look_loss _ rfl (.tmp 40) (.tmp 43) rfl b l rfl ?_ (no, (k : Int), true) rfl HF1.out true g2 ?_; exact HLW.out _ _ _ _))
            go_roundw
            case rel => exact ⟨k + 1, da + ev * k, 1, by omega, by omega, by omega, by go_num, rfl, HG.out⟩
            case measure => simp [intOf]; omega
          · have g2' : goneF l (no, (k : Int), true) = false := by simpa using g2
            rw [if_neg g2, if_pos rfl] at hgo
            have HG := Lib.hid hgo
            clear hgo g2
            unfold serveWorld
            go_wp2_with (first | (at_lookup; refine wpList_look_loss _ rfl (.tmp 20) (.tmp 23) rfl b l rfl ?_ (no, (k : Int), false) rfl HF0.out false g1' ?_; exact HLW.out _ _ _ _) | (at_lookup; refine wpList_look_loss _ rfl (.tmp 40) (.tmp 43) rfl b l rfl ?_ (no, (k : Int), true) rfl HF1.out false g2' ?_; exact HLW.out _ _ _ _))
            go_returns
            refine ⟨?_, ?_⟩
            · rw [← HG.out]; rfl
            · go_grown
        · by_cases g2 : goneF l (no, (k : Int), true) = true
          · rw [if_pos g2, if_neg hr] at hgo
            have HG := Lib.hid hgo
            clear hgo
            unfold serveWorld
            go_wp2_with (first | (at_lookup; refine wpList_look_loss _ rfl (.tmp 20) (.tmp 23) rfl b l rfl ?_ (no, (k : Int), false) rfl HF0.out false g1' ?_; exact HLW.out _ _ _ _) | (at_lookup; refine wpList_look_loss _ rfl (.tmp 40) (.tmp 43) rfl b l rfl ?_ (no, (k : Int), true) rfl HF1.out true g2 ?_; exact HLW.out _ _ _ _))
            go_roundw
            case rel => exact ⟨k + 1, day, rec + 1, by omega, by omega, by omega, by go_num, rfl, HG.out⟩
            case measure => simp [intOf]; omega
          · have g2' : goneF l (no, (k : Int), true) = false := by simpa using g2
            rw [if_neg g2, if_neg hr] at hgo
            have HG := Lib.hid hgo
            clear hgo g2
            unfold serveWorld
            go_wp2_with (first | (at_lookup; refine wpList_look_loss _ rfl (.tmp 20) (.tmp 23) rfl b l rfl ?_ (no, (k : Int), false) rfl HF0.out false g1' ?_; exact HLW.out _ _ _ _) | (at_lookup; refine wpList_look_loss _ rfl (.tmp 40) (.tmp 43) rfl b l rfl ?_ (no, (k : Int), true) rfl HF1.out false g2' ?_; exact HLW.out _ _ _ _))
            go_returns
            refine ⟨?_, ?_⟩
            · rw [← HG.out]; rfl
            · go_grown
    · have hk' : (k : Int) = tr := by omega
      have hk'' := serveGo_end ev tr pu da no l k day rec hk'
      rw [hgo] at hk''
      have HG := Lib.hid hk''
      have HK := Lib.hid hk'
      clear hgo hk' hk''
      unfold serveWorld
      go_wp2_with (go_at_call 50; (with_reducible refine (latest_any _ _ _ _ _ _).mono ?_); rintro e w' ⟨rfl, rfl⟩)
      go_returns
      refine ⟨?_, ?_⟩
      · rw [HG.out]; rfl
      · go_grown
end Go.Proofs.Ytgabecolmldbjaa
