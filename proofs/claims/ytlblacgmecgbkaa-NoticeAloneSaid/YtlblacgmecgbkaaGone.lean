/-
  The reference's gone: whether a loss is in the list.
-/
import Derived.Test.YtlblacgmecgbkaaLatest
import Derived.Lib.Hide
namespace Go.Proofs.Ytlblacgmecgbkaa
open Go.RowKit

theorem take_succ_mem {α : Type} {l : List α} {k : Nat} (h : k < l.length) {d x : α} (hx : x ∉ l.take k) (hne : l.getD k d ≠ x) : x ∉ l.take (k + 1) := by
  rw [List.take_succ_eq_append_getElem h]
  simp only [List.mem_append, List.mem_singleton, not_or]
  refine ⟨hx, fun e => hne ?_⟩
  simp [List.getD, h, e]

set_option maxHeartbeats 400000 in
theorem gone_any (ao : Option Addr) (c : Nat) (l : List LossD) (no tr : Int) (cf : Bool) (w : World) (hl : LiesAt w ao 3 l.length (lossCell l)) (hlen : l.length ≤ 1000000) :
    Calls Try.prog 23 #[.slice ao l.length c, .int .i64 no, .int .i64 tr, .bool cf] w fun e w' =>
      e = .returned (.bool (goneF l (no, tr, cf))) ∧ w = w' := by
  go_enter Try.func23, Try.ntmps23
  go_wp2_with fail
  go_loop [9] (fun i => ∃ k : Nat, k ≤ l.length ∧ i = .int .i64 k ∧ (no, tr, cf) ∉ l.take k) (fun i => l.length - (intOf i).toNat)
  case atStart => exact ⟨0, Nat.zero_le _, rfl, by simp⟩
  case round =>
    obtain ⟨k, hk, rfl, hn⟩ := hrel
    have HN := Lib.hid hn
    clear hn
    by_cases hlt : k < l.length
    · rcases hl with h0 | ⟨b, off, rfl, hbw, hc⟩
      · omega
      have hc0 := hc k hlt 0 (by omega)
      have hc1 := hc k hlt 1 (by omega)
      have hc2 := hc k hlt 2 (by omega)
      simp only [lossCell, if_true, Nat.add_zero, Nat.one_ne_zero, if_false, Nat.reduceEqDiff] at hc0 hc1 hc2
      clear hc
      obtain ⟨x, hx⟩ : ∃ x, x = l.getD k (0, 0, false) := ⟨_, rfl⟩
      rw [← hx] at hc0 hc1 hc2
      have hmem : x ∈ l := by rw [hx]; simp [List.getD, hlt]
      have hnx : x ≠ (no, tr, cf) → (no, tr, cf) ∉ l.take (k + 1) := fun h => take_succ_mem hlt HN.out (by rw [← hx]; exact h)
      have HM := Lib.hid hmem
      have HX := Lib.hid hnx
      clear hx hmem hnx
      obtain ⟨x0, x1, x2⟩ := x
      simp only at hc0 hc1 hc2
      go_wp2_with fail
      all_goals first
        | (go_ret; exact ⟨by have hm := HM.out; simp_all [goneF], rfl⟩)
        | (go_round
           case rel => exact ⟨k + 1, hlt, by go_num, HX.out (by simp_all)⟩
           case measure => simp [intOf]; omega)
    · have hk' : k = l.length := by omega
      go_wp2_with fail
      go_ret
      exact ⟨by have := HN.out; rw [hk', List.take_length] at this; simp [goneF, this], rfl⟩
end Go.Proofs.Ytlblacgmecgbkaa
