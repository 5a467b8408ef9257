/-
  notice.Check computes checkF.
-/
import Derived.Test.YtgabecolmldbjaaNLatest
import Derived.Lib.Hide
namespace Go.Proofs.Ytgabecolmldbjaa
open Go.RowKit

theorem post_bd {ev tr pu : Int} (h : postOk ev tr pu = true) : 1 ≤ ev ∧ ev ≤ 1000 ∧ 1 ≤ tr ∧ tr ≤ 16 ∧ 0 ≤ pu ∧ pu ≤ 1000 := by
  simp only [postOk, Bool.and_eq_true, decide_eq_true_eq] at h
  omega
theorem post_bad {ev tr pu : Int} (h : postOk ev tr pu = false) : ev < 1 ∨ 1000 < ev ∨ tr < 1 ∨ 16 < tr ∨ pu < 0 ∨ 1000 < pu := by
  rcases Int.lt_or_le ev 1 with h1 | h1
  · exact .inl h1
  rcases Int.lt_or_le 1000 ev with h2 | h2
  · exact .inr (.inl h2)
  rcases Int.lt_or_le tr 1 with h3 | h3
  · exact .inr (.inr (.inl h3))
  rcases Int.lt_or_le 16 tr with h4 | h4
  · exact .inr (.inr (.inr (.inl h4)))
  rcases Int.lt_or_le pu 0 with h5 | h5
  · exact .inr (.inr (.inr (.inr (.inl h5))))
  rcases Int.lt_or_le 1000 pu with h6 | h6
  · exact .inr (.inr (.inr (.inr (.inr h6))))
  simp [postOk, h1, h2, h3, h4, h5, h6] at h

set_option maxHeartbeats 400000 in
theorem check_loop (ev tr pu : Int) (ao bo : Option Addr) (c c' m : Nat) (l : List (Int × Int)) (w : World) (hl : LiesAt w ao 2 l.length (noticeCell l)) (h7 : l.length ≤ 32) (h8 : m ≤ 256) (h : 1 ≤ ev ∧ ev ≤ 1000 ∧ 1 ≤ tr ∧ tr ≤ 16 ∧ 0 ≤ pu ∧ pu ≤ 1000) :
    Calls Try.prog 45 #[.agg #[.int .i64 ev, .int .i64 tr, .int .i64 pu], .slice ao l.length c, .slice bo m c'] w fun e w' =>
      e = .returned (.int .i64 (noticesF l)) ∧ Below w.heap.size w w' := by
  obtain ⟨h1, h2, h3, h4, h5, h6⟩ := h
  go_enter Try.func45, Try.ntmps45
  go_wp2_with fail
  go_loopw [47] (fun i wr => ∃ k : Nat, k ≤ l.length ∧ i = .int .i64 k ∧ Below w.heap.size w wr ∧ noticesF (l.drop k) = noticesF l) (fun i _ => l.length - (intOf i).toNat)
  case atStart => exact ⟨0, Nat.zero_le _, rfl, by go_grown, rfl⟩
  case round =>
    obtain ⟨k, hk, rfl, hb, hd⟩ := hrel
    have hbs := hb.size
    by_cases hlt : k < l.length
    · rcases hl.below hb (Nat.le_refl _) with h0 | ⟨b, off, rfl, hbw, hc⟩
      · omega
      have hc0 := hc k hlt 0 (by omega)
      have hc1 := hc k hlt 1 (by omega)
      simp only [noticeCell, if_true, Nat.add_zero, Nat.one_ne_zero, if_false] at hc0 hc1
      have hn := noticesF_drop l k hlt
      rw [hd] at hn
      clear hc hl hd
      obtain ⟨x, hx⟩ : ∃ x, x = l.getD k (0, 0) := ⟨_, rfl⟩
      rw [← hx] at hc0 hc1 hn
      have HN := Lib.hid hn
      clear hx hn
      go_wp2_with fail
      all_goals first
        | (go_ret; exact ⟨by rw [HN.out]; (repeat' split) <;> first | rfl | omega, by go_grown⟩)
        | (go_roundw
           case rel => exact ⟨k + 1, hlt, by go_num, by go_grown, by rw [HN.out]; (repeat' split) <;> first | rfl | omega⟩
           case measure => simp [intOf]; omega)
    · have hk' : k = l.length := by omega
      have HD := Lib.hid hd
      clear hd
      go_wp2_with fail
      go_ret
      exact ⟨by rw [← HD.out, hk', List.drop_length]; rfl, by go_grown⟩

theorem check_bad (ev tr pu : Int) (v1 v2 : Value) (w : World) (hp : postOk ev tr pu = false) :
    Calls Try.prog 45 #[.agg #[.int .i64 ev, .int .i64 tr, .int .i64 pu], v1, v2] w fun e w' =>
      e = .returned (.int .i64 1) ∧ Below w.heap.size w w' := by
  by_cases h1 : ev < 1
  · go_enter Try.func45, Try.ntmps45
    go_wp2_with fail
    go_ret
    exact ⟨rfl, by go_grown⟩
  by_cases h2 : 1000 < ev
  · go_enter Try.func45, Try.ntmps45
    go_wp2_with fail
    go_ret
    exact ⟨rfl, by go_grown⟩
  by_cases h3 : tr < 1
  · go_enter Try.func45, Try.ntmps45
    go_wp2_with fail
    go_ret
    exact ⟨rfl, by go_grown⟩
  by_cases h4 : 16 < tr
  · go_enter Try.func45, Try.ntmps45
    go_wp2_with fail
    go_ret
    exact ⟨rfl, by go_grown⟩
  by_cases h5 : pu < 0
  · go_enter Try.func45, Try.ntmps45
    go_wp2_with fail
    go_ret
    exact ⟨rfl, by go_grown⟩
  by_cases h6 : 1000 < pu
  · go_enter Try.func45, Try.ntmps45
    go_wp2_with fail
    go_ret
    exact ⟨rfl, by go_grown⟩
  · exact absurd (post_bad hp) (by omega)

theorem check_long (ev tr pu : Int) (ao bo : Option Addr) (c c' n m : Nat) (w : World) (h9 : 32 < n ∨ 256 < m) (h : 1 ≤ ev ∧ ev ≤ 1000 ∧ 1 ≤ tr ∧ tr ≤ 16 ∧ 0 ≤ pu ∧ pu ≤ 1000) :
    Calls Try.prog 45 #[.agg #[.int .i64 ev, .int .i64 tr, .int .i64 pu], .slice ao n c, .slice bo m c'] w fun e w' =>
      e = .returned (.int .i64 2) ∧ Below w.heap.size w w' := by
  obtain ⟨h1, h2, h3, h4, h5, h6⟩ := h
  by_cases h7 : 32 < n
  · go_enter Try.func45, Try.ntmps45
    go_wp2_with fail
    go_ret
    exact ⟨rfl, by go_grown⟩
  · have h8 : 256 < m := by omega
    clear h9
    go_enter Try.func45, Try.ntmps45
    go_wp2_with fail
    go_ret
    exact ⟨rfl, by go_grown⟩

theorem check_any (ev tr pu : Int) (ao bo : Option Addr) (c c' m : Nat) (l : List (Int × Int)) (w : World) (hl : LiesAt w ao 2 l.length (noticeCell l)) :
    Calls Try.prog 45 #[.agg #[.int .i64 ev, .int .i64 tr, .int .i64 pu], .slice ao l.length c, .slice bo m c'] w fun e w' =>
      e = .returned (.int .i64 (checkF ev tr pu l m)) ∧ Below w.heap.size w w' := by
  unfold checkF
  by_cases hp : postOk ev tr pu = true
  · rw [if_pos hp]
    split
    · exact check_long ev tr pu ao bo c c' _ m w (by assumption) (post_bd hp)
    · exact check_loop ev tr pu ao bo c c' m l w hl (by omega) (by omega) (post_bd hp)
  · rw [if_neg hp]
    exact check_bad ev tr pu _ _ w (by simpa using hp)

end Go.Proofs.Ytgabecolmldbjaa
