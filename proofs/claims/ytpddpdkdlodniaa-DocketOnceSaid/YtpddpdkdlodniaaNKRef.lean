/-
  Contracts: business days, in the program and in the document's answer.
-/
import Derived.Test.YtpddpdkdlodniaaNKBase
import Derived.Test.YtpddpdkdlodniaaOShelf
namespace Go.Proofs.Ytpddpdkdlodniaa
open Go.RowKit

set_option maxHeartbeats 1000000 in
theorem has_any (ao : Option Addr) (cap : Nat) (H : List Int) (x : Int) (w : World) (hI : Ints w ao H) (hl : H.length ≤ 9223372036854775807) :
    Calls Try.prog 88 #[.slice ao H.length cap, .int .i64 x] w fun e w' => e = .returned (.bool (decide (x ∈ H))) ∧ w = w' := by
  have HI := Lib.hid hI
  clear hI
  go_enter Try.func88, Try.ntmps88
  go_wp2_with fail
  go_loopw [5] (fun i wr => ∃ k : Nat, k ≤ H.length ∧ i = .int .i64 k ∧ x ∉ H.take k ∧ wr = w) (fun i _ => H.length - (intOf i).toNat)
  case atStart => exact ⟨0, Nat.zero_le _, rfl, by simp, rfl⟩
  case round =>
    obtain ⟨k, hk, rfl, hno, rfl⟩ := hrel
    by_cases hlt : k < H.length
    · obtain ⟨b, off, rfl, hbw, hc0⟩ := HI.out.cells (by omega)
      have hc := hc0 k hlt
      have ht : H.take (k + 1) = H.take k ++ [H.getD k 0] := by rw [List.take_succ_eq_append_getElem hlt]; simp [List.getD, hlt]
      have hin : H.getD k 0 ∈ H := by simp [List.getD, hlt]
      generalize H.getD k 0 = z at hc ht hin
      have hk0 : (0 : Int) ≤ (k : Int) := Int.natCast_nonneg _
      have hk1 : (k : Int) < (H.length : Int) := by omega
      by_cases he : z = x
      · subst he
        have HIN := Lib.hid hin
        clear hc0 ht hin hno
        go_wp2_with fail
        go_ret
        have := HIN.out
        exact ⟨by simp [this], rfl⟩
      · have HT := Lib.hid ht
        have HNO := Lib.hid hno
        clear hc0 ht hin hno
        go_wp2_with fail
        go_roundw
        case rel => exact ⟨k + 1, hlt, by go_num, by rw [HT.out]; simp [HNO.out, Ne.symm he], by simp⟩
        case measure => simp [intOf]; omega
    · obtain rfl : k = H.length := by omega
      have HNO := Lib.hid hno
      clear hno
      go_wp2_with fail
      go_ret
      have := HNO.out
      rw [List.take_length] at this
      exact ⟨by simp [this], rfl⟩

theorem business_cases (H : List Int) (d : Int) : (isDayF d = false ∧ business H d = false) ∨ (isDayF d = true ∧ ¬ d % 7 < 5 ∧ business H d = false) ∨ (isDayF d = true ∧ d % 7 < 5 ∧ d ∈ H ∧ business H d = false) ∨ (isDayF d = true ∧ d % 7 < 5 ∧ d ∉ H ∧ business H d = true) := by
  have e : business H d = (isDayF d && decide (d % 7 < 5) && !decide (d ∈ H)) := rfl
  cases h1 : isDayF d
  · exact .inl ⟨rfl, by simp [e, h1]⟩
  · by_cases h2 : d % 7 < 5
    · by_cases h3 : d ∈ H
      · exact .inr (.inr (.inl ⟨rfl, h2, h3, by simp [e, h3]⟩))
      · exact .inr (.inr (.inr ⟨rfl, h2, h3, by simp [e, h1, h2, h3]⟩))
    · exact .inr (.inl ⟨rfl, h2, by simp [e, h2]⟩)

set_option maxHeartbeats 1000000 in
theorem isBusinessR_any (d : Int) (ao : Option Addr) (cap : Nat) (H : List Int) (w : World) (hI : Ints w ao H) (hl : H.length ≤ 9223372036854775807) :
    Calls Try.prog 70 #[.int .i64 d, .slice ao H.length cap] w fun e w' => e = .returned (.bool (business H d)) ∧ w = w' := by
  have HD := Lib.hid (isDayR_any d w)
  have HW := Lib.hid (weekdayR_any d w)
  have HH := Lib.hid (has_any ao cap H d w hI hl)
  have hm0 : 0 ≤ d % 7 := by omega
  have hm1 : d % 7 ≤ 6 := by omega
  clear hI
  rcases business_cases H d with ⟨h1, h2⟩ | ⟨h1, h2, h3⟩ | ⟨h1, h2, h3, h4⟩ | ⟨h1, h2, h3, h4⟩
  all_goals
    rw [h1] at HD
    try simp only [h3, decide_true, decide_false] at HH
    have HE := Lib.hid (by assumption : business H d = _)
    go_enter Try.func70, Try.ntmps70
    go_wp2_with (first
      | (go_at_call 69
         go_must (refine HD.out.mono ?_)
         rintro e w3 ⟨rfl, rfl⟩)
      | (go_at_call 87
         go_must (refine HW.out.mono ?_)
         rintro e w4 ⟨rfl, rfl⟩)
      | (go_at_call 88
         go_must (refine HH.out.mono ?_)
         rintro e w5 ⟨rfl, rfl⟩))
    go_ret
    exact ⟨by first | rfl | (rw [HE.out]; rfl), rfl⟩

end Go.Proofs.Ytpddpdkdlodniaa
