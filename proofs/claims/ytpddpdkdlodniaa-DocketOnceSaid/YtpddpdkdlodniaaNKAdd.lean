/-
  Contracts: Add, Next and Count, and the document's answers.
-/
import Derived.Test.YtpddpdkdlodniaaNKNth
import Derived.Test.YtpddpdkdlodniaaNKSorted
import Derived.Test.YtpddpdkdlodniaaNKRef
namespace Go.Proofs.Ytpddpdkdlodniaa
open Go.RowKit

/-- How many business days lie before the one that is asked for. -/
def targetF (H : List Int) (day n : Int) : Int := if n = 0 then (cnt H day.toNat : Nat) else (cnt H (day.toNat + 1) : Nat) + n - 1
/-- What Add answers. -/
def AddIs (H : List Int) (day n d e : Int) : Prop :=
  (1000 < H.length ∧ d = 0 ∧ e = 2) ∨ (H.length ≤ 1000 ∧ (isDayF day = false ∨ n < 0 ∨ 1048576 < n) ∧ d = 0 ∧ e = 1) ∨ (H.length ≤ 1000 ∧ isDayF day = true ∧ 0 ≤ n ∧ n ≤ 1048576 ∧ NthIs H (targetF H day n) d e)
theorem add_unique {H : List Int} {day n d e d' e' : Int} (h : AddIs H day n d e) (h' : AddIs H day n d' e') : d = d' ∧ e = e' := by
  rcases h with ⟨h1, rfl, rfl⟩ | ⟨h1, h2, rfl, rfl⟩ | ⟨h1, h2, h3, h4, h5⟩ <;> rcases h' with ⟨k1, rfl, rfl⟩ | ⟨k1, k2, rfl, rfl⟩ | ⟨k1, k2, k3, k4, k5⟩
  · exact ⟨rfl, rfl⟩
  · omega
  · omega
  · omega
  · exact ⟨rfl, rfl⟩
  · rcases h2 with h2 | h2
    · rw [h2] at k2; cases k2
    · omega
  · omega
  · rcases k2 with k2 | k2
    · rw [k2] at h2; cases h2
    · omega
  · exact nth_unique h5 k5

theorem isDay_nat {d : Int} (h : isDayF d = true) : ∃ n : Nat, d = n ∧ n ≤ 1048576 := by
  simp only [isDayF, Bool.and_eq_true, decide_eq_true_eq] at h
  exact ⟨d.toNat, by omega, by omega⟩

set_option maxRecDepth 100000 in
set_option maxHeartbeats 2000000 in
theorem add_any (day n : Int) (ao : Option Addr) (cap : Nat) (H : List Int) (w : World) (hI : Ints w ao H) :
    Calls Try.prog 58 #[.int .i64 day, .int .i64 n, .slice ao H.length cap] w fun e w' => ∃ d er, e = .returned (.tuple #[.int .i64 d, .int .i64 er]) ∧ AddIs H day n d er ∧ Below w.heap.size w w' := by
  by_cases hlong : 1000 < H.length
  · have hl : (1000 : Int) < (H.length : Int) := by omega
    go_enter Try.func58, Try.ntmps58
    go_wp2_with fail
    go_ret2
    exact ⟨0, 2, rfl, .inl ⟨hlong, rfl, rfl⟩, Below.refl _ _⟩
  have hl : ¬ (1000 : Int) < (H.length : Int) := by omega
  have hl' : H.length ≤ 1000 := by omega
  have HD := Lib.hid (isDay_any day w)
  cases hd : isDayF day
  · rw [hd] at HD
    have HDD := Lib.hid hd
    clear hd
    go_enter Try.func58, Try.ntmps58
    go_wp2_with (go_at_call 65
                 go_must (refine HD.out.mono ?_)
                 rintro e w3 ⟨rfl, rfl⟩)
    go_ret2
    exact ⟨0, 1, rfl, .inr (.inl ⟨hl', .inl HDD.out, rfl, rfl⟩), Below.refl _ _⟩
  rw [hd] at HD
  have HDD := Lib.hid hd
  obtain ⟨m, rfl, hm⟩ := isDay_nat hd
  clear hd
  have hm1 : (m : Int) ≤ 1048576 := by omega
  have hm0 : (0 : Int) ≤ (m : Int) := by omega
  by_cases hbad : n < 0 ∨ 1048576 < n
  · have hside : n < 0 ∨ (¬ n < 0 ∧ 1048576 < n) := by omega
    rcases hside with hs | ⟨hs, hs2⟩
    all_goals
      go_enter Try.func58, Try.ntmps58
      go_wp2_with (go_at_call 65
                   go_must (refine HD.out.mono ?_)
                   rintro e w3 ⟨rfl, rfl⟩)
      go_ret2
      exact ⟨0, 1, rfl, .inr (.inl ⟨hl', .inr hbad, rfl, rfl⟩), Below.refl _ _⟩
  have n0 : 0 ≤ n := by omega
  have n1 : n ≤ 1048576 := by omega
  have hc1 := cnt_le H (m + 1)
  have hc0 := cnt_le H m
  have HS := Lib.hid (sorted_any ao cap H w hI hl')
  have hfin : ∀ d er, NthIs H (targetF H m n) d er → AddIs H m n d er := fun d er h => .inr (.inr ⟨hl', HDD.out, n0, n1, h⟩)
  have HF := Lib.hid hfin
  clear hI hbad hfin
  by_cases hn : n = 0
  · subst hn
    have ht : targetF H m 0 = (cnt H m : Nat) := by simp [targetF]
    rw [ht] at HF
    clear ht
    go_enter Try.func58, Try.ntmps58
    go_wp2_with (first
      | (go_at_call 65
         go_must (refine HD.out.mono ?_)
         rintro e w3 ⟨rfl, rfl⟩)
      | (go_at_call 66
         go_must (refine HS.out.mono ?_)
         rintro e w4 ⟨so, sc, C, rfl, hC, hIC, hb4⟩
         have hCl := hC.len
         have HC := Lib.hid hC
         have HIC := Lib.hid hIC
         have HB4 := Lib.hid hb4
         clear hC hIC hb4)
      | (go_at_call 68
         go_must (refine (before_any HC.out so sc m _ HIC.out (by omega) (by omega)).mono ?_)
         rintro e w5 ⟨rfl, hb5⟩
         have HIC5 := Lib.hid (HIC.out.next hb5)
         have HB5 := Lib.hid (HB4.out.trans (hb5.mono HB4.out.size))
         clear hb5)
      | (go_at_call 67
         go_must (refine (nth_any HC.out so sc _ _ (by omega) HIC5.out (by omega)).mono ?_)
         rintro e w6 ⟨d, er, rfl, hN, hb6⟩
         have HN := Lib.hid hN
         have HB6 := Lib.hid (HB5.out.trans (hb6.mono HB5.out.size))
         clear hN hb6))
    go_ret2
    exact ⟨d, er, rfl, HF.out d er HN.out, HB6.out⟩
  · have ht : targetF H m n = (cnt H (m + 1) : Nat) + n - 1 := by simp [targetF, hn]
    rw [ht] at HF
    clear ht
    have hpos : 1 ≤ n := by omega
    go_enter Try.func58, Try.ntmps58
    go_wp2_with (first
      | (go_at_call 65
         go_must (refine HD.out.mono ?_)
         rintro e w3 ⟨rfl, rfl⟩)
      | (go_at_call 66
         go_must (refine HS.out.mono ?_)
         rintro e w4 ⟨so, sc, C, rfl, hC, hIC, hb4⟩
         have hCl := hC.len
         have hbf := before_any hC so sc (m + 1) _ hIC (by omega) (by omega)
         rw [show ((m + 1 : Nat) : Int) = (m : Int) + 1 by omega] at hbf
         have HBF := Lib.hid hbf
         have HC := Lib.hid hC
         have HIC := Lib.hid hIC
         have HB4 := Lib.hid hb4
         clear hC hIC hb4 hbf)
      | (go_at_call 68
         go_must (refine HBF.out.mono ?_)
         rintro e w5 ⟨rfl, hb5⟩
         have HIC5 := Lib.hid (HIC.out.next hb5)
         have HB5 := Lib.hid (HB4.out.trans (hb5.mono HB4.out.size))
         clear hb5)
      | (go_at_call 67
         go_must (refine (nth_any HC.out so sc _ _ (by omega) HIC5.out (by omega)).mono ?_)
         rintro e w6 ⟨d, er, rfl, hN, hb6⟩
         have HN := Lib.hid hN
         have HB6 := Lib.hid (HB5.out.trans (hb6.mono HB5.out.size))
         clear hN hb6))
    go_ret2
    exact ⟨d, er, rfl, HF.out d er HN.out, HB6.out⟩

end Go.Proofs.Ytpddpdkdlodniaa
