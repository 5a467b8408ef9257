/-
  Contracts: the small functions of a docket: running periods, sound matters, the errors of terms.
-/
import Derived.Test.YtpddpdkdlodniaaOGood
import Derived.Test.YtpddpdkdlodniaaNKBase
namespace Go.Proofs.Ytpddpdkdlodniaa
open Go.RowKit

theorem ret_int {k : IntKind} {a b : Int} (h : a = b) : Ending.returned (.int k a) = .returned (.int k b) := by rw [h]
/-- A matter as a value. -/
abbrev mtVal (m : Mt) : Value := .agg #[.int .i64 m.id, .int .i64 m.st, .int .i64 m.due, .int .i64 m.opt, .bool m.df]

/-- A matter in a box. -/
abbrev mtBox (m : Mt) : Obj := .cells #[.int .i64 m.id, .int .i64 m.st, .int .i64 m.due, .int .i64 m.opt, .bool m.df] 50

set_option maxHeartbeats 400000 in
theorem running_any (m : Mt) (w : World) : Calls Try.prog 42 #[mtVal m] w fun e w' => e = .returned (.bool (runsF m)) ∧ w' = w.alloc (mtBox m) := by
  cases hr : runsF m
  · have hn : ¬ m.st = 2 ∧ ¬ m.st = 4 := by simpa [runsF] using hr
    obtain ⟨id, st, due, opt, df⟩ := m
    obtain ⟨h1, h2⟩ := hn
    simp only at h1 h2
    have g1 : (st == 2) = false := by simpa using h1
    have g2 : (st == 4) = false := by simpa using h2
    clear hr
    go_enter Try.func42, Try.ntmps42
    go_wp2_with fail
    go_ret
    exact ⟨rfl, rfl⟩
  · have hn := (runs_iff m).1 hr
    obtain ⟨id, st, due, opt, df⟩ := m
    clear hr
    simp only at hn
    rcases hn with rfl | rfl
    all_goals
      go_enter Try.func42, Try.ntmps42
      go_wp2_with fail
      go_ret
      exact ⟨rfl, rfl⟩

set_option maxHeartbeats 400000 in
theorem runs_any (m : Mt) (w : World) : Calls Try.prog 43 #[mtVal m] w fun e w' => e = .returned (.bool (runsF m)) ∧ w' = w.alloc (mtBox m) := by
  cases hr : runsF m
  · have hn : ¬ m.st = 2 ∧ ¬ m.st = 4 := by simpa [runsF] using hr
    obtain ⟨id, st, due, opt, df⟩ := m
    obtain ⟨h1, h2⟩ := hn
    simp only at h1 h2
    have g1 : (st == 2) = false := by simpa using h1
    have g2 : (st == 4) = false := by simpa using h2
    clear hr
    go_enter Try.func43, Try.ntmps43
    go_wp2_with fail
    go_ret
    exact ⟨rfl, rfl⟩
  · have hn := (runs_iff m).1 hr
    obtain ⟨id, st, due, opt, df⟩ := m
    clear hr
    simp only at hn
    rcases hn with rfl | rfl
    all_goals
      go_enter Try.func43, Try.ntmps43
      go_wp2_with fail
      go_ret
      exact ⟨rfl, rfl⟩

def dayF (n : Int) : Bool := decide (0 ≤ n) && decide (n ≤ 1048576)
def optF (n : Int) : Bool := decide (0 ≤ n) && decide (n < 4)

set_option maxHeartbeats 400000 in
theorem day_any (n : Int) (w : World) : Calls Try.prog 44 #[.int .i64 n] w fun e w' => e = .returned (.bool (dayF n)) ∧ w = w' := by
  have hside : (0 ≤ n ∧ n ≤ 1048576) ∨ (0 ≤ n ∧ ¬ n ≤ 1048576) ∨ ¬ 0 ≤ n := by omega
  rcases hside with ⟨h1, h2⟩ | ⟨h1, h2⟩ | h1
  all_goals
    go_enter Try.func44, Try.ntmps44
    go_wp2_with fail
    go_ret
    exact ⟨by simp [dayF] <;> omega, rfl⟩

set_option maxHeartbeats 400000 in
theorem option_any (n : Int) (w : World) : Calls Try.prog 59 #[.int .i64 n] w fun e w' => e = .returned (.bool (optF n)) ∧ w = w' := by
  have hside : (0 ≤ n ∧ n < 4) ∨ (0 ≤ n ∧ ¬ n < 4) ∨ ¬ 0 ≤ n := by omega
  rcases hside with ⟨h1, h2⟩ | ⟨h1, h2⟩ | h1
  all_goals
    go_enter Try.func59, Try.ntmps59
    go_wp2_with fail
    go_ret
    exact ⟨by simp [optF] <;> omega, rfl⟩

/-- Terms as a value. -/
abbrev tmVal (ans app : Int) (ho : Option Addr) (hn hc : Nat) : Value := .agg #[.int .i64 ans, .int .i64 app, .slice ho hn hc]

set_option maxHeartbeats 1000000 in
theorem checkTerms_any (day ans app : Int) (ho : Option Addr) (hn hc : Nat) (w : World) :
    Calls Try.prog 34 #[.int .i64 day, tmVal ans app ho hn hc] w fun e w' => e = .returned (.int .i64 (termsF day ans app hn)) ∧ Below w.heap.size w w' := by
  have hside : day < 0 ∨ (¬ day < 0 ∧ 1048576 < day) ∨ (¬ day < 0 ∧ ¬ 1048576 < day ∧ (1000 : Int) < (hn : Int)) ∨ (¬ day < 0 ∧ ¬ 1048576 < day ∧ ¬ (1000 : Int) < (hn : Int)) := by omega
  rcases hside with h1 | ⟨h1, h2⟩ | ⟨h1, h2, h3⟩ | ⟨h1, h2, h3⟩
  iterate 3
    go_enter Try.func34, Try.ntmps34
    go_wp2_with fail
    go_ret
    exact ⟨ret_int (by unfold termsF; (repeat' split) <;> omega), by go_grown⟩
  have hside : ans < 1 ∨ (¬ ans < 1 ∧ 250 < ans) ∨ (¬ ans < 1 ∧ ¬ 250 < ans ∧ app < 1) ∨ (¬ ans < 1 ∧ ¬ 250 < ans ∧ ¬ app < 1 ∧ 250 < app) ∨ (¬ ans < 1 ∧ ¬ 250 < ans ∧ ¬ app < 1 ∧ ¬ 250 < app) := by omega
  rcases hside with k1 | ⟨k1, k2⟩ | ⟨k1, k2, k3⟩ | ⟨k1, k2, k3, k4⟩ | ⟨k1, k2, k3, k4⟩
  all_goals
    go_enter Try.func34, Try.ntmps34
    go_wp2_with fail
    go_ret
    exact ⟨ret_int (by unfold termsF; (repeat' split) <;> omega), by go_grown⟩

set_option maxHeartbeats 1000000 in
theorem checkTermsR_any (day ans app : Int) (ho : Option Addr) (hn hc : Nat) (w : World) :
    Calls Try.prog 40 #[.int .i64 day, tmVal ans app ho hn hc] w fun e w' => e = .returned (.int .i64 (termsF day ans app hn)) ∧ Below w.heap.size w w' := by
  have HD := Lib.hid (day_any day)
  have hside : dayF day = false ∨ (dayF day = true ∧ (1000 : Int) < (hn : Int)) ∨ (dayF day = true ∧ ¬ (1000 : Int) < (hn : Int)) := by cases dayF day <;> simp; omega
  have hdd : dayF day = true ↔ 0 ≤ day ∧ day ≤ 1048576 := by simp [dayF]
  have HDD := Lib.hid hdd
  clear hdd
  rcases hside with h1 | ⟨h1, h3⟩ | ⟨h1, h3⟩
  · rw [h1] at HD HDD
    clear h1
    go_enter Try.func40, Try.ntmps40
    go_wp2_with (go_at_call 44
                 go_must (refine (HD.out _).mono ?_)
                 rintro e w3 ⟨rfl, rfl⟩)
    go_ret
    have := HDD.out
    exact ⟨ret_int (by unfold termsF; simp at this; rw [if_pos (by omega)]), by go_grown⟩
  · rw [h1] at HD HDD
    clear h1
    go_enter Try.func40, Try.ntmps40
    go_wp2_with (go_at_call 44
                 go_must (refine (HD.out _).mono ?_)
                 rintro e w3 ⟨rfl, rfl⟩)
    go_ret
    have := HDD.out
    exact ⟨ret_int (by unfold termsF; simp at this; rw [if_neg (by omega), if_pos (by omega)]), by go_grown⟩
  rw [h1] at HD HDD
  clear h1
  have hside : ans < 1 ∨ (¬ ans < 1 ∧ 250 < ans) ∨ (¬ ans < 1 ∧ ¬ 250 < ans ∧ app < 1) ∨ (¬ ans < 1 ∧ ¬ 250 < ans ∧ ¬ app < 1 ∧ 250 < app) ∨ (¬ ans < 1 ∧ ¬ 250 < ans ∧ ¬ app < 1 ∧ ¬ 250 < app) := by omega
  rcases hside with k1 | ⟨k1, k2⟩ | ⟨k1, k2, k3⟩ | ⟨k1, k2, k3, k4⟩ | ⟨k1, k2, k3, k4⟩
  all_goals
    go_enter Try.func40, Try.ntmps40
    go_wp2_with (go_at_call 44
                 go_must (refine (HD.out _).mono ?_)
                 rintro e w3 ⟨rfl, rfl⟩)
    go_ret
    have := HDD.out
    simp only [true_iff] at this
    exact ⟨ret_int (by unfold termsF; (repeat' split) <;> omega), by go_grown⟩
end Go.Proofs.Ytpddpdkdlodniaa
