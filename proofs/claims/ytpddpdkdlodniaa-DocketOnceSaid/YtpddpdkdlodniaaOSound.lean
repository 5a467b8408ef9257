/-
  Contracts: whether the state of a matter can be, in the program's and in the document's words.
-/
import Derived.Test.YtpddpdkdlodniaaOBase
namespace Go.Proofs.Ytpddpdkdlodniaa
open Go.RowKit

theorem running_yes {id st due opt : Int} {df : Bool} (h : st = 2 ∨ st = 4) (w : World) : Calls Try.prog 42 #[.agg #[.int .i64 id, .int .i64 st, .int .i64 due, .int .i64 opt, .bool df]] w fun e w' => e = .returned (.bool true) ∧ w' = w.alloc (.cells #[.int .i64 id, .int .i64 st, .int .i64 due, .int .i64 opt, .bool df] 50) := by
  have := running_any ⟨id, st, due, opt, df⟩ w
  rwa [(runs_iff _).2 h] at this
theorem running_no {id st due opt : Int} {df : Bool} (h : ¬ (st = 2 ∨ st = 4)) (w : World) : Calls Try.prog 42 #[.agg #[.int .i64 id, .int .i64 st, .int .i64 due, .int .i64 opt, .bool df]] w fun e w' => e = .returned (.bool false) ∧ w' = w.alloc (.cells #[.int .i64 id, .int .i64 st, .int .i64 due, .int .i64 opt, .bool df] 50) := by
  have := running_any ⟨id, st, due, opt, df⟩ w
  rwa [Bool.eq_false_iff.2 (mt (runs_iff _).1 h)] at this
theorem runs_yes {id st due opt : Int} {df : Bool} (h : st = 2 ∨ st = 4) (w : World) : Calls Try.prog 43 #[.agg #[.int .i64 id, .int .i64 st, .int .i64 due, .int .i64 opt, .bool df]] w fun e w' => e = .returned (.bool true) ∧ w' = w.alloc (.cells #[.int .i64 id, .int .i64 st, .int .i64 due, .int .i64 opt, .bool df] 50) := by
  have := runs_any ⟨id, st, due, opt, df⟩ w
  rwa [(runs_iff _).2 h] at this
theorem runs_no {id st due opt : Int} {df : Bool} (h : ¬ (st = 2 ∨ st = 4)) (w : World) : Calls Try.prog 43 #[.agg #[.int .i64 id, .int .i64 st, .int .i64 due, .int .i64 opt, .bool df]] w fun e w' => e = .returned (.bool false) ∧ w' = w.alloc (.cells #[.int .i64 id, .int .i64 st, .int .i64 due, .int .i64 opt, .bool df] 50) := by
  have := runs_any ⟨id, st, due, opt, df⟩ w
  rwa [Bool.eq_false_iff.2 (mt (runs_iff _).1 h)] at this
theorem option_yes {n : Int} (h : 0 ≤ n ∧ n < 4) (w : World) : Calls Try.prog 59 #[.int .i64 n] w fun e w' => e = .returned (.bool true) ∧ w = w' := by
  have := option_any n w
  rwa [show optF n = true by simpa [optF] using h] at this
theorem option_no {n : Int} (h : ¬ (0 ≤ n ∧ n < 4)) (w : World) : Calls Try.prog 59 #[.int .i64 n] w fun e w' => e = .returned (.bool false) ∧ w = w' := by
  have := option_any n w
  rwa [show optF n = false by rw [Bool.eq_false_iff]; intro hc; exact h (by simpa [optF] using hc)] at this

set_option maxHeartbeats 4000000 in
theorem sound_yes (id st due opt day : Int) (df : Bool) (w : World) (hs : soundF day ⟨id, st, due, opt, df⟩ = true) :
    Calls Try.prog 39 #[.agg #[.int .i64 id, .int .i64 st, .int .i64 due, .int .i64 opt, .bool df], .int .i64 day] w fun e w' => e = .returned (.bool true) ∧ Below w.heap.size w w' := by
  obtain ⟨a, b, c, d, e, f, g, i⟩ := (sound_iff _ _).1 hs
  simp only at a b c d e f g i
  clear hs
  have hst : st = 1 ∨ st = 2 ∨ st = 3 ∨ st = 4 ∨ st = 5 ∨ st = 6 := by omega
  rcases hst with rfl | rfl | rfl | rfl | rfl | rfl
  · obtain rfl : opt = 0 := g (by omega)
    obtain rfl : due = 0 := f (by omega) (by omega)
    obtain rfl : df = false := by cases df; rfl; exact absurd (i rfl).1 (by decide)
    clear a b c d e f g i
    go_enter Try.func39, Try.ntmps39
    go_wp2_with (go_at_call 42
                 go_must (refine (running_no (by omega) _).mono ?_)
                 rintro e w3 ⟨rfl, rfl⟩)
    go_ret
    exact ⟨rfl, by go_grown⟩
  · obtain rfl : opt = 0 := g (by omega)
    obtain ⟨k1, k2⟩ := e (by omega)
    have o3 : decide (due < day) = false := by simp; omega
    have o4 : decide (1048576 < due) = false := by simp; omega
    obtain rfl : df = false := by cases df; rfl; exact absurd (i rfl).1 (by decide)
    clear a b c d e f g i
    go_enter Try.func39, Try.ntmps39
    go_wp2_with (go_at_call 42
                 go_must (refine (running_yes (by omega) _).mono ?_)
                 rintro e w3 ⟨rfl, rfl⟩)
    go_ret
    exact ⟨rfl, by go_grown⟩
  · obtain rfl : opt = 0 := g (by omega)
    obtain rfl : due = 0 := f (by omega) (by omega)
    obtain rfl : df = false := by cases df; rfl; exact absurd (i rfl).1 (by decide)
    clear a b c d e f g i
    go_enter Try.func39, Try.ntmps39
    go_wp2_with (go_at_call 42
                 go_must (refine (running_no (by omega) _).mono ?_)
                 rintro e w3 ⟨rfl, rfl⟩)
    go_ret
    exact ⟨rfl, by go_grown⟩
  · have o0 : (0 : Int) ≤ opt := by omega
    have o1 : decide (opt < 0) = false := by simp; omega
    have o2 : decide (4 ≤ opt) = false := by simp; omega
    have o7 : opt < 4 := by omega
    obtain ⟨k1, k2⟩ := e (by omega)
    have o3 : decide (due < day) = false := by simp; omega
    have o4 : decide (1048576 < due) = false := by simp; omega
    obtain rfl : df = false := by cases df; rfl; exact absurd (i rfl).1 (by decide)
    clear a b c d e f g i
    go_enter Try.func39, Try.ntmps39
    go_wp2_with (go_at_call 42
                 go_must (refine (running_yes (by omega) _).mono ?_)
                 rintro e w3 ⟨rfl, rfl⟩)
    go_ret
    exact ⟨rfl, by go_grown⟩
  · have o0 : (0 : Int) ≤ opt := by omega
    have o1 : decide (opt < 0) = false := by simp; omega
    have o2 : decide (4 ≤ opt) = false := by simp; omega
    have o7 : opt < 4 := by omega
    obtain rfl : due = 0 := f (by omega) (by omega)
    obtain rfl : df = false := by cases df; rfl; exact absurd (i rfl).1 (by decide)
    clear a b c d e f g i
    go_enter Try.func39, Try.ntmps39
    go_wp2_with (go_at_call 42
                 go_must (refine (running_no (by omega) _).mono ?_)
                 rintro e w3 ⟨rfl, rfl⟩)
    go_ret
    exact ⟨rfl, by go_grown⟩
  · have o0 : (0 : Int) ≤ opt := by omega
    have o1 : decide (opt < 0) = false := by simp; omega
    have o2 : decide (4 ≤ opt) = false := by simp; omega
    have o7 : opt < 4 := by omega
    obtain rfl : due = 0 := f (by omega) (by omega)
    cases df
    · clear a b c d e f g i
      go_enter Try.func39, Try.ntmps39
      go_wp2_with (go_at_call 42
                   go_must (refine (running_no (by omega) _).mono ?_)
                   rintro e w3 ⟨rfl, rfl⟩)
      go_ret
      exact ⟨rfl, by go_grown⟩
    · obtain rfl : opt = 0 := (i rfl).2
      clear a b c d e f g i o0 o1 o2 o7
      go_enter Try.func39, Try.ntmps39
      go_wp2_with (go_at_call 42
                   go_must (refine (running_no (by omega) _).mono ?_)
                   rintro e w3 ⟨rfl, rfl⟩)
      go_ret
      exact ⟨rfl, by go_grown⟩

set_option maxHeartbeats 4000000 in
theorem sound_no (id st due opt day : Int) (df : Bool) (w : World) (hs : soundF day ⟨id, st, due, opt, df⟩ = false) :
    Calls Try.prog 39 #[.agg #[.int .i64 id, .int .i64 st, .int .i64 due, .int .i64 opt, .bool df], .int .i64 day] w fun e w' => e = .returned (.bool false) ∧ Below w.heap.size w w' := by
  have hn := mt (sound_iff _ _).2 (Bool.eq_false_iff.1 hs)
  simp only at hn
  clear hs
  by_cases a1 : st < 1
  · clear hn
    go_enter Try.func39, Try.ntmps39
    go_wp2_with (go_at_call 42
                 go_must (refine (running_no (by omega) _).mono ?_)
                 rintro e w3 ⟨rfl, rfl⟩)
    go_ret
    exact ⟨rfl, by go_grown⟩
  by_cases a2 : 6 < st
  · clear hn
    go_enter Try.func39, Try.ntmps39
    go_wp2_with (go_at_call 42
                 go_must (refine (running_no (by omega) _).mono ?_)
                 rintro e w3 ⟨rfl, rfl⟩)
    go_ret
    exact ⟨rfl, by go_grown⟩
  by_cases a3 : opt < 0
  · have hst : st = 1 ∨ st = 2 ∨ st = 3 ∨ st = 4 ∨ st = 5 ∨ st = 6 := by omega
    clear hn
    rcases hst with rfl | rfl | rfl | rfl | rfl | rfl
    all_goals
      go_enter Try.func39, Try.ntmps39
      go_wp2_with (go_at_call 42
                   go_must (refine (running_no (by omega) _).mono ?_)
                   rintro e w3 ⟨rfl, rfl⟩)
      go_ret
      exact ⟨rfl, by go_grown⟩
  by_cases a4 : 4 ≤ opt
  · have hst : st = 1 ∨ st = 2 ∨ st = 3 ∨ st = 4 ∨ st = 5 ∨ st = 6 := by omega
    clear hn
    rcases hst with rfl | rfl | rfl | rfl | rfl | rfl
    all_goals
      go_enter Try.func39, Try.ntmps39
      go_wp2_with (go_at_call 42
                   go_must (refine (running_no (by omega) _).mono ?_)
                   rintro e w3 ⟨rfl, rfl⟩)
      go_ret
      exact ⟨rfl, by go_grown⟩
  have o0 : (0 : Int) ≤ opt := by omega
  have o1 : decide (opt < 0) = false := by simp; omega
  have o2 : decide (4 ≤ opt) = false := by simp; omega
  have hst : st = 1 ∨ st = 2 ∨ st = 3 ∨ st = 4 ∨ st = 5 ∨ st = 6 := by omega
  clear a1 a2 a3
  rcases hst with rfl | rfl | rfl | rfl | rfl | rfl
  · by_cases b1 : due = 0
    · subst b1
      by_cases b3 : opt = 0
      · subst b3
        have hd : df = true := by cases df; exact absurd hn (by simp; try omega); rfl
        subst hd
        clear hn o0 o1 o2 a4
        go_enter Try.func39, Try.ntmps39
        go_wp2_with (go_at_call 42
                     go_must (refine (running_no (by omega) _).mono ?_)
                     rintro e w3 ⟨rfl, rfl⟩)
        go_ret
        exact ⟨rfl, by go_grown⟩
      · have o5 : (opt == 0) = false := by simpa using b3
        clear hn
        go_enter Try.func39, Try.ntmps39
        go_wp2_with (go_at_call 42
                     go_must (refine (running_no (by omega) _).mono ?_)
                     rintro e w3 ⟨rfl, rfl⟩)
        go_ret
        exact ⟨rfl, by go_grown⟩
    · have o6 : (due == 0) = false := by simpa using b1
      clear hn
      go_enter Try.func39, Try.ntmps39
      go_wp2_with (go_at_call 42
                   go_must (refine (running_no (by omega) _).mono ?_)
                   rintro e w3 ⟨rfl, rfl⟩)
      go_ret
      exact ⟨rfl, by go_grown⟩
  · by_cases b1 : due < day
    · clear hn
      go_enter Try.func39, Try.ntmps39
      go_wp2_with (go_at_call 42
                   go_must (refine (running_yes (by omega) _).mono ?_)
                   rintro e w3 ⟨rfl, rfl⟩)
      go_ret
      exact ⟨rfl, by go_grown⟩
    have o3 : decide (due < day) = false := by simp; omega
    by_cases b2 : 1048576 < due
    · clear hn
      go_enter Try.func39, Try.ntmps39
      go_wp2_with (go_at_call 42
                   go_must (refine (running_yes (by omega) _).mono ?_)
                   rintro e w3 ⟨rfl, rfl⟩)
      go_ret
      exact ⟨rfl, by go_grown⟩
    have o4 : decide (1048576 < due) = false := by simp; omega
    by_cases b3 : opt = 0
    · subst b3
      have hd : df = true := by cases df; exact absurd hn (by simp; try omega); rfl
      subst hd
      clear hn o0 o1 o2 a4
      go_enter Try.func39, Try.ntmps39
      go_wp2_with (go_at_call 42
                   go_must (refine (running_yes (by omega) _).mono ?_)
                   rintro e w3 ⟨rfl, rfl⟩)
      go_ret
      exact ⟨rfl, by go_grown⟩
    · have o5 : (opt == 0) = false := by simpa using b3
      clear hn
      go_enter Try.func39, Try.ntmps39
      go_wp2_with (go_at_call 42
                   go_must (refine (running_yes (by omega) _).mono ?_)
                   rintro e w3 ⟨rfl, rfl⟩)
      go_ret
      exact ⟨rfl, by go_grown⟩
  · by_cases b1 : due = 0
    · subst b1
      by_cases b3 : opt = 0
      · subst b3
        have hd : df = true := by cases df; exact absurd hn (by simp; try omega); rfl
        subst hd
        clear hn o0 o1 o2 a4
        go_enter Try.func39, Try.ntmps39
        go_wp2_with (go_at_call 42
                     go_must (refine (running_no (by omega) _).mono ?_)
                     rintro e w3 ⟨rfl, rfl⟩)
        go_ret
        exact ⟨rfl, by go_grown⟩
      · have o5 : (opt == 0) = false := by simpa using b3
        clear hn
        go_enter Try.func39, Try.ntmps39
        go_wp2_with (go_at_call 42
                     go_must (refine (running_no (by omega) _).mono ?_)
                     rintro e w3 ⟨rfl, rfl⟩)
        go_ret
        exact ⟨rfl, by go_grown⟩
    · have o6 : (due == 0) = false := by simpa using b1
      clear hn
      go_enter Try.func39, Try.ntmps39
      go_wp2_with (go_at_call 42
                   go_must (refine (running_no (by omega) _).mono ?_)
                   rintro e w3 ⟨rfl, rfl⟩)
      go_ret
      exact ⟨rfl, by go_grown⟩
  · by_cases b1 : due < day
    · clear hn
      go_enter Try.func39, Try.ntmps39
      go_wp2_with (go_at_call 42
                   go_must (refine (running_yes (by omega) _).mono ?_)
                   rintro e w3 ⟨rfl, rfl⟩)
      go_ret
      exact ⟨rfl, by go_grown⟩
    have o3 : decide (due < day) = false := by simp; omega
    by_cases b2 : 1048576 < due
    · clear hn
      go_enter Try.func39, Try.ntmps39
      go_wp2_with (go_at_call 42
                   go_must (refine (running_yes (by omega) _).mono ?_)
                   rintro e w3 ⟨rfl, rfl⟩)
      go_ret
      exact ⟨rfl, by go_grown⟩
    have o4 : decide (1048576 < due) = false := by simp; omega
    have hd : df = true := by cases df; exact absurd hn (by simp; omega); rfl
    subst hd
    clear hn
    go_enter Try.func39, Try.ntmps39
    go_wp2_with (go_at_call 42
                 go_must (refine (running_yes (by omega) _).mono ?_)
                 rintro e w3 ⟨rfl, rfl⟩)
    go_ret
    exact ⟨rfl, by go_grown⟩
  · by_cases b1 : due = 0
    · subst b1
      have hd : df = true := by cases df; exact absurd hn (by simp; omega); rfl
      subst hd
      clear hn
      go_enter Try.func39, Try.ntmps39
      go_wp2_with (go_at_call 42
                   go_must (refine (running_no (by omega) _).mono ?_)
                   rintro e w3 ⟨rfl, rfl⟩)
      go_ret
      exact ⟨rfl, by go_grown⟩
    · have o6 : (due == 0) = false := by simpa using b1
      clear hn
      go_enter Try.func39, Try.ntmps39
      go_wp2_with (go_at_call 42
                   go_must (refine (running_no (by omega) _).mono ?_)
                   rintro e w3 ⟨rfl, rfl⟩)
      go_ret
      exact ⟨rfl, by go_grown⟩
  · by_cases b1 : due = 0
    · subst b1
      have hd : df = true ∧ ¬ opt = 0 := by cases df; exact absurd hn (by simp; omega); exact ⟨rfl, fun h => hn (by simp; omega)⟩
      obtain ⟨rfl, hd⟩ := hd
      have o5 : (opt == 0) = false := by simpa using hd
      have o8 : (opt != 0) = true := by simpa using hd
      clear hn
      go_enter Try.func39, Try.ntmps39
      go_wp2_with (go_at_call 42
                   go_must (refine (running_no (by omega) _).mono ?_)
                   rintro e w3 ⟨rfl, rfl⟩)
      go_ret
      exact ⟨rfl, by go_grown⟩
    · have o6 : (due == 0) = false := by simpa using b1
      clear hn
      go_enter Try.func39, Try.ntmps39
      go_wp2_with (go_at_call 42
                   go_must (refine (running_no (by omega) _).mono ?_)
                   rintro e w3 ⟨rfl, rfl⟩)
      go_ret
      exact ⟨rfl, by go_grown⟩
end Go.Proofs.Ytpddpdkdlodniaa
