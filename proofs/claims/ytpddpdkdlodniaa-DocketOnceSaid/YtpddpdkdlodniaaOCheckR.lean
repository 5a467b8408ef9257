/-
  Contracts: whether the state of a matter cannot be, in the document's words.
  Contract: CheckDocket, the document's answer for Check.
-/
import Derived.Test.YtpddpdkdlodniaaOSound
import Derived.Test.YtpddpdkdlodniaaOCheck
namespace Go.Proofs.Ytpddpdkdlodniaa
open Go.RowKit

set_option maxHeartbeats 4000000 in
theorem bad_yes (id st due opt day : Int) (df : Bool) (ans app : Int) (ho mo : Option Addr) (hn hc mn mc : Nat) (w : World) (hs : soundF day ⟨id, st, due, opt, df⟩ = true) :
    Calls Try.prog 41 #[.agg #[.int .i64 day, .int .i64 ans, .int .i64 app, .slice ho hn hc, .slice mo mn mc], .agg #[.int .i64 id, .int .i64 st, .int .i64 due, .int .i64 opt, .bool df]] w fun e w' => e = .returned (.bool false) ∧ Below w.heap.size w w' := by
  obtain ⟨a, b, c, d, e, f, g, i⟩ := (sound_iff _ _).1 hs
  simp only at a b c d e f g i
  clear hs
  have hst : st = 1 ∨ st = 2 ∨ st = 3 ∨ st = 4 ∨ st = 5 ∨ st = 6 := by omega
  rcases hst with rfl | rfl | rfl | rfl | rfl | rfl
  · obtain rfl : opt = 0 := g (by omega)
    obtain rfl : due = 0 := f (by omega) (by omega)
    obtain rfl : df = false := by cases df; rfl; exact absurd (i rfl).1 (by decide)
    clear a b c d e f g i
    go_enter Try.func41, Try.ntmps41
    go_wp2_with (first
      | (go_at_call 43
         go_must (refine (runs_no (by omega) _).mono ?_)
         rintro e w3 ⟨rfl, rfl⟩)
      | (go_at_call 59
         go_must (refine (option_yes (by omega) _).mono ?_)
         rintro e w3 ⟨rfl, rfl⟩))
    go_ret
    exact ⟨rfl, by go_grown⟩
  · obtain rfl : opt = 0 := g (by omega)
    obtain ⟨k1, k2⟩ := e (by omega)
    have o3 : decide (due < day) = false := by simp; omega
    have o4 : decide (1048576 < due) = false := by simp; omega
    obtain rfl : df = false := by cases df; rfl; exact absurd (i rfl).1 (by decide)
    clear a b c d e f g i
    go_enter Try.func41, Try.ntmps41
    go_wp2_with (first
      | (go_at_call 43
         go_must (refine (runs_yes (by omega) _).mono ?_)
         rintro e w3 ⟨rfl, rfl⟩)
      | (go_at_call 59
         go_must (refine (option_yes (by omega) _).mono ?_)
         rintro e w3 ⟨rfl, rfl⟩))
    go_ret
    exact ⟨rfl, by go_grown⟩
  · obtain rfl : opt = 0 := g (by omega)
    obtain rfl : due = 0 := f (by omega) (by omega)
    obtain rfl : df = false := by cases df; rfl; exact absurd (i rfl).1 (by decide)
    clear a b c d e f g i
    go_enter Try.func41, Try.ntmps41
    go_wp2_with (first
      | (go_at_call 43
         go_must (refine (runs_no (by omega) _).mono ?_)
         rintro e w3 ⟨rfl, rfl⟩)
      | (go_at_call 59
         go_must (refine (option_yes (by omega) _).mono ?_)
         rintro e w3 ⟨rfl, rfl⟩))
    go_ret
    exact ⟨rfl, by go_grown⟩
  · have o0 : (0 : Int) ≤ opt := by omega
    have o1 : decide (opt < 0) = false := by simp; omega
    have o2 : decide (4 ≤ opt) = false := by simp; omega
    have o7 : opt < 4 := by omega
    obtain ⟨k1, k2⟩ := e (by omega)
    have o3 : decide (due < day) = false := by simp; omega
    have o4 : decide (1048576 < due) = false := by simp; omega
    obtain rfl : df = false := by cases df; rfl; exact absurd (i rfl).1 (by decide)
    clear a b c d e f g i
    go_enter Try.func41, Try.ntmps41
    go_wp2_with (first
      | (go_at_call 43
         go_must (refine (runs_yes (by omega) _).mono ?_)
         rintro e w3 ⟨rfl, rfl⟩)
      | (go_at_call 59
         go_must (refine (option_yes (by omega) _).mono ?_)
         rintro e w3 ⟨rfl, rfl⟩))
    go_ret
    exact ⟨rfl, by go_grown⟩
  · have o0 : (0 : Int) ≤ opt := by omega
    have o1 : decide (opt < 0) = false := by simp; omega
    have o2 : decide (4 ≤ opt) = false := by simp; omega
    have o7 : opt < 4 := by omega
    obtain rfl : due = 0 := f (by omega) (by omega)
    obtain rfl : df = false := by cases df; rfl; exact absurd (i rfl).1 (by decide)
    clear a b c d e f g i
    go_enter Try.func41, Try.ntmps41
    go_wp2_with (first
      | (go_at_call 43
         go_must (refine (runs_no (by omega) _).mono ?_)
         rintro e w3 ⟨rfl, rfl⟩)
      | (go_at_call 59
         go_must (refine (option_yes (by omega) _).mono ?_)
         rintro e w3 ⟨rfl, rfl⟩))
    go_ret
    exact ⟨rfl, by go_grown⟩
  · have o0 : (0 : Int) ≤ opt := by omega
    have o1 : decide (opt < 0) = false := by simp; omega
    have o2 : decide (4 ≤ opt) = false := by simp; omega
    have o7 : opt < 4 := by omega
    obtain rfl : due = 0 := f (by omega) (by omega)
    cases df
    · clear a b c d e f g i
      go_enter Try.func41, Try.ntmps41
      go_wp2_with (first
        | (go_at_call 43
           go_must (refine (runs_no (by omega) _).mono ?_)
           rintro e w3 ⟨rfl, rfl⟩)
        | (go_at_call 59
           go_must (refine (option_yes (by omega) _).mono ?_)
           rintro e w3 ⟨rfl, rfl⟩))
      go_ret
      exact ⟨rfl, by go_grown⟩
    · obtain rfl : opt = 0 := (i rfl).2
      clear a b c d e f g i o0 o1 o2 o7
      go_enter Try.func41, Try.ntmps41
      go_wp2_with (first
        | (go_at_call 43
           go_must (refine (runs_no (by omega) _).mono ?_)
           rintro e w3 ⟨rfl, rfl⟩)
        | (go_at_call 59
           go_must (refine (option_yes (by omega) _).mono ?_)
           rintro e w3 ⟨rfl, rfl⟩))
      go_ret
      exact ⟨rfl, by go_grown⟩

set_option maxHeartbeats 4000000 in
theorem bad_no (id st due opt day : Int) (df : Bool) (ans app : Int) (ho mo : Option Addr) (hn hc mn mc : Nat) (w : World) (hs : soundF day ⟨id, st, due, opt, df⟩ = false) :
    Calls Try.prog 41 #[.agg #[.int .i64 day, .int .i64 ans, .int .i64 app, .slice ho hn hc, .slice mo mn mc], .agg #[.int .i64 id, .int .i64 st, .int .i64 due, .int .i64 opt, .bool df]] w fun e w' => e = .returned (.bool true) ∧ Below w.heap.size w w' := by
  have hn := mt (sound_iff _ _).2 (Bool.eq_false_iff.1 hs)
  simp only at hn
  clear hs
  by_cases a1 : st < 1
  · clear hn
    go_enter Try.func41, Try.ntmps41
    go_wp2_with (first
      | (go_at_call 43
         go_must (refine (runs_no (by omega) _).mono ?_)
         rintro e w3 ⟨rfl, rfl⟩)
      | (go_at_call 59
         go_must (refine (option_yes (by omega) _).mono ?_)
         rintro e w3 ⟨rfl, rfl⟩))
    go_ret
    exact ⟨rfl, by go_grown⟩
  by_cases a2 : 6 < st
  · clear hn
    go_enter Try.func41, Try.ntmps41
    go_wp2_with (first
      | (go_at_call 43
         go_must (refine (runs_no (by omega) _).mono ?_)
         rintro e w3 ⟨rfl, rfl⟩)
      | (go_at_call 59
         go_must (refine (option_yes (by omega) _).mono ?_)
         rintro e w3 ⟨rfl, rfl⟩))
    go_ret
    exact ⟨rfl, by go_grown⟩
  by_cases a3 : opt < 0
  · have hst : st = 1 ∨ st = 2 ∨ st = 3 ∨ st = 4 ∨ st = 5 ∨ st = 6 := by omega
    clear hn
    rcases hst with rfl | rfl | rfl | rfl | rfl | rfl
    all_goals
      go_enter Try.func41, Try.ntmps41
      go_wp2_with (first
        | (go_at_call 43
           go_must (refine (runs_no (by omega) _).mono ?_)
           rintro e w3 ⟨rfl, rfl⟩)
        | (go_at_call 59
           go_must (refine (option_no (by omega) _).mono ?_)
           rintro e w3 ⟨rfl, rfl⟩))
      go_ret
      exact ⟨rfl, by go_grown⟩
  have a30 : (0 : Int) ≤ opt := by omega
  by_cases a4 : 4 ≤ opt
  · have hst : st = 1 ∨ st = 2 ∨ st = 3 ∨ st = 4 ∨ st = 5 ∨ st = 6 := by omega
    clear hn
    rcases hst with rfl | rfl | rfl | rfl | rfl | rfl
    all_goals
      go_enter Try.func41, Try.ntmps41
      go_wp2_with (first
        | (go_at_call 43
           go_must (refine (runs_no (by omega) _).mono ?_)
           rintro e w3 ⟨rfl, rfl⟩)
        | (go_at_call 59
           go_must (refine (option_no (by omega) _).mono ?_)
           rintro e w3 ⟨rfl, rfl⟩))
      go_ret
      exact ⟨rfl, by go_grown⟩
  have o0 : (0 : Int) ≤ opt := by omega
  have o1 : decide (opt < 0) = false := by simp; omega
  have o2 : decide (4 ≤ opt) = false := by simp; omega
  have hst : st = 1 ∨ st = 2 ∨ st = 3 ∨ st = 4 ∨ st = 5 ∨ st = 6 := by omega
  clear a1 a2 a3
  clear a30
  rcases hst with rfl | rfl | rfl | rfl | rfl | rfl
  · by_cases b1 : due = 0
    · subst b1
      by_cases b3 : opt = 0
      · subst b3
        have hd : df = true := by cases df; exact absurd hn (by simp; try omega); rfl
        subst hd
        clear hn o0 o1 o2 a4
        go_enter Try.func41, Try.ntmps41
        go_wp2_with (first
          | (go_at_call 43
             go_must (refine (runs_no (by omega) _).mono ?_)
             rintro e w3 ⟨rfl, rfl⟩)
          | (go_at_call 59
             go_must (refine (option_yes (by omega) _).mono ?_)
             rintro e w3 ⟨rfl, rfl⟩))
        go_ret
        exact ⟨rfl, by go_grown⟩
      · have o5 : (opt == 0) = false := by simpa using b3
        clear hn
        go_enter Try.func41, Try.ntmps41
        go_wp2_with (first
          | (go_at_call 43
             go_must (refine (runs_no (by omega) _).mono ?_)
             rintro e w3 ⟨rfl, rfl⟩)
          | (go_at_call 59
             go_must (refine (option_yes (by omega) _).mono ?_)
             rintro e w3 ⟨rfl, rfl⟩))
        go_ret
        exact ⟨rfl, by go_grown⟩
    · have o6 : (due == 0) = false := by simpa using b1
      clear hn
      go_enter Try.func41, Try.ntmps41
      go_wp2_with (first
        | (go_at_call 43
           go_must (refine (runs_no (by omega) _).mono ?_)
           rintro e w3 ⟨rfl, rfl⟩)
        | (go_at_call 59
           go_must (refine (option_yes (by omega) _).mono ?_)
           rintro e w3 ⟨rfl, rfl⟩))
      go_ret
      exact ⟨rfl, by go_grown⟩
  · by_cases b1 : due < day
    · clear hn
      go_enter Try.func41, Try.ntmps41
      go_wp2_with (first
        | (go_at_call 43
           go_must (refine (runs_yes (by omega) _).mono ?_)
           rintro e w3 ⟨rfl, rfl⟩)
        | (go_at_call 59
           go_must (refine (option_yes (by omega) _).mono ?_)
           rintro e w3 ⟨rfl, rfl⟩))
      go_ret
      exact ⟨rfl, by go_grown⟩
    have o3 : decide (due < day) = false := by simp; omega
    by_cases b2 : 1048576 < due
    · clear hn
      go_enter Try.func41, Try.ntmps41
      go_wp2_with (first
        | (go_at_call 43
           go_must (refine (runs_yes (by omega) _).mono ?_)
           rintro e w3 ⟨rfl, rfl⟩)
        | (go_at_call 59
           go_must (refine (option_yes (by omega) _).mono ?_)
           rintro e w3 ⟨rfl, rfl⟩))
      go_ret
      exact ⟨rfl, by go_grown⟩
    have o4 : decide (1048576 < due) = false := by simp; omega
    by_cases b3 : opt = 0
    · subst b3
      have hd : df = true := by cases df; exact absurd hn (by simp; try omega); rfl
      subst hd
      clear hn o0 o1 o2 a4
      go_enter Try.func41, Try.ntmps41
      go_wp2_with (first
        | (go_at_call 43
           go_must (refine (runs_yes (by omega) _).mono ?_)
           rintro e w3 ⟨rfl, rfl⟩)
        | (go_at_call 59
           go_must (refine (option_yes (by omega) _).mono ?_)
           rintro e w3 ⟨rfl, rfl⟩))
      go_ret
      exact ⟨rfl, by go_grown⟩
    · have o5 : (opt == 0) = false := by simpa using b3
      clear hn
      go_enter Try.func41, Try.ntmps41
      go_wp2_with (first
        | (go_at_call 43
           go_must (refine (runs_yes (by omega) _).mono ?_)
           rintro e w3 ⟨rfl, rfl⟩)
        | (go_at_call 59
           go_must (refine (option_yes (by omega) _).mono ?_)
           rintro e w3 ⟨rfl, rfl⟩))
      go_ret
      exact ⟨rfl, by go_grown⟩
  · by_cases b1 : due = 0
    · subst b1
      by_cases b3 : opt = 0
      · subst b3
        have hd : df = true := by cases df; exact absurd hn (by simp; try omega); rfl
        subst hd
        clear hn o0 o1 o2 a4
        go_enter Try.func41, Try.ntmps41
        go_wp2_with (first
          | (go_at_call 43
             go_must (refine (runs_no (by omega) _).mono ?_)
             rintro e w3 ⟨rfl, rfl⟩)
          | (go_at_call 59
             go_must (refine (option_yes (by omega) _).mono ?_)
             rintro e w3 ⟨rfl, rfl⟩))
        go_ret
        exact ⟨rfl, by go_grown⟩
      · have o5 : (opt == 0) = false := by simpa using b3
        clear hn
        go_enter Try.func41, Try.ntmps41
        go_wp2_with (first
          | (go_at_call 43
             go_must (refine (runs_no (by omega) _).mono ?_)
             rintro e w3 ⟨rfl, rfl⟩)
          | (go_at_call 59
             go_must (refine (option_yes (by omega) _).mono ?_)
             rintro e w3 ⟨rfl, rfl⟩))
        go_ret
        exact ⟨rfl, by go_grown⟩
    · have o6 : (due == 0) = false := by simpa using b1
      clear hn
      go_enter Try.func41, Try.ntmps41
      go_wp2_with (first
        | (go_at_call 43
           go_must (refine (runs_no (by omega) _).mono ?_)
           rintro e w3 ⟨rfl, rfl⟩)
        | (go_at_call 59
           go_must (refine (option_yes (by omega) _).mono ?_)
           rintro e w3 ⟨rfl, rfl⟩))
      go_ret
      exact ⟨rfl, by go_grown⟩
  · by_cases b1 : due < day
    · clear hn
      go_enter Try.func41, Try.ntmps41
      go_wp2_with (first
        | (go_at_call 43
           go_must (refine (runs_yes (by omega) _).mono ?_)
           rintro e w3 ⟨rfl, rfl⟩)
        | (go_at_call 59
           go_must (refine (option_yes (by omega) _).mono ?_)
           rintro e w3 ⟨rfl, rfl⟩))
      go_ret
      exact ⟨rfl, by go_grown⟩
    have o3 : decide (due < day) = false := by simp; omega
    by_cases b2 : 1048576 < due
    · clear hn
      go_enter Try.func41, Try.ntmps41
      go_wp2_with (first
        | (go_at_call 43
           go_must (refine (runs_yes (by omega) _).mono ?_)
           rintro e w3 ⟨rfl, rfl⟩)
        | (go_at_call 59
           go_must (refine (option_yes (by omega) _).mono ?_)
           rintro e w3 ⟨rfl, rfl⟩))
      go_ret
      exact ⟨rfl, by go_grown⟩
    have o4 : decide (1048576 < due) = false := by simp; omega
    have hd : df = true := by cases df; exact absurd hn (by simp; omega); rfl
    subst hd
    clear hn
    go_enter Try.func41, Try.ntmps41
    go_wp2_with (first
      | (go_at_call 43
         go_must (refine (runs_yes (by omega) _).mono ?_)
         rintro e w3 ⟨rfl, rfl⟩)
      | (go_at_call 59
         go_must (refine (option_yes (by omega) _).mono ?_)
         rintro e w3 ⟨rfl, rfl⟩))
    go_ret
    exact ⟨rfl, by go_grown⟩
  · by_cases b1 : due = 0
    · subst b1
      have hd : df = true := by cases df; exact absurd hn (by simp; omega); rfl
      subst hd
      clear hn
      go_enter Try.func41, Try.ntmps41
      go_wp2_with (first
        | (go_at_call 43
           go_must (refine (runs_no (by omega) _).mono ?_)
           rintro e w3 ⟨rfl, rfl⟩)
        | (go_at_call 59
           go_must (refine (option_yes (by omega) _).mono ?_)
           rintro e w3 ⟨rfl, rfl⟩))
      go_ret
      exact ⟨rfl, by go_grown⟩
    · have o6 : (due == 0) = false := by simpa using b1
      clear hn
      go_enter Try.func41, Try.ntmps41
      go_wp2_with (first
        | (go_at_call 43
           go_must (refine (runs_no (by omega) _).mono ?_)
           rintro e w3 ⟨rfl, rfl⟩)
        | (go_at_call 59
           go_must (refine (option_yes (by omega) _).mono ?_)
           rintro e w3 ⟨rfl, rfl⟩))
      go_ret
      exact ⟨rfl, by go_grown⟩
  · by_cases b1 : due = 0
    · subst b1
      have hd : df = true ∧ ¬ opt = 0 := by cases df; exact absurd hn (by simp; omega); exact ⟨rfl, fun h => hn (by simp; omega)⟩
      obtain ⟨rfl, hd⟩ := hd
      have o5 : (opt == 0) = false := by simpa using hd
      have o8 : (opt != 0) = true := by simpa using hd
      clear hn
      go_enter Try.func41, Try.ntmps41
      go_wp2_with (first
        | (go_at_call 43
           go_must (refine (runs_no (by omega) _).mono ?_)
           rintro e w3 ⟨rfl, rfl⟩)
        | (go_at_call 59
           go_must (refine (option_yes (by omega) _).mono ?_)
           rintro e w3 ⟨rfl, rfl⟩))
      go_ret
      exact ⟨rfl, by go_grown⟩
    · have o6 : (due == 0) = false := by simpa using b1
      clear hn
      go_enter Try.func41, Try.ntmps41
      go_wp2_with (first
        | (go_at_call 43
           go_must (refine (runs_no (by omega) _).mono ?_)
           rintro e w3 ⟨rfl, rfl⟩)
        | (go_at_call 59
           go_must (refine (option_yes (by omega) _).mono ?_)
           rintro e w3 ⟨rfl, rfl⟩))
      go_ret
      exact ⟨rfl, by go_grown⟩
end Go.Proofs.Ytpddpdkdlodniaa

namespace Go.Proofs.Ytpddpdkdlodniaa
open Go.RowKit

theorem bad_at {m : Mt} {day : Int} {b : Bool} (ans app : Int) (ho mo : Option Addr) (hn hc mn mc : Nat) (h : soundF day m = b) (w : World) : Calls Try.prog 41 #[.agg #[.int .i64 day, .int .i64 ans, .int .i64 app, .slice ho hn hc, .slice mo mn mc], .agg #[.int .i64 m.id, .int .i64 m.st, .int .i64 m.due, .int .i64 m.opt, .bool m.df]] w fun e w' => e = .returned (.bool (!b)) ∧ Below w.heap.size w w' := by
  obtain ⟨id, st, due, opt, df⟩ := m
  cases b
  · exact bad_no id st due opt day df ans app ho mo hn hc mn mc w h
  · exact bad_yes id st due opt day df ans app ho mo hn hc mn mc w h

theorem has_take {l : List Mt} {q k : Nat} {id : Int} (hq : q < k) (hk : k ≤ l.length) (h : (l.getD q default).id = id) : hasF (l.take k) id = true := by
  refine (has_iff _ _).2 ⟨l.getD q default, ?_, h⟩
  rw [List.mem_take_iff_getElem]
  exact ⟨q, by omega, by simp [List.getD, show q < l.length by omega]⟩
theorem hasnt_snoc {l : List Mt} {q : Nat} {id : Int} (hq : q < l.length) (h : ¬ (l.getD q default).id = id) (h2 : hasF (l.take q) id = false) : hasF (l.take (q + 1)) id = false := by
  rw [take_snoc' hq]
  simp only [hasF, List.any_append, List.any_cons, List.any_nil, Bool.or_false] at h2 ⊢
  rw [h2]
  simpa using h

set_option maxRecDepth 100000 in
set_option maxHeartbeats 8000000 in
theorem checkR_any (day ans app : Int) (ho mo : Option Addr) (hc mc : Nat) (H : List Int) (l : List Mt) (w : World) (hM : Mts w mo l) (hl : l.length ≤ 9223372036854775807) :
    Calls Try.prog 24 #[.agg #[.int .i64 day, .int .i64 ans, .int .i64 app, .slice ho H.length hc, .slice mo l.length mc]] w fun e w' => e = .returned (.int .i64 (chkF ⟨day, ans, app, H, l⟩)) ∧ Below w.heap.size w w' := by
  have HM := Lib.hid hM
  have HT := Lib.hid fun W => checkTermsR_any day ans app ho H.length hc W
  obtain ⟨R, hR⟩ : ∃ R, chkF ⟨day, ans, app, H, l⟩ = R := ⟨_, rfl⟩
  rw [hR]
  unfold chkF at hR
  simp only at hR
  clear hM
  by_cases ht : termsF day ans app H.length = 0
  · rw [ht] at HT hR
    rw [if_neg (by simp)] at hR
    clear ht
    by_cases h32 : 32 < l.length
    · rw [if_pos h32] at hR
      subst hR
      have h32i : (32 : Int) < (l.length : Int) := by omega
      go_enter Try.func24, Try.ntmps24
      go_wp2_with fail
      refine (HT.out _).mono ?_
      rintro e w3 ⟨rfl, hb3⟩
      obtain ⟨x0, x1, x2, x3, x4, hsr⟩ := box5 (w := w) (by simpa using hb3)
      have HB := Lib.hid hb3
      clear hb3
      go_wp2_with fail
      go_ret
      exact ⟨rfl, below_box (by simpa using HB.out)⟩
    · rw [if_neg h32] at hR
      have h32i : ¬ (32 : Int) < (l.length : Int) := by omega
      have h32n : l.length ≤ 32 := by omega
      have HR := Lib.hid hR
      clear hR h32
      go_enter Try.func24, Try.ntmps24
      go_wp2_with fail
      refine (HT.out _).mono ?_
      rintro e w3 ⟨rfl, hb3⟩
      obtain ⟨x0, x1, x2, x3, x4, hsr⟩ := box5 (w := w) (by simpa using hb3)
      have HB3 : Hid (Below (w.heap.size + 1) (w.alloc (.cells #[.int .i64 day, .int .i64 ans, .int .i64 app, .slice ho H.length hc, .slice mo l.length mc] 30)) w3) := Lib.hid (by simpa using hb3)
      clear hb3
      go_wp2_with fail
      go_loopw [4] (fun i wr => ∃ (k : Nat), k ≤ l.length ∧ i = .int .i64 k ∧ Hid (mattersF day l (l.length - k) k = R) ∧ Below (w.heap.size + 1) (w.alloc (.cells #[.int .i64 day, .int .i64 ans, .int .i64 app, .slice ho H.length hc, .slice mo l.length mc] 30)) wr) (fun i _ => l.length - (intOf i).toNat)
      case atStart => exact ⟨0, Nat.zero_le _, rfl, HR, HB3.out⟩
      case round =>
        clear x0 x1 x2 x3 x4 hsr HB3 HR
        obtain ⟨k, hk, rfl, hf, hb⟩ := hrel
        obtain ⟨x0, x1, x2, x3, x4, hsr⟩ := box5 hb
        by_cases hlt : k < l.length
        · have HM1 := Lib.hid (HM.out.next (below_box hb))
          obtain ⟨bm, off, rfl, hbw, hc0⟩ := HM1.out.cells (by omega)
          obtain ⟨m0, m1, m2, m3, m4⟩ := hc0 k hlt
          have hst := matters_step day l k hlt
          rw [hf.out] at hst
          obtain ⟨m, hm⟩ : ∃ m, l.getD k default = m := ⟨_, rfl⟩
          rw [hm] at m0 m1 m2 m3 m4 hst
          have HB := Lib.hid hb
          have hk0 : (0 : Int) ≤ (k : Int) := Int.natCast_nonneg _
          have hk1 : (k : Int) < (l.length : Int) := by omega
          clear hc0 hm hb hf
          by_cases hid : m.id < 0
          · rw [if_pos hid] at hst
            subst hst
            go_wp2_with fail
            go_ret
            exact ⟨rfl, by go_grown; exact below_box HB.out⟩
          rw [if_neg hid] at hst
          have HST := Lib.hid hst
          clear hst
          have hbx : Below wr.heap.size wr (wr.alloc (mtBox m)) := (Below.refl _ _).alloc (Nat.le_refl _) _
          obtain ⟨wo, rfl⟩ : ∃ wo : World, wo = wr := ⟨_, rfl⟩
          have HMW := Lib.hid (HM1.out.next hbx)
          clear hbx
          go_wp2_with fail
          go_loopw [6] (fun i wr => ∃ (q : Nat), q ≤ k ∧ i = .int .i64 q ∧ Hid (hasF (l.take q) m.id = false) ∧ Below (wo.alloc (mtBox m)).heap.size (wo.alloc (mtBox m)) wr) (fun i _ => k - (intOf i).toNat)
          case atStart => exact ⟨0, Nat.zero_le _, rfl, Lib.hid rfl, Below.refl _ _⟩
          case round =>
            clear x0 x1 x2 x3 x4 m0 m1 m2 m3 m4
            obtain ⟨q, hq, rfl, hf, hb⟩ := hrel
            obtain ⟨d0, d1, d2, d3, d4⟩ := mtbox hb
            have hb5 : Below (w.heap.size + 1) (w.alloc (.cells #[.int .i64 day, .int .i64 ans, .int .i64 app, .slice ho H.length hc, .slice (some ⟨bm, off, none⟩) l.length mc] 30)) wr := (HB.out.alloc hsr _).trans (hb.mono (by simp; omega))
            obtain ⟨y0, y1, y2, y3, y4, hsy⟩ := box5 hb5
            have HMQ := Lib.hid (HMW.out.next hb)
            have HB5 := Lib.hid hb5
            have HBQ := Lib.hid hb
            clear hb5 hb
            by_cases hqlt : q < k
            · obtain ⟨b2, off2, heq, hbw2, hc0⟩ := HMQ.out.cells (by omega)
              obtain ⟨rfl, rfl⟩ : b2 = bm ∧ off2 = off := by simp at heq; exact ⟨heq.1.symm, heq.2.symm⟩
              obtain ⟨z0, -, -, -, -⟩ := hc0 q (by omega)
              have hs := fun h => hasnt_snoc (l := l) (q := q) (id := m.id) (by omega) h hf.out
              have hh := fun h => has_take (l := l) (id := m.id) hqlt hk h
              obtain ⟨x, hx⟩ : ∃ x, (l.getD q default).id = x := ⟨_, rfl⟩
              rw [hx] at z0 hs hh
              have hq0 : (0 : Int) ≤ (q : Int) := Int.natCast_nonneg _
              have hq1 : (q : Int) < (l.length : Int) := by omega
              have hq2 : (q : Int) < (k : Int) := by omega
              clear hc0 heq hx hf
              by_cases he : x = m.id
              · have HH := Lib.hid (hh he)
                have he2 : (x == m.id) = true := by simpa using he
                clear hh hs he
                go_wp2_with fail
                go_region_held3 (fun w' => w'.cell? ⟨w.heap.size, 4, none⟩ = some (.slice (some ⟨b2, off2, none⟩) l.length mc) ∧ w'.cell? ⟨b2, off2 + q * 5, none⟩ = some (.int .i64 x) ∧ w'.cell? ⟨wo.heap.size, 0, none⟩ = some (.int .i64 m.id)) (go_keep) (fail)
                go_wp2_with fail
                go_ret
                refine ⟨?_, below_box HB5.out.drew⟩
                have := HST.out
                rw [HH.out, if_pos rfl] at this
                rw [this]
                rfl
              · have HS := Lib.hid (hs he)
                have he2 : (x == m.id) = false := by simpa using he
                clear hh hs he
                go_wp2_with fail
                go_region_held3 (fun w' => w'.cell? ⟨w.heap.size, 4, none⟩ = some (.slice (some ⟨b2, off2, none⟩) l.length mc) ∧ w'.cell? ⟨b2, off2 + q * 5, none⟩ = some (.int .i64 x) ∧ w'.cell? ⟨wo.heap.size, 0, none⟩ = some (.int .i64 m.id)) (go_keep) (fail)
                go_wp2_with fail
                go_roundw
                case rel => exact ⟨q + 1, hqlt, by go_num, HS, HBQ.out.drew⟩
                case measure => simp [intOf]; omega
            · obtain rfl : q = k := by omega
              have hst := HST.out
              rw [hf.out, if_neg (by simp)] at hst
              clear hf HST
              cases hs : soundF day m
              · rw [hs, if_pos rfl] at hst
                subst hst
                have HS := Lib.hid (bad_at ans app ho (some ⟨bm, off, none⟩) H.length hc l.length mc hs)
                clear hs
                go_wp2_with (go_at_call 41
                             go_must (refine (HS.out _).mono ?_)
                             rintro e w6 ⟨rfl, hb6⟩
                             have HB6 := Lib.hid (HB5.out.trans (hb6.mono (by omega)))
                             clear hb6)
                go_ret
                exact ⟨rfl, below_box HB6.out⟩
              · rw [hs, if_neg (by simp)] at hst
                have HST := Lib.hid hst
                have HS := Lib.hid (bad_at ans app ho (some ⟨bm, off, none⟩) H.length hc l.length mc hs)
                clear hs hst
                go_wp2_with (go_at_call 41
                             go_must (refine (HS.out _).mono ?_)
                             rintro e w6 ⟨rfl, hb6⟩
                             have HB6 := Lib.hid (HB5.out.trans (hb6.mono (by omega)))
                             clear hb6)
                go_roundw
                case rel => exact ⟨q + 1, hlt, by go_num, Lib.hid HST.out.symm, HB6.out⟩
                case measure => simp [intOf]; omega
        · obtain rfl : k = l.length := by omega
          have hf2 := hf.out
          rw [Nat.sub_self] at hf2
          have HF2 : Hid ((0 : Int) = R) := Lib.hid hf2
          have HB := Lib.hid hb
          clear hf hf2 hb
          go_wp2_with fail
          go_ret
          exact ⟨by rw [← HF2.out]; rfl, below_box HB.out⟩
  · rw [if_pos ht] at hR
    rw [hR] at HT ht
    have hq : (R != 0) = true := by simpa using ht
    clear hR ht
    go_enter Try.func24, Try.ntmps24
    go_wp2_with fail
    refine (HT.out _).mono ?_
    rintro e w3 ⟨rfl, hb3⟩
    obtain ⟨x0, x1, x2, x3, x4, hsr⟩ := box5 (w := w) (by simpa using hb3)
    have HB := Lib.hid hb3
    clear hb3
    go_wp2_with fail
    go_ret
    exact ⟨rfl, below_box (by simpa using HB.out)⟩
end Go.Proofs.Ytpddpdkdlodniaa
