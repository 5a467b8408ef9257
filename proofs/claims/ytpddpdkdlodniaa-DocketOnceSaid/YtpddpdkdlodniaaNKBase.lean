/-
  Contracts: days, days of the week.
-/
import Derived.Test.YtpddpdkdlodniaaKPlain
import Derived.Test.YtpddpdkdlodniaaProg
import Derived.Lib.Hide
import Derived.Deep.DeepMust
namespace Go.Proofs.Ytpddpdkdlodniaa
open Go.RowKit

theorem tmod7 (d : Int) : (0 ≤ d ∨ d % 7 = 0) ∧ d.tmod 7 = d % 7 ∨ d < 0 ∧ d % 7 ≠ 0 ∧ d.tmod 7 = d % 7 - 7 := by
  have h : d.tmod 7 = _ := Int.tmod_eq_emod
  by_cases h0 : 0 ≤ d
  · left
    simp [h0] at h
    exact ⟨.inl h0, h⟩
  · by_cases h7 : d % 7 = 0
    · left
      have : (7 : Int) ∣ d := Int.dvd_of_emod_eq_zero h7
      simp [this] at h
      exact ⟨.inr h7, by omega⟩
    · right
      have : ¬ (7 : Int) ∣ d := fun hd => h7 (Int.emod_eq_zero_of_dvd hd)
      simp [h0, this] at h
      exact ⟨by omega, h7, h⟩
theorem tmod7_bd (d : Int) : -6 ≤ d.tmod 7 ∧ d.tmod 7 ≤ 6 := by
  have := tmod7 d
  omega
theorem mod7_eq (d : Int) : (d.tmod 7 + 7).tmod 7 = d % 7 := by
  have h1 := tmod7 d
  have h2 := tmod7 (d.tmod 7 + 7)
  omega
theorem mod7_ref (d : Int) : (if d.tmod 7 < 0 then d.tmod 7 + 7 else d.tmod 7) = d % 7 := by
  have h1 := tmod7 d
  split <;> omega

set_option maxHeartbeats 400000 in
theorem weekday_any (d : Int) (w : World) : Calls Try.prog 81 #[.int .i64 d] w fun e w' => e = .returned (.int .i64 (d % 7)) ∧ w = w' := by
  have hm := mod7_eq d
  obtain ⟨h1, h2⟩ := tmod7_bd d
  go_enter Try.func81, Try.ntmps81
  go_wp2_with fail
  go_ret
  exact ⟨rfl, rfl⟩

set_option maxHeartbeats 400000 in
theorem weekdayR_any (d : Int) (w : World) : Calls Try.prog 87 #[.int .i64 d] w fun e w' => e = .returned (.int .i64 (d % 7)) ∧ w = w' := by
  have hm := mod7_ref d
  obtain ⟨h1, h2⟩ := tmod7_bd d
  by_cases hn : d.tmod 7 < 0
  · rw [if_pos hn] at hm
    go_enter Try.func87, Try.ntmps87
    go_wp2_with fail
    go_ret
    exact ⟨rfl, rfl⟩
  · rw [if_neg hn] at hm
    rw [hm] at hn h1 h2
    have hn0 : 0 ≤ d % 7 := by omega
    go_enter Try.func87, Try.ntmps87
    go_wp2_with fail
    go_ret
    exact ⟨rfl, rfl⟩

/-- Is a number a day? -/
def isDayF (d : Int) : Bool := decide (0 ≤ d) && decide (d ≤ 1048576)

set_option maxHeartbeats 400000 in
theorem isDay_any (d : Int) (w : World) : Calls Try.prog 65 #[.int .i64 d] w fun e w' => e = .returned (.bool (isDayF d)) ∧ w = w' := by
  have hside : (0 ≤ d ∧ d ≤ 1048576) ∨ (0 ≤ d ∧ ¬ d ≤ 1048576) ∨ ¬ 0 ≤ d := by omega
  rcases hside with ⟨h1, h2⟩ | ⟨h1, h2⟩ | h1
  all_goals
    go_enter Try.func65, Try.ntmps65
    go_wp2_with fail
    go_ret
    exact ⟨by simp [isDayF] <;> omega, rfl⟩

set_option maxHeartbeats 400000 in
theorem isDayR_any (d : Int) (w : World) : Calls Try.prog 69 #[.int .i64 d] w fun e w' => e = .returned (.bool (isDayF d)) ∧ w = w' := by
  have hside : (0 ≤ d ∧ d ≤ 1048576) ∨ (0 ≤ d ∧ ¬ d ≤ 1048576) ∨ ¬ 0 ≤ d := by omega
  rcases hside with ⟨h1, h2⟩ | ⟨h1, h2⟩ | h1
  all_goals
    go_enter Try.func69, Try.ntmps69
    go_wp2_with fail
    go_ret
    exact ⟨by simp [isDayF] <;> omega, rfl⟩

/-- A slice of ints. -/
def Ints (w : World) (ao : Option Addr) (l : List Int) : Prop := LiesAt w ao 1 l.length (fun i _ => .int .i64 (l.getD i 0))
theorem Ints.next {w w' : World} {ao : Option Addr} {l : List Int} (h : Ints w ao l) (hb : Below w.heap.size w w') : Ints w' ao l := LiesAt.below h hb (Nat.le_refl _)
theorem Ints.cells {w : World} {ao : Option Addr} {l : List Int} (h : Ints w ao l) (hl : 0 < l.length) : ∃ b off, ao = some ⟨b, off, none⟩ ∧ b < w.heap.size ∧ ∀ i, i < l.length → w.cell? ⟨b, off + i, none⟩ = some (.int .i64 (l.getD i 0)) := by
  rcases h with h | ⟨b, off, rfl, hb, hc⟩
  · omega
  · exact ⟨b, off, rfl, hb, fun i hi => by have := hc i hi 0 (by omega); rwa [Nat.mul_one, Nat.add_zero] at this⟩
end Go.Proofs.Ytpddpdkdlodniaa
