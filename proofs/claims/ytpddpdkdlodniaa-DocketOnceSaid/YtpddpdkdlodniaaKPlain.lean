/-
  The calendar in plain Lean: business days are counted; no program is in sight here.
-/
import Derived.Test.YtpddpdkdlodniaaPlain
import Derived.Lib.SlicesCompact
import Derived.Lib.RowBridge
namespace Go.Proofs.Ytpddpdkdlodniaa
open Go.RowKit

/-- A day that is worked on: within the calendar, no weekend, no holiday. -/
def business (H : List Int) (d : Int) : Bool := decide (0 ≤ d) && decide (d ≤ 1048576) && decide (d % 7 < 5) && !decide (d ∈ H)

/-- How many business days there are before day n. -/
def cnt (H : List Int) (n : Nat) : Nat := (List.range n).countP fun (i : Nat) => business H (i : Int)

theorem cnt_zero (H : List Int) : cnt H 0 = 0 := rfl
theorem cnt_succ (H : List Int) (n : Nat) : cnt H (n + 1) = cnt H n + (if business H (n : Int) then 1 else 0) := by
  simp [cnt, List.range_succ, List.countP_append, List.countP_cons]
theorem cnt_mono (H : List Int) {m n : Nat} (h : m ≤ n) : cnt H m ≤ cnt H n := by
  obtain ⟨k, rfl⟩ := Nat.le.dest h
  induction k with
  | zero => exact Nat.le_refl _
  | succ k ih =>
    have := cnt_succ H (m + k)
    rw [← Nat.add_assoc, this]
    exact Nat.le_trans (ih (by omega)) (Nat.le_add_right _ _)
theorem cnt_le (H : List Int) (n : Nat) : cnt H n ≤ n := by
  have := List.countP_le_length (p := fun i : Nat => business H (i : Int)) (l := List.range n)
  simpa [cnt] using this
theorem cnt_step (H : List Int) (n : Nat) : cnt H (n + 1) ≤ cnt H n + 1 := by
  rw [cnt_succ]
  split <;> omega
theorem cnt_same {H K : List Int} (h : ∀ x, x ∈ H ↔ x ∈ K) (n : Nat) : cnt H n = cnt K n := by
  have : business H = business K := by
    funext d
    simp only [business, h d]
  simp [cnt, this]

/-- The sorted list of the holidays that fall on working days. -/
structure Closed (H C : List Int) : Prop where
  mem : ∀ x, x ∈ C ↔ x ∈ H ∧ 0 ≤ x ∧ x ≤ 1048576 ∧ x % 7 < 5
  asc : C.Pairwise (· < ·)
  len : C.length ≤ H.length

theorem count_step {C : List Int} (h : C.Pairwise (· < ·)) (n : Int) : C.countP (fun y => decide (y < n + 1)) = C.countP (fun y => decide (y < n)) + (if n ∈ C then 1 else 0) := by
  induction C with
  | nil => rfl
  | cons a C ih =>
    obtain ⟨h1, h2⟩ := List.pairwise_cons.1 h
    have ih := ih h2
    simp only [List.countP_cons, ih, List.mem_cons]
    by_cases han : a = n
    · subst han
      have hn : a ∉ C := fun hm => by have := h1 a hm; omega
      simp [hn]
      omega
    · have hne : ¬ n = a := fun e => han e.symm
      simp only [hne, false_or]
      by_cases hlt : a < n
      · have : a < n + 1 := by omega
        simp [hlt, this]
        omega
      · have : ¬ a < n + 1 := by omega
        simp [hlt, this]

/-- What 'before' computes is the number of business days before a day. -/
theorem before_law {H C : List Int} (h : Closed H C) (n : Nat) (hn : n ≤ 1048577) :
    (n : Int) / 7 * 5 + (if (n : Int) % 7 ≤ 5 then (n : Int) % 7 else 5) - (C.countP (fun y => decide (y < (n : Int))) : Nat) = (cnt H n : Nat) := by
  induction n with
  | zero =>
    have : C.countP (fun y => decide (y < 0)) = 0 := by
      rw [List.countP_eq_zero]
      intro x hx
      have := ((h.mem x).1 hx).2.1
      simp
      omega
    simp [cnt_zero, this]
  | succ n ih =>
    have ih := ih (by omega)
    have hs := count_step h.asc (n : Int)
    rw [show ((n + 1 : Nat) : Int) = (n : Int) + 1 by omega, hs, cnt_succ]
    have hb : business H (n : Int) = (decide ((n : Int) % 7 < 5) && !decide ((n : Int) ∈ C)) := by
      have hm := h.mem (n : Int)
      have h0 : (0 : Int) ≤ (n : Int) := by omega
      have h1 : (n : Int) ≤ 1048576 := by omega
      by_cases hw : (n : Int) % 7 < 5
      · simp only [business, h0, h1, hw, hm, decide_true, Bool.true_and, and_true]
      · simp [business, hw]
    have hm := h.mem (n : Int)
    by_cases hw : (n : Int) % 7 < 5
    · by_cases hc : (n : Int) ∈ C
      · simp only [hb, hw, hc, decide_true, Bool.not_true, Bool.and_false, if_true, Bool.false_eq_true, if_false]
        split at ih <;> split <;> omega
      · simp only [hb, hw, hc, decide_true, decide_false, Bool.not_false, Bool.and_true, if_true, if_false]
        split at ih <;> split <;> omega
    · have hc : (n : Int) ∉ C := fun hx => hw (hm.1 hx).2.2.2
      simp only [hb, hw, hc, decide_false, Bool.false_and, Bool.false_eq_true, if_false]
      split at ih <;> split <;> omega

theorem cnt_low {H C : List Int} (h : Closed H C) (n : Nat) (hn : n ≤ 1048577) : (n : Int) / 7 * 5 - (H.length : Int) ≤ (cnt H n : Nat) := by
  have h1 := before_law h n hn
  have h2 := List.countP_le_length (p := fun y : Int => decide (y < (n : Int))) (l := C)
  have h3 := h.len
  split at h1 <;> omega

/-- Day d (and error e) is the business day that has T business days before it. -/
def NthIs (H : List Int) (T d e : Int) : Prop :=
  (∃ n : Nat, d = n ∧ n ≤ 1048576 ∧ (cnt H n : Int) ≤ T ∧ T < (cnt H (n + 1) : Int) ∧ e = 0) ∨ ((cnt H 1048577 : Int) ≤ T ∧ d = 0 ∧ e = 1)

theorem nth_unique {H : List Int} {T d e d' e' : Int} (h : NthIs H T d e) (h' : NthIs H T d' e') : d = d' ∧ e = e' := by
  rcases h with ⟨n, rfl, hn, h1, h2, rfl⟩ | ⟨h1, rfl, rfl⟩ <;> rcases h' with ⟨m, rfl, hm, k1, k2, rfl⟩ | ⟨k1, rfl, rfl⟩
  · refine ⟨?_, rfl⟩
    have a : ¬ n < m := fun hlt => by have := cnt_mono H (show n + 1 ≤ m from hlt); omega
    have b : ¬ m < n := fun hlt => by have := cnt_mono H (show m + 1 ≤ n from hlt); omega
    omega
  · have := cnt_mono H (show n + 1 ≤ 1048577 by omega)
    omega
  · have := cnt_mono H (show m + 1 ≤ 1048577 by omega)
    omega
  · exact ⟨rfl, rfl⟩

theorem nth_ok {H C : List Int} (h : Closed H C) {T d e : Int} (hN : NthIs H T d e) (hT : T + (H.length : Int) < 748980) : ∃ n : Nat, d = n ∧ e = 0 ∧ (cnt H n : Int) = T ∧ (cnt H (n + 1) : Int) = T + 1 ∧ business H d = true ∧ (n : Int) / 7 * 5 - (H.length : Int) ≤ T := by
  rcases hN with ⟨n, rfl, hn, h1, h2, rfl⟩ | ⟨h1, rfl, rfl⟩
  · have hs := cnt_succ H n
    have hlow := cnt_low h n (by omega)
    by_cases hb : business H (n : Int)
    · rw [if_pos hb] at hs
      exact ⟨n, rfl, rfl, by omega, by omega, hb, by omega⟩
    · rw [if_neg hb] at hs
      omega
  · have := cnt_low h 1048577 (by omega)
    omega
end Go.Proofs.Ytpddpdkdlodniaa
