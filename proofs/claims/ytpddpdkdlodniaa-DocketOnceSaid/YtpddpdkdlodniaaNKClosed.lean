/-
  Sorting and compacting the holidays on working days gives the list that 'before' and 'nth' search.
-/
import Derived.Test.YtpddpdkdlodniaaKPlain
namespace Go.Proofs.Ytpddpdkdlodniaa
open Go.RowKit

def le (x y : Int) : Bool := decide (x ≤ y)

theorem mem_compact_iff (zs : List Int) (x : Int) : x ∈ Lib.compact zs ↔ x ∈ zs := by
  have hget : ∀ i, (h : i < zs.length) → zs.toArray[i]! = zs[i] := fun i h => by simp [h]
  have hm : x ∈ Lib.compact zs ↔ ∃ i, i < zs.length ∧ Lib.keeps zs.toArray i = true ∧ zs.toArray[i]! = x := by
    unfold Lib.compact Lib.compactUpTo
    simp only [List.mem_map, List.mem_filter, List.mem_range, and_assoc]
  rw [hm]
  constructor
  · rintro ⟨i, hi, _, rfl⟩
    rw [hget i hi]
    exact List.getElem_mem hi
  · intro hx
    obtain ⟨i, hi, rfl⟩ := List.getElem_of_mem hx
    clear hm hx
    induction i with
    | zero => exact ⟨0, hi, by simp [Lib.keeps], hget 0 hi⟩
    | succ i ih =>
      by_cases he : zs[i + 1] = zs[i]
      · obtain ⟨k, hk, h1, h2⟩ := ih (by omega)
        exact ⟨k, hk, h1, by rw [h2, he]⟩
      · exact ⟨i + 1, hi, by simp only [Lib.keeps, Nat.add_sub_cancel, hget (i + 1) hi, hget i (by omega)]; simp [he], hget _ hi⟩

theorem compact_asc (zs : List Int) (h : zs.Pairwise (· ≤ ·)) : (Lib.compact zs).Pairwise (· < ·) := by
  have hget : ∀ i, (h : i < zs.length) → zs.toArray[i]! = zs[i] := fun i h => by simp [h]
  have hle : ∀ i j, (hij : i ≤ j) → (hj : j < zs.length) → zs[i]'(Nat.lt_of_le_of_lt hij hj) ≤ zs[j] := fun i j hij hj => by
    rcases Nat.lt_or_ge i j with hlt | hge
    · exact List.pairwise_iff_getElem.1 h i j (by omega) hj hlt
    · obtain rfl : i = j := by omega
      exact Int.le_refl _
  unfold Lib.compact Lib.compactUpTo
  rw [List.pairwise_map, List.pairwise_filter]
  refine List.Pairwise.imp_of_mem ?_ List.pairwise_lt_range
  intro i j hi hj hij _ hk
  rw [List.mem_range] at hi hj
  have h1 : zs[j] ≠ zs[j - 1] := by
    have := hk
    simp only [Lib.keeps, decide_eq_true_eq, hget j hj, hget (j - 1) (by omega)] at this
    rcases this with h0 | h0
    · omega
    · exact h0
  have h2 := hle i (j - 1) (by omega) (by omega)
  have h3 := hle (j - 1) j (by omega) hj
  rw [hget i hi, hget j hj]
  omega

/-- Holidays on working days. -/
def onWork (x : Int) : Bool := decide (0 ≤ x) && decide (x ≤ 1048576) && decide (x % 7 < 5)

theorem closed_of (H : List Int) : Closed H (Lib.compact ((H.filter onWork).mergeSort fun x y => decide (x ≤ y))) := by
  refine ⟨fun x => ?_, compact_asc _ ?_, ?_⟩
  · rw [mem_compact_iff, List.mem_mergeSort, List.mem_filter]
    simp [onWork, and_assoc]
  · have := List.pairwise_mergeSort (le := fun x y : Int => decide (x ≤ y)) (fun a b c h1 h2 => by simp at *; omega) (fun a b => by simp; omega) (H.filter onWork)
    simpa using this
  · refine Nat.le_trans (Lib.compact_length_le _) ?_
    rw [List.length_mergeSort]
    exact List.length_filter_le _ _

theorem filter_take (H : List Int) (k : Nat) (h : k < H.length) : (H.take (k + 1)).filter onWork = (H.take k).filter onWork ++ (if onWork (H.getD k 0) then [H.getD k 0] else []) := by
  rw [List.take_succ_eq_append_getElem h, List.filter_append]
  have : H.getD k 0 = H[k] := by simp [List.getD, h]
  rw [this]
  by_cases hb : onWork H[k] <;> simp [hb]
end Go.Proofs.Ytpddpdkdlodniaa
