/-
  What the law on the errors of Append needs besides.
-/
import Derived.Test.YtkbdbinafjmjkaaJOn0
import Derived.Test.YtkbdbinafjmjkaaDArgs
namespace Go.Proofs.Ytkbdbinafjmjkaa
open Go.RowKit

/-- The records of the law: one of m zeros among empty ones. -/
def errB (n i m : Nat) : List (List Int) := (List.replicate n []).set i (List.replicate m 0)
theorem err_len (n i m : Nat) : (errB n i m).length = n := by simp [errB]
theorem err_get (n i m j : Nat) (hj : j < n) : (errB n i m).getD j [] = if i = j then List.replicate m 0 else [] := by
  simp only [errB, List.getD, List.getElem?_set, List.getElem?_replicate]
  by_cases h : i = j
  · subst h
    simp [hj]
  · simp [h, hj]
theorem err_long (n i m : Nat) (hi : i < n) : longF (errB n i m) = decide (4096 < (m : Int)) := by
  by_cases hm : 4096 < (m : Int)
  · rw [decide_eq_true hm]
    unfold longF
    rw [List.any_eq_true]
    refine ⟨List.replicate m 0, ?_, by simpa using hm⟩
    have h := err_get n i m i hi
    rw [if_pos rfl] at h
    rw [← h]
    exact getD_memL _ _ (by rw [err_len]; exact hi)
  · rw [decide_eq_false hm]
    unfold longF
    rw [List.any_eq_false]
    intro r hr
    obtain ⟨j, hj, rfl⟩ := List.getElem_of_mem hr
    rw [err_len] at hj
    have h := err_get n i m j hj
    simp only [List.getD, List.getElem?_eq_getElem (show j < (errB n i m).length by rw [err_len]; exact hj), Option.getD_some] at h
    rw [h]
    split
    · simp; omega
    · simp
theorem err_bytes (n i m : Nat) : ∀ r ∈ errB n i m, Bytes r := by
  intro r hr
  obtain ⟨j, hj, rfl⟩ := List.getElem_of_mem hr
  rw [err_len] at hj
  have h := err_get n i m j hj
  simp only [List.getD, List.getElem?_eq_getElem (show j < (errB n i m).length by rw [err_len]; exact hj), Option.getD_some] at h
  rw [h]
  split
  · exact zeros_ok m
  · intro x hx; cases hx
theorem err_flat (n i m : Nat) : (errB n i m).flatten.length ≤ m := by
  unfold errB
  induction n generalizing i with
  | zero => simp
  | succ n ih =>
    cases i with
    | zero =>
      rw [List.replicate_succ, List.set_cons_zero, List.flatten_cons, List.length_append]
      have : ∀ k : Nat, (List.replicate k ([] : List Int)).flatten = [] := fun k => by simp
      rw [this]
      simp
    | succ i =>
      rw [List.replicate_succ, List.set_cons_succ, List.flatten_cons, List.length_append]
      have := ih i
      simpa using this

theorem make_rows (n : Nat) (hn : n ≤ 1000) (W : World) : (Instr.makeSlice 55 (.int .i64 (n : Int)) (.int .i64 (n : Int))).run Try.prog W = .ok (.slice (some ⟨W.heap.size, 0, none⟩) n n) (W.alloc (.cells (madeCells #[.slice none 0 0] n) 30)) := by
  obtain ⟨i0, hi, hz0, hz1, hz2⟩ := info_parts Try.infoBytes
  have := run_make (P := Try.prog) W 55 30 i0 (.slice none 0 0) Try.underlying55 hi hz0 .i64 .i64 n n (by omega) (Int.le_refl _) (by rw [hz2]; omega) (by omega)
  simp only [Int.toNat_natCast, hz1, Nat.mul_one] at this
  exact this

theorem err_fits (EB : List (List Int)) (n m : Nat) (hel : EB.length = n) (hef : EB.flatten.length ≤ m) (hm : (m : Int) ≤ 4096) (hn : (n : Int) ≤ 16) : ((framesF ([] : List (List (List Int)))).length : Int) + (frameF EB).length ≤ 262144 := by
  have h := frame_len EB
  show ((0 : Nat) : Int) + ((frameF EB).length : Int) ≤ 262144
  omega
theorem err_good (EB : List (List Int)) (n : Nat) (hel : EB.length = n) (h0 : 0 < n) (hn : (n : Int) ≤ 16) (hl : longF EB = false) (hb : ∀ r ∈ EB, Bytes r) : Good EB := ⟨by omega, by omega, hl, hb⟩
theorem wrap64_small {x : Int} (h0 : 0 ≤ x) (h1 : x ≤ 100000) : wrap64 x = x := by unfold wrap64; omega
theorem i64_small {x : Int} (h0 : 0 ≤ x) (h1 : x ≤ 100000) : IntKind.i64.wrap x = x := IntWalk.i64_in _ ⟨by omega, by omega⟩

/-- The law's slice once its one record is made. -/
theorem err_recs (W : World) (n i m : Nat) (N : Nat → Prop) (hN : ∀ k, W.heap.size ≤ k → N k) (b : Nat) (hNb : N b) (hb : Box W b 30 (madeCells #[.slice none 0 0] n)) :
    RecsN ((W.setCell ⟨b, i, none⟩ (.slice (some ⟨W.heap.size, 0, none⟩) m m)).alloc (.cells (madeCells #[.int .u8 0] m) 5)).drew N (some ⟨b, 0, none⟩) (errB n i m) := by
  have h1 := hb.set i (.slice (some ⟨W.heap.size, 0, none⟩) m m)
  have hsz : (W.setCell ⟨b, i, none⟩ (.slice (some ⟨W.heap.size, 0, none⟩) m m)).heap.size = W.heap.size := by simp [World.setCell]
  have h2 : Box ((W.setCell ⟨b, i, none⟩ (.slice (some ⟨W.heap.size, 0, none⟩) m m)).alloc (.cells (madeCells #[.int .u8 0] m) 5)).drew b 30 _ := h1.next (((Below.refl _ _).alloc (Nat.le_refl _) _).drew)
  have hy0 := byt_made (W.setCell ⟨b, i, none⟩ (.slice (some ⟨W.heap.size, 0, none⟩) m m)) 5 m
  rw [hsz] at hy0
  have hy : BytN ((W.setCell ⟨b, i, none⟩ (.slice (some ⟨W.heap.size, 0, none⟩) m m)).alloc (.cells (madeCells #[.int .u8 0] m) 5)).drew N (some ⟨W.heap.size, 0, none⟩) (List.replicate m 0) := (hy0.next ((Below.refl _ _).drew)).withN fun k off hk _ => by
    cases hk
    exact hN _ (Nat.le_refl _)
  refine .inr ⟨b, 0, rfl, h2.lt, hNb, fun j hj => ?_⟩
  rw [err_len] at hj
  rw [Nat.zero_add, h2.cell j, err_get n i m j hj]
  have hcs : (madeCells #[.slice none 0 0] n).size = n := by simp [madeCells]
  by_cases hij : i = j
  · subst hij
    rw [if_pos rfl, List.length_replicate]
    refine ⟨some ⟨W.heap.size, 0, none⟩, m, by rw [Array.getElem?_setIfInBounds]; simp [hcs, hj], ?_⟩
    exact hy
  · rw [if_neg hij]
    refine ⟨none, 0, ?_, .inl rfl⟩
    rw [Array.getElem?_setIfInBounds, if_neg hij]
    have hl := toList_madeCells_one (.slice none 0 0) n
    rw [← Array.getElem?_toList, hl]
    simp [hj]
end Go.Proofs.Ytkbdbinafjmjkaa
