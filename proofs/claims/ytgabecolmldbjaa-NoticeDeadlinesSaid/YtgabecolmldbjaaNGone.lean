/-
  The reference's gone: whether a loss is in the list.
-/
import Derived.Test.YtgabecolmldbjaaNLatest
import Derived.Lib.Hide
namespace Go.Proofs.Ytgabecolmldbjaa
open Go.RowKit

theorem take_succ_mem {α : Type} {l : List α} {k : Nat} (h : k < l.length) {d x : α} (hx : x ∉ l.take k) (hne : l.getD k d ≠ x) : x ∉ l.take (k + 1) := by
  rw [List.take_succ_eq_append_getElem h]
  simp only [List.mem_append, List.mem_singleton, not_or]
  refine ⟨hx, fun e => hne ?_⟩
  simp [List.getD, h, e]

end Go.Proofs.Ytgabecolmldbjaa
