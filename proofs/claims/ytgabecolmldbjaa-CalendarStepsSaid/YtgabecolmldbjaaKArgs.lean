/-
  How the arguments of the calendar's laws read: slices of ints and of bytes, numbers.
-/
import Derived.Test.YtgabecolmldbjaaRows
import Derived.Test.YtgabecolmldbjaaFrame
import Derived.Test.YtgabecolmldbjaaKKit
namespace Go.Proofs.Ytgabecolmldbjaa
open Go.ChangeShapes Go.WideShapes Go.ChangeAt Go.RowKit
section
variable {H : Type} {enc : TypeId × Value → H} {w : World} {base : Nat} {spare : Nat → Bool} {held : Bool} {fuel : Nat} {x : DataW H × List MemPlace}

theorem Try.own : ownKnob Try.prog.godebug = none := by kernel_rfl
theorem Try.laidOut : laidOutB Try.prog = true := by kernel_rfl
theorem Try.cells5 : Try.prog.cellsOf 5 = 1 := by kernel_rfl
theorem Try.cells3 : Try.prog.cellsOf 3 = 1 := by kernel_rfl

variable {r : Reach} {b0 : Nat} {v : Value} {d : DataW H} {p : List MemPlace}

/-- A slice of ints that came in. -/
theorem open_ints (hv : Value.okWide Try.prog w r b0 25 v) (h : DataW.Trod enc Try.prog w base spare held 25 v d p) :
    ∃ (ao : Option Addr) (cap : Nat) (l : List Int), v = .slice ao l.length cap ∧ (∀ y ∈ l, (Lit.int .i64 y).wf = true) ∧ Ints w ao l := by
  obtain ⟨ao, cap, l, rfl, hg, hl, _⟩ := open_flat (α := Int) (fun y _ => .int .i64 y) (fun y => (Lit.int .i64 y).wf = true) Try.underlying25 Try.cells3 (by omega)
    (fun fuel cs x h => by
      obtain ⟨a, hcs, _, wa⟩ := DataW.trod_int Try.underlying3 h
      exact ⟨a, wa, fun j hj => by
        have : j = 0 := by omega
        subst this
        rw [hcs]
        rfl⟩) hv h
  exact ⟨ao, cap, l, rfl, hg, hl⟩

/-- A slice of bytes that came in. -/
theorem open_u8s (hv : Value.okWide Try.prog w r b0 35 v) (h : DataW.Trod enc Try.prog w base spare held 35 v d p) :
    ∃ (ao : Option Addr) (cap : Nat) (l : List Int), v = .slice ao l.length cap ∧ (∀ i, 0 ≤ l.getD i 0 ∧ l.getD i 0 ≤ 255) ∧ U8s w ao l := by
  obtain ⟨ao, cap, l, rfl, hg, hl, _⟩ := open_flat (α := Int) (fun y _ => .int .u8 y) (fun y => 0 ≤ y ∧ y ≤ 255) Try.underlying35 Try.cells5 (by omega)
    (fun fuel cs x h => by
      obtain ⟨a, hcs, _, wa⟩ := DataW.trod_int Try.underlying5 h
      exact ⟨a, bounds_u8 wa, fun j hj => by
        have : j = 0 := by omega
        subst this
        rw [hcs]
        rfl⟩) hv h
  refine ⟨ao, cap, l, rfl, fun i => ?_, hl⟩
  by_cases hi : i < l.length
  · have := hg (l[i]) (List.getElem_mem hi)
    simpa [List.getD, hi] using this
  · simp [List.getD, hi]

theorem bounds_i64 {n : Int} (h : (Lit.int .i64 n).wf = true) : -9223372036854775808 ≤ n ∧ n ≤ 9223372036854775807 := by
  have e1 : IntKind.i64.min = -9223372036854775808 := rfl
  have e2 : IntKind.i64.max = 9223372036854775807 := rfl
  simp only [Lit.wf, Bool.and_eq_true, decide_eq_true_eq] at h
  omega
end
end Go.Proofs.Ytgabecolmldbjaa
