/-
  How the arguments of NoticeDeadlines read: services, slices of ints, of bytes and of 16-bit numbers, numbers.
-/
import Derived.Test.YtgabecolmldbjaaRows
import Derived.Test.YtgabecolmldbjaaFrame
import Derived.Test.YtgabecolmldbjaaKLawN
namespace Go.Proofs.Ytgabecolmldbjaa
open Go.ChangeShapes Go.WideShapes Go.ChangeAt Go.RowKit
section
variable {H : Type} {enc : TypeId × Value → H} {w : World} {base : Nat} {spare : Nat → Bool} {held : Bool} {fuel : Nat} {x : DataW H × List MemPlace}

theorem Try.own : ownKnob Try.prog.godebug = none := by kernel_rfl
theorem Try.cells5 : Try.prog.cellsOf 5 = 1 := by kernel_rfl
theorem Try.cells3 : Try.prog.cellsOf 3 = 1 := by kernel_rfl
theorem Try.cells4 : Try.prog.cellsOf 4 = 1 := by kernel_rfl
theorem Try.cells38 : Try.prog.cellsOf 38 = 1 := by kernel_rfl
theorem Try.cells45 : Try.prog.cellsOf 45 = 4 := by kernel_rfl

theorem read_service {cs : List Value} (h : DataW.trod enc Try.prog w base spare held fuel 45 cs = some x) :
    ∃ a b c d, cs[0]? = some (.int .i64 a) ∧ cs[1]? = some (.int .i64 b) ∧ cs[2]? = some (.int .i64 c) ∧ cs[3]? = some (.bool d) := by
  obtain ⟨a, ha, _⟩ := field_int (i := 0) Try.underlying45 h rfl Try.cells3 Try.underlying3
  obtain ⟨b, hb, _⟩ := field_int (i := 1) Try.underlying45 h rfl Try.cells3 Try.underlying3
  obtain ⟨c, hc, _⟩ := field_int (i := 2) Try.underlying45 h rfl Try.cells3 Try.underlying3
  obtain ⟨d, hd⟩ := field_bool (i := 3) Try.underlying45 h rfl Try.cells4 Try.underlying4
  exact ⟨a, b, c, d, ha, hb, hc, hd⟩

variable {r : Reach} {b0 : Nat} {v : Value} {d : DataW H} {p : List MemPlace}

/-- A slice of ints that came in. -/
theorem open_ints (hv : Value.okWide Try.prog w r b0 25 v) (h : DataW.Trod enc Try.prog w base spare held 25 v d p) :
    ∃ (ao : Option Addr) (cap : Nat) (l : List Int), v = .slice ao l.length cap ∧ (∀ y ∈ l, (Lit.int .i64 y).wf = true) ∧ Ints w ao l := by
  obtain ⟨ao, cap, l, rfl, hg, hl, _⟩ := open_flat (α := Int) (fun y _ => .int .i64 y) (fun y => (Lit.int .i64 y).wf = true) Try.underlying25 Try.cells3 (by omega)
    (fun fuel cs x h => by
      obtain ⟨a, hcs, _, wa⟩ := DataW.trod_int Try.underlying3 h
      exact ⟨a, wa, fun j hj => by
        have : j = 0 := by omega
        subst this
        rw [hcs]
        rfl⟩) hv h
  exact ⟨ao, cap, l, rfl, hg, hl⟩

/-- A slice of bytes that came in. -/
theorem open_u8s (hv : Value.okWide Try.prog w r b0 35 v) (h : DataW.Trod enc Try.prog w base spare held 35 v d p) :
    ∃ (ao : Option Addr) (cap : Nat) (l : List Int), v = .slice ao l.length cap ∧ (∀ i, 0 ≤ l.getD i 0 ∧ l.getD i 0 ≤ 255) ∧ Bys w ao l := by
  obtain ⟨ao, cap, l, rfl, hg, hl, _⟩ := open_flat (α := Int) (fun y _ => .int .u8 y) (fun y => 0 ≤ y ∧ y ≤ 255) Try.underlying35 Try.cells5 (by omega)
    (fun fuel cs x h => by
      obtain ⟨a, hcs, _, wa⟩ := DataW.trod_int Try.underlying5 h
      exact ⟨a, bounds_u8 wa, fun j hj => by
        have : j = 0 := by omega
        subst this
        rw [hcs]
        rfl⟩) hv h
  refine ⟨ao, cap, l, rfl, fun i => ?_, hl⟩
  by_cases hi : i < l.length
  · have := hg (l[i]) (List.getElem_mem hi)
    simpa [List.getD, hi] using this
  · simp [List.getD, hi]

/-- A slice of services that came in: their days. -/
theorem open_services (hv : Value.okWide Try.prog w r b0 41 v) (h : DataW.Trod enc Try.prog w base spare held 41 v d p) :
    ∃ (ao : Option Addr) (cap : Nat) (l : List Int), v = .slice ao l.length cap ∧ True ∧ DaysAt w ao l := by
  obtain ⟨ao, cap, l, rfl, _, hl, _⟩ := open_flat (α := Int × Int × Int × Bool) (fun y j => if j = 0 then .int .i64 y.1 else if j = 1 then .int .i64 y.2.1 else if j = 2 then .int .i64 y.2.2.1 else .bool y.2.2.2) (fun _ => True) Try.underlying41 Try.cells45 (by omega)
    (fun fuel cs x h => by
      obtain ⟨a, b, c, d, h0, h1, h2, h3⟩ := read_service h
      exact ⟨(a, b, c, d), trivial, fun j hj => by
        match j, hj with
        | 0, _ => exact h0
        | 1, _ => exact h1
        | 2, _ => exact h2
        | 3, _ => exact h3⟩) hv h
  refine ⟨ao, cap, l.map (·.1), by simp, trivial, ?_⟩
  rcases hl with h0 | ⟨b, off, rfl, hb, hc⟩
  · exact .inl (by rw [List.eq_nil_of_length_eq_zero h0]; rfl)
  · refine .inr ⟨b, off, rfl, hb, fun i hi => ?_⟩
    have hi' : i < l.length := by simpa using hi
    have c0 := hc i hi' 0 (by omega)
    have c1 := hc i hi' 1 (by omega)
    have c2 := hc i hi' 2 (by omega)
    have c3 := hc i hi' 3 (by omega)
    refine ⟨_, _, _, ?_, c1, c2, c3⟩
    rw [Nat.add_zero] at c0
    rw [c0]
    simp [List.getD, hi']

/-- A slice of 16-bit numbers that came in. -/
theorem open_u16s (hv : Value.okWide Try.prog w r b0 43 v) (h : DataW.Trod enc Try.prog w base spare held 43 v d p) :
    ∃ (ao : Option Addr) (cap : Nat) (l : List Int), v = .slice ao l.length cap ∧ (∀ i, 0 ≤ l.getD i 0 ∧ l.getD i 0 ≤ 65535) ∧ U16s w ao l := by
  obtain ⟨ao, cap, l, rfl, hg, hl, _⟩ := open_flat (α := Int) (fun y _ => .int .u16 y) (fun y => 0 ≤ y ∧ y ≤ 65535) Try.underlying43 Try.cells38 (by omega)
    (fun fuel cs x h => by
      obtain ⟨a, hcs, _, wa⟩ := DataW.trod_int Try.underlying38 h
      exact ⟨a, bounds_u16 wa, fun j hj => by
        have : j = 0 := by omega
        subst this
        rw [hcs]
        rfl⟩) hv h
  refine ⟨ao, cap, l, rfl, fun i => ?_, hl⟩
  by_cases hi : i < l.length
  · have := hg (l[i]) (List.getElem_mem hi)
    simpa [List.getD, hi] using this
  · simp [List.getD, hi]

theorem bounds_i64 {n : Int} (h : (Lit.int .i64 n).wf = true) : -9223372036854775808 ≤ n ∧ n ≤ 9223372036854775807 := by
  have e1 : IntKind.i64.min = -9223372036854775808 := rfl
  have e2 : IntKind.i64.max = 9223372036854775807 := rfl
  simp only [Lit.wf, Bool.and_eq_true, decide_eq_true_eq] at h
  omega
end
end Go.Proofs.Ytgabecolmldbjaa
