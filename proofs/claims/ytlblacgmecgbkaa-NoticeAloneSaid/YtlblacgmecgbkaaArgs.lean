/-
  How the arguments of these laws read: posts, notices, triples of bytes, losses.
-/
import Derived.Test.YtlblacgmecgbkaaRows
import Derived.Test.YtlblacgmecgbkaaFrame
import Derived.Test.YtlblacgmecgbkaaMap
import Derived.Test.YtlblacgmecgbkaaBuild
namespace Go.Proofs.Ytlblacgmecgbkaa
open Go.ChangeShapes Go.WideShapes Go.ChangeAt Go.RowKit
section
variable {H : Type} {enc : TypeId × Value → H} {w : World} {base : Nat} {spare : Nat → Bool} {held : Bool} {fuel : Nat} {x : DataW H × List MemPlace}

theorem Try.own : ownKnob Try.prog.godebug = none := by kernel_rfl
theorem Try.cells3 : Try.prog.cellsOf 3 = 1 := by kernel_rfl
theorem Try.cells4 : Try.prog.cellsOf 4 = 1 := by kernel_rfl
theorem Try.cells5 : Try.prog.cellsOf 5 = 1 := by kernel_rfl
theorem Try.cells27 : Try.prog.cellsOf 27 = 1 := by kernel_rfl
theorem Try.cells23 : Try.prog.cellsOf 23 = 3 := by kernel_rfl
theorem Try.cells46 : Try.prog.cellsOf 46 = 2 := by kernel_rfl
theorem Try.cells26 : Try.prog.cellsOf 26 = 3 := by kernel_rfl

theorem list2 {α : Type} {cs : List α} {a b : α} (hl : cs.length = 2) (h0 : cs[0]? = some a) (h1 : cs[1]? = some b) : cs = [a, b] := by
  match cs, hl with
  | [x, y], _ => simp at h0 h1; rw [h0, h1]
theorem list3 {α : Type} {cs : List α} {a b c : α} (hl : cs.length = 3) (h0 : cs[0]? = some a) (h1 : cs[1]? = some b) (h2 : cs[2]? = some c) : cs = [a, b, c] := by
  match cs, hl with
  | [x, y, z], _ => simp at h0 h1 h2; rw [h0, h1, h2]

theorem read_post {cs : List Value} (h : DataW.trod enc Try.prog w base spare held fuel 23 cs = some x) :
    ∃ a b c, cs = [.int .i64 a, .int .i64 b, .int .i64 c] ∧ (Lit.int .i64 a).wf = true ∧ (Lit.int .i64 b).wf = true ∧ (Lit.int .i64 c).wf = true := by
  obtain ⟨a, ha, wa⟩ := field_int (i := 0) Try.underlying23 h rfl Try.cells3 Try.underlying3
  obtain ⟨b, hb, wb⟩ := field_int (i := 1) Try.underlying23 h rfl Try.cells3 Try.underlying3
  obtain ⟨c, hc, wc⟩ := field_int (i := 2) Try.underlying23 h rfl Try.cells3 Try.underlying3
  exact ⟨a, b, c, list3 ((struct_len Try.underlying23 h).trans Try.cells23) ha hb hc, wa, wb, wc⟩

theorem read_notice {cs : List Value} (h : DataW.trod enc Try.prog w base spare held fuel 46 cs = some x) :
    ∃ a b, cs = [.int .i64 a, .int .i64 b] ∧ (Lit.int .i64 a).wf = true ∧ (Lit.int .i64 b).wf = true := by
  obtain ⟨a, ha, wa⟩ := field_int (i := 0) Try.underlying46 h rfl Try.cells3 Try.underlying3
  obtain ⟨b, hb, wb⟩ := field_int (i := 1) Try.underlying46 h rfl Try.cells3 Try.underlying3
  exact ⟨a, b, list2 ((struct_len Try.underlying46 h).trans Try.cells46) ha hb, wa, wb⟩

theorem read_loss {cs : List Value} (h : DataW.trod enc Try.prog w base spare held fuel 54 cs = some x) :
    ∃ a b c, cs = [.int .i64 a, .int .i64 b, .bool c] ∧ (Lit.int .i64 a).wf = true ∧ (Lit.int .i64 b).wf = true := by
  obtain ⟨a, ha, wa⟩ := field_int (i := 0) Try.underlying54 h rfl Try.cells3 Try.underlying3
  obtain ⟨b, hb, wb⟩ := field_int (i := 1) Try.underlying54 h rfl Try.cells3 Try.underlying3
  obtain ⟨c, hc⟩ := field_bool (i := 2) Try.underlying54 h rfl Try.cells4 Try.underlying4
  exact ⟨a, b, c, list3 ((struct_len Try.underlying54 h).trans lossCells) ha hb hc, wa, wb⟩

theorem read_bytes3 {cs : List Value} (h : DataW.trod enc Try.prog w base spare held fuel 26 cs = some x) :
    ∃ a b c, cs = [.int .u8 a, .int .u8 b, .int .u8 c] ∧ (0 ≤ a ∧ a ≤ 255) ∧ (0 ≤ b ∧ b ≤ 255) ∧ 0 ≤ c ∧ c ≤ 255 := by
  obtain ⟨a, ha, wa⟩ := elem_int (i := 0) Try.underlying26 h (by omega) Try.cells5 Try.underlying5
  obtain ⟨b, hb, wb⟩ := elem_int (i := 1) Try.underlying26 h (by omega) Try.cells5 Try.underlying5
  obtain ⟨c, hc, wc⟩ := elem_int (i := 2) Try.underlying26 h (by omega) Try.cells5 Try.underlying5
  exact ⟨a, b, c, list3 ((array_len Try.underlying26 h).trans Try.cells26) ha hb hc, bounds_u8 wa, bounds_u8 wb, bounds_u8 wc⟩

variable {r : Reach} {b0 : Nat} {v : Value} {d : DataW H} {p : List MemPlace}

theorem arr_eq {cs : Array Value} {l : List Value} (h : cs.toList = l) : cs = l.toArray := by rw [← h]

theorem open_post (hv : Value.okWide Try.prog w r b0 23 v) (h : DataW.Trod enc Try.prog w base spare held 23 v d p) :
    ∃ a b c, v = .agg #[.int .i64 a, .int .i64 b, .int .i64 c] := by
  obtain ⟨cs, fuel, rfl, hf⟩ := agg_cells Try.underlying23 hv h
  obtain ⟨a, b, c, hcs, _⟩ := read_post hf
  exact ⟨a, b, c, by rw [arr_eq hcs]⟩

theorem open_notice (hv : Value.okWide Try.prog w r b0 46 v) (h : DataW.Trod enc Try.prog w base spare held 46 v d p) :
    ∃ a b, v = .agg #[.int .i64 a, .int .i64 b] := by
  obtain ⟨cs, fuel, rfl, hf⟩ := agg_cells Try.underlying46 hv h
  obtain ⟨a, b, hcs, _⟩ := read_notice hf
  exact ⟨a, b, by rw [arr_eq hcs]⟩

theorem open_bytes3 (hv : Value.okWide Try.prog w r b0 26 v) (h : DataW.Trod enc Try.prog w base spare held 26 v d p) :
    ∃ a b c, v = .agg #[.int .u8 a, .int .u8 b, .int .u8 c] ∧ (0 ≤ a ∧ a ≤ 255) ∧ (0 ≤ b ∧ b ≤ 255) ∧ 0 ≤ c ∧ c ≤ 255 := by
  obtain ⟨cs, fuel, rfl, hf⟩ := arr_cells Try.underlying26 hv h
  obtain ⟨a, b, c, hcs, h1, h2, h3⟩ := read_bytes3 hf
  exact ⟨a, b, c, by rw [arr_eq hcs], h1, h2, h3⟩

theorem cells2 {cs : List Value} {a b : Value} (h : cs = [a, b]) {f : Nat → Value} (h0 : f 0 = a) (h1 : f 1 = b) : ∀ j, j < 2 → cs[j]? = some (f j) := by
  subst h
  intro j hj
  match j, hj with
  | 0, _ => simp [h0]
  | 1, _ => simp [h1]
theorem cells3 {cs : List Value} {a b c : Value} (h : cs = [a, b, c]) {f : Nat → Value} (h0 : f 0 = a) (h1 : f 1 = b) (h2 : f 2 = c) : ∀ j, j < 3 → cs[j]? = some (f j) := by
  subst h
  intro j hj
  match j, hj with
  | 0, _ => simp [h0]
  | 1, _ => simp [h1]
  | 2, _ => simp [h2]

/-- A slice of notices that came in. -/
theorem open_notices (hv : Value.okWide Try.prog w r b0 24 v) (h : DataW.Trod enc Try.prog w base spare held 24 v d p) :
    ∃ (ao : Option Addr) (cap : Nat) (l : List (Int × Int)), v = .slice ao l.length cap ∧ LiesAt w ao 2 l.length (noticeCell l) ∧ l.length ≤ 9223372036854775807 := by
  obtain ⟨ao, cap, l, rfl, _, hl, hm, _⟩ := open_flat (α := Int × Int) (fun y j => if j = 0 then .int .i64 y.1 else .int .i64 y.2) (fun _ => True) Try.underlying24 Try.cells46 (by omega)
    (fun fuel cs x h => by
      obtain ⟨a, b, hcs, _⟩ := read_notice h
      exact ⟨(a, b), trivial, cells2 hcs rfl rfl⟩) hv h
  exact ⟨ao, cap, l, rfl, hl, hm⟩

/-- A slice of losses that came in. -/
theorem open_losses (hv : Value.okWide Try.prog w r b0 25 v) (h : DataW.Trod enc Try.prog w base spare held 25 v d p) :
    ∃ (ao : Option Addr) (cap : Nat) (l : List LossD), v = .slice ao l.length cap ∧ (∀ x ∈ l, LossFits x) ∧ LiesAt w ao 3 l.length (lossCell l) ∧ l.length ≤ 9223372036854775807 ∧ (ao = none → l.length = 0 ∧ cap = 0) := by
  obtain ⟨ao, cap, l, rfl, hg, hl, hm, hn⟩ := open_flat (α := LossD) (fun y j => if j = 0 then .int .i64 y.1 else if j = 1 then .int .i64 y.2.1 else .bool y.2.2) LossFits Try.underlying25 lossCells (by omega)
    (fun fuel cs x h => by
      obtain ⟨a, b, c, hcs, wa, wb⟩ := read_loss h
      exact ⟨(a, b, c), ⟨wa, wb⟩, cells3 hcs rfl rfl rfl⟩) hv h
  exact ⟨ao, cap, l, rfl, hg, hl, hm, hn⟩

/-- A slice of 16-bit numbers that came in. -/
theorem open_u16s (hv : Value.okWide Try.prog w r b0 34 v) (h : DataW.Trod enc Try.prog w base spare held 34 v d p) :
    ∃ (ao : Option Addr) (cap : Nat) (l : List Int), v = .slice ao l.length cap ∧ (∀ i, 0 ≤ l.getD i 0 ∧ l.getD i 0 ≤ 65535) ∧ LiesAt w ao 1 l.length (u16Cell l) := by
  obtain ⟨ao, cap, l, rfl, hg, hl, _⟩ := open_flat (α := Int) (fun y _ => .int .u16 y) (fun y => 0 ≤ y ∧ y ≤ 65535) Try.underlying34 Try.cells27 (by omega)
    (fun fuel cs x h => by
      obtain ⟨a, hcs, _, wa⟩ := DataW.trod_int Try.underlying27 h
      exact ⟨a, bounds_u16 wa, fun j hj => by
        have : j = 0 := by omega
        subst this
        rw [hcs]
        rfl⟩) hv h
  refine ⟨ao, cap, l, rfl, fun i => ?_, hl⟩
  by_cases hi : i < l.length
  · have := hg (l[i]) (List.getElem_mem hi)
    simpa [List.getD, hi] using this
  · simp [List.getD, hi]

/-- A slice of triples of bytes that came in. -/
theorem open_triples (hv : Value.okWide Try.prog w r b0 35 v) (h : DataW.Trod enc Try.prog w base spare held 35 v d p) :
    ∃ (ao : Option Addr) (cap : Nat) (l : List (Int × Int × Int)), v = .slice ao l.length cap ∧ (∀ i, 0 ≤ (l.getD i (0, 0, 0)).1 ∧ 0 ≤ (l.getD i (0, 0, 0)).2.1 ∧ 0 ≤ (l.getD i (0, 0, 0)).2.2) ∧ LiesAt w ao 3 l.length (u8x3Cell l) := by
  obtain ⟨ao, cap, l, rfl, hg, hl, _⟩ := open_flat (α := Int × Int × Int) (fun y j => if j = 0 then .int .u8 y.1 else if j = 1 then .int .u8 y.2.1 else .int .u8 y.2.2) (fun y => 0 ≤ y.1 ∧ 0 ≤ y.2.1 ∧ 0 ≤ y.2.2) Try.underlying35 Try.cells26 (by omega)
    (fun fuel cs x h => by
      obtain ⟨a, b, c, hcs, wa, wb, wc⟩ := read_bytes3 h
      exact ⟨(a, b, c), ⟨wa.1, wb.1, wc.1⟩, cells3 hcs rfl rfl rfl⟩) hv h
  refine ⟨ao, cap, l, rfl, fun i => ?_, hl⟩
  by_cases hi : i < l.length
  · have := hg (l[i]) (List.getElem_mem hi)
    simpa [List.getD, hi] using this
  · simp [List.getD, hi]
end
end Go.Proofs.Ytlblacgmecgbkaa
