/-
  How the arguments of the disk's and the journal's laws read: slices of bytes, of pairs and of triples of bytes, numbers.
-/
import Derived.Test.YtkbdbinafjmjkaaRows
import Derived.Test.YtkbdbinafjmjkaaFrame
import Derived.Test.YtkbdbinafjmjkaaDOps
namespace Go.Proofs.Ytkbdbinafjmjkaa
open Go.ChangeShapes Go.WideShapes Go.ChangeAt Go.RowKit
section
variable {H : Type} {enc : TypeId × Value → H} {w : World} {base : Nat} {spare : Nat → Bool} {held : Bool} {fuel : Nat} {x : DataW H × List MemPlace}

theorem Try.own : ownKnob Try.prog.godebug = none := by kernel_rfl
theorem Try.laidOut : laidOutB Try.prog = true := by kernel_rfl
theorem Try.cells5 : Try.prog.cellsOf 5 = 1 := by kernel_rfl
theorem Try.cells46 : Try.prog.cellsOf 46 = 1 := by kernel_rfl
theorem Try.cells29 : Try.prog.cellsOf 29 = 3 := by kernel_rfl
theorem Try.cells33 : Try.prog.cellsOf 33 = 2 := by kernel_rfl
theorem Try.cells70 : Try.prog.cellsOf 70 = 3 := by kernel_rfl

theorem list2 {α : Type} {cs : List α} {a b : α} (hl : cs.length = 2) (h0 : cs[0]? = some a) (h1 : cs[1]? = some b) : cs = [a, b] := by
  match cs, hl with
  | [x, y], _ => simp at h0 h1; rw [h0, h1]
theorem list3 {α : Type} {cs : List α} {a b c : α} (hl : cs.length = 3) (h0 : cs[0]? = some a) (h1 : cs[1]? = some b) (h2 : cs[2]? = some c) : cs = [a, b, c] := by
  match cs, hl with
  | [x, y, z], _ => simp at h0 h1 h2; rw [h0, h1, h2]

theorem read_bytes3 {cs : List Value} (h : DataW.trod enc Try.prog w base spare held fuel 29 cs = some x) :
    ∃ a b c, cs = [.int .u8 a, .int .u8 b, .int .u8 c] ∧ (0 ≤ a ∧ a ≤ 255) ∧ (0 ≤ b ∧ b ≤ 255) ∧ 0 ≤ c ∧ c ≤ 255 := by
  obtain ⟨a, ha, wa⟩ := elem_int (i := 0) Try.underlying29 h (by omega) Try.cells5 Try.underlying5
  obtain ⟨b, hb, wb⟩ := elem_int (i := 1) Try.underlying29 h (by omega) Try.cells5 Try.underlying5
  obtain ⟨c, hc, wc⟩ := elem_int (i := 2) Try.underlying29 h (by omega) Try.cells5 Try.underlying5
  exact ⟨a, b, c, list3 ((array_len Try.underlying29 h).trans Try.cells29) ha hb hc, bounds_u8 wa, bounds_u8 wb, bounds_u8 wc⟩

theorem read_bytes2 {cs : List Value} (h : DataW.trod enc Try.prog w base spare held fuel 33 cs = some x) :
    ∃ a b, cs = [.int .u8 a, .int .u8 b] ∧ (0 ≤ a ∧ a ≤ 255) ∧ 0 ≤ b ∧ b ≤ 255 := by
  obtain ⟨a, ha, wa⟩ := elem_int (i := 0) Try.underlying33 h (by omega) Try.cells5 Try.underlying5
  obtain ⟨b, hb, wb⟩ := elem_int (i := 1) Try.underlying33 h (by omega) Try.cells5 Try.underlying5
  exact ⟨a, b, list2 ((array_len Try.underlying33 h).trans Try.cells33) ha hb, bounds_u8 wa, bounds_u8 wb⟩

theorem read_ints3 {cs : List Value} (h : DataW.trod enc Try.prog w base spare held fuel 70 cs = some x) :
    ∃ a b c, cs = [.int .i8 a, .int .i8 b, .int .i8 c] ∧ (-128 ≤ a ∧ a ≤ 127) ∧ (-128 ≤ b ∧ b ≤ 127) ∧ -128 ≤ c ∧ c ≤ 127 := by
  obtain ⟨a, ha, wa⟩ := elem_int (i := 0) Try.underlying70 h (by omega) Try.cells46 Try.underlying46
  obtain ⟨b, hb, wb⟩ := elem_int (i := 1) Try.underlying70 h (by omega) Try.cells46 Try.underlying46
  obtain ⟨c, hc, wc⟩ := elem_int (i := 2) Try.underlying70 h (by omega) Try.cells46 Try.underlying46
  exact ⟨a, b, c, list3 ((array_len Try.underlying70 h).trans Try.cells70) ha hb hc, bounds_i8 wa, bounds_i8 wb, bounds_i8 wc⟩

variable {r : Reach} {b0 : Nat} {v : Value} {d : DataW H} {p : List MemPlace}

theorem arr_eq {cs : Array Value} {l : List Value} (h : cs.toList = l) : cs = l.toArray := by rw [← h]

theorem cells2 {cs : List Value} {a b : Value} (h : cs = [a, b]) {f : Nat → Value} (h0 : f 0 = a) (h1 : f 1 = b) : ∀ j, j < 2 → cs[j]? = some (f j) := by
  subst h
  intro j hj
  match j, hj with
  | 0, _ => simp [h0]
  | 1, _ => simp [h1]
theorem cells3 {cs : List Value} {a b c : Value} (h : cs = [a, b, c]) {f : Nat → Value} (h0 : f 0 = a) (h1 : f 1 = b) (h2 : f 2 = c) : ∀ j, j < 3 → cs[j]? = some (f j) := by
  subst h
  intro j hj
  match j, hj with
  | 0, _ => simp [h0]
  | 1, _ => simp [h1]
  | 2, _ => simp [h2]

theorem byt_of_lies {w : World} {ao : Option Addr} {l : List Int} (h : LiesAt w ao 1 l.length (fun i _ => .int .u8 (l.getD i 0))) : Byt w ao l := by
  rcases h with h | ⟨b, off, rfl, hb, hc⟩
  · exact .inl (List.eq_nil_of_length_eq_zero h)
  · refine .inr ⟨b, off, rfl, hb, fun i hi => ?_⟩
    have := hc i hi 0 (by omega)
    rwa [Nat.mul_one, Nat.add_zero] at this

/-- A slice of bytes that came in. -/
theorem open_bytes (hv : Value.okWide Try.prog w r b0 30 v) (h : DataW.Trod enc Try.prog w base spare held 30 v d p) :
    ∃ (ao : Option Addr) (cap : Nat) (l : List Int), v = .slice ao l.length cap ∧ Bytes l ∧ Byt w ao l := by
  obtain ⟨ao, cap, l, rfl, hg, hl, _⟩ := open_flat (α := Int) (fun y _ => .int .u8 y) (fun y => 0 ≤ y ∧ y ≤ 255) Try.underlying30 Try.cells5 (by omega)
    (fun fuel cs x h => by
      obtain ⟨a, hcs, _, wa⟩ := DataW.trod_int Try.underlying5 h
      exact ⟨a, bounds_u8 wa, fun j hj => by
        have : j = 0 := by omega
        subst this
        rw [hcs]
        rfl⟩) hv h
  exact ⟨ao, cap, l, rfl, hg, byt_of_lies hl⟩

def tripCell (xs : List (Int × Int × Int)) (i j : Nat) : Value := if j = 0 then .int .u8 (xs.getD i (0, 0, 0)).1 else if j = 1 then .int .u8 (xs.getD i (0, 0, 0)).2.1 else .int .u8 (xs.getD i (0, 0, 0)).2.2
def pairCell (xs : List (Int × Int)) (i j : Nat) : Value := if j = 0 then .int .u8 (xs.getD i (0, 0)).1 else .int .u8 (xs.getD i (0, 0)).2
def itripCell (xs : List (Int × Int × Int)) (i j : Nat) : Value := if j = 0 then .int .i8 (xs.getD i (0, 0, 0)).1 else if j = 1 then .int .i8 (xs.getD i (0, 0, 0)).2.1 else .int .i8 (xs.getD i (0, 0, 0)).2.2
def TripOk (x : Int × Int × Int) : Prop := (0 ≤ x.1 ∧ x.1 ≤ 255) ∧ (0 ≤ x.2.1 ∧ x.2.1 ≤ 255) ∧ 0 ≤ x.2.2 ∧ x.2.2 ≤ 255
def PairOk (x : Int × Int) : Prop := (0 ≤ x.1 ∧ x.1 ≤ 255) ∧ 0 ≤ x.2 ∧ x.2 ≤ 255
def ITripOk (x : Int × Int × Int) : Prop := (-128 ≤ x.1 ∧ x.1 ≤ 127) ∧ (-128 ≤ x.2.1 ∧ x.2.1 ≤ 127) ∧ -128 ≤ x.2.2 ∧ x.2.2 ≤ 127
theorem getD_ok {α : Type} {P : α → Prop} (d : α) (hd : P d) {l : List α} (h : ∀ y ∈ l, P y) (i : Nat) : P (l.getD i d) := by
  by_cases hi : i < l.length
  · have := h (l[i]) (List.getElem_mem hi)
    simpa [List.getD, hi] using this
  · simpa [List.getD, hi] using hd

theorem open_trips (hv : Value.okWide Try.prog w r b0 22 v) (h : DataW.Trod enc Try.prog w base spare held 22 v d p) :
    ∃ (ao : Option Addr) (cap : Nat) (l : List (Int × Int × Int)), v = .slice ao l.length cap ∧ (∀ i, TripOk (l.getD i (0, 0, 0))) ∧ LiesAt w ao 3 l.length (tripCell l) := by
  obtain ⟨ao, cap, l, rfl, hg, hl, _⟩ := open_flat (α := Int × Int × Int) (fun y j => if j = 0 then .int .u8 y.1 else if j = 1 then .int .u8 y.2.1 else .int .u8 y.2.2) TripOk Try.underlying22 Try.cells29 (by omega)
    (fun fuel cs x h => by
      obtain ⟨a, b, c, hcs, wa, wb, wc⟩ := read_bytes3 h
      exact ⟨(a, b, c), ⟨wa, wb, wc⟩, cells3 hcs rfl rfl rfl⟩) hv h
  exact ⟨ao, cap, l, rfl, getD_ok _ (by unfold TripOk; decide) hg, hl⟩

theorem open_pairs (hv : Value.okWide Try.prog w r b0 23 v) (h : DataW.Trod enc Try.prog w base spare held 23 v d p) :
    ∃ (ao : Option Addr) (cap : Nat) (l : List (Int × Int)), v = .slice ao l.length cap ∧ (∀ i, PairOk (l.getD i (0, 0))) ∧ LiesAt w ao 2 l.length (pairCell l) := by
  obtain ⟨ao, cap, l, rfl, hg, hl, _⟩ := open_flat (α := Int × Int) (fun y j => if j = 0 then .int .u8 y.1 else .int .u8 y.2) PairOk Try.underlying23 Try.cells33 (by omega)
    (fun fuel cs x h => by
      obtain ⟨a, b, hcs, wa, wb⟩ := read_bytes2 h
      exact ⟨(a, b), ⟨wa, wb⟩, cells2 hcs rfl rfl⟩) hv h
  exact ⟨ao, cap, l, rfl, getD_ok _ (by unfold PairOk; decide) hg, hl⟩

theorem open_itrips (hv : Value.okWide Try.prog w r b0 69 v) (h : DataW.Trod enc Try.prog w base spare held 69 v d p) :
    ∃ (ao : Option Addr) (cap : Nat) (l : List (Int × Int × Int)), v = .slice ao l.length cap ∧ (∀ i, ITripOk (l.getD i (0, 0, 0))) ∧ LiesAt w ao 3 l.length (itripCell l) := by
  obtain ⟨ao, cap, l, rfl, hg, hl, _⟩ := open_flat (α := Int × Int × Int) (fun y j => if j = 0 then .int .i8 y.1 else if j = 1 then .int .i8 y.2.1 else .int .i8 y.2.2) ITripOk Try.underlying69 Try.cells70 (by omega)
    (fun fuel cs x h => by
      obtain ⟨a, b, c, hcs, wa, wb, wc⟩ := read_ints3 h
      exact ⟨(a, b, c), ⟨wa, wb, wc⟩, cells3 hcs rfl rfl rfl⟩) hv h
  exact ⟨ao, cap, l, rfl, getD_ok _ (by unfold ITripOk; decide) hg, hl⟩

theorem bounds_i64 {n : Int} (h : (Lit.int .i64 n).wf = true) : -9223372036854775808 ≤ n ∧ n ≤ 9223372036854775807 := by
  have e1 : IntKind.i64.min = -9223372036854775808 := rfl
  have e2 : IntKind.i64.max = 9223372036854775807 := rfl
  simp only [Lit.wf, Bool.and_eq_true, decide_eq_true_eq] at h
  omega
end
end Go.Proofs.Ytkbdbinafjmjkaa
