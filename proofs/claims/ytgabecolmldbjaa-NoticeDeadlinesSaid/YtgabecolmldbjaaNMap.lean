/-
  A map of type map[api.Loss]bool that holds just the losses of a list: made, written, looked up.
-/
import Derived.Test.YtgabecolmldbjaaNLatest
import Derived.Maps.OwnSet
import Derived.DeepKeys4
import Derived.Lib.Hide
namespace Go.Proofs.Ytgabecolmldbjaa
open Go.RowKit

theorem Try.laidOut : laidOutB Try.prog = true := by kernel_rfl
theorem lossRow : (69 : TypeId) < Try.prog.types.size := of_decide_eq_true (by kernel_rfl)
theorem lossWide : (match Try.prog.underlying 69 with | some (.array _ _) | some (.struct _) => true | _ => false) = true := by kernel_rfl
theorem lossLaw : WideMaps.KeyLaw Try.prog 69 := deep_law_laid Try.laidOut (m := 3) (by omega) lossRow (by kernel_rfl) lossWide
theorem typesSome : 0 < Try.prog.types.size := of_decide_eq_true (by kernel_rfl)
theorem lossKeyType : Try.prog.keyType 69 = true := by kernel_rfl
theorem lossCells : Try.prog.cellsOf 69 = 3 := by kernel_rfl
theorem intCells : Try.prog.cellsOf 3 = 1 := by kernel_rfl
theorem boolCells : Try.prog.cellsOf 4 = 1 := by kernel_rfl

/-- A loss as a value. -/
def lossVal (x : LossD) : Value := .agg #[.int .i64 x.1, .int .i64 x.2.1, .bool x.2.2]

/-- The numbers of a loss fit into an int. -/
def LossFits (x : LossD) : Prop := (Lit.int .i64 x.1).wf = true ∧ (Lit.int .i64 x.2.1).wf = true

theorem keyOf_loss (x : LossD) (h : LossFits x) : ∃ kl, keyOf Try.prog 69 (lossVal x) = some kl := by
  obtain ⟨h1, h2⟩ := h
  obtain ⟨d, hd⟩ : ∃ d, Try.prog.types.size + 1 = d + 2 := ⟨Try.prog.types.size - 1, by have := typesSome; omega⟩
  have hform : (lossVal x).formed Try.prog 69 = true := by
    simp [lossVal, Value.formed, Try.underlying69, lossCells]
  unfold keyOf
  rw [Try.underlying69]
  simp only [lossKeyType, hform, Bool.and_self, if_true, hd]
  simp [lossVal, Program.keyLits, Try.underlying69, lossCells, Try.underlying3, Try.underlying4, Value.cells, intCells, boolCells, h1, h2]

theorem lossVal_inj {x y : LossD} (h : lossVal x = lossVal y) : x = y := by
  obtain ⟨a, b, c⟩ := x
  obtain ⟨a', b', c'⟩ := y
  simp [lossVal] at h
  obtain ⟨rfl, rfl, rfl⟩ := h
  rfl

/-- Block b is a map whose keys are just the losses of l, each with the element true. -/
def LossMap (w : World) (b : Nat) (l : List LossD) : Prop :=
  ∃ es clock, w.heap[b]? = some (.map es clock) ∧ es.size ≤ l.length ∧ (∀ e ∈ es.toList, e.val = .bool true ∧ ∃ x, x ∈ l ∧ LossFits x ∧ e.key = lossVal x) ∧ ∀ x ∈ l, ∃ e ∈ es.toList, e.key = lossVal x

theorem LossMap.lt {w : World} {b : Nat} {l : List LossD} (h : LossMap w b l) : b < w.heap.size := by
  obtain ⟨es, clock, hb, _⟩ := h
  exact (Array.getElem?_eq_some_iff.1 hb).1

theorem LossMap.below {w w' : World} {b B : Nat} {l : List LossD} (h : LossMap w b l) (hb : Below B w w') (hB : b < B) : LossMap w' b l := by
  obtain ⟨es, clock, h1, h2⟩ := h
  exact ⟨es, clock, (hb.block b hB).trans h1, h2⟩

theorem LossMap.made (w : World) : LossMap (w.alloc (.map #[] 0)) w.heap.size [] :=
  ⟨#[], 0, (MapKept.heap_alloc w _).1, by simp, by simp, by simp⟩

theorem LossMap.keys {es : Array MapEntry} {l : List LossD} (h : ∀ e ∈ es.toList, e.val = .bool true ∧ ∃ x, x ∈ l ∧ LossFits x ∧ e.key = lossVal x) : ∀ e ∈ es.toList, ∃ kl, keyOf Try.prog 69 e.key = some kl := fun e he => by
  obtain ⟨_, x, _, hf, hk⟩ := h e he
  rw [hk]
  exact keyOf_loss x hf

theorem LossMap.look {w : World} {b : Nat} {l : List LossD} (h : LossMap w b l) (x : LossD) (hx : LossFits x) :
    (Instr.lookup 76 (.map (some b)) (lossVal x) false).run Try.prog w = .ok (.bool (goneF l x)) w := by
  obtain ⟨es, clock, hb, hs, h1, h2⟩ := h
  obtain ⟨kl, hkl⟩ := keyOf_loss x hx
  rcases lossLaw.find w hkl es.toList (LossMap.keys h1) with ⟨hf, hne⟩ | ⟨j, e, hf, hj, he⟩
  · have hg : goneF l x = false := by
      simp only [goneF, decide_eq_false_iff_not]
      intro hm
      obtain ⟨e, he, hk⟩ := h2 x hm
      exact hne e he hk
    simp [Instr.lookup, run_underlying Try.underlying76, MapKept.run_getObj_map hb, lossLaw.check w es.isEmpty hkl, hf, hg, Result.andThen]
  · have hm := List.mem_of_getElem? hj
    obtain ⟨hv, y, hy, _, hk⟩ := h1 e hm
    have hxy : x = y := lossVal_inj (he.symm.trans hk)
    have hg : goneF l x = true := by simp [goneF, hxy, hy]
    simp [Instr.lookup, run_underlying Try.underlying76, MapKept.run_getObj_map hb, lossLaw.check w es.isEmpty hkl, hf, hv, hg, Result.andThen]

theorem LossMap.store {w : World} {b : Nat} {l : List LossD} (h : LossMap w b l) (x : LossD) (hx : LossFits x) :
    ∃ w', (Instr.mapUpdate 76 (.map (some b)) (lossVal x) (.bool true)).run Try.prog w = .ok () w' ∧ LossMap w' b (l ++ [x]) ∧ w.grownBy w' (some b) := by
  obtain ⟨es, clock, hb, hs, h1, h2⟩ := h
  obtain ⟨kl, hkl⟩ := keyOf_loss x hx
  rcases lossLaw.find w hkl es.toList (LossMap.keys h1) with ⟨hf, hne⟩ | ⟨j, e, hf, hj, he⟩
  · refine ⟨ChangeMaps.setBlock w b (.map (es.push ⟨lossVal x, .bool true, clock⟩) (clock + 1)), ?_, ⟨_, _, ChangeMaps.heap_setBlock_same hb _, ?_, ?_, ?_⟩, ⟨rfl, rfl, rfl, by simp [ChangeMaps.setBlock], fun i _ hi => ChangeMaps.heap_setBlock_other hb _ (fun e => hi (by rw [e]))⟩⟩
    · simp [Instr.mapUpdate, run_underlying Try.underlying76, MapKept.run_getObj_map hb, lossLaw.check w false hkl, hf, MapKept.run_setObj_map _ hb, Result.andThen, ChangeMaps.setBlock]
    · simp; omega
    · intro e he
      simp only [Array.toList_push, List.mem_append, List.mem_singleton] at he
      rcases he with he | rfl
      · obtain ⟨hv, y, hy, hyf, hk⟩ := h1 e he
        exact ⟨hv, y, by simp [hy], hyf, hk⟩
      · exact ⟨rfl, x, by simp, hx, rfl⟩
    · intro y hy
      simp only [List.mem_append, List.mem_singleton] at hy
      rcases hy with hy | rfl
      · obtain ⟨e, he, hk⟩ := h2 y hy
        exact ⟨e, by simp [he], hk⟩
      · exact ⟨_, by simp; exact .inr rfl, rfl⟩
  · have hj' : es[j]? = some e := by simpa using hj
    have hm := List.mem_of_getElem? hj
    have hlist : (es.modify j (fun e' => { e' with key := lossVal x, val := .bool true })).toList = es.toList.set j { e with key := lossVal x, val := .bool true } := by
      rw [Array.toList_modify, ChangeMaps.modify_eq_set _ _ _ _ hj]
    have hjl : j < es.toList.length := (List.getElem?_eq_some_iff.1 hj).1
    refine ⟨ChangeMaps.setBlock w b (.map (es.modify j (fun e' => { e' with key := lossVal x, val := .bool true })) clock), ?_, ⟨_, _, ChangeMaps.heap_setBlock_same hb _, ?_, ?_, ?_⟩, ⟨rfl, rfl, rfl, by simp [ChangeMaps.setBlock], fun i _ hi => ChangeMaps.heap_setBlock_other hb _ (fun e => hi (by rw [e]))⟩⟩
    · simp [Instr.mapUpdate, run_underlying Try.underlying76, MapKept.run_getObj_map hb, lossLaw.check w false hkl, hf, hj', he, lossLaw.stays w hkl, MapKept.run_setObj_map _ hb, Result.andThen, ChangeMaps.setBlock]
    · simp; omega
    · intro e' he'
      rw [hlist] at he'
      rcases List.mem_or_eq_of_mem_set he' with h | rfl
      · obtain ⟨hv, y, hy, hyf, hk⟩ := h1 e' h
        exact ⟨hv, y, by simp [hy], hyf, hk⟩
      · exact ⟨rfl, x, by simp, hx, rfl⟩
    · intro y hy
      rw [hlist]
      simp only [List.mem_append, List.mem_singleton] at hy
      have hnew : ({ e with key := lossVal x, val := .bool true } : MapEntry) ∈ es.toList.set j { e with key := lossVal x, val := .bool true } := List.mem_iff_getElem.2 ⟨j, by simpa using hjl, by simp⟩
      rcases hy with hy | rfl
      · obtain ⟨e1, he1, hk1⟩ := h2 y hy
        by_cases hxy : y = x
        · subst hxy
          exact ⟨_, hnew, rfl⟩
        · obtain ⟨i, hi, hie⟩ := List.getElem_of_mem he1
          have hij : j ≠ i := fun hij => by
            subst hij
            have : e = e1 := by
              have h3 := List.getElem?_eq_getElem hi
              rw [hj, hie] at h3
              exact Option.some.inj h3
            subst this
            exact hxy (lossVal_inj (hk1.symm.trans he))
          exact ⟨e1, List.mem_iff_getElem.2 ⟨i, by simpa using hi, by rw [List.getElem_set_ne hij]; exact hie⟩, hk1⟩
      · exact ⟨_, hnew, rfl⟩

section
variable (w : World) {ops : Array Oper} {rest : List Oper} {o : Oper} {a : Act} {Q : Exit → Act → World → Prop}
theorem wpList_look_loss (hg : o.guard = none) (m x : Operand) (hop : o.op = Op.lookup 76 m x false) (b : Nat) (l : List LossD) (hm : a.eval m = .map (some b)) (h : LossMap w b l)
    (y : LossD) (hx : a.eval x = lossVal y) (hy : LossFits y) (r : Bool) (hr : goneF l y = r) (hK : wpList Try.prog ops Q rest (a.put o.dst (.bool r)) w) : wpList Try.prog ops Q (o :: rest) a w := by
  refine wpList_plain hg fun K' hK' => ?_
  have hrun := h.look y hy
  rw [hr] at hrun
  unfold Oper.wp
  simp [execOp, hop, hm, hx, hrun, Result.andThen]
  exact hK' _ _ hK

theorem wpList_store_loss (hg : o.guard = none) (m x v : Operand) (hop : o.op = Op.mapUpdate 76 m x v) (b : Nat) (l : List LossD) (hm : a.eval m = .map (some b)) (h : LossMap w b l)
    (y : LossD) (hx : a.eval x = lossVal y) (hv : a.eval v = .bool true) (hy : LossFits y) (hK : ∀ w', LossMap w' b (l ++ [y]) → w.grownBy w' (some b) → wpList Try.prog ops Q rest (a.put o.dst undef) w') : wpList Try.prog ops Q (o :: rest) a w := by
  refine wpList_plain hg fun K' hK' => ?_
  obtain ⟨w', hrun, r1, r2⟩ := h.store y hy
  unfold Oper.wp
  simp [execOp, hop, hm, hx, hv, hrun, Result.andThen]
  exact hK' _ _ (hK w' r1 r2)
end
end Go.Proofs.Ytgabecolmldbjaa
