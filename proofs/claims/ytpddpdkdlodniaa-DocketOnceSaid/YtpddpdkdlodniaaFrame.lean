/-
  The frame of a law's proof, of whatever law: arguments are opened into plain lists and numbers; a walk that ends in true and turns nothing below proves the row.
-/
import Derived.Test.YtpddpdkdlodniaaPlain
import Derived.ProofKit
import Derived.SizedLaws
import Derived.OpenShut
import Derived.Deep.Slices
namespace Go.Proofs.Ytpddpdkdlodniaa
open Go.ChangeShapes Go.WideShapes Go.ChangeAt Go.RowKit

section
variable {H : Type} {enc : TypeId × Value → H} {P : Program} {w : World} {base : Nat} {spare : Nat → Bool} {held : Bool} {fuel : Nat} {t : TypeId} {cs : List Value} {x : DataW H × List MemPlace}

theorem slice1 {cs : List Value} {o : Nat} {v : Value} (h : (cs.drop o).take 1 = [v]) : cs[o]? = some v := by
  have : ((cs.drop o).take 1)[0]? = some v := by rw [h]; rfl
  simpa [List.getElem?_take] using this

/-- A field of one cell that is an integer. -/
theorem field_int {fs : Array Field} {i : Nat} {f : Field} {k : IntKind} (ht : P.underlying t = some (.struct fs)) (h : DataW.trod enc P w base spare held fuel t cs = some x) (hf : fs[i]? = some f) (hc : P.cellsOf f.type = 1) (hu : P.underlying f.type = some (.int k)) :
    ∃ n, cs[f.offset]? = some (.int k n) ∧ (Lit.int k n).wf = true := by
  obtain ⟨xs, n, _, _, _, hl, hall⟩ := DataW.trod_struct ht h
  have hi : i < fs.size := (Array.getElem?_eq_some_iff.1 hf).1
  have h1 := hall i f hf
  rw [hc, List.getElem?_eq_getElem (by omega)] at h1
  obtain ⟨m, hm, _, hw⟩ := DataW.trod_int hu h1
  exact ⟨m, slice1 hm, hw⟩

theorem field_bool {fs : Array Field} {i : Nat} {f : Field} (ht : P.underlying t = some (.struct fs)) (h : DataW.trod enc P w base spare held fuel t cs = some x) (hf : fs[i]? = some f) (hc : P.cellsOf f.type = 1) (hu : P.underlying f.type = some .bool) :
    ∃ b, cs[f.offset]? = some (.bool b) := by
  obtain ⟨xs, n, _, _, _, hl, hall⟩ := DataW.trod_struct ht h
  have hi : i < fs.size := (Array.getElem?_eq_some_iff.1 hf).1
  have h1 := hall i f hf
  rw [hc, List.getElem?_eq_getElem (by omega)] at h1
  obtain ⟨m, hm, _⟩ := DataW.trod_bool hu h1
  exact ⟨m, slice1 hm⟩

/-- An element of one cell of an array of integers. -/
theorem elem_int {n : Nat} {e : TypeId} {i : Nat} {k : IntKind} (ht : P.underlying t = some (.array n e)) (h : DataW.trod enc P w base spare held fuel t cs = some x) (hi : i < n) (hc : P.cellsOf e = 1) (hu : P.underlying e = some (.int k)) :
    ∃ m, cs[i]? = some (.int k m) ∧ (Lit.int k m).wf = true := by
  obtain ⟨xs, m, _, _, _, hl, hall⟩ := DataW.trod_array ht h
  have h1 := hall i hi
  rw [hc, Nat.mul_one, List.getElem?_eq_getElem (by omega)] at h1
  obtain ⟨m, hm, _, hw⟩ := DataW.trod_int hu h1
  exact ⟨m, slice1 hm, hw⟩

theorem struct_len {fs : Array Field} (ht : P.underlying t = some (.struct fs)) (h : DataW.trod enc P w base spare held fuel t cs = some x) : cs.length = P.cellsOf t := (DataW.trod_struct ht h).choose_spec.choose_spec.2.2.1
theorem array_len {n : Nat} {e : TypeId} (ht : P.underlying t = some (.array n e)) (h : DataW.trod enc P w base spare held fuel t cs = some x) : cs.length = P.cellsOf t := (DataW.trod_array ht h).choose_spec.choose_spec.2.2.1

/-- A value that is read as a struct or an array has cells that are read. -/
theorem agg_cells {r : Reach} {b0 : Nat} {v : Value} {d : DataW H} {p : List MemPlace} {fs : Array Field} (hs : P.underlying t = some (.struct fs)) (hv : Value.okWide P w r b0 t v) (h : DataW.Trod enc P w base spare held t v d p) :
    ∃ cs fuel, v = .agg cs ∧ DataW.trod enc P w base spare held fuel t cs.toList = some (d, p) := by
  obtain ⟨cs, rfl, _⟩ := okWide_struct hs hv
  obtain ⟨fuel, hf⟩ := h
  exact ⟨cs, fuel, rfl, hf⟩
theorem arr_cells {r : Reach} {b0 : Nat} {v : Value} {d : DataW H} {p : List MemPlace} {n : Nat} {e : TypeId} (hs : P.underlying t = some (.array n e)) (hv : Value.okWide P w r b0 t v) (h : DataW.Trod enc P w base spare held t v d p) :
    ∃ cs fuel, v = .agg cs ∧ DataW.trod enc P w base spare held fuel t cs.toList = some (d, p) := by
  obtain ⟨fuel, hf⟩ := h
  simp only [Value.okWide, hs] at hv
  obtain ⟨cs, rfl, _⟩ := hv
  exact ⟨cs, fuel, rfl, hf⟩

/-- A slice that came in, of elements of a fixed number of cells, each read by 'rd' as something of a type of our own: it is a list, and lies at its address. -/
theorem open_flat {α : Type} [Inhabited α] {e : TypeId} {size : Nat} (cellOf : α → Nat → Value) (good : α → Prop) (ht : P.underlying t = some (.slice e)) (hsz : P.cellsOf e = size) (hpos : 0 < size)
    (rd : ∀ (fuel : Nat) (cs : List Value) (x : DataW H × List MemPlace), DataW.trod enc P w base spare held fuel e cs = some x → ∃ y, good y ∧ ∀ j, j < size → cs[j]? = some (cellOf y j))
    {r : Reach} {b0 : Nat} {v : Value} {d : DataW H} {p : List MemPlace} (hv : Value.okWide P w r b0 t v) (h : DataW.Trod enc P w base spare held t v d p) :
    ∃ (ao : Option Addr) (cap : Nat) (l : List α), v = .slice ao l.length cap ∧ (∀ y ∈ l, good y) ∧ LiesAt w ao size l.length (fun i j => cellOf (l.getD i default) j) ∧
      (l.length ≤ 9223372036854775807 ∧ (ao = none → l.length = 0 ∧ cap = 0)) := by
  obtain ⟨a0, len, cap, rfl⟩ := okWide_slice ht hv
  obtain ⟨fuel, hf⟩ := h
  rcases Deep.open_slice ht hf with ⟨hcs, hx⟩ | ⟨a, len', cap', m, n, D, Pl, hcs, hba, hl, hm, hmm, hx, hall⟩
  · simp only [Value.cells, List.cons.injEq, and_true, Value.slice.injEq] at hcs
    obtain ⟨rfl, rfl, rfl⟩ := hcs
    exact ⟨none, 0, [], rfl, by simp, .inl rfl, by simp, fun _ => ⟨rfl, rfl⟩⟩
  · simp only [Value.cells, List.cons.injEq, and_true, Value.slice.injEq] at hcs
    obtain ⟨rfl, rfl, rfl⟩ := hcs
    have hml : len ≤ m := by rw [hmm]; split <;> omega
    have hey : ∀ i, i < len → ∃ y, good y ∧ ∀ j, j < size → w.cell? ((a.add (i * size)).add j) = some (cellOf y j) := fun i hi => by
      obtain ⟨cs', hcs', htr⟩ := hall i (by omega)
      obtain ⟨y, hg, hc⟩ := rd n cs' _ htr
      rw [hsz] at hcs'
      obtain ⟨_, _, hcell⟩ := World.cells?_some hcs'
      exact ⟨y, hg, fun j hj => by rw [hcell j hj]; exact hc j hj⟩
    obtain ⟨f, hfy⟩ := Deep.choose_lt hey
    have hlen : ((List.range len).map f).length = len := by simp
    refine ⟨some a, cap, (List.range len).map f, by rw [hlen], fun y hy => ?_, ?_, by rw [hlen]; unfold maxLen at hm; omega, fun h => by cases h⟩
    · obtain ⟨i, hi, rfl⟩ := List.mem_map.1 hy
      exact (hfy i (List.mem_range.1 hi)).1
    · rw [hlen]
      by_cases h0 : len = 0
      · exact .inl h0
      · right
        obtain ⟨b, off, spot⟩ := a
        have hc0 := (hfy 0 (by omega)).2 0 hpos
        have hspot : spot = none := by simpa [Addr.add] using World.cell?_spot hc0
        subst hspot
        refine ⟨b, off, rfl, ?_, fun i hi j hj => ?_⟩
        · have := World.block_lt_of_cell? w _ hc0
          simpa [Addr.add] using this
        · have hc := (hfy i hi).2 j hj
          have e1 : (⟨b, off, none⟩ : Addr).add (i * size) = ⟨b, off + i * size, none⟩ := by unfold Addr.add; split <;> simp_all
          have e2 : (⟨b, off + i * size, none⟩ : Addr).add j = ⟨b, off + i * size + j, none⟩ := by unfold Addr.add; split <;> simp_all
          rw [e1, e2] at hc
          rw [hc]
          simp [List.getD, hi]

theorem trodAll_stays (hl : laidOutB P = true) : ∀ (ts : List TypeId), (∀ t ∈ ts, P.readableRec t = true ∧ t < P.types.size) → ∀ (vs : List Value) (ds : List (DataW H)) (ps : List MemPlace) {W W' : World},
    DataW.TrodAll enc P W 0 (fun _ => true) true ts vs ds ps → Below W.heap.size W W' → (∀ x ∈ ps, x.block < W.heap.size) → DataW.TrodAll enc P W' 0 (fun b => decide (b < W.heap.size)) true ts vs ds ps
  | [], _, [], [], _, _, _, h, _, _ => h
  | [], _, [], _ :: _, _, _, _, h, _, _ => h.elim
  | [], _, _ :: _, _, _, _, _, h, _, _ => by cases h
  | _ :: _, _, [], _, _, _, _, h, _, _ => by cases h
  | _ :: _, _, _ :: _, [], _, _, _, h, _, _ => by cases h
  | t :: ts, hts, v :: vs, d :: ds, ps, W, W', h, hb, hlt => by
    obtain ⟨p, q, h1, h2, rfl⟩ := h
    obtain ⟨hr, hrow⟩ := hts t (by simp)
    exact ⟨p, q, Below.trod hl hr hrow h1 hb (fun x hx => hlt x (by simp [hx])), trodAll_stays hl ts (fun t ht => hts t (by simp [ht])) vs ds q h2 hb (fun x hx => hlt x (by simp [hx])), rfl⟩
end

/-- A law's row, out of its walk. -/
theorem law_lifted {H : Type} {enc : TypeId × Value → H} {C : Checked} {os : Os} {f : FuncId} {fn : Func} {s : ChangeSpec} {tb : TypeId} (own : ownKnob C.prog.godebug = none) (started : os.Started) (noInit : C.prog.inits.idxOf? f = none) (hfn : C.prog.funcs[f]? = some fn)
    (witness : ∃ (w : World) (tape : Tape) (i : Input), w.os = os ∧ (w.forCall tape i).Shaped C.prog ∧ i.vars = [] ∧ Input.okWide C.prog (w.forCall tape i) .any w.heap.size f i ∧
      s.pre6 enc C.prog fn [] false (w.forCall tape i).memory i.args ∧ ({} : Assume).holds C.prog (lone (Frame.enter C.prog f i.args .normal) [] (w.forCall tape i)))
    (hlaid : laidOutB C.prog = true) (hrec : fn.params.all (fun t => C.prog.readableRec t && decide (t < C.prog.types.size)) = true) (hres : fn.resultTypes = #[tb]) (hb : C.prog.underlying tb = some .bool) (hvars : s.vars = [])
    (hspec : ∀ (ds : List (DataW H)), ds.length = fn.params.size → (s.fn H ds).results = [.lit (.bool true)] ∧ (s.fn H ds).args = ds ∧ (s.fn H ds).vars = [])
    (walk : ∀ (W : World) (base : Nat) (args : Array Value) (ds : List (DataW H)) (ps : List MemPlace), (∀ (j : Nat) t v, fn.params[j]? = some t → args[j]? = some v → Value.okWide C.prog W .any base t v) →
      DataW.TrodAll enc C.prog W 0 (fun _ => true) true fn.params.toList args.toList ds ps → (DataW.weightsEach C.prog fn.params.toList ds).all (· ≤ reachBytes) = true →
      Calls C.prog f args W fun e W' => e = .returned (.bool true) ∧ Below W.heap.size W W') :
    ReturnsInHanded {} C os f .any (s.pre6 enc C.prog fn [] false) (s.post enc C.prog fn false true false false) := by
  refine returnsInHanded_of_change_sized own started noInit hfn witness ?_
  intro W base args ds gs before hval hW _ hsz _
  have hW' := hW
  obtain ⟨p, q, hA, hV, rfl, _, _⟩ := hW
  rw [hvars] at hV
  obtain ⟨rfl, rfl⟩ := trodVars_none hV
  have hlen : ds.length = fn.params.size := by
    have : ∀ (ts : List TypeId) (vs : List Value) (ds : List (DataW H)) (ps : List MemPlace), DataW.TrodAll enc C.prog W 0 (fun _ => true) true ts vs ds ps → ds.length = ts.length := by
      intro ts
      induction ts with
      | nil =>
        intro vs ds ps h
        cases vs <;> cases ds <;> first | rfl | cases h
      | cons t ts ih =>
        intro vs ds ps h
        cases vs <;> cases ds <;> first | (obtain ⟨_, _, _, h2, _⟩ := h; simp [ih _ _ _ h2]) | cases h
    simpa using this _ _ _ _ hA
  obtain ⟨r1, r2, r3⟩ := hspec ds hlen
  have hlt : ∀ x ∈ p, x.block < W.heap.size := fun x hx => hW'.lt x (by simp [hx])
  have hts : ∀ t ∈ fn.params.toList, C.prog.readableRec t = true ∧ t < C.prog.types.size := fun t ht => by
    have := (Array.all_eq_true_iff_forall_mem.1 hrec) t (by simpa using ht)
    simpa using this
  have hsz' : (DataW.weightsEach C.prog fn.params.toList ds).all (· ≤ reachBytes) = true := by
    have e : s.plain.varTypes C.prog = [] := by
      simp [ChangeSpec.plain, DataSpec.varTypes, hvars]
    rw [e, List.append_nil, List.append_nil] at hsz
    exact hsz
  refine (walk W base args ds p hval hA hsz').mono fun e W' ⟨he, hbl⟩ => ?_
  subst he
  refine ⟨_, rfl, ds, [], _, [], p, [], hW', ?_, ?_, ?_, hbl.frame _, fun h => by cases h⟩
  · rw [List.append_nil, r1, hres]
    exact trodAll_mk1 (shut_bool hb true)
  · rw [List.append_nil, r2]
    exact trodAll_stays hlaid _ hts _ _ _ hA hbl hlt
  · rw [List.append_nil, r3, hvars]
    rfl
end Go.Proofs.Ytpddpdkdlodniaa
