/-
  How the arguments of the docket's laws read: terms, numbers, slices within structs.
-/
import Derived.Test.YtpddpdkdlodniaaRows
import Derived.Test.YtpddpdkdlodniaaFrame
import Derived.Test.YtpddpdkdlodniaaOBase
namespace Go.Proofs.Ytpddpdkdlodniaa
open Go.ChangeShapes Go.WideShapes Go.ChangeAt Go.RowKit
section
variable {H : Type} {enc : TypeId × Value → H} {P : Program} {w : World} {base : Nat} {spare : Nat → Bool} {held : Bool} {fuel : Nat} {t : TypeId} {cs : List Value} {x : DataW H × List MemPlace}

theorem Try.own : ownKnob Try.prog.godebug = none := by kernel_rfl
theorem Try.laidOut : laidOutB Try.prog = true := by kernel_rfl
theorem Try.cells5 : Try.prog.cellsOf 5 = 1 := by kernel_rfl
theorem Try.cells3 : Try.prog.cellsOf 3 = 1 := by kernel_rfl
theorem Try.cells25 : Try.prog.cellsOf 25 = 1 := by kernel_rfl
theorem Try.cells27 : Try.prog.cellsOf 27 = 3 := by kernel_rfl
theorem list3 {α : Type} {cs : List α} {a b c : α} (hl : cs.length = 3) (h0 : cs[0]? = some a) (h1 : cs[1]? = some b) (h2 : cs[2]? = some c) : cs = [a, b, c] := by
  match cs, hl with
  | [x, y, z], _ => simp at h0 h1 h2; rw [h0, h1, h2]
theorem arr_eq {cs : Array Value} {l : List Value} (h : cs.toList = l) : cs = l.toArray := by rw [← h]

/-- A field of a struct that is read. -/
theorem field_any {fs : Array Field} {i k o : Nat} {f : Field} {T : TypeId} (ht : P.underlying t = some (.struct fs)) (h : DataW.trod enc P w base spare held fuel t cs = some x) (hf : fs[i]? = some f) (hT : f.type = T) (ho : f.offset = o) (hc : P.cellsOf T = k) :
    ∃ n x', DataW.trod enc P w base spare held n T ((cs.drop o).take k) = some x' := by
  obtain ⟨xs, n, _, _, _, hl, hall⟩ := DataW.trod_struct ht h
  have hi : i < fs.size := (Array.getElem?_eq_some_iff.1 hf).1
  have h1 := hall i f hf
  rw [hT, ho, hc, List.getElem?_eq_getElem (by omega)] at h1
  exact ⟨n, _, h1⟩
/-- A slice that is read, told by its cells. -/
theorem read_flat {α : Type} [Inhabited α] {e : TypeId} {size : Nat} (cellOf : α → Nat → Value) (good : α → Prop) (ht : P.underlying t = some (.slice e)) (hsz : P.cellsOf e = size) (hpos : 0 < size)
    (rd : ∀ (fuel : Nat) (cs : List Value) (x : DataW H × List MemPlace), DataW.trod enc P w base spare held fuel e cs = some x → ∃ y, good y ∧ ∀ j, j < size → cs[j]? = some (cellOf y j))
    (hf : DataW.trod enc P w base spare held fuel t cs = some x) :
    ∃ (ao : Option Addr) (cap : Nat) (l : List α), cs = [.slice ao l.length cap] ∧ (∀ y ∈ l, good y) ∧ LiesAt w ao size l.length (fun i j => cellOf (l.getD i default) j) ∧ (ao = none → cap = 0) := by
  rcases Deep.open_slice ht hf with ⟨hcs, hx⟩ | ⟨a, len, cap, m, n, D, Pl, hcs, hba, hl, hm, hmm, hx, hall⟩
  · exact ⟨none, 0, [], hcs, by simp, .inl rfl, fun _ => rfl⟩
  · have hml : len ≤ m := by rw [hmm]; split <;> omega
    have hey : ∀ i, i < len → ∃ y, good y ∧ ∀ j, j < size → w.cell? ((a.add (i * size)).add j) = some (cellOf y j) := fun i hi => by
      obtain ⟨cs', hcs', htr⟩ := hall i (by omega)
      obtain ⟨y, hg, hc⟩ := rd n cs' _ htr
      rw [hsz] at hcs'
      obtain ⟨_, _, hcell⟩ := World.cells?_some hcs'
      exact ⟨y, hg, fun j hj => by rw [hcell j hj]; exact hc j hj⟩
    obtain ⟨f, hfy⟩ := Deep.choose_lt hey
    have hlen : ((List.range len).map f).length = len := by simp
    refine ⟨some a, cap, (List.range len).map f, by rw [hlen]; exact hcs, fun y hy => ?_, ?_, fun h => by cases h⟩
    · obtain ⟨i, hi, rfl⟩ := List.mem_map.1 hy
      exact (hfy i (List.mem_range.1 hi)).1
    · rw [hlen]
      by_cases h0 : len = 0
      · exact .inl h0
      · right
        obtain ⟨b, off, spot⟩ := a
        have hc0 := (hfy 0 (by omega)).2 0 hpos
        have hspot : spot = none := by simpa [Addr.add] using World.cell?_spot hc0
        subst hspot
        refine ⟨b, off, rfl, ?_, fun i hi j hj => ?_⟩
        · have := World.block_lt_of_cell? w _ hc0
          simpa [Addr.add] using this
        · have hc := (hfy i hi).2 j hj
          have e1 : (⟨b, off, none⟩ : Addr).add (i * size) = ⟨b, off + i * size, none⟩ := by unfold Addr.add; split <;> simp_all
          have e2 : (⟨b, off + i * size, none⟩ : Addr).add j = ⟨b, off + i * size + j, none⟩ := by unfold Addr.add; split <;> simp_all
          rw [e1, e2] at hc
          rw [hc]
          simp [List.getD, hi]

theorem read_ints (h : DataW.trod enc Try.prog w base spare held fuel 25 cs = some x) :
    ∃ (ao : Option Addr) (cap : Nat) (l : List Int), cs = [.slice ao l.length cap] ∧ Ints w ao l ∧ (ao = none → cap = 0) := by
  obtain ⟨ao, cap, l, h1, _, hl, hn⟩ := read_flat (α := Int) (fun y _ => .int .i64 y) (fun _ => True) Try.underlying25 Try.cells3 (by omega)
    (fun fuel cs x h => by
      obtain ⟨a, hcs, _, wa⟩ := DataW.trod_int Try.underlying3 h
      exact ⟨a, trivial, fun j hj => by
        have : j = 0 := by omega
        subst this
        rw [hcs]
        rfl⟩) h
  exact ⟨ao, cap, l, h1, hl, hn⟩

set_option maxRecDepth 100000 in
theorem read_terms (h : DataW.trod enc Try.prog w base spare held fuel 27 cs = some x) :
    ∃ a b ao cap l, cs = [.int .i64 a, .int .i64 b, .slice ao (List.length l) cap] ∧ Ints w ao l ∧ (ao = none → cap = 0) := by
  obtain ⟨a, ha, wa⟩ := field_int (i := 0) Try.underlying27 h rfl Try.cells3 Try.underlying3
  obtain ⟨b, hb, wb⟩ := field_int (i := 1) Try.underlying27 h rfl Try.cells3 Try.underlying3
  have hlen := (struct_len Try.underlying27 h).trans Try.cells27
  obtain ⟨n, x', h2⟩ := field_any (T := 25) (o := 2) (k := 1) (i := 2) Try.underlying27 h rfl rfl rfl Try.cells25
  obtain ⟨ao, cap, l, hs, hI, hn⟩ := read_ints h2
  exact ⟨a, b, ao, cap, l, list3 hlen ha hb (slice1 hs), hI, hn⟩

variable {r : Reach} {b0 : Nat} {v : Value} {d : DataW H} {p : List MemPlace}

set_option maxRecDepth 100000 in
theorem open_terms (hv : Value.okWide Try.prog w r b0 27 v) (h : DataW.Trod enc Try.prog w base spare held 27 v d p) :
    ∃ a b ao cap l, v = .agg #[.int .i64 a, .int .i64 b, .slice ao (List.length l) cap] ∧ Ints w ao l ∧ (ao = none → cap = 0) := by
  obtain ⟨cs, fuel, rfl, hf⟩ := agg_cells Try.underlying27 hv h
  obtain ⟨a, b, ao, cap, l, hcs, h1, h2⟩ := read_terms hf
  exact ⟨a, b, ao, cap, l, by rw [arr_eq hcs], h1, h2⟩
end
end Go.Proofs.Ytpddpdkdlodniaa
