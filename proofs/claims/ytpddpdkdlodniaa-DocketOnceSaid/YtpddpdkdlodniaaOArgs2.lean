/-
  How the arguments of the docket's laws read: pairs and rows of bytes, numbers of 16 bits, whole dockets, filings.
-/
import Derived.Test.YtpddpdkdlodniaaOArgs
import Derived.Test.YtpddpdkdlodniaaOBuilt
namespace Go.Proofs.Ytpddpdkdlodniaa
open Go.ChangeShapes Go.WideShapes Go.ChangeAt Go.RowKit
section
variable {H : Type} {enc : TypeId × Value → H} {P : Program} {w : World} {base : Nat} {spare : Nat → Bool} {held : Bool} {fuel : Nat} {t : TypeId} {cs : List Value} {x : DataW H × List MemPlace}

theorem Try.cells4 : Try.prog.cellsOf 4 = 1 := by kernel_rfl
theorem Try.cells54 : Try.prog.cellsOf 54 = 1 := by kernel_rfl
theorem Try.cells22 : Try.prog.cellsOf 22 = 2 := by kernel_rfl
theorem Try.cells83 : Try.prog.cellsOf 83 = 4 := by kernel_rfl
theorem Try.cells50 : Try.prog.cellsOf 50 = 5 := by kernel_rfl
theorem Try.cells28 : Try.prog.cellsOf 28 = 1 := by kernel_rfl
theorem Try.cells30 : Try.prog.cellsOf 30 = 5 := by kernel_rfl
theorem Try.cells47 : Try.prog.cellsOf 47 = 4 := by kernel_rfl
theorem list2 {α : Type} {cs : List α} {a b : α} (hl : cs.length = 2) (h0 : cs[0]? = some a) (h1 : cs[1]? = some b) : cs = [a, b] := by
  match cs, hl with
  | [x, y], _ => simp at h0 h1; rw [h0, h1]
theorem list4 {α : Type} {cs : List α} {a b c d : α} (hl : cs.length = 4) (h0 : cs[0]? = some a) (h1 : cs[1]? = some b) (h2 : cs[2]? = some c) (h3 : cs[3]? = some d) : cs = [a, b, c, d] := by
  match cs, hl with
  | [x, y, z, u], _ => simp at h0 h1 h2 h3; rw [h0, h1, h2, h3]
theorem list5 {α : Type} {cs : List α} {a b c d e : α} (hl : cs.length = 5) (h0 : cs[0]? = some a) (h1 : cs[1]? = some b) (h2 : cs[2]? = some c) (h3 : cs[3]? = some d) (h4 : cs[4]? = some e) : cs = [a, b, c, d, e] := by
  match cs, hl with
  | [x, y, z, u, v], _ => simp at h0 h1 h2 h3 h4; rw [h0, h1, h2, h3, h4]

set_option maxRecDepth 100000 in
theorem read_matter (h : DataW.trod enc Try.prog w base spare held fuel 50 cs = some x) : ∃ m : Mt, cs = mtCells m := by
  obtain ⟨a, ha, wa⟩ := field_int (i := 0) Try.underlying50 h rfl Try.cells3 Try.underlying3
  obtain ⟨b, hb, wb⟩ := field_int (i := 1) Try.underlying50 h rfl Try.cells3 Try.underlying3
  obtain ⟨c, hc, wc⟩ := field_int (i := 2) Try.underlying50 h rfl Try.cells3 Try.underlying3
  obtain ⟨d, hd, wd⟩ := field_int (i := 3) Try.underlying50 h rfl Try.cells3 Try.underlying3
  obtain ⟨e, he⟩ := field_bool (i := 4) Try.underlying50 h rfl Try.cells4 Try.underlying4
  exact ⟨⟨a, b, c, d, e⟩, list5 ((struct_len Try.underlying50 h).trans Try.cells50) ha hb hc hd he⟩
/-- A slice that is read: its length is not beyond its capacity. -/
theorem read_flat2 {α : Type} [Inhabited α] {e : TypeId} {size : Nat} (cellOf : α → Nat → Value) (good : α → Prop) (ht : P.underlying t = some (.slice e)) (hsz : P.cellsOf e = size) (hpos : 0 < size)
    (rd : ∀ (fuel : Nat) (cs : List Value) (x : DataW H × List MemPlace), DataW.trod enc P w base spare held fuel e cs = some x → ∃ y, good y ∧ ∀ j, j < size → cs[j]? = some (cellOf y j))
    (hf : DataW.trod enc P w base spare held fuel t cs = some x) :
    ∃ (ao : Option Addr) (cap : Nat) (l : List α), cs = [.slice ao l.length cap] ∧ (∀ y ∈ l, good y) ∧ LiesAt w ao size l.length (fun i j => cellOf (l.getD i default) j) ∧ (ao = none → cap = 0) ∧ l.length ≤ cap ∧ cap ≤ maxLen := by
  obtain ⟨ao, cap, l, h1, h2, h3, h4⟩ := read_flat cellOf good ht hsz hpos rd hf
  refine ⟨ao, cap, l, h1, h2, h3, h4, ?_⟩
  rcases Deep.open_slice ht hf with ⟨hcs, _⟩ | ⟨a, len, cap', m, n, D, Pl, hcs, hba, hl, hm, _⟩
  · rw [h1] at hcs
    simp at hcs
    obtain ⟨_, h5, h6⟩ := hcs
    rw [h5, h6]
    simp
  · rw [h1] at hcs
    simp at hcs
    obtain ⟨_, h5, h6⟩ := hcs
    rw [h6]
    exact ⟨by simpa [h5] using hl, hm⟩
theorem mt_cell (m : Mt) (j : Nat) (h : j < 5) : (mtCells m)[j]? = some ((mtCells m).getD j default) := by
  have hl : j < (mtCells m).length := by simpa [mtCells] using h
  simp [List.getD, List.getElem?_eq_getElem hl]
set_option maxRecDepth 100000 in
theorem read_mts (h : DataW.trod enc Try.prog w base spare held fuel 28 cs = some x) :
    ∃ (ao : Option Addr) (cap : Nat) (l : List Mt), cs = [.slice ao l.length cap] ∧ Mts w ao l ∧ (ao = none → cap = 0) ∧ l.length ≤ cap ∧ cap ≤ maxLen := by
  obtain ⟨ao, cap, l, h1, _, hl, hn, hc⟩ := read_flat2 (α := Mt) (size := 5) (fun m j => (mtCells m).getD j default) (fun _ => True) Try.underlying28 Try.cells50 (by omega)
    (fun fuel cs x h => by
      obtain ⟨m, rfl⟩ := read_matter h
      exact ⟨m, trivial, fun j hj => mt_cell m j hj⟩) h
  refine ⟨ao, cap, l, h1, ?_, hn, hc⟩
  rcases hl with h0 | ⟨b, off, rfl, hb, hc0⟩
  · exact .inl (List.length_eq_zero_iff.1 h0)
  · exact .inr ⟨b, off, rfl, hb, fun i hi => ⟨hc0 i hi 0 (by omega), hc0 i hi 1 (by omega), hc0 i hi 2 (by omega), hc0 i hi 3 (by omega), hc0 i hi 4 (by omega)⟩⟩

/-- A docket that came in. -/
structure DkArg (w : World) (d : Dk) (ho : Option Addr) (hc : Nat) (mo : Option Addr) (mc : Nat) : Prop where
  hI : Ints w ho d.hol
  hM : Mts w mo d.mts
  hn : ho = none → hc = 0
  mn : mo = none → mc = 0
  cap : d.mts.length ≤ mc
  big : d.mts.length ≤ 9223372036854775807
set_option maxRecDepth 100000 in
theorem read_docket (h : DataW.trod enc Try.prog w base spare held fuel 30 cs = some x) :
    ∃ (d : Dk) (ho : Option Addr) (hc : Nat) (mo : Option Addr) (mc : Nat), cs = [.int .i64 d.day, .int .i64 d.ans, .int .i64 d.app, .slice ho d.hol.length hc, .slice mo d.mts.length mc] ∧ DkArg w d ho hc mo mc := by
  obtain ⟨a, ha, wa⟩ := field_int (i := 0) Try.underlying30 h rfl Try.cells3 Try.underlying3
  have hlen := (struct_len Try.underlying30 h).trans Try.cells30
  obtain ⟨n1, x1, h1⟩ := field_any (T := 27) (o := 1) (k := 3) (i := 1) Try.underlying30 h rfl rfl rfl Try.cells27
  obtain ⟨n2, x2, h2⟩ := field_any (T := 28) (o := 4) (k := 1) (i := 2) Try.underlying30 h rfl rfl rfl Try.cells28
  obtain ⟨b, c, ho, hc, Hs, hcs1, hI, hn⟩ := read_terms h1
  obtain ⟨mo, mc, l, hcs2, hM, mn, hcap, hmx⟩ := read_mts h2
  have e : ∀ j, j < 3 → cs[1 + j]? = ((cs.drop 1).take 3)[j]? := fun j hj => by rw [Nat.add_comm]; simp [hj]
  rw [hcs1] at e
  refine ⟨⟨a, b, c, Hs, l⟩, ho, hc, mo, mc, list5 hlen ha (e 0 (by omega)) (e 1 (by omega)) (e 2 (by omega)) (slice1 hcs2), hI, hM, hn, mn, hcap, ?_⟩
  unfold maxLen at hmx
  simp only
  omega
set_option maxRecDepth 100000 in
theorem read_filing (h : DataW.trod enc Try.prog w base spare held fuel 47 cs = some x) : ∃ f : Fl, cs = flCells f := by
  obtain ⟨a, ha, wa⟩ := field_int (i := 0) Try.underlying47 h rfl Try.cells3 Try.underlying3
  obtain ⟨b, hb, wb⟩ := field_int (i := 1) Try.underlying47 h rfl Try.cells3 Try.underlying3
  obtain ⟨c, hc, wc⟩ := field_int (i := 2) Try.underlying47 h rfl Try.cells3 Try.underlying3
  obtain ⟨d, hd, wd⟩ := field_int (i := 3) Try.underlying47 h rfl Try.cells3 Try.underlying3
  exact ⟨⟨a, b, c, d⟩, list4 ((struct_len Try.underlying47 h).trans Try.cells47) ha hb hc hd⟩

variable {r : Reach} {b0 : Nat} {v : Value} {d : DataW H} {p : List MemPlace}
set_option maxRecDepth 100000 in
theorem open_docket (hv : Value.okWide Try.prog w r b0 30 v) (h : DataW.Trod enc Try.prog w base spare held 30 v d p) :
    ∃ (d : Dk) (ho : Option Addr) (hc : Nat) (mo : Option Addr) (mc : Nat), v = .agg #[.int .i64 d.day, .int .i64 d.ans, .int .i64 d.app, .slice ho d.hol.length hc, .slice mo d.mts.length mc] ∧ DkArg w d ho hc mo mc := by
  obtain ⟨cs, fuel, rfl, hf⟩ := agg_cells Try.underlying30 hv h
  obtain ⟨d, ho, hc, mo, mc, hcs, h1⟩ := read_docket hf
  exact ⟨d, ho, hc, mo, mc, by rw [arr_eq hcs], h1⟩
set_option maxRecDepth 100000 in
theorem open_filing (hv : Value.okWide Try.prog w r b0 47 v) (h : DataW.Trod enc Try.prog w base spare held 47 v d p) :
    ∃ f : Fl, v = .agg #[.int .i64 f.kind, .int .i64 f.day, .int .i64 f.id, .int .i64 f.opt] := by
  obtain ⟨cs, fuel, rfl, hf⟩ := agg_cells Try.underlying47 hv h
  obtain ⟨f, hcs⟩ := read_filing hf
  exact ⟨f, by rw [arr_eq hcs]; rfl⟩
set_option maxRecDepth 100000 in
theorem open_bytes2 (hv : Value.okWide Try.prog w r b0 22 v) (h : DataW.Trod enc Try.prog w base spare held 22 v d p) :
    ∃ a b, v = .agg #[.int .u8 a, .int .u8 b] ∧ (0 ≤ a ∧ a ≤ 255) ∧ (0 ≤ b ∧ b ≤ 255) := by
  obtain ⟨cs, fuel, rfl, hf⟩ := arr_cells Try.underlying22 hv h
  obtain ⟨a, ha, wa⟩ := elem_int (i := 0) Try.underlying22 hf (by omega) Try.cells5 Try.underlying5
  obtain ⟨b, hb, wb⟩ := elem_int (i := 1) Try.underlying22 hf (by omega) Try.cells5 Try.underlying5
  exact ⟨a, b, by rw [arr_eq (list2 ((array_len Try.underlying22 hf).trans Try.cells22) ha hb)], bounds_u8 wa, bounds_u8 wb⟩
set_option maxRecDepth 100000 in
theorem read_bytes4 (h : DataW.trod enc Try.prog w base spare held fuel 83 cs = some x) : ∃ q : Q4, cs = [.int .u8 q.a, .int .u8 q.b, .int .u8 q.c, .int .u8 q.d] ∧ Q4Ok q := by
  obtain ⟨a, ha, wa⟩ := elem_int (i := 0) Try.underlying83 h (by omega) Try.cells5 Try.underlying5
  obtain ⟨b, hb, wb⟩ := elem_int (i := 1) Try.underlying83 h (by omega) Try.cells5 Try.underlying5
  obtain ⟨c, hc, wc⟩ := elem_int (i := 2) Try.underlying83 h (by omega) Try.cells5 Try.underlying5
  obtain ⟨d, hd, wd⟩ := elem_int (i := 3) Try.underlying83 h (by omega) Try.cells5 Try.underlying5
  exact ⟨⟨a, b, c, d⟩, list4 ((array_len Try.underlying83 h).trans Try.cells83) ha hb hc hd, bounds_u8 wa, bounds_u8 wb, bounds_u8 wc, bounds_u8 wd⟩
set_option maxRecDepth 100000 in
theorem open_q4s (hv : Value.okWide Try.prog w r b0 24 v) (h : DataW.Trod enc Try.prog w base spare held 24 v d p) :
    ∃ (ao : Option Addr) (cap : Nat) (l : List Q4), v = .slice ao l.length cap ∧ Q4s w ao l := by
  obtain ⟨ao, cap, l, h1, hg, hl, _⟩ := open_flat (α := Q4) (size := 4) (fun q j => ([Value.int .u8 q.a, Value.int .u8 q.b, Value.int .u8 q.c, Value.int .u8 q.d]).getD j default) Q4Ok Try.underlying24 Try.cells83 (by omega)
    (fun fuel cs x h => by
      obtain ⟨q, rfl, hq⟩ := read_bytes4 h
      refine ⟨q, hq, fun j hj => ?_⟩
      have hl : j < ([Value.int .u8 q.a, Value.int .u8 q.b, Value.int .u8 q.c, Value.int .u8 q.d]).length := hj
      rw [List.getElem?_eq_getElem hl, List.getD, List.getElem?_eq_getElem hl]
      rfl) hv h
  refine ⟨ao, cap, l, h1, hg, ?_⟩
  rcases hl with h0 | ⟨b, off, rfl, hb, hc0⟩
  · exact .inl (List.length_eq_zero_iff.1 h0)
  · exact .inr ⟨b, off, rfl, hb, fun i hi => ⟨hc0 i hi 0 (by omega), hc0 i hi 1 (by omega), hc0 i hi 2 (by omega), hc0 i hi 3 (by omega)⟩⟩
set_option maxRecDepth 100000 in
theorem open_u16s (hv : Value.okWide Try.prog w r b0 23 v) (h : DataW.Trod enc Try.prog w base spare held 23 v d p) :
    ∃ (ao : Option Addr) (cap : Nat) (l : List Int), v = .slice ao l.length cap ∧ U16s w ao l ∧ ∀ i, 0 ≤ l.getD i 0 ∧ l.getD i 0 ≤ 65535 := by
  obtain ⟨ao, cap, l, h1, hg, hl, _⟩ := open_flat (α := Int) (size := 1) (fun y _ => .int .u16 y) (fun y => 0 ≤ y ∧ y ≤ 65535) Try.underlying23 Try.cells54 (by omega)
    (fun fuel cs x h => by
      obtain ⟨a, hcs, _, wa⟩ := DataW.trod_int Try.underlying54 h
      exact ⟨a, bounds_u16 wa, fun j hj => by
        obtain rfl : j = 0 := by omega
        rw [hcs]
        rfl⟩) hv h
  refine ⟨ao, cap, l, h1, hl, fun i => ?_⟩
  by_cases hi : i < l.length
  · have : l.getD i 0 ∈ l := by simp [List.getD, hi]
    exact hg _ this
  · have : l.getD i 0 = 0 := by simp [List.getD, hi]
    omega
end
end Go.Proofs.Ytpddpdkdlodniaa
