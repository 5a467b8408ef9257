/-
  Contract: Play.
-/
import Derived.Test.YtpddpdkdlodniaaOFile
namespace Go.Proofs.Ytpddpdkdlodniaa
open Go.RowKit

/-- Filings lie at an address. -/
def FlAt (w : World) (b o : Nat) (f : Fl) : Prop := w.cell? ⟨b, o, none⟩ = some (.int .i64 f.kind) ∧ w.cell? ⟨b, o + 1, none⟩ = some (.int .i64 f.day) ∧ w.cell? ⟨b, o + 2, none⟩ = some (.int .i64 f.id) ∧ w.cell? ⟨b, o + 3, none⟩ = some (.int .i64 f.opt)
def Fls (w : World) (ao : Option Addr) (l : List Fl) : Prop := l = [] ∨ ∃ b off, ao = some ⟨b, off, none⟩ ∧ b < w.heap.size ∧ ∀ i, i < l.length → FlAt w b (off + i * 4) (l.getD i default)
theorem Fls.next {w w' : World} {ao : Option Addr} {l : List Fl} (h : Fls w ao l) (hb : Below w.heap.size w w') : Fls w' ao l := by
  rcases h with h | ⟨b, off, rfl, hlt, hc⟩
  · exact .inl h
  · refine .inr ⟨b, off, rfl, Nat.lt_of_lt_of_le hlt hb.size, fun i hi => ?_⟩
    obtain ⟨h0, h1, h2, h3⟩ := hc i hi
    exact ⟨(hb.cell (p := ⟨b, off + i * 4, none⟩) hlt).trans h0, (hb.cell (p := ⟨b, off + i * 4 + 1, none⟩) hlt).trans h1, (hb.cell (p := ⟨b, off + i * 4 + 2, none⟩) hlt).trans h2, (hb.cell (p := ⟨b, off + i * 4 + 3, none⟩) hlt).trans h3⟩
theorem Fls.cells {w : World} {ao : Option Addr} {l : List Fl} (h : Fls w ao l) (hl : 0 < l.length) : ∃ b off, ao = some ⟨b, off, none⟩ ∧ b < w.heap.size ∧ ∀ i, i < l.length → FlAt w b (off + i * 4) (l.getD i default) := by
  rcases h with h | h
  · rw [h] at hl; simp at hl
  · exact h

/-- A docket in a variable. -/
def DkIn (B D : Nat) (w : World) (d : Dk) : Prop := ∃ ro rc mo mc, w.heap[D]? = some (dkObj d.day d.ans d.app ro d.hol.length rc mo d.mts.length mc) ∧ w.ownsRow B 3 1 (.slice ro d.hol.length rc) d.hol.length (d.hol.map (Value.int .i64)) ∧
    w.ownsRow B 50 5 (.slice mo d.mts.length mc) d.mts.length (d.mts.flatMap mtCells)
/-- What the loop of Play keeps. -/
def PlayAt (w : World) (D : Nat) (d : Dk) (all : List Rl) (v : Value) (wr : World) : Prop := DkIn w.heap.size D wr d ∧ wr.heap[w.heap.size + 1]? = some dkZero ∧ RlOwn w.heap.size wr v all ∧ Below w.heap.size w wr
def PlayPost (B : Nat) (w : World) (r : Dk × List Rl × Int × Int) (e : Ending) (w' : World) : Prop := ∃ dv rv, e = .returned (.tuple #[dv, rv, .int .i64 r.2.2.1, .int .i64 r.2.2.2]) ∧ DkOwn B w' dv r.1 ∧ RlOwn B w' rv r.2.1 ∧ Below B w w'

theorem file_rl_len (d : Dk) (f : Fl) : (fileF d f).2.1.length ≤ 33 := by
  unfold fileF
  split
  · rename_i h
    have h1 := advR_le h
    unfold actF
    split
    · simp [noAns]
    · split
      · split
        · simp only; omega
        · simp [noAns]
      · split
        · simp [noAns]
        · simp only
          split
          · simp only
            split
            · rw [List.length_append]; simp only [List.length_cons, List.length_nil]; omega
            · omega
          · simp [noAns]
  · simp [noAns]
theorem play_step (fs : List Fl) (k : Nat) (d : Dk) (all : List Rl) (h : k < fs.length) :
    playGo (fs.drop k) d all k = if (fileF d (fs.getD k default)).2.2 = 0 then playGo (fs.drop (k + 1)) (fileF d (fs.getD k default)).1 (all ++ (fileF d (fs.getD k default)).2.1) ((k + 1 : Nat) : Int) else (zeroDk, [], k, (fileF d (fs.getD k default)).2.2) := by
  rw [List.drop_eq_getElem_cons h]
  have e : fs.getD k default = fs[k] := by simp [List.getD, h]
  rw [e]
  simp [playGo]
/-- The next docket, whichever of the last two operations came first. -/
theorem play_next1 {w w4 w5 : World} {D : Nat} {d d' : Dk} {all rs : List Rl} {v v2 : Value} {ro mo : Option Addr} {rc mc : Nat} (hat : PlayAt w D d all v w4) (hD : w.heap.size + 1 < D)
    (h1 : w4.ownsRow w.heap.size 3 1 (.slice ro d'.hol.length rc) d'.hol.length (d'.hol.map (Value.int .i64))) (h2 : w4.ownsRow w.heap.size 50 5 (.slice mo d'.mts.length mc) d'.mts.length (d'.mts.flatMap mtCells))
    (h3 : w5.ownsRow w.heap.size 52 3 v2 (all.length + rs.length) (all.flatMap rlCells ++ rs.flatMap rlCells)) (hg : w4.drew.grownBy w5 v.ownBlock) :
    PlayAt w D d' (all ++ rs) v2 (((((w5.setCell ⟨D, 0, none⟩ (.int .i64 d'.day)).setCell ⟨D, 1, none⟩ (.int .i64 d'.ans)).setCell ⟨D, 2, none⟩ (.int .i64 d'.app)).setCell ⟨D, 3, none⟩ (.slice ro d'.hol.length rc)).setCell ⟨D, 4, none⟩ (.slice mo d'.mts.length mc)) := by
  obtain ⟨⟨ro0, rc0, mo0, mc0, hd, -, -⟩, hz, hr, hb⟩ := hat
  have hr' : w4.drew.ownsRow w.heap.size 52 3 v all.length (all.flatMap rlCells) := hr
  have hd5 := heap_grown (drew_heap hd) hr' (by decide) hg
  have hz5 := heap_grown (drew_heap hz) hr' (by decide) hg
  have h15 := owns_grown h1.drew hr' (by decide) hg
  have h25 := owns_grown h2.drew hr' (by decide) hg
  have hb5 : Below w.heap.size w w5 := hb.drew.grown hg hb.size (fun j hj => (hr.lt j hj).1)
  refine ⟨⟨ro, rc, mo, mc, put5 hd5, owns_put5 h15 hd5 (by decide), owns_put5 h25 hd5 (by decide)⟩, heap_put5 hz5 (by omega), ?_, below_put5 hb5 (by omega)⟩
  unfold RlOwn
  rw [List.length_append, List.flatMap_append]
  exact owns_put5 h3 hd5 (by decide)
theorem play_next2 {w w4 w5 : World} {D : Nat} {d d' : Dk} {all rs : List Rl} {v v2 : Value} {ro mo : Option Addr} {rc mc : Nat} (hat : PlayAt w D d all v w4) (hD : w.heap.size + 1 < D)
    (h1 : w4.ownsRow w.heap.size 3 1 (.slice ro d'.hol.length rc) d'.hol.length (d'.hol.map (Value.int .i64))) (h2 : w4.ownsRow w.heap.size 50 5 (.slice mo d'.mts.length mc) d'.mts.length (d'.mts.flatMap mtCells))
    (h3 : w5.ownsRow w.heap.size 52 3 v2 (all.length + rs.length) (all.flatMap rlCells ++ rs.flatMap rlCells))
    (hg : (((((w4.drew.setCell ⟨D, 0, none⟩ (.int .i64 d'.day)).setCell ⟨D, 1, none⟩ (.int .i64 d'.ans)).setCell ⟨D, 2, none⟩ (.int .i64 d'.app)).setCell ⟨D, 3, none⟩ (.slice ro d'.hol.length rc)).setCell ⟨D, 4, none⟩ (.slice mo d'.mts.length mc)).grownBy w5 v.ownBlock) :
    PlayAt w D d' (all ++ rs) v2 w5 := by
  obtain ⟨⟨ro0, rc0, mo0, mc0, hd, -, -⟩, hz, hr, hb⟩ := hat
  have hr' : w4.drew.ownsRow w.heap.size 52 3 v all.length (all.flatMap rlCells) := hr
  have hrp := owns_put5 (x' := .int .i64 d'.day) (y' := .int .i64 d'.ans) (z' := .int .i64 d'.app) (u' := .slice ro d'.hol.length rc) (t' := .slice mo d'.mts.length mc) hr' (drew_heap hd) (by decide)
  have hd5 := heap_grown (put5 (drew_heap hd)) hrp (by decide) hg
  have hz5 := heap_grown (heap_put5 (drew_heap hz) (by omega)) hrp (by decide) hg
  have h15 := owns_grown (owns_put5 h1.drew (drew_heap hd) (by decide)) hrp (by decide) hg
  have h25 := owns_grown (owns_put5 h2.drew (drew_heap hd) (by decide)) hrp (by decide) hg
  have hbp := below_put5 (x' := .int .i64 d'.day) (y' := .int .i64 d'.ans) (z' := .int .i64 d'.app) (u' := .slice ro d'.hol.length rc) (t' := .slice mo d'.mts.length mc) hb.drew (b := D) (by omega)
  have hb5 : Below w.heap.size w w5 := hbp.grown hg hbp.size (fun j hj => (hr.lt j hj).1)
  refine ⟨⟨ro, rc, mo, mc, hd5, h15, h25⟩, hz5, ?_, hb5⟩
  unfold RlOwn
  rw [List.length_append, List.flatMap_append]
  exact h3
theorem PlayAt.next {w : World} {D : Nat} {d : Dk} {all : List Rl} {v : Value} {wr w2 : World} (h : PlayAt w D d all v wr) (hb : Below wr.heap.size wr w2) : PlayAt w D d all v w2 := by
  obtain ⟨⟨ro, rc, mo, mc, hd, h1, h2⟩, hz, hr, hbb⟩ := h
  exact ⟨⟨ro, rc, mo, mc, keep_heap hb hd, owns_next h1 hb, owns_next h2 hb⟩, keep_heap hb hz, owns_next hr hb, hbb.trans (hb.mono hbb.size)⟩
theorem rls_one {l : List Rl} : ∀ u ∈ l.flatMap rlCells, u.oneCell' = true := by
  intro u hu
  obtain ⟨x, _, hx⟩ := List.mem_flatMap.1 hu
  exact rl_one x u hx
end Go.Proofs.Ytpddpdkdlodniaa
