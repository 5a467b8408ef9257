/-
  An insertion into sorted rulings, in plain lists; what the document's lapsed keeps.
  What the loop of the document's lapsed keeps.
  The loops within the document's lapsed: what they keep; a ruling put into its place.
  Contract: the document's lapsed.
-/
import Derived.Test.YtpddpdkdlodniaaOAdv
import Derived.Test.YtpddpdkdlodniaaOPure
import Derived.Test.YtpddpdkdlodniaaODue
import Derived.Deep.CutBlock
import Derived.WalkSmall
import Derived.Test.YtpddpdkdlodniaaOCopied
namespace Go.Proofs.Ytpddpdkdlodniaa
open Go.RowKit

/-- Sorted rulings. -/
def SortedR (L : List Rl) : Prop := L.Pairwise (fun a b => leR a b = true)
theorem le_of_not {a b : Rl} (h : leR a b = false) : leR b a = true := by
  have := leR_total a b
  rw [h] at this
  simpa using this
/-- A ruling put where all before are not greater and all behind are greater. -/
theorem ins_sorted {L : List Rl} {p : Nat} {r : Rl} (h : SortedR L) (h1 : ∀ a ∈ L.take p, leR a r = true) (h2 : ∀ b ∈ L.drop p, leR r b = true) : SortedR (L.take p ++ r :: L.drop p) := by
  have hs : SortedR (L.take p ++ L.drop p) := by rw [List.take_append_drop]; exact h
  unfold SortedR at *
  rw [List.pairwise_append] at hs ⊢
  refine ⟨hs.1, List.pairwise_cons.2 ⟨h2, hs.2.1⟩, fun a ha b hb => ?_⟩
  rcases List.mem_cons.1 hb with rfl | hb
  · exact h1 a ha
  · exact hs.2.2 a ha b hb
theorem ins_perm (L : List Rl) (p : Nat) (r : Rl) : (L.take p ++ r :: L.drop p).Perm (L ++ [r]) := by
  have h := List.perm_middle (a := r) (l₁ := L.take p) (l₂ := L.drop p)
  rw [List.take_append_drop] at h
  exact h.trans (List.perm_append_singleton r L).symm
/-- The last of a sorted head is not greater: all of it is not. -/
theorem head_le {L : List Rl} {p : Nat} {r : Rl} (h : SortedR L) (hp : p ≤ L.length) (h1 : p = 0 ∨ leR (L.getD (p - 1) default) r = true) : ∀ a ∈ L.take p, leR a r = true := by
  intro a ha
  rcases h1 with rfl | h1
  · simp at ha
  · obtain ⟨i, hi, rfl⟩ := List.mem_take_iff_getElem.1 ha
    have hip : i < p := by omega
    by_cases he : i = p - 1
    · subst he
      simpa [List.getD, show p - 1 < L.length by omega] using h1
    · have hq : p - 1 < L.length := by omega
      have := List.pairwise_iff_getElem.1 h i (p - 1) (by omega) hq (by omega)
      refine leR_trans _ _ _ this ?_
      simpa [List.getD, hq] using h1
end Go.Proofs.Ytpddpdkdlodniaa

namespace Go.Proofs.Ytpddpdkdlodniaa
open Go.RowKit

/-- The docket's block, the result's, the copies, and the rulings so far: sorted, and those of the first k matters. -/
def LapAt (w : World) (C : Nat) (ro : Option Addr) (rc : Nat) (mo : Option Addr) (mc : Nat) (day' ans app : Int) (H : List Int) (l : List Mt) (k : Nat) (L : List Rl) (v : Value) (wr : World) : Prop :=
  wr.heap[C]? = some (dkObj day' ans app ro H.length rc mo l.length mc) ∧ wr.heap[w.heap.size + 1]? = some dkZero ∧
    wr.ownsRow w.heap.size 3 1 (.slice ro H.length rc) H.length (H.map (Value.int .i64)) ∧ wr.ownsRow w.heap.size 50 5 (.slice mo l.length mc) l.length ((mixF day' l k).flatMap mtCells) ∧
    wr.ownsRow w.heap.size 52 3 v L.length (L.flatMap rlCells) ∧ Below w.heap.size w wr ∧ L.Perm (rulesF day' (l.take k)) ∧ SortedR L
theorem LapAt.next {w : World} {C : Nat} {ro : Option Addr} {rc : Nat} {mo : Option Addr} {mc : Nat} {day' ans app : Int} {H : List Int} {l : List Mt} {k : Nat} {L : List Rl} {v : Value} {wr w2 : World} (h : LapAt w C ro rc mo mc day' ans app H l k L v wr) (hb : Below wr.heap.size wr w2) : LapAt w C ro rc mo mc day' ans app H l k L v w2 := by
  obtain ⟨a, b, c, d, e, f, g⟩ := h
  exact ⟨keep_heap hb a, keep_heap hb b, owns_next c hb, owns_next d hb, owns_next e hb, f.trans (hb.mono f.size), g⟩
theorem LapAt.skip {w : World} {C : Nat} {ro : Option Addr} {rc : Nat} {mo : Option Addr} {mc : Nat} {day' ans app : Int} {H : List Int} {l : List Mt} {k : Nat} {L : List Rl} {v : Value} {wr : World} (h : LapAt w C ro rc mo mc day' ans app H l k L v wr) (hk : k < l.length) (hl : lapsesF day' (l.getD k default) = false) : LapAt w C ro rc mo mc day' ans app H l (k + 1) L v wr := by
  obtain ⟨a, b, c, d, e, f, g⟩ := h
  exact ⟨a, b, c, by rw [mix_same day' l k hk hl]; exact d, e, f, by rw [rules_no day' l k hk hl]; exact g⟩
theorem LapAt.len {w : World} {C : Nat} {ro : Option Addr} {rc : Nat} {mo : Option Addr} {mc : Nat} {day' ans app : Int} {H : List Int} {l : List Mt} {k : Nat} {L : List Rl} {v : Value} {wr : World} (h : LapAt w C ro rc mo mc day' ans app H l k L v wr) : L.length ≤ l.length := by
  rw [h.2.2.2.2.2.2.1.length_eq]
  have := rules_len day' (l.take k)
  simp at this
  omega
/-- At the end the rulings are those of the plain answer. -/
theorem LapAt.done {w : World} {C : Nat} {ro : Option Addr} {rc : Nat} {mo : Option Addr} {mc : Nat} {day' ans app : Int} {H : List Int} {l : List Mt} {L : List Rl} {v : Value} {wr : World} (h : LapAt w C ro rc mo mc day' ans app H l l.length L v wr) (hA : Apart l) :
    wr.ownsRow w.heap.size 50 5 (.slice mo l.length mc) l.length ((l.map (lapseF day')).flatMap mtCells) ∧ wr.ownsRow w.heap.size 52 3 v (rulesF day' l).length ((sortR (rulesF day' l)).flatMap rlCells) := by
  obtain ⟨a, b, c, d, e, f, g1, g2⟩ := h
  rw [mix_end] at d
  rw [List.take_length] at g1
  have hL := sortR_unique g1 g2 (rules_apart hA)
  have hn := g1.length_eq
  rw [hn, hL] at e
  exact ⟨d, e⟩

/-- A ruling stored whole into a list of rulings that the call owns. -/
theorem rl_split (L : List Rl) (i : Nat) (h : i < L.length) : L.flatMap rlCells = (L.take i).flatMap rlCells ++ (rlCells (L.getD i default) ++ (L.drop (i + 1)).flatMap rlCells) := by
  conv => lhs; rw [← List.take_append_drop i L, List.drop_eq_getElem_cons h]
  rw [List.flatMap_append, List.flatMap_cons]
  simp [List.getD, h]
theorem rl_put (L : List Rl) (i : Nat) (h : i < L.length) (r : Rl) :
    (((L.flatMap rlCells).set (i * 3) (.int .i64 r.id)).set (i * 3 + 1) (.int .i64 r.day)).set (i * 3 + 2) (.int .i64 r.opt) = (L.set i r).flatMap rlCells := by
  have hA : ((L.take i).flatMap rlCells).length = i * 3 := by rw [flat_len rlCells 3 (fun _ => rfl)]; simp; omega
  have e2 : L.set i r = L.take i ++ r :: L.drop (i + 1) := by rw [List.set_eq_take_append_cons_drop, if_pos h]
  rw [e2, List.flatMap_append, List.flatMap_cons, rl_split L i h]
  generalize L.getD i default = m
  rw [List.set_append_right _ _ (by omega), List.set_append_right _ _ (by omega), List.set_append_right _ _ (by omega), hA]
  rw [show i * 3 - i * 3 = 0 by omega, show i * 3 + 1 - i * 3 = 1 by omega, show i * 3 + 2 - i * 3 = 2 by omega]
  rfl
theorem owns_rl {w : World} {base g cap n : Nat} {L : List Rl} {i : Nat} (h : w.ownsRow base 52 3 (.slice (some ⟨g, 0, none⟩) n cap) n (L.flatMap rlCells)) (hi : i < L.length) (r : Rl) :
    (((w.setCell ⟨g, i * 3, none⟩ (.int .i64 r.id)).setCell ⟨g, i * 3 + 1, none⟩ (.int .i64 r.day)).setCell ⟨g, i * 3 + 2, none⟩ (.int .i64 r.opt)).ownsRow base 52 3 (.slice (some ⟨g, 0, none⟩) n cap) n ((L.set i r).flatMap rlCells) := by
  have h1 := (h.stored (i * 3) (.int .i64 r.id)).1
  have h2 := (h1.stored (i * 3 + 1) (.int .i64 r.day)).1
  have h3 := (h2.stored (i * 3 + 2) (.int .i64 r.opt)).1
  rwa [rl_put L i hi r] at h3
end Go.Proofs.Ytpddpdkdlodniaa

namespace Go.Proofs.Ytpddpdkdlodniaa
open Go.RowKit

/-- The docket's block, the result's, the copies, and a list of rulings. -/
def LapB (w : World) (C : Nat) (ro : Option Addr) (rc : Nat) (mo : Option Addr) (mc : Nat) (day' ans app : Int) (H : List Int) (l : List Mt) (k : Nat) (L : List Rl) (v : Value) (wr : World) : Prop :=
  wr.heap[C]? = some (dkObj day' ans app ro H.length rc mo l.length mc) ∧ wr.heap[w.heap.size + 1]? = some dkZero ∧
    wr.ownsRow w.heap.size 3 1 (.slice ro H.length rc) H.length (H.map (Value.int .i64)) ∧ wr.ownsRow w.heap.size 50 5 (.slice mo l.length mc) l.length ((mixF day' l k).flatMap mtCells) ∧
    wr.ownsRow w.heap.size 52 3 v L.length (L.flatMap rlCells) ∧ Below w.heap.size w wr
/-- The block of the ruling that is put into its place. -/
def RAt (R : Nat) (r : Rl) (wr : World) : Prop := wr.heap[R]? = some (.cells #[.int .i64 r.id, .int .i64 r.day, .int .i64 r.opt] 52 (0, 0))
section
variable {w : World} {C : Nat} {ro : Option Addr} {rc : Nat} {mo : Option Addr} {mc : Nat} {day' ans app : Int} {H : List Int} {l : List Mt} {k : Nat} {L : List Rl} {v : Value} {wr w2 : World}
theorem LapAt.base (h : LapAt w C ro rc mo mc day' ans app H l k L v wr) : LapB w C ro rc mo mc day' ans app H l k L v wr :=
  ⟨h.1, h.2.1, h.2.2.1, h.2.2.2.1, h.2.2.2.2.1, h.2.2.2.2.2.1⟩
theorem LapB.next (h : LapB w C ro rc mo mc day' ans app H l k L v wr) (hb : Below wr.heap.size wr w2) : LapB w C ro rc mo mc day' ans app H l k L v w2 := by
  obtain ⟨a, b, c, d, e, f⟩ := h
  exact ⟨keep_heap hb a, keep_heap hb b, owns_next c hb, owns_next d hb, owns_next e hb, f.trans (hb.mono f.size)⟩
theorem RAt.next {R : Nat} {r : Rl} (h : RAt R r wr) (hb : Below wr.heap.size wr w2) : RAt R r w2 := keep_heap hb h
theorem RAt.cells {R : Nat} {r : Rl} (h : RAt R r wr) : wr.cell? ⟨R, 0, none⟩ = some (.int .i64 r.id) ∧ wr.cell? ⟨R, 1, none⟩ = some (.int .i64 r.day) ∧ wr.cell? ⟨R, 2, none⟩ = some (.int .i64 r.opt) :=
  ⟨by rw [cell_of_row _ _ _ _ _ _ h]; rfl, by rw [cell_of_row _ _ _ _ _ _ h]; rfl, by rw [cell_of_row _ _ _ _ _ _ h]; rfl⟩
/-- A matter has lapsed: three stores. -/
theorem LapB.put {g : Nat} (h : LapB w C ro rc (some ⟨g, 0, none⟩) mc day' ans app H l k L v wr) (hk : k < l.length) (hl : lapsesF day' (l.getD k default) = true) :
    LapB w C ro rc (some ⟨g, 0, none⟩) mc day' ans app H l (k + 1) L v (((wr.setCell ⟨g, k * 5 + 4, none⟩ (.bool (decide ((l.getD k default).st = 2)))).setCell ⟨g, k * 5 + 1, none⟩ (.int .i64 6)).setCell ⟨g, k * 5 + 2, none⟩ (.int .i64 0)) := by
  obtain ⟨a5, b5, c5, d5, e5, f5⟩ := h
  have hgb : w.heap.size ≤ g := (d5.lt g rfl).1
  obtain ⟨cs, hcs⟩ := row_block d5 rfl
  have hcs1 := heap_setCell_same _ g (k * 5 + 4) _ 50 (.bool (decide ((l.getD k default).st = 2))) hcs
  have hcs2 := heap_setCell_same _ g (k * 5 + 1) _ 50 (.int .i64 6) hcs1
  have hCg : C ≠ g := fun e1 => by rw [e1, hcs] at a5; simp at a5
  have hRg : w.heap.size + 1 ≠ g := fun e1 => by rw [e1, hcs] at b5; simp at b5
  have d6 := owns_put d5 (i := k) (by rw [mix_len]; exact hk) 6 0 (decide ((l.getD k default).st = 2))
  rw [mix_get day' l k hk] at d6
  have el : lapseF day' (l.getD k default) = ⟨(l.getD k default).id, 6, 0, (l.getD k default).opt, decide ((l.getD k default).st = 2)⟩ := by unfold lapseF; rw [if_pos hl]
  rw [← el, mix_set day' l k hk] at d6
  exact ⟨set_heap (set_heap (set_heap a5 hCg) hCg) hCg, set_heap (set_heap (set_heap b5 hRg) hRg) hRg, owns_set (owns_set (owns_set c5 hcs (by decide)) hcs1 (by decide)) hcs2 (by decide), d6,
    owns_set (owns_set (owns_set e5 hcs (by decide)) hcs1 (by decide)) hcs2 (by decide), ((f5.setCell hgb _).setCell hgb _).setCell hgb _⟩
theorem RAt.put {g R : Nat} {r : Rl} {i j m : Nat} {x y z : Value} (h : RAt R r wr) (hg : ∃ cs, wr.heap[g]? = some (.cells cs 50 (0, 0))) : RAt R r (((wr.setCell ⟨g, i, none⟩ x).setCell ⟨g, j, none⟩ y).setCell ⟨g, m, none⟩ z) := by
  obtain ⟨cs, hcs⟩ := hg
  have hne : R ≠ g := fun e1 => by unfold RAt at h; rw [e1, hcs] at h; simp at h
  exact set_heap (set_heap (set_heap h hne) hne) hne
/-- The list of rulings has grown. -/
theorem LapB.grown {L' : List Rl} {v' : Value} (h : LapB w C ro rc mo mc day' ans app H l k L v wr) (hg : wr.grownBy w2 v.ownBlock) (ho : w2.ownsRow w.heap.size 52 3 v' L'.length (L'.flatMap rlCells)) : LapB w C ro rc mo mc day' ans app H l k L' v' w2 := by
  obtain ⟨a, b, c, d, e, f⟩ := h
  exact ⟨heap_grown a e (by decide) hg, heap_grown b e (by decide) hg, owns_grown c e (by decide) hg, owns_grown d e (by decide) hg, ho, f.grown hg f.size (fun j hj => (e.lt j hj).1)⟩
theorem RAt.grown {R : Nat} {r : Rl} {row : Option Nat} (h : RAt R r wr) (hg : wr.grownBy w2 row) (hne : some R ≠ row) : RAt R r w2 := by
  unfold RAt at *
  rw [hg.block R (Array.getElem?_eq_some_iff.1 h).1 hne]
  exact h
/-- A ruling is stored. -/
theorem LapB.store {g2 cap i : Nat} (h : LapB w C ro rc mo mc day' ans app H l k L (.slice (some ⟨g2, 0, none⟩) L.length cap) wr) (hi : i < L.length) (r : Rl) :
    LapB w C ro rc mo mc day' ans app H l k (L.set i r) (.slice (some ⟨g2, 0, none⟩) L.length cap) (((wr.setCell ⟨g2, i * 3, none⟩ (.int .i64 r.id)).setCell ⟨g2, i * 3 + 1, none⟩ (.int .i64 r.day)).setCell ⟨g2, i * 3 + 2, none⟩ (.int .i64 r.opt)) := by
  obtain ⟨a, b, c, d, e, f⟩ := h
  have hgb : w.heap.size ≤ g2 := (e.lt g2 rfl).1
  obtain ⟨cs, hcs⟩ := row_block e rfl
  have hcs1 := heap_setCell_same _ g2 (i * 3) _ 52 (.int .i64 r.id) hcs
  have hcs2 := heap_setCell_same _ g2 (i * 3 + 1) _ 52 (.int .i64 r.day) hcs1
  have hCg : C ≠ g2 := fun e1 => by rw [e1, hcs] at a; simp at a
  have hRg : w.heap.size + 1 ≠ g2 := fun e1 => by rw [e1, hcs] at b; simp at b
  refine ⟨set_heap (set_heap (set_heap a hCg) hCg) hCg, set_heap (set_heap (set_heap b hRg) hRg) hRg, owns_set (owns_set (owns_set c hcs (by decide)) hcs1 (by decide)) hcs2 (by decide),
    owns_set (owns_set (owns_set d hcs (by decide)) hcs1 (by decide)) hcs2 (by decide), ?_, ((f.setCell hgb _).setCell hgb _).setCell hgb _⟩
  rw [List.length_set]
  exact owns_rl e hi r
theorem RAt.store {g2 R : Nat} {r : Rl} {i j m : Nat} {x y z : Value} (h : RAt R r wr) (hne : R ≠ g2) : RAt R r (((wr.setCell ⟨g2, i, none⟩ x).setCell ⟨g2, j, none⟩ y).setCell ⟨g2, m, none⟩ z) :=
  set_heap (set_heap (set_heap h hne) hne) hne
/-- The cells of a ruling of the list. -/
theorem owns_rcells {g2 cap n : Nat} {base : Nat} (h : wr.ownsRow base 52 3 (.slice (some ⟨g2, 0, none⟩) n cap) n (L.flatMap rlCells)) (i : Nat) (hi : i < L.length) :
    wr.cell? ⟨g2, i * 3, none⟩ = some (.int .i64 (L.getD i default).id) ∧ wr.cell? ⟨g2, i * 3 + 1, none⟩ = some (.int .i64 (L.getD i default).day) ∧ wr.cell? ⟨g2, i * 3 + 2, none⟩ = some (.int .i64 (L.getD i default).opt) := by
  have hA : ((L.take i).flatMap rlCells).length = i * 3 := by rw [flat_len rlCells 3 (fun _ => rfl)]; simp; omega
  have hn : (L.flatMap rlCells).length = L.length * 3 := flat_len rlCells 3 (fun _ => rfl) L
  have hn2 := h.1
  have key : ∀ j u, j < 3 → (rlCells (L.getD i default))[j]? = some u → wr.cell? ⟨g2, i * 3 + j, none⟩ = some u := fun j u hj hu => by
    rw [h.cellAt (i * 3 + j) (by omega), rl_split L i hi, List.getElem?_append_right (by omega), hA, show i * 3 + j - i * 3 = j by omega, List.getElem?_append_left (by simpa [rlCells] using hj)]
    exact hu
  exact ⟨key 0 _ (by omega) rfl, key 1 _ (by omega) rfl, key 2 _ (by omega) rfl⟩
/-- What a list that is not empty looks like. -/
theorem LapB.form (h : LapB w C ro rc mo mc day' ans app H l k L v wr) (hn : 0 < L.length) : ∃ g2 cap, v = .slice (some ⟨g2, 0, none⟩) L.length cap ∧ g2 < wr.heap.size ∧ L.length ≤ cap ∧ w.heap.size ≤ g2 := by
  rcases h.2.2.2.2.1.2 with ⟨_, h0⟩ | ⟨g, cap, cur, hv, hb, hg, hc, _⟩
  · omega
  · exact ⟨g, cap, hv, (Array.getElem?_eq_some_iff.1 hg).1, hc, hb⟩
/-- The ruling is put, the state of the loop holds again. -/
theorem LapAt.ins {p : Nat} {r : Rl} {v' : Value} (h : LapAt w C ro rc mo mc day' ans app H l k L v wr) (hk : k < l.length) (hl : lapsesF day' (l.getD k default) = true) (hr : rulingF (l.getD k default) = r) (h1 : ∀ a ∈ L.take p, leR a r = true) (h2 : ∀ b ∈ L.drop p, leR r b = true)
    (hb : LapB w C ro rc mo mc day' ans app H l (k + 1) (L.take p ++ r :: L.drop p) v' w2) : LapAt w C ro rc mo mc day' ans app H l (k + 1) (L.take p ++ r :: L.drop p) v' w2 := by
  obtain ⟨-, -, -, -, -, -, hp, hs⟩ := h
  obtain ⟨a, b, c, d, e, f⟩ := hb
  refine ⟨a, b, c, d, e, f, ?_, ins_sorted hs h1 h2⟩
  rw [rules_yes day' l k hk hl, hr]
  exact (ins_perm L p r).trans (hp.append_right _)
end

theorem hat_ne {R gg n : Nat} {v : Value} (hN : some R ≠ v.ownBlock) (h : v.ownBlock = some gg ∨ gg = n) (hR : R < n) : R ≠ gg := by
  intro e
  rcases h with h | h
  · exact hN (by rw [h, e])
  · omega

/-- The list while its elements are moved up: place j is free. -/
def shiftF (L : List Rl) (x : Rl) (j : Nat) : List Rl := L.take j ++ x :: L.drop j
theorem shift_len (L : List Rl) (x : Rl) {j : Nat} (h : j ≤ L.length) : (shiftF L x j).length = L.length + 1 := by
  simp [shiftF]; omega
theorem shift_get (L : List Rl) (x : Rl) {j : Nat} (h : j + 1 ≤ L.length) : (shiftF L x (j + 1)).getD j default = L.getD j default := by
  have hj : j < L.length := by omega
  simp [shiftF, List.getD, List.getElem?_append, hj, Nat.min_eq_left h]
theorem shift_set (L : List Rl) (x y : Rl) {j : Nat} (h : j ≤ L.length) : (shiftF L x j).set j y = shiftF L y j := by
  unfold shiftF
  have hl : (L.take j).length = j := by simp; omega
  rw [List.set_append_right _ _ (by omega), hl, Nat.sub_self, List.set_cons_zero]
theorem take_snocR {L : List Rl} {j : Nat} (h : j < L.length) : L.take (j + 1) = L.take j ++ [L.getD j default] := by
  rw [List.take_succ_eq_append_getElem h]
  simp [List.getD, h]
theorem shift_down (L : List Rl) {j : Nat} (h : j + 1 ≤ L.length) : shiftF L (L.getD j default) (j + 1) = shiftF L (L.getD j default) j := by
  have hj : j < L.length := by omega
  unfold shiftF
  rw [take_snocR hj, List.append_assoc]
  conv => rhs; rw [List.drop_eq_getElem_cons hj]
  simp [List.getD, hj]
theorem shift_end (L : List Rl) (x : Rl) : shiftF L x L.length = L ++ [x] := by simp [shiftF]

/-- Must the place move on before this ruling? -/
def aheadR (x r : Rl) : Bool := decide (r.day < x.day) || (decide (x.day = r.day) && decide (r.id < x.id))
theorem ahead_iff (x r : Rl) : aheadR x r = true ↔ leR x r = false := by
  simp [aheadR, leR]; omega
theorem drop_step {L : List Rl} {r : Rl} {p : Nat} (hp : p + 1 ≤ L.length) (h : ∀ b ∈ L.drop (p + 1), leR r b = true) (ha : leR (L.getD p default) r = false) : ∀ b ∈ L.drop p, leR r b = true := by
  have hj : p < L.length := by omega
  rw [List.drop_eq_getElem_cons hj]
  intro b hb
  rcases List.mem_cons.1 hb with rfl | hb
  · exact le_of_not (by simpa [List.getD, hj] using ha)
  · exact h b hb
section
variable {w : World} {C : Nat} {ro : Option Addr} {rc : Nat} {mo : Option Addr} {mc : Nat} {day' ans app : Int} {H : List Int} {l : List Mt} {k : Nat} {L : List Rl} {v : Value} {wr w2 : World}
/-- The place that is free moves down. -/
theorem LapB.shift {g2 cap j : Nat} {x : Rl} (h : LapB w C ro rc mo mc day' ans app H l k (shiftF L x (j + 1)) (.slice (some ⟨g2, 0, none⟩) (L.length + 1) cap) wr) (hj : j + 1 ≤ L.length) {y : Rl} (hy : L.getD j default = y) :
    LapB w C ro rc mo mc day' ans app H l k (shiftF L y j) (.slice (some ⟨g2, 0, none⟩) (L.length + 1) cap) (((wr.setCell ⟨g2, (j + 1) * 3, none⟩ (.int .i64 y.id)).setCell ⟨g2, (j + 1) * 3 + 1, none⟩ (.int .i64 y.day)).setCell ⟨g2, (j + 1) * 3 + 2, none⟩ (.int .i64 y.opt)) := by
  subst hy
  have hl := shift_len L x hj
  rw [← hl] at h
  have := h.store (i := j + 1) (by omega) (L.getD j default)
  rw [shift_set L x _ hj, shift_down L hj, hl] at this
  exact this
/-- The ruling is put into the place that is free. -/
theorem LapB.fill {g2 cap p : Nat} {x r : Rl} (h : LapB w C ro rc mo mc day' ans app H l k (shiftF L x p) (.slice (some ⟨g2, 0, none⟩) (L.length + 1) cap) wr) (hp : p ≤ L.length) :
    LapB w C ro rc mo mc day' ans app H l k (L.take p ++ r :: L.drop p) (.slice (some ⟨g2, 0, none⟩) (L.length + 1) cap) (((wr.setCell ⟨g2, p * 3, none⟩ (.int .i64 r.id)).setCell ⟨g2, p * 3 + 1, none⟩ (.int .i64 r.day)).setCell ⟨g2, p * 3 + 2, none⟩ (.int .i64 r.opt)) := by
  have hl := shift_len L x hp
  rw [← hl] at h
  have := h.store (i := p) (by omega) r
  rw [shift_set L x _ hp, hl] at this
  exact this
/-- What the walk reads and writes in the list that is moved. -/
theorem LapB.cellsAt {g2 cap j : Nat} {x y : Rl} (h : LapB w C ro rc mo mc day' ans app H l k (shiftF L x (j + 1)) (.slice (some ⟨g2, 0, none⟩) (L.length + 1) cap) wr) (hj : j + 1 ≤ L.length) (hy : L.getD j default = y) :
    wr.cell? ⟨g2, j * 3, none⟩ = some (.int .i64 y.id) ∧ wr.cell? ⟨g2, j * 3 + 1, none⟩ = some (.int .i64 y.day) ∧ wr.cell? ⟨g2, j * 3 + 2, none⟩ = some (.int .i64 y.opt) := by
  have hl := shift_len L x hj
  have h5 := h.2.2.2.2.1
  rw [hl] at h5
  have := owns_rcells h5 j (by omega)
  rw [shift_get L x hj, hy] at this
  exact this
theorem LapB.old {g2 cap j : Nat} {x : Rl} (h : LapB w C ro rc mo mc day' ans app H l k (shiftF L x j) (.slice (some ⟨g2, 0, none⟩) (L.length + 1) cap) wr) (i : Nat) (hi : i ≤ L.length) (hj : j ≤ L.length) :
    (∃ a, wr.cell? ⟨g2, i * 3, none⟩ = some a) ∧ (∃ a, wr.cell? ⟨g2, i * 3 + 1, none⟩ = some a) ∧ (∃ a, wr.cell? ⟨g2, i * 3 + 2, none⟩ = some a) ∧ ∀ o, wr.frozen? ⟨g2, o, none⟩ = false := by
  have hl := shift_len L x hj
  have h5 := h.2.2.2.2.1
  rw [hl] at h5
  obtain ⟨a, b, c⟩ := owns_rcells h5 i (by omega)
  exact ⟨⟨_, a⟩, ⟨_, b⟩, ⟨_, c⟩, fun o => h5.frozenAt o⟩
end
/-- Where the ruling belongs: the cut behind the first loop. -/
def CutR (w7 : World) (L : List Rl) (r : Rl) (s : Value) (wx : World) : Prop :=
  ∃ p : Nat, p ≤ L.length ∧ s = .int .i64 p ∧ (∀ a ∈ L.take p, leR a r = true) ∧ (∀ b ∈ L.drop p, leR r b = true) ∧ Below w7.heap.size w7 wx
/-- What the first loop keeps. -/
def DownR (w7 : World) (L : List Rl) (r : Rl) (p : Nat) (wx : World) : Prop := (∀ b ∈ L.drop p, leR r b = true) ∧ Below w7.heap.size w7 wx
theorem DownR.step {w7 wx wy : World} {L : List Rl} {r : Rl} {q : Nat} (h : DownR w7 L r (q + 1) wx) (hq : q + 1 ≤ L.length) {x : Rl} (hx : L.getD q default = x) (ha : leR x r = false) (hb : Below wx.heap.size wx wy) : DownR w7 L r q wy :=
  ⟨drop_step hq h.1 (by rw [hx]; exact ha), h.2.trans (hb.mono h.2.size)⟩
theorem DownR.stop {w7 wx wy : World} {L : List Rl} {r : Rl} {q : Nat} (hs : SortedR L) (h : DownR w7 L r (q + 1) wx) (hq : q + 1 ≤ L.length) {x : Rl} (hx : L.getD q default = x) (ha : leR x r = true) (hb : Below wx.heap.size wx wy) : CutR w7 L r (.int .i64 ((q + 1 : Nat) : Int)) wy :=
  ⟨q + 1, hq, rfl, head_le hs hq (.inr (by rw [Nat.add_sub_cancel, hx]; exact ha)), h.1, h.2.trans (hb.mono h.2.size)⟩
theorem DownR.zero {w7 wx wy : World} {L : List Rl} {r : Rl} (h : DownR w7 L r 0 wx) (hb : Below wx.heap.size wx wy) : CutR w7 L r (.int .i64 ((0 : Nat) : Int)) wy :=
  ⟨0, Nat.zero_le _, rfl, by simp, h.1, h.2.trans (hb.mono h.2.size)⟩
end Go.Proofs.Ytpddpdkdlodniaa

namespace Go.Proofs.Ytpddpdkdlodniaa
open Go.RowKit

set_option maxRecDepth 100000 in
set_option maxHeartbeats 8000000 in
theorem lapsed_any (day ans app day' : Int) (ho mo : Option Addr) (hc mc : Nat) (H : List Int) (l : List Mt) (w : World) (hM : Mts w mo l) (hI : Ints w ho H) (hn : ho = none → hc = 0) (mn : mo = none → mc = 0) (hl : l.length ≤ 1000) (hH : H.length ≤ 1000000)
    (hA : Apart l) (hdu : ∀ m ∈ l, runsF m = true → 0 ≤ m.due ∧ m.due ≤ 1048576) :
    Calls Try.prog 45 #[.agg #[.int .i64 day, .int .i64 ans, .int .i64 app, .slice ho H.length hc, .slice mo l.length mc], .int .i64 day'] w fun e w' => ∃ ro rc mo' mc' v, e = .returned (.tuple #[.agg #[.int .i64 day', .int .i64 ans, .int .i64 app, .slice ro H.length rc, .slice mo' l.length mc'], v]) ∧
      w'.ownsRow w.heap.size 3 1 (.slice ro H.length rc) H.length (H.map (Value.int .i64)) ∧ w'.ownsRow w.heap.size 50 5 (.slice mo' l.length mc') l.length ((l.map (lapseF day')).flatMap mtCells) ∧
      w'.ownsRow w.heap.size 52 3 v (rulesF day' l).length ((sortR (rulesF day' l)).flatMap rlCells) ∧ Below w.heap.size w w' := by
  have HA := Lib.hid hA
  have HDU := Lib.hid hdu
  clear hA hdu
  obtain ⟨i0, hi, hz0, hz1, hz2⟩ := info_split Try.infoRuling
  obtain ⟨W, hW⟩ : ∃ W, (w.alloc (dkObj day ans app ho H.length hc mo l.length mc)).alloc dkZero = W := ⟨_, rfl⟩
  have hbW : Below w.heap.size w W := by rw [← hW]; go_grown
  have k1 : W.heap[w.heap.size]? = some (dkObj day ans app ho H.length hc mo l.length mc) := by rw [← hW]; exact alloc_heap (heap_alloc_new w _)
  have k2 : W.heap[w.heap.size + 1]? = some dkZero := by
    have := heap_alloc_new (w.alloc (dkObj day ans app ho H.length hc mo l.length mc)) dkZero
    rw [World.size_alloc] at this
    rw [← hW]
    exact this
  have HC := Lib.hid (copiedR_any day ans app ho mo hc mc H l W (hI.next hbW) (hM.next hbW) hn mn hH (by omega))
  have HBW := Lib.hid hbW
  have K1 := Lib.hid k1
  have K2 := Lib.hid k2
  have HWW := Lib.hid hW
  clear hI hM hn mn hbW k1 k2 hW
  go_enter Try.func45, Try.ntmps45
  go_upto_region 1 with fail
  try dsimp only
  rw [HWW.out]
  obtain ⟨x0, x1, x2, x3, x4⟩ := five_cells K1.out
  go_wp2_with fail
  refine HC.out.mono ?_
  rintro e w2 ⟨ro, rc, mo', mc', rfl, hR, hO, hb2⟩
  clear x0 x1 x2 x3 x4 HC
  go_upto_region 2 with fail
  try dsimp only
  generalize hw3 : w2.alloc (.cells #[.int .i64 day, .int .i64 ans, .int .i64 app, .slice ro H.length rc, .slice mo' l.length mc'] 30) = w3
  have hb3 : Below w2.heap.size w2 w3 := by rw [← hw3]; exact (Below.refl _ _).alloc (Nat.le_refl _) _
  have hC3 : w3.heap[w2.heap.size]? = some (dkObj day ans app ro H.length rc mo' l.length mc') := by rw [← hw3]; exact heap_alloc_new w2 _
  have hz3 : w3.heap[w.heap.size + 1]? = some dkZero := keep_heap (hb2.trans (hb3.mono hb2.size)) K2.out
  have hlt3 : w.heap.size + 1 < w2.heap.size := by
    have := (Array.getElem?_eq_some_iff.1 K2.out).1
    have := hb2.size
    omega
  have hBC : Below w.heap.size w w3 := HBW.out.trans ((hb2.trans (hb3.mono hb2.size)).mono HBW.out.size)
  have hR3 : w3.ownsRow w.heap.size 3 1 (.slice ro H.length rc) H.length (H.map (Value.int .i64)) := (owns_next hR hb3).mono HBW.out.size
  have hO3 : w3.ownsRow w.heap.size 50 5 (.slice mo' l.length mc') l.length (l.flatMap mtCells) := (owns_next hO hb3).mono HBW.out.size
  obtain ⟨x0, x1, x2, x3, x4⟩ := five_cells hC3
  obtain ⟨f0, f1, f2, f3, f4⟩ := five_free hC3
  have HAT : Hid (LapAt w w2.heap.size ro rc mo' mc' day' ans app H l 0 [] (.slice none 0 0) (w3.setCell ⟨w2.heap.size, 0, none⟩ (.int .i64 day'))) := Lib.hid
    ⟨heap_setCell_same w3 w2.heap.size 0 _ _ (.int .i64 day') hC3, set_heap hz3 (by omega), owns_set hR3 hC3 (by decide), by rw [mix_zero]; exact owns_set hO3 hC3 (by decide), World.ownsRow_nil _ _ _ _, hBC.setCell (by show w.heap.size ≤ w2.heap.size; omega) _, by simp [rulesF], List.Pairwise.nil⟩
  have HC1 := Lib.hid hlt3
  have HBB := Lib.hid hBC.size
  clear hw3 hb3 hC3 hz3 hlt3 hBC hR3 hO3 hR hO hb2
  go_upto_region 3 with fail
  try dsimp only
  generalize hw4 : w3.setCell ⟨w2.heap.size, 0, none⟩ (.int .i64 day') = w4
  rw [hw4] at HAT
  clear hw4 x0 x1 x2 x3 x4 f0 f1 f2 f3 f4
  obtain ⟨C, hCe⟩ : ∃ C, w2.heap.size = C := ⟨_, rfl⟩
  rw [hCe] at HAT HC1
  try rw [hCe]
  clear hCe
  obtain ⟨x0, x1, x2, x3, x4⟩ := five_cells HAT.out.1
  go_wp2_with fail
  go_loopw [7, 8] (fun v i wr => ∃ k L, k ≤ l.length ∧ i = .int .i64 ((k : Nat) : Int) ∧ LapAt w C ro rc mo' mc' day' ans app H l k L v wr) (fun _ i _ => l.length - (intOf i).toNat)
  case atStart => exact ⟨0, [], Nat.zero_le _, rfl, HAT.out⟩
  case round =>
    clear HAT HBB HBW HWW K1 K2 x0 x1 x2 x3 x4
    obtain ⟨k, L, hk, rfl, hat⟩ := hrel
    obtain ⟨x0, x1, x2, x3, x4⟩ := five_cells hat.1
    have hsr := hat.base.2.2.2.2.2.size
    by_cases hlt : k < l.length
    · obtain ⟨g, rfl⟩ : ∃ g, mo' = some ⟨g, 0, none⟩ := by
        rcases hat.2.2.2.1.2 with ⟨e1, e2⟩ | ⟨g, cap, cur, e1, _⟩
        · omega
        · cases e1; exact ⟨g, rfl⟩
      have hms := owns_mts hat.2.2.2.1
      rcases hms with h0 | ⟨b, off, hbo, hbw, hc0⟩
      · have := mix_len day' l k; rw [h0] at this; simp at this; omega
      obtain ⟨rfl, rfl⟩ : b = g ∧ off = 0 := by simp at hbo; exact ⟨hbo.1.symm, hbo.2.symm⟩
      have hc1 := hc0 k (by rw [mix_len]; exact hlt)
      rw [mix_get day' l k hlt, Nat.zero_add] at hc1
      have HAT := Lib.hid hat
      have hmem : l.getD k default ∈ l := by simp [List.getD, hlt]
      have HDM := Lib.hid (HDU.out _ hmem)
      have HSK := Lib.hid (fun (h : lapsesF day' (l.getD k default) = false) => hat.skip hlt h)
      have hmcap : (l.length : Int) ≤ (mc' : Int) := by
        rcases hat.2.2.2.1.2 with ⟨e1, e2⟩ | ⟨g, cap, cur, e1, _, _, hn, _⟩
        · omega
        · cases e1; omega
      obtain ⟨m, hm⟩ : ∃ m, l.getD k default = m := ⟨_, rfl⟩
      have HM := Lib.hid hm
      rw [hm] at hc1 HSK HDM
      obtain ⟨m0, m1, m2, m3, m4⟩ := hc1
      have hk0 : (0 : Int) ≤ (k : Int) := Int.natCast_nonneg _
      have hk1 : (k : Int) < (l.length : Int) := by omega
      have hLn := hat.len
      have HRN := Lib.hid fun W => runs_any m W
      clear hbo hc0 hm hat hmem
      cases hr : runsF m
      · rw [hr] at HRN
        have HLS : Hid (lapsesF day' m = false) := Lib.hid (by simp [lapsesF, hr])
        clear hr
        go_wp2_with (go_at_call 43
                     go_must (refine (HRN.out _).mono ?_)
                     rintro e w3 ⟨rfl, rfl⟩)
        go_roundw
        case rel => exact ⟨k + 1, L, hlt, by go_num, (HSK.out HLS.out).next ((Below.refl _ _).alloc (Nat.le_refl _) _)⟩
        case measure => simp [intOf]; omega
      rw [hr] at HRN
      by_cases hdd : m.due < day'
      · have hnl : decide (day' ≤ m.due) = false := by simp; omega
        have HLS : Hid (lapsesF day' m = true) := Lib.hid (by simp [lapsesF, hr, hdd])
        obtain ⟨due0, due1⟩ := HDM.out hr
        have hwr : IntKind.i64.wrap (m.due + 1) = m.due + 1 := IntWalk.i64_in _ ⟨by omega, by omega⟩
        have HW := Lib.hid hwr
        clear hr hwr
        go_wp2_with (go_at_call 43
                     go_must (refine (HRN.out _).mono ?_)
                     rintro e w3 ⟨rfl, hw3⟩
                     have hb3 : Below wr.heap.size wr w3 := by rw [hw3]; exact (Below.refl _ _).alloc (Nat.le_refl _) _
                     clear hw3
                     have HA3 := Lib.hid (HAT.out.next hb3)
                     obtain ⟨x0, x1, x2, x3, x4⟩ := five_cells HA3.out.1
                     have m0 := (hb3.cell (p := ⟨b, k * 5, none⟩) hbw).trans m0
                     have m1 := (hb3.cell (p := ⟨b, k * 5 + 1, none⟩) hbw).trans m1
                     have m2 := (hb3.cell (p := ⟨b, k * 5 + 2, none⟩) hbw).trans m2
                     have m3 := (hb3.cell (p := ⟨b, k * 5 + 3, none⟩) hbw).trans m3
                     have m4 := (hb3.cell (p := ⟨b, k * 5 + 4, none⟩) hbw).trans m4
                     have hs3 := hb3.size
                     have hbw3 := Nat.lt_of_lt_of_le hbw hs3
                     clear hb3)
        have g1 := HA3.out.2.2.2.1.frozenAt (k * 5 + 1)
        have g2 := HA3.out.2.2.2.1.frozenAt (k * 5 + 2)
        have g4 := HA3.out.2.2.2.1.frozenAt (k * 5 + 4)
        have n0 := World.new_ne w3 ⟨b, k * 5, none⟩ m0
        have n2 := World.new_ne w3 ⟨b, k * 5 + 2, none⟩ m2
        have n3 := World.new_ne w3 ⟨b, k * 5 + 3, none⟩ m3
        have hwr := HW.out
        go_region_held3 (fun w' => w'.cell? ⟨b, k * 5, none⟩ = some (.int .i64 m.id) ∧ w'.cell? ⟨b, k * 5 + 2, none⟩ = some (.int .i64 m.due) ∧ w'.cell? ⟨b, k * 5 + 3, none⟩ = some (.int .i64 m.opt))
          (first | exact ⟨m0, m2, m3⟩ | go_keep)
          (fail)
        go_upto_region 13 with fail
        obtain ⟨w7, hw7⟩ : ∃ w7, ((((w3.setCell ⟨b, k * 5 + 4, none⟩ (.bool (m.st == 2))).setCell ⟨b, k * 5 + 1, none⟩ (.int .i64 6)).setCell ⟨b, k * 5 + 2, none⟩ (.int .i64 0)).alloc (.cells #[.int .i64 m.id, .int .i64 (m.due + 1), .int .i64 m.opt] 52)).drew = w7 := ⟨_, rfl⟩
        have hb7 : LapB w C ro rc (some ⟨b, 0, none⟩) mc' day' ans app H l (k + 1) L u7 w7 := by
          have h1 := HA3.out.base.put hlt (by rw [HM.out]; exact HLS.out)
          rw [HM.out] at h1
          rw [← hw7]
          exact h1.next (((Below.refl _ _).alloc (Nat.le_refl _) _).drew)
        have hr7 : RAt w3.heap.size (rulingF m) w7 := by
          rw [← hw7]
          have := heap_alloc_new (((w3.setCell ⟨b, k * 5 + 4, none⟩ (.bool (m.st == 2))).setCell ⟨b, k * 5 + 1, none⟩ (.int .i64 6)).setCell ⟨b, k * 5 + 2, none⟩ (.int .i64 0)) (.cells #[.int .i64 m.id, .int .i64 (m.due + 1), .int .i64 m.opt] 52)
          rw [World.size_setCell, World.size_setCell, World.size_setCell] at this
          exact this
        have hne7 : some w3.heap.size ≠ u7.ownBlock := fun e1 => by
          obtain ⟨cs, hcs⟩ := row_block HA3.out.base.2.2.2.2.1 e1.symm
          have := (Array.getElem?_eq_some_iff.1 hcs).1
          omega
        rw [hw7]
        obtain ⟨R, hR⟩ : ∃ R, w3.heap.size = R := ⟨_, rfl⟩
        obtain ⟨r, hr⟩ : ∃ r, rulingF m = r := ⟨_, rfl⟩
        rw [hR, hr] at hr7
        rw [hR] at hne7 ⊢
        have HRE := Lib.hid hr
        have HB7 := Lib.hid hb7
        have HR7 := Lib.hid hr7
        have HN7 := Lib.hid hne7
        clear hw7 hb7 hr7 hne7 hR hr x0 x1 x2 x3 x4 m0 m1 m2 m3 m4 g1 g2 g4 n0 n2 n3 hwr HW HRN HSK hsr hs3 hbw3 hbw hnl hdd due0 due1
        obtain ⟨l2, hl2⟩ : ∃ ao c, u7 = .slice ao L.length c := by
          obtain ⟨ao, c, e, _⟩ := owns_form HB7.out.2.2.2.2.1
          exact ⟨ao, c, e⟩
        obtain ⟨c2, rfl⟩ := hl2
        try clear x0 x1 x2 x3 x4 m0 m1 m2 m3 m4 HAT
        obtain ⟨wo, rfl⟩ : ∃ wo : World, wo = wr := ⟨_, rfl⟩
        go_upto_block 2 with fail
        go_cut [11] (fun s11 wx => CutR w7 L r s11 wx)
        case first =>
          go_wp2_with fail
          go_loopw [11] (fun s wr => ∃ p : Nat, p ≤ L.length ∧ s = .int .i64 p ∧ DownR w7 L r p wr) (fun s _ => (intOf s).toNat)
          case atStart => exact ⟨L.length, Nat.le_refl _, rfl, by simp, Below.refl _ _⟩
          case round =>
            obtain ⟨p, hp, rfl, hdn⟩ := hrel
            obtain ⟨q0, q1, q2⟩ := (HR7.out.next hdn.2).cells
            have hbB := HB7.out.next hdn.2
            cases p with
            | zero =>
              have HDN := Lib.hid hdn
              clear hdn hbB hp
              go_wp2_with fail
              go_quiet (fail)
              go_wp2_with fail
              go_meet
              exact HDN.out.zero (below_drewN (Below.refl _ _) _)
            | succ q =>
              obtain ⟨g2, cap2, hv, hg2, hcp, -⟩ := hbB.form (by omega)
              cases hv
              obtain ⟨c0, c1, -⟩ := owns_rcells hbB.2.2.2.2.1 q (by omega)
              obtain ⟨x, hx⟩ : ∃ x, L.getD q default = x := ⟨_, rfl⟩
              rw [hx] at c0 c1
              have HX := Lib.hid hx
              have HDN := Lib.hid hdn
              have hk0' : (0 : Int) ≤ (q : Int) := Int.natCast_nonneg _
              have hk1' : (q : Int) < (L.length : Int) := by omega
              have hk2' : (L.length : Int) ≤ 1000 := by omega
              have HS := Lib.hid hp
              clear hdn hbB hx hcp
              have hp1 : (0 : Int) < (q : Int) + 1 := by omega
              by_cases h1 : r.day < x.day
              · have b1 : decide (r.day < x.day) = true := by simpa using h1
                have HLE : Hid (leR x r = false) := Lib.hid (by simp [leR]; omega)
                go_wp2_with fail
                go_quiet (fail)
                go_wp2_with fail
                go_roundw
                case rel => exact ⟨q, Nat.le_of_succ_le HS.out, by go_num, HDN.out.step HS.out HX.out HLE.out (below_drewN (Below.refl _ _) _)⟩
                case measure => simp [intOf]
              · have b1 : decide (r.day < x.day) = false := by simpa using h1
                by_cases h2 : x.day = r.day
                · have b2 : (x.day == r.day) = true := by simpa using h2
                  by_cases h3 : r.id < x.id
                  · have b3 : decide (r.id < x.id) = true := by simpa using h3
                    have HLE : Hid (leR x r = false) := Lib.hid (by simp [leR]; omega)
                    clear h2
                    go_wp2_with fail
                    go_quiet (fail)
                    go_wp2_with fail
                    go_roundw
                    case rel => exact ⟨q, Nat.le_of_succ_le HS.out, by go_num, HDN.out.step HS.out HX.out HLE.out (below_drewN (Below.refl _ _) _)⟩
                    case measure => simp [intOf]
                  · have b3 : decide (r.id < x.id) = false := by simpa using h3
                    have HLE : Hid (leR x r = true) := Lib.hid (by simp [leR]; omega)
                    clear h2
                    go_wp2_with fail
                    go_quiet (fail)
                    go_wp2_with fail
                    go_meet
                    exact HDN.out.stop HA3.out.2.2.2.2.2.2.2 HS.out HX.out HLE.out (below_drewN (Below.refl _ _) _)
                · have b2 : (x.day == r.day) = false := by simpa using h2
                  have HLE : Hid (leR x r = true) := Lib.hid (by simp [leR]; omega)
                  go_wp2_with fail
                  go_quiet (fail)
                  go_wp2_with fail
                  go_meet
                  exact HDN.out.stop HA3.out.2.2.2.2.2.2.2 HS.out HX.out HLE.out (below_drewN (Below.refl _ _) _)
        case rest =>
          obtain ⟨p, hp, rfl, hc1, hc2, hb8⟩ := hcut
          have HP1 := Lib.hid hc1
          have HP2 := Lib.hid hc2
          have hB8 := HB7.out.next hb8
          have hR8 := HR7.out.next hb8
          have HB8 := Lib.hid hB8
          have HR8 := Lib.hid hR8
          have hRl : R < wc.heap.size := (Array.getElem?_eq_some_iff.1 hR8).1
          have hsc := hB8.2.2.2.2.2.size
          clear hc1 hc2 hb8 hB8 hR8
          go_wp2_with (at_builtin
                       refine wpList_append_lies _ rfl (.tmp 108) (.tmp 110) 32 rfl w.heap.size 52 i0 (.agg #[.int .i64 0, .int .i64 0, .int .i64 0]) 3 24 Try.underlying32 hi hz0 hz1 hz2 rfl (by decide) _ L.length _ rfl (HB8.out.2.2.2.2.1.alloc _) ⟨wc.heap.size, 0, none⟩ 1 1 [.int .i64 0, .int .i64 0, .int .i64 0] rfl rfl (World.news_of_block (cs := #[.int .i64 0, .int .i64 0, .int .i64 0]) (t := 52) (fr := (0, 0)) (heap_alloc_new wc _)) (by simp [Value.oneCell']) (by omega) (by unfold maxLen; omega) (by omega) (by simp; omega) (wc.heap.size + 1) (by simp) ?_
                       intro gg cap9 w9 hown9 hg9 hat9 hlt9
                       have HB9 : Hid (LapB w C ro rc (some ⟨b, 0, none⟩) mc' day' ans app H l (k + 1) (shiftF L ⟨0, 0, 0⟩ L.length) (.slice (some ⟨gg, 0, none⟩) (L.length + 1) cap9) w9) := Lib.hid (by
                         rw [shift_end]
                         refine (HB8.out.next ((Below.refl _ _).alloc (Nat.le_refl _) _)).grown hg9 ?_
                         rw [List.length_append, List.flatMap_append]
                         exact hown9)
                       have HR9 : Hid (RAt R r w9) := Lib.hid ((HR8.out.next ((Below.refl _ _).alloc (Nat.le_refl _) _)).grown hg9 HN7.out)
                       have HNE : Hid (R ≠ gg) := Lib.hid (hat_ne HN7.out hat9 (by omega))
                       clear hown9 hg9 hat9 hlt9)
          go_loopw [12] (fun s wr => ∃ (j : Nat) (x : Rl), p ≤ j ∧ j ≤ L.length ∧ s = .int .i64 j ∧ LapB w C ro rc (some ⟨b, 0, none⟩) mc' day' ans app H l (k + 1) (shiftF L x j) (.slice (some ⟨gg, 0, none⟩) (L.length + 1) cap9) wr ∧ RAt R r wr) (fun s _ => (intOf s).toNat)
          case atStart => exact ⟨L.length, _, hp, Nat.le_refl _, by go_num, HB9.out, HR9.out⟩
          case round =>
            obtain ⟨j, x, hpj, hj, rfl, hB, hR⟩ := hrel
            have hsr2 := hB.2.2.2.2.2.size
            have HP := Lib.hid hp
            have hw1 : (L.length : Int) ≤ 1000 := by omega
            by_cases hlt2 : p < j
            · obtain ⟨q, rfl⟩ : ∃ q, j = q + 1 := ⟨j - 1, by omega⟩
              obtain ⟨y, hy⟩ : ∃ y, L.getD q default = y := ⟨_, rfl⟩
              obtain ⟨c0, c1, c3⟩ := hB.cellsAt hj hy
              obtain ⟨⟨a0, o0⟩, ⟨a1, o1⟩, ⟨a2, o2⟩, hfz⟩ := hB.old (q + 1) hj hj
              have f0 := hfz ((q + 1) * 3)
              have f1 := hfz ((q + 1) * 3 + 1)
              have f2 := hfz ((q + 1) * 3 + 2)
              have HSH := Lib.hid (hB.shift hj hy)
              have HRS := Lib.hid (hR.store (i := (q + 1) * 3) (j := (q + 1) * 3 + 1) (m := (q + 1) * 3 + 2) (x := .int .i64 y.id) (y := .int .i64 y.day) (z := .int .i64 y.opt) HNE.out)
              have HQ := Lib.hid hj
              have HQ2 := Lib.hid hlt2
              have hq0 : (0 : Int) ≤ (q : Int) := Int.natCast_nonneg _
              have hq1 : (q : Int) < (L.length : Int) := by omega
              have hq2 : (p : Int) < (q : Int) + 1 := by omega
              have hq3 : (q : Int) + 1 < (L.length : Int) + 1 := by omega
              clear hB hR hy hfz hj hlt2 hp hpj
              go_wp2_with fail
              go_roundw
              case rel => exact ⟨q, y, Nat.le_of_lt_succ HQ2.out, Nat.le_of_succ_le HQ.out, by go_num, HSH.out, HRS.out⟩
              case measure => simp [intOf]
            · obtain rfl : p = j := by omega
              obtain ⟨c0, c1, c3⟩ := hR.cells
              obtain ⟨⟨a0, o0⟩, ⟨a1, o1⟩, ⟨a2, o2⟩, hfz⟩ := hB.old p hj hj
              have f0 := hfz (p * 3)
              have f1 := hfz (p * 3 + 1)
              have f2 := hfz (p * 3 + 2)
              have HF := Lib.hid (hB.fill (r := r) hj)
              have hq0 : (0 : Int) ≤ (p : Int) := Int.natCast_nonneg _
              have hq1 : (p : Int) < (L.length : Int) + 1 := by omega
              clear hB hR hfz hj hlt2 hp hpj
              go_wp2_with fail
              go_roundw
              case rel => exact ⟨k + 1, L.take p ++ r :: L.drop p, hlt, by go_num, HA3.out.ins hlt (by rw [HM.out]; exact HLS.out) (by rw [HM.out]; exact HRE.out) HP1.out HP2.out HF.out⟩
              case measure => simp [intOf]; omega
      · have hnl : decide (day' ≤ m.due) = true := by simp; omega
        have HLS : Hid (lapsesF day' m = false) := Lib.hid (by simp [lapsesF, hdd])
        clear hr
        go_wp2_with (go_at_call 43
                     go_must (refine (HRN.out _).mono ?_)
                     rintro e w3 ⟨rfl, rfl⟩)
        go_roundw
        case rel => exact ⟨k + 1, L, hlt, by go_num, (HSK.out HLS.out).next ((Below.refl _ _).alloc (Nat.le_refl _) _)⟩
        case measure => simp [intOf]; omega
    · obtain rfl : k = l.length := by omega
      obtain ⟨a4, a5⟩ := hat.done HA.out
      have hz := hat.2.1
      obtain ⟨y0, y1, y2, y3, y4⟩ := five_cells hz
      obtain ⟨f0, f1, f2, f3, f4⟩ := five_free hz
      have p5 := put5 (x' := .int .i64 day') (y' := .int .i64 ans) (z' := .int .i64 app) (u' := .slice ro H.length rc) (v' := .slice mo' l.length mc') hz
      obtain ⟨z0, z1, z2, z3, z4⟩ := five_cells p5
      have HR3 := Lib.hid (owns_put5 (x' := .int .i64 day') (y' := .int .i64 ans) (z' := .int .i64 app) (u' := .slice ro H.length rc) (t' := .slice mo' l.length mc') hat.2.2.1 hz (by decide))
      have HR4 := Lib.hid (owns_put5 (x' := .int .i64 day') (y' := .int .i64 ans) (z' := .int .i64 app) (u' := .slice ro H.length rc) (t' := .slice mo' l.length mc') a4 hz (by decide))
      have HR5 := Lib.hid (owns_put5 (x' := .int .i64 day') (y' := .int .i64 ans) (z' := .int .i64 app) (u' := .slice ro H.length rc) (t' := .slice mo' l.length mc') a5 hz (by decide))
      have HR6 := Lib.hid (below_put5 (x' := .int .i64 day') (y' := .int .i64 ans) (z' := .int .i64 app) (u' := .slice ro H.length rc) (t' := .slice mo' l.length mc') hat.base.2.2.2.2.2 (Nat.le_succ w.heap.size))
      have hw1 := (Array.getElem?_eq_some_iff.1 hz).1
      clear hat a4 a5 hz p5
      go_wp2_with fail
      refine bodyPost_ret (by simp [results, Try.results45, go_sem, z0, z1, z2, z3, z4]; rfl) rfl ?_
      exact ⟨ro, rc, mo', mc', _, rfl, HR3.out, HR4.out, HR5.out, HR6.out⟩
end Go.Proofs.Ytpddpdkdlodniaa
