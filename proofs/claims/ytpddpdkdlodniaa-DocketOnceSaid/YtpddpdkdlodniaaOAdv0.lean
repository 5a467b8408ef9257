/-
  Advance, without its checks: the copy of the docket that it makes; what its loop keeps.
-/
import Derived.Test.YtpddpdkdlodniaaOCopy
import Derived.Deep.DeepCutAuto
namespace Go.Proofs.Ytpddpdkdlodniaa
open Go.RowKit

/-- The five cells of a block. -/
theorem five_cells {W : World} {b : Nat} {x y z u v : Value} {T : TypeId} (h : W.heap[b]? = some (.cells #[x, y, z, u, v] T (0, 0))) :
    W.cell? ⟨b, 0, none⟩ = some x ∧ W.cell? ⟨b, 1, none⟩ = some y ∧ W.cell? ⟨b, 2, none⟩ = some z ∧ W.cell? ⟨b, 3, none⟩ = some u ∧ W.cell? ⟨b, 4, none⟩ = some v :=
  ⟨by rw [cell_of_row _ _ _ _ _ _ h]; rfl, by rw [cell_of_row _ _ _ _ _ _ h]; rfl, by rw [cell_of_row _ _ _ _ _ _ h]; rfl, by rw [cell_of_row _ _ _ _ _ _ h]; rfl, by rw [cell_of_row _ _ _ _ _ _ h]; rfl⟩
theorem five_free {W : World} {b : Nat} {cs : Array Value} {T : TypeId} (h : W.heap[b]? = some (.cells cs T (0, 0))) :
    W.frozen? ⟨b, 0, none⟩ = false ∧ W.frozen? ⟨b, 1, none⟩ = false ∧ W.frozen? ⟨b, 2, none⟩ = false ∧ W.frozen? ⟨b, 3, none⟩ = false ∧ W.frozen? ⟨b, 4, none⟩ = false :=
  ⟨frozen_of_row _ _ 0 _ _ h, frozen_of_row _ _ 1 _ _ h, frozen_of_row _ _ 2 _ _ h, frozen_of_row _ _ 3 _ _ h, frozen_of_row _ _ 4 _ _ h⟩
theorem put5 {W : World} {b : Nat} {x y z u v x' y' z' u' v' : Value} {T : TypeId} (h : W.heap[b]? = some (.cells #[x, y, z, u, v] T (0, 0))) :
    (((((W.setCell ⟨b, 0, none⟩ x').setCell ⟨b, 1, none⟩ y').setCell ⟨b, 2, none⟩ z').setCell ⟨b, 3, none⟩ u').setCell ⟨b, 4, none⟩ v').heap[b]? = some (.cells #[x', y', z', u', v'] T (0, 0)) := by
  have h1 := heap_setCell_same W b 0 _ T x' h
  have h2 := heap_setCell_same _ b 1 _ T y' h1
  have h3 := heap_setCell_same _ b 2 _ T z' h2
  have h4 := heap_setCell_same _ b 3 _ T u' h3
  have h5 := heap_setCell_same _ b 4 _ T v' h4
  exact h5
/-- Five stores into a block of another type. -/
theorem owns_put5 {w : World} {base e size n b : Nat} {v : Value} {xs : List Value} {x y z u t x' y' z' u' t' : Value} {T : TypeId} (h : w.ownsRow base e size v n xs) (hb : w.heap[b]? = some (.cells #[x, y, z, u, t] T (0, 0))) (hT : T ≠ e) :
    (((((w.setCell ⟨b, 0, none⟩ x').setCell ⟨b, 1, none⟩ y').setCell ⟨b, 2, none⟩ z').setCell ⟨b, 3, none⟩ u').setCell ⟨b, 4, none⟩ t').ownsRow base e size v n xs := by
  have h1 := heap_setCell_same w b 0 _ T x' hb
  have h2 := heap_setCell_same _ b 1 _ T y' h1
  have h3 := heap_setCell_same _ b 2 _ T z' h2
  have h4 := heap_setCell_same _ b 3 _ T u' h3
  exact owns_set (owns_set (owns_set (owns_set (owns_set h hb hT) h1 hT) h2 hT) h3 hT) h4 hT
theorem heap_put5 {w : World} {b c : Nat} {o : Obj} {x' y' z' u' t' : Value} (h : w.heap[c]? = some o) (hne : c ≠ b) :
    (((((w.setCell ⟨b, 0, none⟩ x').setCell ⟨b, 1, none⟩ y').setCell ⟨b, 2, none⟩ z').setCell ⟨b, 3, none⟩ u').setCell ⟨b, 4, none⟩ t').heap[c]? = some o :=
  set_heap (set_heap (set_heap (set_heap (set_heap h hne) hne) hne) hne) hne
theorem below_put5 {w W : World} {B b : Nat} {x' y' z' u' t' : Value} (h : Below B w W) (hb : B ≤ b) :
    Below B w (((((W.setCell ⟨b, 0, none⟩ x').setCell ⟨b, 1, none⟩ y').setCell ⟨b, 2, none⟩ z').setCell ⟨b, 3, none⟩ u').setCell ⟨b, 4, none⟩ t') :=
  ((((h.setCell hb _).setCell hb _).setCell hb _).setCell hb _).setCell hb _

/-- A docket's cells in a block. -/
abbrev dkObj (day ans app : Int) (ro : Option Addr) (hn rc : Nat) (mo : Option Addr) (mn mc : Nat) : Obj := .cells #[.int .i64 day, .int .i64 ans, .int .i64 app, .slice ro hn rc, .slice mo mn mc] 30
abbrev dkZero : Obj := .cells #[.int .i64 0, .int .i64 0, .int .i64 0, .slice none 0 0, .slice none 0 0] 30

/-- The docket that Advance has made, ahead of its loop. -/
def AdvHead (day' ans app : Int) (H : List Int) (l : List Mt) (w : World) (s : Value) (wx : World) : Prop :=
  ∃ C ro rc mo mc, s = .pointer (some ⟨C, 0, none⟩) ∧ w.heap.size + 1 < C ∧ wx.heap[C]? = some (dkObj day' ans app ro H.length rc mo l.length mc) ∧ wx.heap[w.heap.size + 1]? = some dkZero ∧
    wx.ownsRow w.heap.size 3 1 (.slice ro H.length rc) H.length (H.map (Value.int .i64)) ∧ wx.ownsRow w.heap.size 50 5 (.slice mo l.length mc) l.length (l.flatMap mtCells) ∧ Below w.heap.size w wx

/-- The docket's block was laid ahead of the last call. -/
theorem head_early {day' ans app : Int} {H : List Int} {l : List Mt} {w w4 : World} {C B2 : Nat} {ro mo : Option Addr} {rc mc : Nat} (hC : w.heap.size + 1 < C) (hz : w4.heap[C]? = some dkZero) (h0 : w4.heap[w.heap.size + 1]? = some dkZero)
    (hR : w4.ownsRow w.heap.size 3 1 (.slice ro H.length rc) H.length (H.map (Value.int .i64))) (hO : w4.ownsRow B2 50 5 (.slice mo l.length mc) l.length (l.flatMap mtCells)) (hB : w.heap.size ≤ B2) (hb : Below w.heap.size w w4) :
    AdvHead day' ans app H l w (.pointer (some ⟨C, 0, none⟩)) (((((w4.setCell ⟨C, 0, none⟩ (.int .i64 day')).setCell ⟨C, 1, none⟩ (.int .i64 ans)).setCell ⟨C, 2, none⟩ (.int .i64 app)).setCell ⟨C, 3, none⟩ (.slice ro H.length rc)).setCell ⟨C, 4, none⟩ (.slice mo l.length mc)) :=
  ⟨C, ro, rc, mo, mc, rfl, hC, put5 hz, heap_put5 h0 (by omega), owns_put5 hR hz (by decide), owns_put5 (hO.mono hB) hz (by decide), below_put5 hb (by omega)⟩
theorem head_late {day' ans app : Int} {H : List Int} {l : List Mt} {w w4 : World} {B2 : Nat} {ro mo : Option Addr} {rc mc : Nat} (hC : w.heap.size + 1 < w4.heap.size) (h0 : w4.heap[w.heap.size + 1]? = some dkZero)
    (hR : w4.ownsRow w.heap.size 3 1 (.slice ro H.length rc) H.length (H.map (Value.int .i64))) (hO : w4.ownsRow B2 50 5 (.slice mo l.length mc) l.length (l.flatMap mtCells)) (hB : w.heap.size ≤ B2) (hb : Below w.heap.size w w4) :
    AdvHead day' ans app H l w (.pointer (some ⟨w4.heap.size, 0, none⟩)) (w4.alloc (dkObj day' ans app ro H.length rc mo l.length mc)) :=
  ⟨w4.heap.size, ro, rc, mo, mc, rfl, hC, heap_alloc_new w4 _, alloc_heap h0, hR.alloc _, (hO.mono hB).alloc _, hb.alloc hb.size _⟩

/-- The matters, the first k of which have gone through Advance. -/
def mixF (day : Int) (l : List Mt) (k : Nat) : List Mt := (l.take k).map (lapseF day) ++ l.drop k
theorem mix_zero (day : Int) (l : List Mt) : mixF day l 0 = l := by simp [mixF]
theorem mix_end (day : Int) (l : List Mt) : mixF day l l.length = l.map (lapseF day) := by simp [mixF]
theorem mix_len (day : Int) (l : List Mt) (k : Nat) : (mixF day l k).length = l.length := by simp [mixF]; omega
theorem mix_get (day : Int) (l : List Mt) (k : Nat) (h : k < l.length) : (mixF day l k).getD k default = l.getD k default := by
  simp [mixF, List.getD, List.getElem?_append, h, Nat.min_eq_left (Nat.le_of_lt h)]
theorem mix_set (day : Int) (l : List Mt) (k : Nat) (h : k < l.length) : (mixF day l k).set k (lapseF day (l.getD k default)) = mixF day l (k + 1) := by
  unfold mixF
  have hk : ((l.take k).map (lapseF day)).length = k := by simp; omega
  rw [List.set_append_right _ _ (by omega), hk, Nat.sub_self, List.drop_eq_getElem_cons h, List.set_cons_zero, take_snoc' h, List.map_append]
  simp [List.getD]
theorem mix_same (day : Int) (l : List Mt) (k : Nat) (h : k < l.length) (hl : lapsesF day (l.getD k default) = false) : mixF day l (k + 1) = mixF day l k := by
  have := mix_set day l k h
  rw [← this]
  have e : lapseF day (l.getD k default) = l.getD k default := by unfold lapseF; rw [hl]; rfl
  rw [e, ← mix_get day l k h]
  have hk : k < (mixF day l k).length := by rw [mix_len]; exact h
  have e2 : (mixF day l k).getD k default = (mixF day l k)[k] := by simp [List.getD, hk]
  rw [e2, List.set_getElem_self]
theorem rules_yes (day : Int) (l : List Mt) (k : Nat) (h : k < l.length) (hl : lapsesF day (l.getD k default) = true) : rulesF day (l.take (k + 1)) = rulesF day (l.take k) ++ [rulingF (l.getD k default)] := by
  unfold rulesF
  rw [take_snoc' h, List.filter_append, List.filter_cons_of_pos hl]
  simp
theorem rules_no (day : Int) (l : List Mt) (k : Nat) (h : k < l.length) (hl : lapsesF day (l.getD k default) = false) : rulesF day (l.take (k + 1)) = rulesF day (l.take k) := by
  unfold rulesF
  rw [take_snoc' h, List.filter_append, List.filter_cons_of_neg (by rw [hl]; simp)]
  simp

/-- Three stores into a matter of a list that the call owns. -/
theorem flat_split (l : List Mt) (i : Nat) (h : i < l.length) : l.flatMap mtCells = (l.take i).flatMap mtCells ++ (mtCells (l.getD i default) ++ (l.drop (i + 1)).flatMap mtCells) := by
  conv => lhs; rw [← List.take_append_drop i l, List.drop_eq_getElem_cons h]
  rw [List.flatMap_append, List.flatMap_cons]
  simp [List.getD, h]
theorem flat_put (l : List Mt) (i : Nat) (h : i < l.length) (st due : Int) (d : Bool) :
    (((l.flatMap mtCells).set (i * 5 + 4) (.bool d)).set (i * 5 + 1) (.int .i64 st)).set (i * 5 + 2) (.int .i64 due) = (l.set i ⟨(l.getD i default).id, st, due, (l.getD i default).opt, d⟩).flatMap mtCells := by
  have hA : ((l.take i).flatMap mtCells).length = i * 5 := by rw [flat_len mtCells 5 (fun _ => rfl)]; simp; omega
  have e2 : (l.set i ⟨(l.getD i default).id, st, due, (l.getD i default).opt, d⟩) = l.take i ++ ⟨(l.getD i default).id, st, due, (l.getD i default).opt, d⟩ :: l.drop (i + 1) := (set_split h _).2
  rw [e2, List.flatMap_append, List.flatMap_cons, flat_split l i h]
  generalize l.getD i default = m
  rw [List.set_append_right _ _ (by omega), List.set_append_right _ _ (by omega), List.set_append_right _ _ (by omega), hA]
  rw [show i * 5 + 4 - i * 5 = 4 by omega, show i * 5 + 1 - i * 5 = 1 by omega, show i * 5 + 2 - i * 5 = 2 by omega]
  rfl
theorem owns_put {w : World} {base g cap n : Nat} {l : List Mt} {i : Nat} (h : w.ownsRow base 50 5 (.slice (some ⟨g, 0, none⟩) n cap) n (l.flatMap mtCells)) (hi : i < l.length) (st due : Int) (d : Bool) :
    (((w.setCell ⟨g, i * 5 + 4, none⟩ (.bool d)).setCell ⟨g, i * 5 + 1, none⟩ (.int .i64 st)).setCell ⟨g, i * 5 + 2, none⟩ (.int .i64 due)).ownsRow base 50 5 (.slice (some ⟨g, 0, none⟩) n cap) n ((l.set i ⟨(l.getD i default).id, st, due, (l.getD i default).opt, d⟩).flatMap mtCells) := by
  have h1 := (h.stored (i * 5 + 4) (.bool d)).1
  have h2 := (h1.stored (i * 5 + 1) (.int .i64 st)).1
  have h3 := (h2.stored (i * 5 + 2) (.int .i64 due)).1
  rwa [flat_put l i hi st due d] at h3

/-- What the loop of Advance keeps. -/
def AdvAt (w : World) (C : Nat) (ro : Option Addr) (rc : Nat) (mo : Option Addr) (mc : Nat) (day' ans app : Int) (H : List Int) (l : List Mt) (k : Nat) (v : Value) (wr : World) : Prop :=
  wr.heap[C]? = some (dkObj day' ans app ro H.length rc mo l.length mc) ∧ wr.heap[w.heap.size + 1]? = some dkZero ∧
    wr.ownsRow w.heap.size 3 1 (.slice ro H.length rc) H.length (H.map (Value.int .i64)) ∧ wr.ownsRow w.heap.size 50 5 (.slice mo l.length mc) l.length ((mixF day' l k).flatMap mtCells) ∧
    wr.ownsRow w.heap.size 52 3 v (rulesF day' (l.take k)).length ((rulesF day' (l.take k)).flatMap rlCells) ∧ Below w.heap.size w wr
theorem AdvAt.next {w : World} {C : Nat} {ro : Option Addr} {rc : Nat} {mo : Option Addr} {mc : Nat} {day' ans app : Int} {H : List Int} {l : List Mt} {k : Nat} {v : Value} {wr w2 : World} (h : AdvAt w C ro rc mo mc day' ans app H l k v wr) (hb : Below wr.heap.size wr w2) : AdvAt w C ro rc mo mc day' ans app H l k v w2 := by
  obtain ⟨a, b, c, d, e, f⟩ := h
  exact ⟨keep_heap hb a, keep_heap hb b, owns_next c hb, owns_next d hb, owns_next e hb, f.trans (hb.mono f.size)⟩
theorem AdvAt.skip {w : World} {C : Nat} {ro : Option Addr} {rc : Nat} {mo : Option Addr} {mc : Nat} {day' ans app : Int} {H : List Int} {l : List Mt} {k : Nat} {v : Value} {wr : World} (h : AdvAt w C ro rc mo mc day' ans app H l k v wr) (hk : k < l.length) (hl : lapsesF day' (l.getD k default) = false) : AdvAt w C ro rc mo mc day' ans app H l (k + 1) v wr := by
  obtain ⟨a, b, c, d, e, f⟩ := h
  exact ⟨a, b, c, by rw [mix_same day' l k hk hl]; exact d, by rw [rules_no day' l k hk hl]; exact e, f⟩
/-- A block of another type than the row's is not the row's. -/
theorem row_ne {w : World} {base e size n b : Nat} {v : Value} {xs : List Value} {cs : Array Value} {T : TypeId} {fr : Nat × Nat} (h : w.ownsRow base e size v n xs) (hb : w.heap[b]? = some (.cells cs T fr)) (hT : T ≠ e) : some b ≠ v.ownBlock := by
  rcases h.2 with ⟨rfl, _⟩ | ⟨g, cap, cur, rfl, hg, hh, r⟩
  · intro e1; cases e1
  · intro e1
    simp only [Value.ownBlock, Option.some.injEq] at e1
    rw [e1] at hb
    rw [hb] at hh
    simp at hh
    exact hT hh.2.1
theorem row_block {w : World} {base e size n : Nat} {v : Value} {xs : List Value} (h : w.ownsRow base e size v n xs) {g : Nat} (hg : v.ownBlock = some g) : ∃ cs, w.heap[g]? = some (.cells cs e (0, 0)) := by
  rcases h.2 with ⟨rfl, _⟩ | ⟨g', cap, cur, rfl, _, hh, r⟩
  · cases hg
  · simp only [Value.ownBlock, Option.some.injEq] at hg
    subst hg
    exact ⟨cur, hh⟩
/-- What an append to the rulings does to the rest. -/
theorem owns_grown {w w' : World} {base e size n base2 e2 size2 n2 : Nat} {v v2 : Value} {xs xs2 : List Value} (h : w.ownsRow base e size v n xs) (h2 : w.ownsRow base2 e2 size2 v2 n2 xs2) (hT : e ≠ e2) (hg : w.grownBy w' v2.ownBlock) : w'.ownsRow base e size v n xs := by
  refine h.kept hg ?_
  cases hv : v.ownBlock with
  | none => exact .inl rfl
  | some g =>
    right
    obtain ⟨cs, hcs⟩ := row_block h hv
    exact row_ne h2 hcs hT
theorem heap_grown {w w' : World} {base2 e2 size2 n2 b : Nat} {v2 : Value} {xs2 : List Value} {cs : Array Value} {T : TypeId} {fr : Nat × Nat} (hb : w.heap[b]? = some (.cells cs T fr)) (h2 : w.ownsRow base2 e2 size2 v2 n2 xs2) (hT : T ≠ e2) (hg : w.grownBy w' v2.ownBlock) : w'.heap[b]? = some (.cells cs T fr) := by
  rw [hg.block b (Array.getElem?_eq_some_iff.1 hb).1 (row_ne h2 hb hT)]
  exact hb
/-- A lapsed matter: its ruling is appended, then three stores. -/
theorem AdvAt.more {w : World} {C : Nat} {ro : Option Addr} {rc : Nat} {g mc : Nat} {day' ans app : Int} {H : List Int} {l : List Mt} {k : Nat} {v v5 : Value} {wr w5 : World} {o : Obj} (h : AdvAt w C ro rc (some ⟨g, 0, none⟩) mc day' ans app H l k v wr) (hk : k < l.length) (hl : lapsesF day' (l.getD k default) = true)
    (ho : w5.ownsRow w.heap.size 52 3 v5 ((rulesF day' (l.take k)).length + 1) ((rulesF day' (l.take k)).flatMap rlCells ++ rlCells (rulingF (l.getD k default)))) (hg : (wr.alloc o).drew.grownBy w5 v.ownBlock) :
    AdvAt w C ro rc (some ⟨g, 0, none⟩) mc day' ans app H l (k + 1) v5 (((w5.setCell ⟨g, k * 5 + 4, none⟩ (.bool (decide ((l.getD k default).st = 2)))).setCell ⟨g, k * 5 + 1, none⟩ (.int .i64 6)).setCell ⟨g, k * 5 + 2, none⟩ (.int .i64 0)) := by
  have hb1 : Below wr.heap.size wr (wr.alloc o).drew := ((Below.refl _ _).alloc (Nat.le_refl _) _).drew
  obtain ⟨a, b, c, d, e, f⟩ := h.next hb1
  have a5 := heap_grown a e (by decide) hg
  have b5 := heap_grown b e (by decide) hg
  have c5 := owns_grown c e (by decide) hg
  have d5 := owns_grown d e (by decide) hg
  have hgb : w.heap.size ≤ g := (d5.lt g rfl).1
  obtain ⟨cs, hcs⟩ := row_block d5 rfl
  have hcs1 := heap_setCell_same _ g (k * 5 + 4) _ 50 (.bool (decide ((l.getD k default).st = 2))) hcs
  have hcs2 := heap_setCell_same _ g (k * 5 + 1) _ 50 (.int .i64 6) hcs1
  have hCg : C ≠ g := fun e1 => by rw [e1, hcs] at a5; simp at a5
  have hRg : w.heap.size + 1 ≠ g := fun e1 => by rw [e1, hcs] at b5; simp at b5
  have d6 := owns_put d5 (i := k) (by rw [mix_len]; exact hk) 6 0 (decide ((l.getD k default).st = 2))
  rw [mix_get day' l k hk] at d6
  have el : lapseF day' (l.getD k default) = ⟨(l.getD k default).id, 6, 0, (l.getD k default).opt, decide ((l.getD k default).st = 2)⟩ := by unfold lapseF; rw [if_pos hl]
  rw [← el, mix_set day' l k hk] at d6
  have f5 : Below w.heap.size w w5 := f.grown hg f.size (fun j hj => (e.lt j hj).1)
  refine ⟨set_heap (set_heap (set_heap a5 hCg) hCg) hCg, set_heap (set_heap (set_heap b5 hRg) hRg) hRg, owns_set (owns_set (owns_set c5 hcs (by decide)) hcs1 (by decide)) hcs2 (by decide), d6, ?_, ((f5.setCell hgb _).setCell hgb _).setCell hgb _⟩
  rw [rules_yes day' l k hk hl, List.flatMap_append, List.length_append]
  have := owns_set (i := k * 5 + 2) (u := .int .i64 0) (owns_set (i := k * 5 + 1) (u := .int .i64 6) (owns_set (i := k * 5 + 4) (u := .bool (decide ((l.getD k default).st = 2))) ho hcs (by decide)) hcs1 (by decide)) hcs2 (by decide)
  simpa using this
end Go.Proofs.Ytpddpdkdlodniaa
