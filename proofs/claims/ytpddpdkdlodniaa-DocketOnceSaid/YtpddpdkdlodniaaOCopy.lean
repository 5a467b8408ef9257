/-
  Contracts: copies of terms and of dockets.
-/
import Derived.Test.YtpddpdkdlodniaaOSort
namespace Go.Proofs.Ytpddpdkdlodniaa
open Go.RowKit

theorem keep_heap {W w' : World} {b : Nat} {o : Obj} (hb : Below W.heap.size W w') (h : W.heap[b]? = some o) : w'.heap[b]? = some o := by
  rw [hb.block b (Array.getElem?_eq_some_iff.1 h).1]
  exact h
theorem alloc_heap {W : World} {b : Nat} {o o' : Obj} (h : W.heap[b]? = some o) : (W.alloc o').heap[b]? = some o := by
  rw [Below.heap_alloc _ _ _ (Array.getElem?_eq_some_iff.1 h).1]
  exact h
theorem drew_heap {W : World} {b : Nat} {o : Obj} (h : W.heap[b]? = some o) : W.drew.heap[b]? = some o := h
/-- The three cells of a block. -/
theorem three_cells {W : World} {b : Nat} {x y z : Value} {T : TypeId} (h : W.heap[b]? = some (.cells #[x, y, z] T (0, 0))) :
    W.cell? ⟨b, 0, none⟩ = some x ∧ W.cell? ⟨b, 1, none⟩ = some y ∧ W.cell? ⟨b, 2, none⟩ = some z ∧ W.frozen? ⟨b, 0, none⟩ = false ∧ W.frozen? ⟨b, 1, none⟩ = false ∧ W.frozen? ⟨b, 2, none⟩ = false :=
  ⟨by rw [cell_of_row _ _ _ _ _ _ h]; rfl, by rw [cell_of_row _ _ _ _ _ _ h]; rfl, by rw [cell_of_row _ _ _ _ _ _ h]; rfl, frozen_of_row _ _ 0 _ _ h, frozen_of_row _ _ 1 _ _ h, frozen_of_row _ _ 2 _ _ h⟩

theorem set_heap {W : World} {b c i : Nat} {o : Obj} {v : Value} (h : W.heap[b]? = some o) (hne : b ≠ c) : (W.setCell ⟨c, i, none⟩ v).heap[b]? = some o := by
  rw [heap_setCell_other W ⟨c, i, none⟩ b v hne]
  exact h
theorem put3 {W : World} {b : Nat} {x y z x' y' z' : Value} {T : TypeId} (h : W.heap[b]? = some (.cells #[x, y, z] T (0, 0))) :
    (((W.setCell ⟨b, 0, none⟩ x').setCell ⟨b, 1, none⟩ y').setCell ⟨b, 2, none⟩ z').heap[b]? = some (.cells #[x', y', z'] T (0, 0)) := by
  have h1 := heap_setCell_same W b 0 _ T x' h
  have h2 := heap_setCell_same _ b 1 _ T y' h1
  have h3 := heap_setCell_same _ b 2 _ T z' h2
  exact h3
set_option maxRecDepth 100000 in
set_option maxHeartbeats 2000000 in
theorem copyTerms_any (ans app : Int) (ho : Option Addr) (hc : Nat) (H : List Int) (w : World) (hI : Ints w ho H) (hl : H.length ≤ 1000000) :
    Calls Try.prog 35 #[.agg #[.int .i64 ans, .int .i64 app, .slice ho H.length hc]] w fun e w' => ∃ ro rc, e = .returned (.agg #[.int .i64 ans, .int .i64 app, .slice ro H.length rc]) ∧ w'.ownsRow w.heap.size 3 1 (.slice ro H.length rc) H.length (H.map (Value.int .i64)) ∧ Below w.heap.size w w' := by
  obtain ⟨W, hW⟩ : ∃ W, (w.alloc (.cells #[.int .i64 ans, .int .i64 app, .slice ho H.length hc] 27)).alloc (.cells #[.int .i64 0, .int .i64 0, .slice none 0 0] 27) = W := ⟨_, rfl⟩
  have hbW : Below w.heap.size w W := by rw [← hW]; go_grown
  have k1 : W.heap[w.heap.size]? = some (.cells #[.int .i64 ans, .int .i64 app, .slice ho H.length hc] 27 (0, 0)) := by rw [← hW]; exact alloc_heap (heap_alloc_new w _)
  have k2 : W.heap[w.heap.size + 1]? = some (.cells #[.int .i64 0, .int .i64 0, .slice none 0 0] 27 (0, 0)) := by
    have := heap_alloc_new (w.alloc (.cells #[.int .i64 ans, .int .i64 app, .slice ho H.length hc] 27)) (.cells #[.int .i64 0, .int .i64 0, .slice none 0 0] 27)
    rw [World.size_alloc] at this
    rw [← hW]
    exact this
  have hsW : W.heap.size = w.heap.size + 2 := by rw [← hW]; simp
  have HC := Lib.hid (cloneI_any ho hc H W (hI.next hbW) hl)
  have HBW := Lib.hid hbW
  have HS := Lib.hid hsW
  have K1 := Lib.hid k1
  have K2 := Lib.hid k2
  have HWW := Lib.hid hW
  clear hI hbW hsW k1 k2 hW
  go_enter Try.func35, Try.ntmps35
  go_wp2_with fail
  rw [HWW.out]
  refine HC.out.mono ?_
  rintro e w3 ⟨ro, rc, rfl, hR, hb3⟩
  have h1 := keep_heap hb3 K1.out
  have h2 := keep_heap hb3 K2.out
  obtain ⟨x0, x1, x2, f0, f1, f2⟩ := three_cells h1
  obtain ⟨y0, y1, y2, g0, g1, g2⟩ := three_cells h2
  have s1 := set_heap (c := w.heap.size) (i := 2) (v := .slice ro H.length rc) h2 (by omega)
  have h3 := put3 (x' := .int .i64 ans) (y' := .int .i64 app) (z' := .slice ro H.length rc) s1
  obtain ⟨z0, z1, z2, -, -, -⟩ := three_cells h3
  have r1 := owns_set (i := 2) (u := .slice ro H.length rc) hR h1 (by decide)
  have r2 := owns_set (i := 0) (u := .int .i64 ans) r1 s1 (by decide)
  have p1 := heap_setCell_same _ (w.heap.size + 1) 0 _ 27 (.int .i64 ans) s1
  have r3 := owns_set (i := 1) (u := .int .i64 app) r2 p1 (by decide)
  have p2 := heap_setCell_same _ (w.heap.size + 1) 1 _ 27 (.int .i64 app) p1
  have r4 := owns_set (i := 2) (u := .slice ro H.length rc) r3 p2 (by decide)
  have HR := Lib.hid (r4.mono (show w.heap.size ≤ W.heap.size by have := HS.out; omega))
  have HB3 := Lib.hid (HBW.out.trans (hb3.mono HBW.out.size))
  have hs3 : w.heap.size + 2 ≤ w3.heap.size := by have := hb3.size; have := HS.out; omega
  clear hR hb3 h1 h2 h3 s1 r1 r2 r3 r4 p1 p2
  go_wp2_with fail
  refine bodyPost_ret (by simp [results, Try.results35, go_sem, z0, z1, z2]; rfl) rfl ?_
  exact ⟨ro, rc, rfl, HR.out, (((HB3.out.setCell (Nat.le_refl _) _).setCell (Nat.le_succ _) _).setCell (Nat.le_succ _) _).setCell (Nat.le_succ _) _⟩
end Go.Proofs.Ytpddpdkdlodniaa
