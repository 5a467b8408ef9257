/-
  A journal in memory: what survives which change.
-/
import Derived.Test.YtkbdbinafjmjkaaJTorn
namespace Go.Proofs.Ytkbdbinafjmjkaa
open Go.RowKit

/-- A journal at q on the disk at p; no block of it is one of X. -/
structure JIs (w : World) (base : Nat) (X : Nat → Prop) (q p : Nat) (g : Option Nat) (s : DS) (v : Value) (rs : List (List Int)) (dead : Bool) : Prop where
  disk : DiskIs w base p g s
  low : base ≤ q
  box : Box w q 64 #[.pointer (some ⟨p, 0, none⟩), v, .bool dead]
  row : RowN w base (fun k => k ≠ p ∧ k ≠ q ∧ g ≠ some k ∧ ¬ X k) v rs
  xp : ¬ X p
  xq : ¬ X q
  xg : ∀ k, g = some k → ¬ X k
/-- The blocks that a journal's operations may change. -/
def Foot (q p : Nat) (g : Option Nat) (v : Value) (k : Nat) : Prop := k = p ∨ k = q ∨ g = some k ∨ v.ownBlock = some k

section
variable {w w' : World} {base q p : Nat} {X S : Nat → Prop} {g : Option Nat} {s : DS} {v : Value} {rs : List (List Int)} {dead : Bool}
theorem DiskIs.gne {t : TypeId} {cs : Array Value} {b : Nat} (h : DiskIs w base p g s) (hb : Box w b t cs) (h1 : 49 ≠ t) (h2 : 5 ≠ t) : b ≠ p ∧ g ≠ some b := by
  obtain ⟨cap, left, _, k2, k3, _⟩ := h
  refine ⟨fun e => ?_, fun e => ?_⟩
  · subst e; exact Box.ne k2 hb h1 rfl
  · have := owns_ne_box k3 hb h2
    rw [gad_own] at this
    exact this e
theorem JIs.qne (h : JIs w base X q p g s v rs dead) : q ≠ p ∧ g ≠ some q ∧ v.ownBlock ≠ some q := by
  obtain ⟨h1, h2⟩ := h.disk.gne h.box (by decide) (by decide)
  refine ⟨h1, h2, fun e => ?_⟩
  obtain ⟨vs, _, k2, _⟩ := h.row
  exact (k2 q e).2.1 rfl
theorem JIs.moved (h : JIs w base X q p g s v rs dead) (hm : Moved w w' S) (hS : ∀ k, k < w.heap.size → S k → X k) : JIs w' base X q p g s v rs dead := by
  obtain ⟨h1, h2, h3, h4, h5, h6, h7⟩ := h
  exact ⟨h1.moved hm (fun e => h5 (hS _ h1.lt.2 e)) (fun k hk e => h7 k hk (hS _ (h1.row k hk).2.1 e)), h2, h3.moved hm (fun e => h6 (hS _ h3.lt e)), h4.moved hm fun b hb hN => ⟨fun e => hN.2.2.2 (hS b hb e), hN⟩, h5, h6, h7⟩
theorem JIs.next (h : JIs w base X q p g s v rs dead) (hb : Below w.heap.size w w') : JIs w' base X q p g s v rs dead :=
  h.moved (Moved.of_below hb fun _ => False) fun _ _ hf => hf.elim
theorem JIs.reX {X' : Nat → Prop} (h : JIs w base X q p g s v rs dead) (hX : ∀ k, k < w.heap.size → X' k → X k) : JIs w base X' q p g s v rs dead := by
  obtain ⟨h1, h2, h3, h4, h5, h6, h7⟩ := h
  exact ⟨h1, h2, h3, h4.mono fun b hb hN => ⟨hN.1, hN.2.1, hN.2.2.1, fun e => hN.2.2.2 (hX b hb e)⟩, fun e => h5 (hX _ h1.lt.2 e), fun e => h6 (hX _ h3.lt e), fun k hk e => h7 k hk (hX _ (h1.row k hk).2.1 e)⟩
/-- The disk changed. -/
theorem JIs.onDisk {g' : Option Nat} {s' : DS} (h : JIs w base X q p g s v rs dead) (hX : ∀ k, X k → k < w.heap.size) (hm : Moved w w' (fun k => k = p ∨ g = some k)) (hd : DiskIs w' base p g' s') (hg : GTo g g' w.heap.size) : JIs w' base X q p g' s' v rs dead := by
  obtain ⟨q1, q2, _⟩ := h.qne
  obtain ⟨h1, h2, h3, h4, h5, h6, h7⟩ := h
  refine ⟨hd, h2, h3.moved hm (fun e => by rcases e with e | e; exact q1 e; exact q2 e), h4.moved hm fun b hb hN => ⟨fun e => by rcases e with e | e; exact hN.1 e; exact hN.2.2.1 e, hN.1, hN.2.1, fun e => ?_, hN.2.2.2⟩, h5, h6, fun k hk e => ?_⟩
  · rcases hg b e with e | e
    · exact hN.2.2.1 e
    · omega
  · rcases hg k hk with h | h
    · exact h7 k h e
    · have := hX k e; omega
theorem JIs.rowlt (h : JIs w base X q p g s v rs dead) : ∀ k, v.ownBlock = some k → base ≤ k ∧ k < w.heap.size := by
  obtain ⟨vs, k1, _, _⟩ := h.row
  exact fun k hk => k1.lt k hk
theorem JIs.foot (h : JIs w base X q p g s v rs dead) : ∀ k, Foot q p g v k → base ≤ k ∧ k < w.heap.size ∧ ¬ X k := by
  intro k hk
  rcases hk with rfl | rfl | hk | hk
  · exact ⟨h.disk.lt.1, h.disk.lt.2, h.xp⟩
  · exact ⟨h.low, h.box.lt, h.xq⟩
  · exact ⟨(h.disk.row k hk).1, (h.disk.row k hk).2.1, h.xg k hk⟩
  · obtain ⟨vs, k1, k2, _⟩ := h.row
    exact ⟨(k1.lt k hk).1, (k1.lt k hk).2, (k2 k hk).2.2.2⟩

/-- Records are appended. -/
theorem RowN.join {N N' : Nat → Prop} {vs vs2 : List Value} {v' : Value} {rs2 : List (List Int)} (h1 : w.ownsRow base 30 1 v rs.length vs) (h2 : ∀ k, v.ownBlock = some k → N k)
    (h3 : ∀ i, i < rs.length → ∃ po pc, vs[i]? = some (.slice po (rs.getD i []).length pc) ∧ BytN w (fun k => N k ∧ v.ownBlock ≠ some k) po (rs.getD i []))
    (h4 : ∀ i, i < rs2.length → ∃ po pc, vs2[i]? = some (.slice po (rs2.getD i []).length pc) ∧ BytN w (fun k => N k ∧ v.ownBlock ≠ some k) po (rs2.getD i []))
    (hown : w'.ownsRow base 30 1 v' (rs.length + rs2.length) (vs ++ vs2)) (hg : Moved w w' (fun k => v.ownBlock = some k))
    (hv : v'.ownBlock = v.ownBlock ∨ ∃ k, v'.ownBlock = some k ∧ w.heap.size ≤ k) (hN : ∀ b, N b → N' b) (hN2 : ∀ b, w.heap.size ≤ b → v'.ownBlock = some b → N' b) : RowN w' base N' v' (rs ++ rs2) := by
  have key : ∀ b, b < w.heap.size → (N b ∧ v.ownBlock ≠ some b) → ¬ (v.ownBlock = some b) ∧ (N' b ∧ v'.ownBlock ≠ some b) := fun b hb ⟨n1, n2⟩ => by
    refine ⟨n2, hN b n1, ?_⟩
    rcases hv with h | ⟨k, hk, hlt⟩
    · rw [h]; exact n2
    · rw [hk]; intro e; cases e; omega
  refine ⟨vs ++ vs2, by simpa using hown, fun k hk => ?_, fun i hi => ?_⟩
  · rcases hv with h | ⟨j, hj, hlt⟩
    · exact hN k (h2 k (h ▸ hk))
    · rw [hj] at hk; cases hk; exact hN2 k hlt hj
  · have hl : vs.length = rs.length := by have := h1.1; omega
    by_cases hlt : i < rs.length
    · obtain ⟨po2, pc2, e1, e2⟩ := h3 i hlt
      refine ⟨po2, pc2, ?_, ?_⟩
      · rw [List.getElem?_append_left (by omega), e1, getD_left _ _ _ hlt]
      · rw [getD_left _ _ _ hlt]
        exact e2.moved hg key
    · rw [List.length_append] at hi
      obtain ⟨po2, pc2, e1, e2⟩ := h4 (i - rs.length) (by omega)
      have hgd : (rs ++ rs2).getD i [] = rs2.getD (i - rs.length) [] := by simp [List.getD, List.getElem?_append_right (show rs.length ≤ i by omega)]
      refine ⟨po2, pc2, ?_, ?_⟩
      · rw [List.getElem?_append_right (by omega), hl, e1, hgd]
      · rw [hgd]
        exact e2.moved hg key
end
end Go.Proofs.Ytkbdbinafjmjkaa
