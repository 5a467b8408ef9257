/-
  What the law on repaired journals needs besides.
-/
import Derived.Test.YtkbdbinafjmjkaaJLaw2
import Derived.Test.YtkbdbinafjmjkaaJRoom0
namespace Go.Proofs.Ytkbdbinafjmjkaa
open Go.RowKit

section
variable {D : DS → Prop} {w0 w w' : World} {q p : Nat} {va vb : Value} {rs all recs : List (List Int)} {dead : Bool} {R : Int} {L : List (List (List Int))}
theorem FX.pick {α : Type} {E : α → DS → Prop} (h : FX (fun s => ∃ x, E x s) w0 w p va vb all recs) : ∃ x, FX (E x) w0 w p va vb all recs := by
  obtain ⟨⟨g, s, h1, h2, h5, x, h3⟩, h4⟩ := h
  exact ⟨x, ⟨g, s, h1, h2, h5, h3⟩, h4⟩
theorem GSt.withOne {so : Option Addr} {sc : Nat} {b : List Int} (h : GSt D w0 w q p va rs all dead) (hb : Below w.heap.size w w') (hy : BytN w' (fun k => w.heap.size ≤ k) so b) : GMid D w0 (w'.alloc (.cells #[.slice so b.length sc] 30)) q p va (.slice (some ⟨w'.heap.size, 0, none⟩) 1 1) rs all [b] dead := by
  obtain ⟨⟨g, v, s, h1, h2, h3⟩, h4⟩ := h
  have ha : Below w'.heap.size w' (w'.alloc (.cells #[.slice so b.length sc] 30)) := (Below.refl _ _).alloc (Nat.le_refl _) _
  have hb2 := hb.trans (ha.mono hb.size)
  have hva : ∀ k, va.ownBlock = some k → k < w.heap.size := by
    obtain ⟨vs, k1, _, _⟩ := h2
    exact fun k hk => (k1.lt k hk).2
  have hN : ∀ b, w.heap.size ≤ b → ¬ Foot q p g v b ∧ va.ownBlock ≠ some b := fun b hb => ⟨fun e => by have := (h1.foot b e).2.1; omega, fun e => by have := hva b e; omega⟩
  exact ⟨⟨g, v, s, h1.next hb2, h2.next hb2, row_one w' _ so sc b _ (Nat.le_trans h4.size hb.size) (hy.mono fun b _ h => hN b h) (hN _ hb.size), h3⟩, h4.trans (hb2.mono h4.size)⟩
/-- A disk that was made since w. -/
structure Fell2 (w w' : World) (p : Nat) (L : List (List (List Int))) : Prop where
  ex : ∃ g s, DiskIs w' w.heap.size p g s ∧ Clean s L
  below : Below w.heap.size w w'
theorem St.fall (h : St R w0 w q p va L) (keep flip : Int) :
    Calls Try.prog 18 #[.pointer (some ⟨p, 0, none⟩), .int .i64 keep, .int .i64 flip] w fun e w' => ∃ p2, e = .returned (.pointer (some ⟨p2, 0, none⟩)) ∧ Fell2 w w' p2 L := by
  obtain ⟨⟨g, v, s, h1, h2, h3, h4, h5⟩, h6⟩ := h
  refine (crash_any _ p g s keep flip w h1.disk).mono ?_
  rintro e w' ⟨p2, g2, rfl, hd, hb⟩
  exact ⟨p2, rfl, ⟨g2, _, hd, (crash_clean h3 h1.disk.ok h5 keep flip).1⟩, hb⟩
theorem Fell2.open (h : Fell2 w w' p L) : Calls Try.prog 28 #[.pointer (some ⟨p, 0, none⟩)] w' fun e w2 => ∃ q, e = .returned (.tuple #[.pointer (some ⟨q, 0, none⟩), .int .i64 0]) ∧ Below w.heap.size w w2 ∧ JRead w2 q L.flatten := by
  obtain ⟨⟨g, s, h1, h2⟩, h3⟩ := h
  refine (open_live w.heap.size p (fun _ => False) g s w' L h1 h2 (fun _ h => h.elim) (fun h => h) (fun _ _ h => h)).mono ?_
  rintro e w2 ⟨g', q, v, s', rfl, hj, -, -, -, hm, -⟩
  exact ⟨q, rfl, h3.trans (hm.below h3.size fun k hk => by
    rcases hk with hk | hk
    · rw [hk]; exact h1.lt.1
    · exact (h1.row k hk).1), hj.read⟩
theorem St.facts (h : St R w0 w q p va L) : JRead w q L.flatten ∧ (∃ ao c, va = .slice ao L.flatten.length c ∧ Recs w ao L.flatten) ∧ (∀ k, k < L.flatten.length → (L.flatten.getD k []).length ≤ 1000000) ∧ L.flatten.length ≤ 1000000 := by
  obtain ⟨_, _, _, hl⟩ := h.shape
  obtain ⟨⟨g, v, s, h1, h2, h3, h4, h5⟩, h6⟩ := h
  exact ⟨h1.read, h2.recs, fun k hk => flat_short h3.good k hk, by omega⟩
/-- The journal that stands, or the one that is dead, before the crash. -/
theorem pre_of_half {rs : List (List Int)} (h : GSt (fun s => Half s L ∧ s.room = R) w0 w q p va rs all dead) : GSt (fun s => Pre s L [] ∧ s.room = R) w0 w q p va rs all dead :=
  h.mono fun _ ⟨h1, h2⟩ => ⟨.inl h1.rest, h2⟩
/-- The crash: some L' stands. -/
theorem crash_rest {a b : Int} {recs' : List (List Int)} (h : FX (fun s' => ∃ s, (Pre s L recs ∧ s.room = R) ∧ DOk s ∧ s' = crashF s a b) w0 w p va vb all recs') (hL : (framesF L).length ≤ 1224) (hr : (frameF recs).length ≤ 102) :
    ∃ L', (L' = L ∨ (Good recs ∧ L' = L ++ [recs])) ∧ (framesF L').length ≤ 1326 ∧ FX (fun s => Rest s L' ∧ s.cut = none ∧ s.room = R) w0 w p va vb all recs' := by
  obtain ⟨⟨g, s', h1, h2, h5, s, ⟨h3, hro⟩, hk, rfl⟩, h4⟩ := h
  obtain ⟨L', hL', r1, r2, r3⟩ := crash_pre hk h3 a b
  refine ⟨L', hL', ?_, ⟨g, _, h1, h2, h5, r1, r2, by rw [r3, hro]⟩, h4⟩
  rcases hL' with rfl | ⟨_, rfl⟩
  · omega
  · rw [frames_snoc, List.length_append]; omega
theorem rest_opens : ∀ s, (Rest s L ∧ s.cut = none ∧ s.room = R) → ∃ s', openF s = (0, L.flatten, s') ∧ (Clean s' L ∧ s'.room = R ∧ s'.dur = s'.bs.length) := by
  intro s ⟨h1, h2, h3⟩
  obtain ⟨s', e1, e2, e3, e4⟩ := open_rest_live h1 h2
  exact ⟨s', e1, e2, by rw [e3, h3], e4⟩
end
end Go.Proofs.Ytkbdbinafjmjkaa
