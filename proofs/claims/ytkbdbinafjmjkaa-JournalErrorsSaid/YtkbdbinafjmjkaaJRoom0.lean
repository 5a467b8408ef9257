/-
  One record at a time, on a journal with room and without.
-/
import Derived.Test.YtkbdbinafjmjkaaJLaw
import Derived.Test.YtkbdbinafjmjkaaDArgs
namespace Go.Proofs.Ytkbdbinafjmjkaa
open Go.RowKit

/-- The journal holds one record more than the law's slice; the record lies at so. -/
structure Mid1 (R : Int) (w0 w : World) (q p : Nat) (va : Value) (so : Option Addr) (L : List (List (List Int))) (b : List Int) : Prop where
  ex : ∃ g v s, JIs w w0.heap.size (fun k => va.ownBlock = some k) q p g s v (L ++ [[b]]).flatten false ∧ RowN w w0.heap.size (fun k => ¬ Foot q p g v k) va L.flatten ∧
    BytN w (fun k => ¬ Foot q p g v k ∧ va.ownBlock ≠ some k) so b ∧ Clean s (L ++ [[b]]) ∧ s.room = R ∧ s.dur = s.bs.length
  below : Below w0.heap.size w0 w

theorem row_one (w : World) (base : Nat) (so : Option Addr) (sc : Nat) (b : List Int) (N : Nat → Prop) (hb : base ≤ w.heap.size) (hs : BytN w N so b) (hN : N w.heap.size) :
    RowN (w.alloc (.cells #[.slice so b.length sc] 30)) base N (.slice (some ⟨w.heap.size, 0, none⟩) 1 1) [b] := by
  refine ⟨[.slice so b.length sc], ⟨rfl, .inr ⟨w.heap.size, 1, #[.slice so b.length sc], rfl, hb, heap_alloc_new w _, Nat.le_refl _, by unfold maxLen; omega, rfl, rfl⟩⟩, fun k hk => ?_, fun i hi => ?_⟩
  · have hk2 : some w.heap.size = some k := hk
    cases hk2
    exact hN
  · match i, hi with
    | 0, _ =>
      refine ⟨so, sc, rfl, ?_⟩
      rcases hs with h | ⟨j, off, rfl, h1, h2, h3⟩
      · exact .inl h
      · refine .inr ⟨j, off, rfl, Nat.lt_of_lt_of_le h1 (by simp), ⟨h2, fun e => ?_⟩, fun i hi => ?_⟩
        · have e2 : some w.heap.size = some j := e
          cases e2
          omega
        · exact ((Moved.alloc w (.cells #[.slice (some ⟨j, off, none⟩) b.length sc] 30) fun _ => False).cell (fun h => h) (h3 i hi))

section
variable {R : Int} {w0 w w' : World} {q p : Nat} {va : Value} {L : List (List (List Int))} {so : Option Addr} {sc : Nat} {b : List Int}
theorem Mid1.mid (h : Mid1 R w0 w q p va so L b) : Mid R w0 (w.alloc (.cells #[.slice so b.length sc] 30)) q p va (.slice (some ⟨w.heap.size, 0, none⟩) 1 1) L [b] := by
  obtain ⟨⟨g, v, s, h1, h2, h3, h4⟩, h5⟩ := h
  have ha : Below w.heap.size w (w.alloc (.cells #[.slice so b.length sc] 30)) := (Below.refl _ _).alloc (Nat.le_refl _) _
  have hva : ∀ k, va.ownBlock = some k → k < w.heap.size := by
    obtain ⟨vs, k1, _, _⟩ := h2
    exact fun k hk => (k1.lt k hk).2
  exact ⟨⟨g, v, s, h1.next ha, h2.next ha, row_one w _ so sc b _ h5.size h3 ⟨fun e => by have := (h1.foot _ e).2.1; omega, fun e => by have := hva _ e; omega⟩, h4⟩, h5.trans (ha.mono h5.size)⟩
theorem St.one (h : St R w0 w q p va L) (hb : Below w.heap.size w w') (hy : BytN w' (fun k => w.heap.size ≤ k) so b) (hbb : Bytes b) (hbl : b.length ≤ 255) (hl : ((framesF L).length : Int) + (frameF [b]).length ≤ R) :
    Calls Try.prog 30 #[.pointer (some ⟨q, 0, none⟩), .slice (some ⟨w'.heap.size, 0, none⟩) 1 1] (w'.alloc (.cells #[.slice so b.length sc] 30)) fun e w2 => e = .returned (.int .i64 0) ∧ Mid1 R w0 w2 q p va so L b := by
  obtain ⟨_, _, hv0, hl2⟩ := h.shape
  obtain ⟨⟨g, v, s, h1, h2, h3, h4, h5⟩, h6⟩ := h
  have hf0 := h1.foot
  have hva : ∀ k, va.ownBlock = some k → k < w.heap.size := by
    obtain ⟨vs, k1, _, _⟩ := h2
    exact fun k hk => (k1.lt k hk).2
  have hy2 : BytN w' (fun k => ¬ Foot q p g v k ∧ va.ownBlock ≠ some k) so b := hy.mono fun b _ hb => ⟨fun e => by have := (hf0 b e).2.1; omega, fun e => by have := hva b e; omega⟩
  have hre := recsN_one w' 30 so sc b (fun k => ¬ Foot q p g v k) (hy2.mono fun _ _ hN => hN.1) (fun e => by have := (hf0 _ e).2.1; have := hb.size; omega)
  have ha : Below w'.heap.size w' (w'.alloc (.cells #[.slice so b.length sc] 30)) := (Below.refl _ _).alloc (Nat.le_refl _) _
  have hb2 : Below w.heap.size w (w'.alloc (.cells #[.slice so b.length sc] 30)) := hb.trans (ha.mono hb.size)
  refine (append_live _ w0.heap.size _ q p g s v L.flatten [b] L _ 1 1 (h1.next hb2) h3 (fun k hk => Nat.lt_of_lt_of_le (hva k hk) hb2.size) rfl hre ⟨by simp, by simp, by simp [longF]; omega, fun r hr => by rw [List.mem_singleton.1 hr]; exact hbb⟩ (by omega) (by rw [h3.bs, h4]; exact hl)).mono ?_
  rintro e w2 ⟨g', v', s', rfl, hj, hc, hro, hdu, hm, hf⟩
  refine ⟨rfl, ⟨g', v', s', by rw [List.flatten_append]; simpa using hj, ?_, ?_, hc, by rw [hro, h4], hdu⟩, (h6.trans (hb2.mono h6.size)).trans (hm.below (Nat.le_trans h6.size hb2.size) fun k hk => (hf0 k hk).1)⟩
  · refine (h2.next hb2).moved hm fun b hlt hN => ⟨hN, fun e => ?_⟩
    rcases hf b e with e | e
    · exact hN e
    · omega
  · refine (hy2.moved (Moved.of_below ha fun _ => False) fun _ _ hN => ⟨fun h => h, hN⟩).moved hm fun b hlt hN => ⟨hN.1, fun e => ?_, hN.2⟩
    rcases hf b e with e | e
    · exact hN.1 e
    · omega
theorem St.full (h : St R w0 w q p va L) (hb : Below w.heap.size w w') (hy : BytN w' (fun k => w.heap.size ≤ k) so b) (hbb : Bytes b) (hbl : b.length ≤ 255) (hl : R < ((framesF L).length : Int) + (frameF [b]).length) :
    Calls Try.prog 30 #[.pointer (some ⟨q, 0, none⟩), .slice (some ⟨w'.heap.size, 0, none⟩) 1 1] (w'.alloc (.cells #[.slice so b.length sc] 30)) fun e w2 => e = .returned (.int .i64 43) ∧ St R w0 w2 q p va L := by
  obtain ⟨_, _, hv0, hl2⟩ := h.shape
  obtain ⟨⟨g, v, s, h1, h2, h3, h4, h5⟩, h6⟩ := h
  have hf0 := h1.foot
  have hva : ∀ k, va.ownBlock = some k → k < w.heap.size := by
    obtain ⟨vs, k1, _, _⟩ := h2
    exact fun k hk => (k1.lt k hk).2
  have hy2 : BytN w' (fun k => ¬ Foot q p g v k) so b := hy.mono fun b _ hb => fun e => by have := (hf0 b e).2.1; omega
  have hre := recsN_one w' 30 so sc b (fun k => ¬ Foot q p g v k) hy2 (fun e => by have := (hf0 _ e).2.1; have := hb.size; omega)
  have ha : Below w'.heap.size w' (w'.alloc (.cells #[.slice so b.length sc] 30)) := (Below.refl _ _).alloc (Nat.le_refl _) _
  have hb2 : Below w.heap.size w (w'.alloc (.cells #[.slice so b.length sc] 30)) := hb.trans (ha.mono hb.size)
  obtain ⟨s', happ, hc, hro, hdu⟩ := app_tight (rs := L.flatten) h3 (recs := [b]) (by rw [h3.bs, h4]; exact hl)
  have H := append_j _ w0.heap.size _ q p g s v L.flatten [b] _ 1 1 (h1.next hb2) (fun k hk => Nat.lt_of_lt_of_le (hva k hk) hb2.size) rfl hre (fun r hr => by rw [List.mem_singleton.1 hr]; exact hbb) (by omega) (by omega) (by simp [longF]; omega) (by omega)
  rw [happ] at H
  refine H.mono ?_
  rintro e w2 ⟨g', v', rfl, hj, hm, hf⟩
  refine ⟨rfl, ⟨g', v', s', hj, ?_, hc, by rw [hro, h4], by rw [hdu, h5, hc.bs, h3.bs]⟩, (h6.trans (hb2.mono h6.size)).trans (hm.below (Nat.le_trans h6.size hb2.size) fun k hk => (hf0 k hk).1)⟩
  refine (h2.next hb2).moved hm fun b hlt hN => ⟨hN, fun e => ?_⟩
  rcases hf b e with e | e
  · exact hN e
  · omega
end

end Go.Proofs.Ytkbdbinafjmjkaa
