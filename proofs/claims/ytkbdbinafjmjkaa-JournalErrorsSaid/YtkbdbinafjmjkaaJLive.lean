/-
  Journals on disks that run: what Open, Append and a crash do to a disk of whole frames.
-/
import Derived.Test.YtkbdbinafjmjkaaJPlain
namespace Go.Proofs.Ytkbdbinafjmjkaa
open Go.RowKit

/-- A disk that runs and holds whole frames. -/
structure Clean (s : DS) (L : List (List (List Int))) : Prop where
  cut : s.cut = none
  bs : s.bs = framesF L
  good : ∀ b ∈ L, Good b

theorem new_clean (room : Int) : Clean (newD room) [] := ⟨rfl, rfl, fun b hb => by cases hb⟩
theorem open_clean {s : DS} {L : List (List (List Int))} (h : Clean s L) : ∃ s', openF s = (0, L.flatten, s') ∧ Clean s' L ∧ s'.room = s.room ∧ s'.dur = (if s.bs.length = 0 then s.dur else s'.bs.length) := by
  obtain ⟨h1, h2, h3⟩ := h
  have hsc := scan_frames L h3 [] first_nil (s.bs.length + 1) (by rw [List.append_nil, h2]; omega)
  rw [List.append_nil, ← h2] at hsc
  unfold openF
  rw [hsc]
  dsimp only
  rw [if_neg (by omega)]
  by_cases h0 : s.bs.length = 0
  · rw [if_pos h0]
    exact ⟨s, rfl, ⟨h1, h2, h3⟩, rfl, by rw [if_pos h0]⟩
  · rw [if_neg h0, sync_runs h1]
    exact ⟨_, rfl, ⟨begun_cut h1, h2, h3⟩, rfl, by rw [if_neg h0]; rfl⟩
theorem app_clean {s : DS} {L : List (List (List Int))} {rs recs : List (List Int)} (h : Clean s L) (hg : Good recs) (hl : (s.bs.length : Int) + (frameF recs).length ≤ s.room) :
    ∃ s', appJ s rs recs = (0, s', rs ++ recs, false) ∧ Clean s' (L ++ [recs]) ∧ s'.room = s.room ∧ s'.dur = s'.bs.length := by
  obtain ⟨h1, h2, h3⟩ := h
  have ha := append_runs h1 hl
  unfold appJ
  rw [ha]
  dsimp only
  rw [if_neg (by decide), if_neg (by simp), sync_runs (by exact begun_cut h1)]
  refine ⟨_, rfl, ⟨begun_cut (begun_cut h1), ?_, fun b hb => ?_⟩, rfl, rfl⟩
  · show s.bs ++ frameF recs = _
    rw [frames_snoc, h2]
  · rcases List.mem_append.1 hb with hb | hb
    · exact h3 b hb
    · rw [List.mem_singleton.1 hb]; exact hg
theorem app_tight {s : DS} {L : List (List (List Int))} {rs recs : List (List Int)} (h : Clean s L) (hl : s.room < (s.bs.length : Int) + (frameF recs).length) :
    ∃ s', appJ s rs recs = (43, s', rs, false) ∧ Clean s' L ∧ s'.room = s.room ∧ s'.dur = s.dur := by
  obtain ⟨h1, h2, h3⟩ := h
  have ha : appendF s (frameF recs) = (43, begun s) := by
    unfold appendF
    rw [if_pos (by simp [live, h1]), if_pos (by omega)]
  unfold appJ
  rw [ha]
  exact ⟨_, rfl, ⟨begun_cut h1, h2, h3⟩, rfl, rfl⟩
theorem crash_synced {s : DS} (h : DOk s) (hd : s.dur = s.bs.length) (keep flip : Int) : (crashF s keep flip).bs = s.bs := by
  obtain ⟨h1, h2, h3⟩ := crash_keeps h keep flip
  show crashB s keep flip = s.bs
  rw [hd, List.take_of_length_le (Nat.le_refl _), List.take_of_length_le h3] at h1
  exact h1
theorem crash_clean {s : DS} {L : List (List (List Int))} (h : Clean s L) (hk : DOk s) (hd : s.dur = s.bs.length) (keep flip : Int) : Clean (crashF s keep flip) L ∧ (crashF s keep flip).room = s.room ∧ (crashF s keep flip).dur = (crashF s keep flip).bs.length :=
  ⟨⟨rfl, by rw [crash_synced hk hd]; exact h.bs, h.good⟩, rfl, rfl⟩

/-- Open on a disk that runs. -/
theorem open_live (base p : Nat) (X : Nat → Prop) (g : Option Nat) (s : DS) (w : World) (L : List (List (List Int))) (hd : DiskIs w base p g s) (hc : Clean s L) (hX : ∀ k, X k → k < w.heap.size) (hXp : ¬ X p) (hXg : ∀ k, g = some k → ¬ X k) :
    Calls Try.prog 28 #[.pointer (some ⟨p, 0, none⟩)] w fun e w' => ∃ g' q v s', e = .returned (.tuple #[.pointer (some ⟨q, 0, none⟩), .int .i64 0]) ∧ JIs w' base X q p g' s' v L.flatten false ∧ Clean s' L ∧ s'.room = s.room ∧ s'.dur = (if s.bs.length = 0 then s.dur else s'.bs.length) ∧
      Moved w w' (fun k => k = p ∨ g = some k) ∧ (∀ k, Foot q p g' v k → k = p ∨ g = some k ∨ w.heap.size ≤ k) := by
  obtain ⟨s', ho, h1, h2, h3⟩ := open_clean hc
  have H := open_any base p X g s w hd (Nat.le_trans hd.lt.1 (Nat.le_of_lt hd.lt.2)) hX hXp hXg
  rw [ho] at H
  refine H.mono ?_
  rintro e w' ⟨g', hm, hg, h | ⟨-, q, v, hq, hv, he, hj⟩⟩
  · exact absurd rfl h.1
  · refine ⟨g', q, v, s', he, hj, h1, h2, h3, hm, fun k hk => ?_⟩
    rcases hk with hk | hk | hk | hk
    · exact .inl hk
    · rw [hk]; exact .inr (.inr hq)
    · rcases hg k hk with h | h
      · exact .inr (.inl h)
      · exact .inr (.inr h)
    · exact .inr (.inr (hv k hk))

/-- Append on a journal that runs and has room. -/
theorem append_live (w : World) (base : Nat) (X : Nat → Prop) (q p : Nat) (g : Option Nat) (s : DS) (v : Value) (rs recs : List (List Int)) (L : List (List (List Int))) (ao : Option Addr) (n c : Nat) (hJ : JIs w base X q p g s v rs false) (hc : Clean s L) (hX : ∀ k, X k → k < w.heap.size)
    (hn : recs.length = n) (hR : RecsN w (fun k => ¬ Foot q p g v k) ao recs) (hg : Good recs) (hrl : rs.length ≤ 1000000) (hl : (s.bs.length : Int) + (frameF recs).length ≤ s.room) :
    Calls Try.prog 30 #[.pointer (some ⟨q, 0, none⟩), .slice ao n c] w fun e w' => ∃ g' v' s', e = .returned (.int .i64 0) ∧ JIs w' base X q p g' s' v' (rs ++ recs) false ∧ Clean s' (L ++ [recs]) ∧ s'.room = s.room ∧ s'.dur = s'.bs.length ∧
      Moved w w' (Foot q p g v) ∧ (∀ k, Foot q p g' v' k → Foot q p g v k ∨ w.heap.size ≤ k) := by
  obtain ⟨s', ha, h1, h2, h3⟩ := app_clean (rs := rs) hc hg hl
  have H := append_j w base X q p g s v rs recs ao n c hJ hX hn hR hg.2.2.2 (hn ▸ hg.1) (hn ▸ hg.2.1) hg.2.2.1 hrl
  rw [ha] at H
  refine H.mono ?_
  rintro e w' ⟨g', v', he, hj, hm, hf⟩
  exact ⟨g', v', s', he, hj, h1, h2, h3, hm, hf⟩

theorem recsN_two (w : World) (t : TypeId) (so bo : Option Addr) (sc bc : Nat) (s b : List Int) (N : Nat → Prop) (hs : BytN w N so s) (hb : BytN w N bo b) (hN : N w.heap.size) : RecsN (w.alloc (.cells #[.slice so s.length sc, .slice bo b.length bc] t)) N (some ⟨w.heap.size, 0, none⟩) [s, b] := by
  have hn : Moved w (w.alloc (.cells #[.slice so s.length sc, .slice bo b.length bc] t)) (fun _ => False) := Moved.alloc w _ _
  refine .inr ⟨w.heap.size, 0, rfl, by simp, hN, fun i hi => ?_⟩
  match i, hi with
  | 0, _ => exact ⟨so, sc, by rw [cell_of_row _ _ _ _ _ _ (heap_alloc_new w _)]; rfl, hs.moved hn fun _ _ h => ⟨fun h => h, h⟩⟩
  | 1, _ => exact ⟨bo, bc, by rw [cell_of_row _ _ _ _ _ _ (heap_alloc_new w _)]; rfl, hb.moved hn fun _ _ h => ⟨fun h => h, h⟩⟩
theorem recsN_one (w : World) (t : TypeId) (so : Option Addr) (sc : Nat) (s : List Int) (N : Nat → Prop) (hs : BytN w N so s) (hN : N w.heap.size) : RecsN (w.alloc (.cells #[.slice so s.length sc] t)) N (some ⟨w.heap.size, 0, none⟩) [s] := by
  have hn : Moved w (w.alloc (.cells #[.slice so s.length sc] t)) (fun _ => False) := Moved.alloc w _ _
  refine .inr ⟨w.heap.size, 0, rfl, by simp, hN, fun i hi => ?_⟩
  match i, hi with
  | 0, _ => exact ⟨so, sc, by rw [cell_of_row _ _ _ _ _ _ (heap_alloc_new w _)]; rfl, hs.moved hn fun _ _ h => ⟨fun h => h, h⟩⟩
end Go.Proofs.Ytkbdbinafjmjkaa
