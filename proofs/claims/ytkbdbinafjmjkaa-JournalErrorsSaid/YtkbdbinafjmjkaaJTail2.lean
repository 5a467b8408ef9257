/-
  Disks that were cut, that fell, that were opened again. No program is in sight here.
-/
import Derived.Test.YtkbdbinafjmjkaaJTail
import Derived.Test.YtkbdbinafjmjkaaJLive
namespace Go.Proofs.Ytkbdbinafjmjkaa
open Go.RowKit

/-- Whole frames and at most one torn tail, all durable. -/
structure Rest (s : DS) (L : List (List (List Int))) : Prop where
  ex : ∃ t, Tail t ∧ s.bs = framesF L ++ t
  good : ∀ b ∈ L, Good b
  dur : s.dur = s.bs.length
/-- The same, or one frame more that is not durable. -/
def Pre (s : DS) (L : List (List (List Int))) (recs : List (List Int)) : Prop := Rest s L ∨ (Good recs ∧ (∀ b ∈ L, Good b) ∧ s.bs = framesF L ++ frameF recs ∧ s.dur = (framesF L).length)
/-- A disk that will be cut, all synced. -/
structure Half (s : DS) (L : List (List (List Int))) : Prop where
  ex : ∃ c, s.cut = some c
  bs : s.bs = framesF L
  good : ∀ b ∈ L, Good b
  dur : s.dur = s.bs.length

theorem Half.rest {s : DS} {L : List (List (List Int))} (h : Half s L) : Rest s L := ⟨⟨[], .inl rfl, by rw [h.bs, List.append_nil]⟩, h.good, h.dur⟩
theorem Clean.rest {s : DS} {L : List (List (List Int))} (h : Clean s L) (hd : s.dur = s.bs.length) : Rest s L := ⟨⟨[], .inl rfl, by rw [h.bs, List.append_nil]⟩, h.good, hd⟩

theorem rest_scan {s : DS} {L : List (List (List Int))} {t : List Int} (ht : Tail t) (hb : s.bs = framesF L ++ t) (hg : ∀ b ∈ L, Good b) : scanF (s.bs.length + 1) s.bs = (L.flatten, (framesF L).length) := by
  have := scan_frames L hg t (tail_first ht) (s.bs.length + 1) (by rw [hb]; omega)
  rwa [← hb] at this

theorem sync_rest {s : DS} {L : List (List (List Int))} (h : Rest s L) : Rest (syncF s).2 L := by
  obtain ⟨⟨t, h1, h2⟩, h3, h4⟩ := h
  unfold syncF
  split
  · exact ⟨⟨t, h1, h2⟩, h3, rfl⟩
  · exact ⟨⟨t, h1, h2⟩, h3, h4⟩
theorem trunc_rest {s : DS} {L : List (List (List Int))} (h : Rest s L) : Rest (truncF s ((framesF L).length : Nat)).2 L := by
  obtain ⟨⟨t, h1, h2⟩, h3, h4⟩ := h
  have hl : s.bs.length = (framesF L).length + t.length := by rw [h2, List.length_append]
  unfold truncF
  split
  · rw [if_neg (by omega)]
    refine ⟨⟨[], .inl rfl, ?_⟩, h3, ?_⟩
    · show s.bs.take _ = _
      rw [Int.toNat_natCast, h2, List.take_left' rfl, List.append_nil]
    · show min s.dur _ = (s.bs.take _).length
      rw [Int.toNat_natCast, List.length_take]
      omega
  · exact ⟨⟨t, h1, h2⟩, h3, h4⟩
theorem open_rest {s : DS} {L : List (List (List Int))} (h : Rest s L) : Rest (openF s).2.2 L := by
  obtain ⟨t, h1, h2⟩ := h.ex
  have hsc := rest_scan h1 h2 h.good
  unfold openF
  rw [hsc]
  dsimp only
  split
  · split
    · exact h
    · split
      · exact trunc_rest h
      · split
        · exact trunc_rest h
        · split
          · exact sync_rest (trunc_rest h)
          · exact sync_rest (trunc_rest h)
  · split
    · exact h
    · split
      · exact sync_rest h
      · exact sync_rest h
theorem open_rest_live {s : DS} {L : List (List (List Int))} (h : Rest s L) (hc : s.cut = none) : ∃ s', openF s = (0, L.flatten, s') ∧ Clean s' L ∧ s'.room = s.room ∧ s'.dur = s'.bs.length := by
  obtain ⟨⟨t, h1, h2⟩, h3, h4⟩ := h
  by_cases ht : t = []
  · subst ht
    rw [List.append_nil] at h2
    obtain ⟨s', e1, e2, e3, e4⟩ := open_clean (s := s) (L := L) ⟨hc, h2, h3⟩
    refine ⟨s', e1, e2, e3, ?_⟩
    rw [e4]
    split
    · rw [e2.bs, ← h2]; omega
    · rfl
  · have hsc := rest_scan h1 h2 h3
    have hl : s.bs.length = (framesF L).length + t.length := by rw [h2, List.length_append]
    have htl : 0 < t.length := List.length_pos_iff.2 ht
    have htr : truncF s ((framesF L).length : Nat) = (0, { begun s with bs := framesF L, dur := (framesF L).length }) := by
      unfold truncF
      rw [if_pos (by simp [live, hc]), if_neg (by omega), Int.toNat_natCast]
      have e1 : s.bs.take (framesF L).length = framesF L := by rw [h2, List.take_left' rfl]
      have e2 : min s.dur (framesF L).length = (framesF L).length := by omega
      rw [e1, e2]
    unfold openF
    rw [hsc]
    dsimp only
    rw [if_pos (by omega), h2, List.drop_left' rfl, tail_torn h1 ht, if_neg (by simp), htr]
    dsimp only
    rw [if_neg (by simp)]
    by_cases h0 : (framesF L).length = 0
    · rw [if_pos h0]
      exact ⟨_, rfl, ⟨begun_cut hc, rfl, h3⟩, rfl, rfl⟩
    · rw [if_neg h0, sync_runs (by exact begun_cut hc)]
      exact ⟨_, rfl, ⟨begun_cut (begun_cut hc), rfl, h3⟩, rfl, rfl⟩

theorem room_append (s : DS) (b : List Int) : (appendF s b).2.room = s.room := by
  unfold appendF; split
  · split <;> rfl
  · rfl
theorem room_sync (s : DS) : (syncF s).2.room = s.room := by
  unfold syncF; split <;> rfl
theorem room_trunc (s : DS) (n : Int) : (truncF s n).2.room = s.room := by
  unfold truncF; split
  · split <;> rfl
  · rfl
theorem room_open (s : DS) : (openF s).2.2.room = s.room := by
  unfold openF
  split
  · split
    · rfl
    · split
      · exact room_trunc _ _
      · split
        · exact room_trunc _ _
        · split
          · exact (room_sync _).trans (room_trunc _ _)
          · exact (room_sync _).trans (room_trunc _ _)
  · split
    · rfl
    · split
      · exact room_sync _
      · exact room_sync _
theorem room_app (s : DS) (rs recs : List (List Int)) : (appJ s rs recs).2.1.room = s.room := by
  unfold appJ
  split
  · exact room_append _ _
  · split
    · exact room_append _ _
    · split
      · exact (room_sync _).trans (room_append _ _)
      · exact (room_sync _).trans (room_append _ _)

/-- Append on a journal whose disk will be cut. -/
theorem app_half {s : DS} {L : List (List (List Int))} {rs recs : List (List Int)} (h : Half s L) (hg : Good recs) (hl : (s.bs.length : Int) + (frameF recs).length ≤ s.room) :
    (∃ s', appJ s rs recs = (0, s', rs ++ recs, false) ∧ Half s' (L ++ [recs])) ∨ (∃ s', appJ s rs recs = (42, s', rs, true) ∧ Pre s' L recs) := by
  obtain ⟨⟨c, hc⟩, h2, h3, h4⟩ := h
  have hgs : ∀ b ∈ L ++ [recs], Good b := fun b hb => by
    rcases List.mem_append.1 hb with hb | hb
    · exact h3 b hb
    · rw [List.mem_singleton.1 hb]; exact hg
  by_cases h0 : c = 0
  · have ha : appendF s (frameF recs) = (42, begun s) := by
      unfold appendF
      rw [if_neg (by simp [live, hc, h0])]
    right
    unfold appJ
    rw [ha]
    dsimp only
    rw [if_neg (by decide), if_pos (by decide)]
    exact ⟨_, rfl, .inl ⟨⟨[], .inl rfl, by rw [List.append_nil]; exact h2⟩, h3, h4⟩⟩
  · have ha : appendF s (frameF recs) = (0, { begun s with bs := s.bs ++ frameF recs }) := by
      unfold appendF
      rw [if_pos (by simp [live, hc, h0]), if_neg (by omega)]
    by_cases h1 : c = 1
    · right
      have hs : syncF { begun s with bs := s.bs ++ frameF recs } = (42, begun { begun s with bs := s.bs ++ frameF recs }) := by
        unfold syncF
        rw [if_neg (by simp [live, begun, hc, h1])]
      unfold appJ
      rw [ha]
      dsimp only
      rw [if_neg (by decide), if_neg (by simp), hs]
      dsimp only
      rw [if_pos (by decide)]
      refine ⟨_, rfl, .inr ⟨hg, h3, ?_, ?_⟩⟩
      · show s.bs ++ frameF recs = _
        rw [h2]
      · show s.dur = _
        rw [h4, h2]
    · left
      have hs : syncF { begun s with bs := s.bs ++ frameF recs } = (0, { begun { begun s with bs := s.bs ++ frameF recs } with dur := (s.bs ++ frameF recs).length }) := by
        unfold syncF
        rw [if_pos (by simp [live, begun, hc]; omega)]
      unfold appJ
      rw [ha]
      dsimp only
      rw [if_neg (by decide), if_neg (by simp), hs]
      dsimp only
      rw [if_neg (by simp)]
      refine ⟨_, rfl, ⟨⟨c - 1 - 1, ?_⟩, ?_, hgs, rfl⟩⟩
      · simp [begun, hc]
      · show s.bs ++ frameF recs = _
        rw [frames_snoc, h2]

/-- A crash. -/
theorem crash_pre {s : DS} {L : List (List (List Int))} {recs : List (List Int)} (hk : DOk s) (h : Pre s L recs) (keep flip : Int) :
    ∃ L', (L' = L ∨ (Good recs ∧ L' = L ++ [recs])) ∧ Rest (crashF s keep flip) L' ∧ (crashF s keep flip).cut = none ∧ (crashF s keep flip).room = s.room := by
  rcases h with h | ⟨hg, h3, h2, h4⟩
  · have hb := crash_synced hk h.dur keep flip
    obtain ⟨t, t1, t2⟩ := h.ex
    exact ⟨L, .inl rfl, ⟨⟨t, t1, by rw [hb, t2]⟩, h.good, rfl⟩, rfl, rfl⟩
  · have hkl := kept_le (s := s) keep
    have hl : s.bs.length = (framesF L).length + (frameF recs).length := by rw [h2, List.length_append]
    generalize hK : keptOf s keep = K at hkl
    have htk : s.bs.take (s.dur + K) = framesF L ++ (frameF recs).take K := by
      rw [h2, h4, List.take_append, List.take_of_length_le (by omega)]
      congr 2
      omega
    by_cases hf : 0 < K ∧ flip % 2 ≠ 0
    · have hcb : (crashF s keep flip).bs = framesF L ++ flipLast ((frameF recs).take K) := by
        show crashB s keep flip = _
        unfold crashB
        rw [hK, if_pos hf, htk, flip_append]
        intro e
        have := congrArg List.length e
        rw [List.length_take, List.length_nil] at this
        have h9 := frame_len recs
        omega
      exact ⟨L, .inl rfl, ⟨⟨_, .inr ⟨recs, hg, K, by omega, .inr ⟨by omega, rfl⟩⟩, hcb⟩, h3, rfl⟩, rfl, rfl⟩
    · have hcb : (crashF s keep flip).bs = framesF L ++ (frameF recs).take K := by
        show crashB s keep flip = _
        unfold crashB
        rw [hK, if_neg hf, htk]
      by_cases h0 : K = 0
      · refine ⟨L, .inl rfl, ⟨⟨[], .inl rfl, ?_⟩, h3, rfl⟩, rfl, rfl⟩
        rw [hcb, h0, List.take_zero]
      · by_cases hfull : K = (frameF recs).length
        · refine ⟨L ++ [recs], .inr ⟨hg, rfl⟩, ⟨⟨[], .inl rfl, ?_⟩, fun b hb => ?_, rfl⟩, rfl, rfl⟩
          · rw [hcb, frames_snoc, List.take_of_length_le (by omega), List.append_nil]
          · rcases List.mem_append.1 hb with hb | hb
            · exact h3 b hb
            · rw [List.mem_singleton.1 hb]; exact hg
        · exact ⟨L, .inl rfl, ⟨⟨_, .inr ⟨recs, hg, K, by omega, .inl ⟨by omega, rfl⟩⟩, hcb⟩, h3, rfl⟩, rfl, rfl⟩
theorem cut_rest {s : DS} {L : List (List (List Int))} (h : Rest s L) (n : Int) : Rest (cutF s n) L := by
  unfold cutF
  split
  · exact ⟨h.ex, h.good, h.dur⟩
  · exact h
theorem room_cut (s : DS) (n : Int) : (cutF s n).room = s.room := by
  unfold cutF; split <;> rfl
theorem cut_half {s : DS} {L : List (List (List Int))} (h : Clean s L) (hd : s.dur = s.bs.length) (n : Int) : Half (cutF s n) L := by
  unfold cutF
  rw [if_pos (by simp [live, h.cut])]
  exact ⟨⟨n.toNat, rfl⟩, h.bs, h.good, hd⟩
end Go.Proofs.Ytkbdbinafjmjkaa
