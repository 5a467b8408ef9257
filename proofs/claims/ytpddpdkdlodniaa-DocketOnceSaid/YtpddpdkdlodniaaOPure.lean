/-
  The docket in plain Lean: Advance in two steps; every matter has at most one ruling.
-/
import Derived.Test.YtpddpdkdlodniaaOGood
namespace Go.Proofs.Ytpddpdkdlodniaa
open Go.RowKit

theorem leR_trans (a b c : Rl) (h1 : leR a b = true) (h2 : leR b c = true) : leR a c = true := by
  simp [leR] at *; omega
theorem leR_total (a b : Rl) : (leR a b || leR b a) = true := by
  simp [leR]; omega
/-- A sorted list is known by its elements, where no two have one name. -/
theorem sortR_unique {L L' : List Rl} (hp : L'.Perm L) (hs : L'.Pairwise (fun a b => leR a b = true)) (hd : L.Pairwise (fun a b => a.id ≠ b.id)) : L' = sortR L := by
  have hq : (sortR L).Perm L := List.mergeSort_perm L leR
  refine List.Perm.eq_of_pairwise (le := fun a b => leR a b = true) (fun a b ha hb h1 h2 => ?_) hs (List.pairwise_mergeSort leR_trans leR_total L) (hp.trans hq.symm)
  have e : a.id = b.id := by simp [leR] at h1 h2; omega
  have ha' := hp.mem_iff.1 ha
  have hb' := hq.mem_iff.1 hb
  apply Classical.byContradiction
  intro hne
  obtain ⟨i, hi, rfl⟩ := List.getElem_of_mem ha'
  obtain ⟨j, hj, rfl⟩ := List.getElem_of_mem hb'
  rcases Nat.lt_trichotomy i j with h | h | h
  · exact (List.pairwise_iff_getElem.1 hd) i j hi hj h e
  · subst h; exact hne rfl
  · exact (List.pairwise_iff_getElem.1 hd) j i hj hi h e.symm
theorem sortR_perm (L : List Rl) : (sortR L).Perm L := List.mergeSort_perm L leR
theorem sortR_sorted (L : List Rl) : (sortR L).Pairwise (fun a b => leR a b = true) := List.pairwise_mergeSort leR_trans leR_total L

theorem rules_apart {day : Int} {l : List Mt} (h : Apart l) : (rulesF day l).Pairwise (fun a b => a.id ≠ b.id) := by
  unfold rulesF
  rw [List.pairwise_map]
  exact (List.Pairwise.filter _ h).imp fun {a b} hab => hab
theorem lapse_twice {a b : Int} (h : a ≤ b) (m : Mt) : lapseF b (lapseF a m) = lapseF b m := by
  by_cases h1 : lapsesF a m = true
  · have h2 : lapsesF b m = true := by rw [lapses_iff] at *; omega
    have e1 : lapseF a m = ⟨m.id, 6, 0, m.opt, decide (m.st = 2)⟩ := by unfold lapseF; rw [if_pos h1]
    have e2 : lapseF b m = ⟨m.id, 6, 0, m.opt, decide (m.st = 2)⟩ := by unfold lapseF; rw [if_pos h2]
    rw [e1, e2]
    unfold lapseF
    rw [if_neg (by rw [lapses_iff]; simp)]
  · have e1 : lapseF a m = m := by unfold lapseF; rw [if_neg h1]
    rw [e1]
theorem rules_twice {a b : Int} (h : a ≤ b) (l : List Mt) : (rulesF a l ++ rulesF b (l.map (lapseF a))).Perm (rulesF b l) := by
  induction l with
  | nil => exact List.Perm.refl _
  | cons m l ih =>
    unfold rulesF at *
    by_cases h1 : lapsesF a m = true
    · have h2 : lapsesF b m = true := by rw [lapses_iff] at *; omega
      have h3 : ¬ lapsesF b (lapseF a m) = true := by
        have e1 : lapseF a m = ⟨m.id, 6, 0, m.opt, decide (m.st = 2)⟩ := by unfold lapseF; rw [if_pos h1]
        rw [e1, lapses_iff]
        simp
      rw [List.map_cons, List.filter_cons_of_pos h1, List.filter_cons_of_pos h2, List.filter_cons_of_neg h3, List.map_cons, List.map_cons, List.cons_append]
      exact List.Perm.cons _ ih
    · have e1 : lapseF a m = m := by unfold lapseF; rw [if_neg h1]
      rw [List.map_cons, List.filter_cons_of_neg h1, e1]
      by_cases h2 : lapsesF b m = true
      · rw [List.filter_cons_of_pos h2, List.filter_cons_of_pos h2, List.map_cons, List.map_cons]
        exact List.perm_middle.trans (List.Perm.cons _ ih)
      · rw [List.filter_cons_of_neg h2, List.filter_cons_of_neg h2]
        exact ih
theorem adv_twice {d : Dk} {a b : Int} (h1 : advE d a = 0) (h : a ≤ b) : advD (advD d a) b = advD d b ∧ advR d a ++ advR (advD d a) b = advR d b := by
  obtain ⟨⟨ht, hl, hm, ha⟩, h0, hb, h2⟩ := (adv_zero d a).1 h1
  constructor
  · unfold advD
    simp only [List.map_map, Dk.mk.injEq, true_and]
    apply List.map_congr_left
    intro m _
    exact lapse_twice h m
  · refine sortR_unique ?_ ?_ (rules_apart ha)
    · exact ((sortR_perm _).append (sortR_perm _)).trans (rules_twice h d.mts)
    · rw [List.pairwise_append]
      refine ⟨sortR_sorted _, sortR_sorted _, fun x hx y hy => ?_⟩
      obtain ⟨mx, hmx, rfl⟩ := List.mem_map.1 ((sortR_perm _).mem_iff.1 hx)
      obtain ⟨my, hmy, rfl⟩ := List.mem_map.1 ((sortR_perm _).mem_iff.1 hy)
      obtain ⟨hmx1, hmx2⟩ := List.mem_filter.1 hmx
      obtain ⟨hmy1, hmy2⟩ := List.mem_filter.1 hmy
      obtain ⟨z, hz, rfl⟩ := List.mem_map.1 hmy1
      have hg := adv_good h1
      obtain ⟨-, -, hgm, -⟩ := hg
      obtain ⟨-, hs⟩ := hgm _ hmy1
      obtain ⟨-, -, -, -, e, -, -, -⟩ := (sound_iff _ _).1 hs
      rw [lapses_iff] at hmx2 hmy2
      have := (e hmy2.1).1
      simp only [advD] at this
      simp [leR, rulingF]
      omega

/-- Rulings and final matters go together. -/
def Once (d : Dk) (all : List Rl) : Prop :=
  (all.map fun r => (r.id, r.opt)).Perm ((d.mts.filter fun m => decide (m.st = 6)).map fun m => (m.id, m.opt)) ∧ ∀ r ∈ all, r.day ≤ d.day
theorem once_new (day ans app : Int) (H : List Int) : Once ⟨day, ans, app, H, []⟩ [] := ⟨by simp, by simp⟩

theorem rules_once (day : Int) (l : List Mt) :
    (((rulesF day l).map fun r => (r.id, r.opt)) ++ (l.filter fun m => decide (m.st = 6)).map fun m => (m.id, m.opt)).Perm (((l.map (lapseF day)).filter fun m => decide (m.st = 6)).map fun m => (m.id, m.opt)) := by
  induction l with
  | nil => exact List.Perm.refl _
  | cons m l ih =>
    unfold rulesF at *
    by_cases h1 : lapsesF day m = true
    · have e1 : lapseF day m = ⟨m.id, 6, 0, m.opt, decide (m.st = 2)⟩ := by unfold lapseF; rw [if_pos h1]
      have h6 : ¬ m.st = 6 := by rw [lapses_iff] at h1; omega
      rw [List.map_cons, List.filter_cons_of_pos h1, e1, List.filter_cons_of_neg (by simpa using h6), List.filter_cons_of_pos (by simp)]
      simp only [List.map_cons, List.cons_append, rulingF]
      exact List.Perm.cons _ ih
    · have e1 : lapseF day m = m := by unfold lapseF; rw [if_neg h1]
      rw [List.map_cons, List.filter_cons_of_neg h1, e1]
      by_cases h6 : m.st = 6
      · rw [List.filter_cons_of_pos (by simpa using h6), List.filter_cons_of_pos (by simpa using h6), List.map_cons, List.map_cons]
        exact List.perm_middle.trans (List.Perm.cons _ ih)
      · rw [List.filter_cons_of_neg (by simpa using h6), List.filter_cons_of_neg (by simpa using h6)]
        exact ih
theorem once_adv {d : Dk} {all : List Rl} {day : Int} (h1 : advE d day = 0) (h : Once d all) : Once (advD d day) (all ++ advR d day) := by
  obtain ⟨hg, h0, hb, h2⟩ := (adv_zero d day).1 h1
  refine ⟨?_, fun r hr => ?_⟩
  · rw [List.map_append]
    refine List.Perm.trans ?_ (rules_once day d.mts)
    refine List.perm_append_comm.trans ?_
    exact List.Perm.append ((sortR_perm _).map _) h.1
  · rcases List.mem_append.1 hr with hr | hr
    · exact Int.le_trans (h.2 r hr) h2
    · obtain ⟨m, hm, rfl⟩ := List.mem_map.1 ((sortR_perm _).mem_iff.1 hr)
      have := (List.mem_filter.1 hm).2
      rw [lapses_iff] at this
      simp only [rulingF, advD]
      omega
theorem once_act {o : Dk} {l all : List Rl} {f : Fl} (hd : f.day = o.day) (h : (actF o l f).2.2 = 0) (ho : Once o (all ++ l)) : Once (actF o l f).1 (all ++ (actF o l f).2.1) := by
  unfold actF at *
  split at h
  · cases h
  rename_i h1
  rw [if_neg h1]
  split at h
  · rename_i h2
    rw [if_pos h2]
    split at h
    · rename_i h3
      rw [if_pos h3]
      refine ⟨?_, ho.2⟩
      simp only [List.filter_append]
      rw [List.filter_cons_of_neg (by simp [openedF])]
      simpa using ho.1
    · rename_i h3; exact absurd h h3
  · rename_i h2
    rw [if_neg h2]
    split at h
    · cases h
    · rename_i h3
      rw [if_neg h3]
      simp only at h ⊢
      split at h
      · rename_i h4
        rw [if_pos h4]
        obtain ⟨hk, hid⟩ := find_lt h3
        generalize (findF o.mts f.id).toNat = k at *
        obtain ⟨s1, s2⟩ := set_split hk (changeF o f (o.mts.getD k default)).1
        obtain ⟨g1, g2⟩ := ho
        simp only
        rw [s2]
        rw [s1] at g1
        generalize o.mts.getD k default = m at *
        unfold changeF at h4 ⊢
        split at h4
        · cases h4
        rename_i c1
        rw [if_neg c1]
        split at h4
        · cases h4
        rename_i c2
        rw [if_neg c2]
        split at h4
        · rename_i c3; exact absurd h4 c3
        rename_i c3
        rw [if_neg c3]
        unfold Once
        simp only [List.filter_append] at g1 ⊢
        rw [List.filter_cons_of_neg (by simp; omega)] at g1
        by_cases k6 : f.kind = 6
        · rw [if_pos k6, List.filter_cons_of_pos (by simp; omega)]
          refine ⟨?_, fun r hr => ?_⟩
          · simp only [List.map_append, List.map_cons, List.map_nil, k6, hid, or_true, if_true] at g1 ⊢
            rw [← List.append_assoc]
            refine List.perm_append_comm.trans ?_
            simp only [List.singleton_append]
            exact (List.Perm.cons _ g1).trans List.perm_middle.symm
          · rw [← List.append_assoc] at hr
            rcases List.mem_append.1 hr with hr | hr
            · exact g2 r hr
            · obtain rfl : r = ⟨f.id, f.day, f.opt⟩ := by simpa using hr
              simp [hd]
        · rw [if_neg k6, List.filter_cons_of_neg (by simp; omega)]
          exact ⟨g1, g2⟩
      · rename_i h4; exact absurd h h4
theorem once_file {d : Dk} {all : List Rl} {f : Fl} (h : (fileF d f).2.2 = 0) (ho : Once d all) : Once (fileF d f).1 (all ++ (fileF d f).2.1) := by
  unfold fileF at *
  split at h
  · rename_i h1
    rw [if_pos h1]
    exact once_act rfl h (once_adv h1 ho)
  · rename_i h1; exact absurd h h1
end Go.Proofs.Ytpddpdkdlodniaa
