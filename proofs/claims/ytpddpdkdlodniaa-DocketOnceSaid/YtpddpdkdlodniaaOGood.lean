/-
  The docket in plain Lean: what Check accepts, and that New, Advance and File keep it.
-/
import Derived.Test.YtpddpdkdlodniaaOPlain
namespace Go.Proofs.Ytpddpdkdlodniaa
open Go.RowKit

/-- No two matters have one name. -/
def Apart (l : List Mt) : Prop := l.Pairwise fun a b => a.id ≠ b.id
/-- What Check accepts. -/
def Good (d : Dk) : Prop := termsF d.day d.ans d.app d.hol.length = 0 ∧ d.mts.length ≤ 32 ∧ (∀ m ∈ d.mts, 0 ≤ m.id ∧ soundF d.day m = true) ∧ Apart d.mts

theorem terms_zero {day ans app : Int} {n : Nat} : termsF day ans app n = 0 ↔ 0 ≤ day ∧ day ≤ 1048576 ∧ n ≤ 1000 ∧ 1 ≤ ans ∧ ans ≤ 250 ∧ 1 ≤ app ∧ app ≤ 250 := by
  unfold termsF
  split
  · omega
  · split
    · omega
    · split <;> omega

theorem has_iff (l : List Mt) (id : Int) : hasF l id = true ↔ ∃ m ∈ l, m.id = id := by
  simp [hasF]
theorem apart_snoc {l : List Mt} {m : Mt} : Apart (l ++ [m]) ↔ Apart l ∧ hasF l m.id = false := by
  unfold Apart
  rw [List.pairwise_append]
  constructor
  · rintro ⟨h1, -, h2⟩
    refine ⟨h1, ?_⟩
    rw [Bool.eq_false_iff]
    intro h
    obtain ⟨x, hx, e⟩ := (has_iff _ _).1 h
    exact h2 x hx m (by simp) e
  · rintro ⟨h1, h2⟩
    refine ⟨h1, by simp, fun a ha b hb => ?_⟩
    obtain rfl : b = m := by simpa using hb
    intro e
    rw [(has_iff _ _).2 ⟨a, ha, e⟩] at h2
    cases h2

theorem take_snoc' {l : List Mt} {k : Nat} (h : k < l.length) : l.take (k + 1) = l.take k ++ [l.getD k default] := by
  rw [List.take_succ_eq_append_getElem h]
  simp [List.getD, h]

theorem matters_zero (day : Int) (l : List Mt) : ∀ (n k : Nat), k + n = l.length → ((∀ m ∈ l.take k, 0 ≤ m.id ∧ soundF day m = true) ∧ Apart (l.take k)) → (mattersF day l n k = 0 ↔ (∀ m ∈ l, 0 ≤ m.id ∧ soundF day m = true) ∧ Apart l)
  | 0, k, hk, h => by
    rw [List.take_of_length_le (by omega)] at h
    exact ⟨fun _ => h, fun _ => rfl⟩
  | n + 1, k, hk, h => by
    have hlt : k < l.length := by omega
    have ht := take_snoc' hlt
    have hmem : l.getD k default ∈ l := by simp [List.getD, hlt]
    have ih := matters_zero day l n (k + 1) (by omega)
    obtain ⟨m, hm⟩ : ∃ m, l.getD k default = m := ⟨_, rfl⟩
    rw [hm] at ht hmem
    rw [ht] at ih
    have hsub : Apart l → hasF (l.take k) m.id = false := fun ha => by
      have : Apart (l.take (k + 1)) := List.Pairwise.sublist (List.take_sublist _ _) ha
      rw [ht] at this
      exact (apart_snoc.1 this).2
    unfold mattersF
    simp only
    rw [hm]
    by_cases h1 : m.id < 0
    · rw [if_pos h1]
      exact ⟨fun e => (by cases e), fun e => by have := (e.1 m hmem).1; omega⟩
    rw [if_neg h1]
    by_cases h2 : hasF (l.take k) m.id = true
    · rw [if_pos h2]
      exact ⟨fun e => (by cases e), fun e => by have := hsub e.2; rw [h2] at this; cases this⟩
    rw [if_neg h2]
    by_cases h3 : soundF day m = false
    · rw [if_pos h3]
      exact ⟨fun e => (by cases e), fun e => by have := (e.1 m hmem).2; rw [h3] at this; cases this⟩
    rw [if_neg h3]
    refine ih ⟨fun x hx => ?_, apart_snoc.2 ⟨h.2, by simpa using h2⟩⟩
    rcases List.mem_append.1 hx with hx | hx
    · exact h.1 x hx
    · obtain rfl : x = m := by simpa using hx
      exact ⟨by omega, by simpa using h3⟩

theorem chk_good (d : Dk) : chkF d = 0 ↔ Good d := by
  unfold chkF Good
  by_cases h1 : termsF d.day d.ans d.app d.hol.length = 0
  · rw [if_neg (by simp [h1])]
    by_cases h2 : 32 < d.mts.length
    · rw [if_pos h2]
      exact ⟨fun e => (by cases e), fun e => by omega⟩
    · rw [if_neg h2, matters_zero d.day d.mts d.mts.length 0 (by omega) ⟨by simp, by simp [Apart]⟩]
      exact ⟨fun e => ⟨h1, by omega, e⟩, fun e => e.2.2⟩
  · rw [if_pos h1]
    exact ⟨fun e => absurd e h1, fun e => absurd e.1 h1⟩

theorem new_good {day ans app : Int} {H : List Int} (h : termsF day ans app H.length = 0) : Good ⟨day, ans, app, H, []⟩ := ⟨h, by simp, by simp, by simp [Apart]⟩

theorem adv_zero (d : Dk) (day : Int) : advE d day = 0 ↔ Good d ∧ 0 ≤ day ∧ day ≤ 1048576 ∧ d.day ≤ day := by
  unfold advE
  by_cases h1 : chkF d = 0
  · rw [if_neg (by simp [h1])]
    have := (chk_good d).1 h1
    split
    · exact ⟨fun e => (by cases e), fun e => by omega⟩
    · split
      · exact ⟨fun e => (by cases e), fun e => by omega⟩
      · exact ⟨fun _ => ⟨this, by omega, by omega, by omega⟩, fun _ => rfl⟩
  · rw [if_pos h1]
    exact ⟨fun e => absurd e h1, fun e => absurd ((chk_good d).2 e.1) h1⟩

/-- The conditions on a matter, one by one. -/
theorem sound_iff (day : Int) (m : Mt) : soundF day m = true ↔
    1 ≤ m.st ∧ m.st ≤ 6 ∧ 0 ≤ m.opt ∧ m.opt < 4 ∧ ((m.st = 2 ∨ m.st = 4) → day ≤ m.due ∧ m.due ≤ 1048576) ∧ (m.st ≠ 2 → m.st ≠ 4 → m.due = 0) ∧ (m.st ≤ 3 → m.opt = 0) ∧ (m.df = true → m.st = 6 ∧ m.opt = 0) := by
  unfold soundF
  by_cases hr : m.st = 2 ∨ m.st = 4
  · have h : runsF m = true := by unfold runsF; simpa using hr
    rw [if_pos h]
    cases hd : m.df <;> simp <;> omega
  · have h : runsF m = false := by unfold runsF; simpa using hr
    rw [h, if_neg (by simp)]
    cases hd : m.df <;> simp <;> omega

theorem runs_iff (m : Mt) : runsF m = true ↔ m.st = 2 ∨ m.st = 4 := by simp [runsF]
theorem lapses_iff (day : Int) (m : Mt) : lapsesF day m = true ↔ (m.st = 2 ∨ m.st = 4) ∧ m.due < day := by simp [lapsesF, runsF]
theorem lapse_id (day : Int) (m : Mt) : (lapseF day m).id = m.id := by unfold lapseF; split <;> rfl
theorem lapse_sound {day day' : Int} {m : Mt} (h : soundF day m = true) : soundF day' (lapseF day' m) = true := by
  obtain ⟨a, b, c, d, e, f, g, i⟩ := (sound_iff _ _).1 h
  rw [sound_iff]
  unfold lapseF
  by_cases hl : lapsesF day' m = true
  · rw [if_pos hl]
    rw [lapses_iff] at hl
    refine ⟨by simp, by simp, c, d, by simp, by simp, by simp, fun hd => ?_⟩
    have : m.st = 2 := by simpa using hd
    exact ⟨rfl, g (by omega)⟩
  · rw [if_neg hl]
    rw [lapses_iff] at hl
    exact ⟨a, b, c, d, fun hs => ⟨by omega, (e hs).2⟩, f, g, i⟩
theorem apart_map {f : Mt → Mt} (hf : ∀ m, (f m).id = m.id) {l : List Mt} (h : Apart l) : Apart (l.map f) := by
  unfold Apart at *
  rw [List.pairwise_map]
  exact h.imp fun {a b} hab => by rw [hf, hf]; exact hab
theorem adv_good {d : Dk} {day : Int} (h : advE d day = 0) : Good (advD d day) := by
  obtain ⟨⟨ht, hl, hm, ha⟩, h0, h1, h2⟩ := (adv_zero d day).1 h
  refine ⟨?_, by simpa [advD] using hl, fun m hmem => ?_, apart_map (lapse_id day) ha⟩
  · have := terms_zero.1 ht
    exact terms_zero.2 ⟨h0, h1, this.2.2⟩
  · obtain ⟨x, hx, rfl⟩ := List.mem_map.1 hmem
    exact ⟨by rw [lapse_id]; exact (hm x hx).1, lapse_sound (hm x hx).2⟩

theorem addF_bd {H : List Int} {day n : Int} (h : (addF H day n).2 = 0) (hn : 1 ≤ n) : 0 ≤ day ∧ day < (addF H day n).1 ∧ (addF H day n).1 ≤ 1048576 := by
  unfold addF at *
  split at h
  · cases h
  · rename_i h1
    rw [if_neg h1]
    split at h
    · cases h
    · rename_i h2
      rw [if_neg h2]
      split at h
      · rename_i i hi
        have h3 := List.find?_some hi
        have h4 := List.mem_range.1 (List.mem_of_find?_eq_some hi)
        simp only [decide_eq_true_eq] at h3
        refine ⟨by omega, ?_, by simp only; omega⟩
        simp only
        unfold targF at h3
        rw [if_neg (by omega)] at h3
        apply Classical.byContradiction
        intro hc
        have := cnt_mono H (show i + 1 ≤ day.toNat + 1 by omega)
        omega
      · cases h

theorem find_lt {l : List Mt} {id : Int} (h : ¬ findF l id < 0) : (findF l id).toNat < l.length ∧ (l.getD (findF l id).toNat default).id = id := by
  unfold findF Lib.idxBy at *
  suffices key : ∀ (l : List Mt) (i : Nat), ¬ Lib.idxByFrom (fun _ m : Mt => decide (m.id = id)) default l i < 0 →
      ∃ k, Lib.idxByFrom (fun _ m : Mt => decide (m.id = id)) default l i = ((i + k : Nat) : Int) ∧ k < l.length ∧ (l.getD k default).id = id by
    obtain ⟨k, e, hk, hi⟩ := key l 0 h
    rw [e]
    simpa using ⟨hk, hi⟩
  clear h
  intro l
  induction l with
  | nil => intro i h; exact absurd (by decide : (-1 : Int) < 0) h
  | cons m l ih =>
    intro i h
    by_cases hm : m.id = id
    · exact ⟨0, by simp [Lib.idxByFrom, hm], by simp, by simpa using hm⟩
    · have e0 : Lib.idxByFrom (fun _ m : Mt => decide (m.id = id)) default (m :: l) i = Lib.idxByFrom (fun _ m : Mt => decide (m.id = id)) default l (i + 1) := by simp [Lib.idxByFrom, hm]
      rw [e0] at h ⊢
      obtain ⟨k, e, hk, hi⟩ := ih (i + 1) h
      exact ⟨k + 1, by rw [e]; omega, by simpa using hk, by simpa using hi⟩
theorem find_neg {l : List Mt} {id : Int} : findF l id < 0 ↔ hasF l id = false := by
  have := Lib.idxBy_nonneg_iff (fun _ m : Mt => decide (m.id = id)) l default
  unfold findF hasF
  rw [← this]
  simp
theorem find_ge (l : List Mt) (id : Int) : -1 ≤ findF l id := by
  unfold findF Lib.idxBy
  suffices key : ∀ (l : List Mt) (i : Nat), -1 ≤ Lib.idxByFrom (fun _ m : Mt => decide (m.id = id)) default l i from key l 0
  intro l
  induction l with
  | nil => intro i; exact Int.le_refl _
  | cons m l ih =>
    intro i
    unfold Lib.idxByFrom
    split
    · omega
    · exact ih _

theorem change_good {d : Dk} {f : Fl} {m : Mt} (hg : Good d) (hd : f.day = d.day) (hk : 1 < f.kind) (hk6 : f.kind ≤ 6) (hm : soundF d.day m = true) (h : (changeF d f m).2 = 0) : (changeF d f m).1.id = m.id ∧ soundF d.day (changeF d f m).1 = true := by
  obtain ⟨a, b, c, e, g, i, j, l⟩ := (sound_iff _ _).1 hm
  obtain ⟨-, -, -, t1, -, t2, -⟩ := terms_zero.1 hg.1
  unfold changeF at *
  split at h
  · cases h
  · rename_i h1
    rw [if_neg h1]
    split at h
    · cases h
    · rename_i h2
      rw [if_neg h2]
      split at h
      · rename_i h3; exact absurd h h3
      · rename_i h3
        rw [if_neg h3]
        refine ⟨rfl, (sound_iff _ _).2 ?_⟩
        simp only
        have h3' : (dueOfF d f).2 = 0 := by omega
        have hdf : m.df = true → False := fun hdf => by have := l hdf; omega
        have hdue : (f.kind = 2 ∨ f.kind = 4) → d.day ≤ (dueOfF d f).1 ∧ (dueOfF d f).1 ≤ 1048576 := fun hk => by
          unfold dueOfF at h3' ⊢
          by_cases k2 : f.kind = 2
          · rw [if_pos k2] at h3' ⊢
            have := addF_bd h3' t1
            omega
          · rw [if_neg k2, if_pos (by omega)] at h3' ⊢
            have := addF_bd h3' t2
            omega
        have hdue0 : f.kind ≠ 2 → f.kind ≠ 4 → (dueOfF d f).1 = 0 := fun k2 k4 => by
          unfold dueOfF
          rw [if_neg k2, if_neg k4]
        refine ⟨by omega, by omega, by split <;> omega, by split <;> omega, fun hs => hdue (by omega), fun h1 h2 => hdue0 (by omega) (by omega), fun hs => by rw [if_neg (by omega)]; exact j (by omega), fun hx => (hdf hx).elim⟩

theorem set_split {l : List Mt} {k : Nat} (h : k < l.length) (m : Mt) : l = l.take k ++ l.getD k default :: l.drop (k + 1) ∧ l.set k m = l.take k ++ m :: l.drop (k + 1) := by
  constructor
  · simp [List.getD, h]
  · exact List.set_eq_take_append_cons_drop .. |>.trans (by rw [if_pos h])
theorem apart_set {l : List Mt} {k : Nat} (h : k < l.length) {m : Mt} (he : m.id = (l.getD k default).id) (ha : Apart l) : Apart (l.set k m) := by
  obtain ⟨e1, e2⟩ := set_split h m
  rw [e2]
  rw [e1] at ha
  unfold Apart at *
  rw [List.pairwise_append] at *
  obtain ⟨p, q, r⟩ := ha
  rw [List.pairwise_cons] at *
  refine ⟨p, ⟨fun b hb => by rw [he]; exact q.1 b hb, q.2⟩, fun a ha b hb => ?_⟩
  rcases List.mem_cons.1 hb with rfl | hb
  · rw [he]
    exact r a ha _ (by simp)
  · exact r a ha b (by simp [hb])

theorem act_good {o : Dk} {l : List Rl} {f : Fl} (hg : Good o) (hd : f.day = o.day) (h : (actF o l f).2.2 = 0) : Good (actF o l f).1 ∧ (actF o l f).1.day = o.day := by
  unfold actF at *
  split at h
  · cases h
  rename_i h1
  rw [if_neg h1]
  split at h
  · rename_i h2
    rw [if_pos h2]
    split at h
    · rename_i h3
      rw [if_pos h3]
      refine ⟨?_, rfl⟩
      obtain ⟨g1, g2, g3, g4⟩ := hg
      unfold openE at h3
      split at h3
      · cases h3
      split at h3
      · cases h3
      split at h3
      · cases h3
      rename_i i1 i2 i3
      refine ⟨g1, by simp; omega, fun m hm => ?_, apart_snoc.2 ⟨g4, by simpa [openedF] using i2⟩⟩
      rcases List.mem_append.1 hm with hm | hm
      · exact g3 m hm
      · obtain rfl : m = openedF f.id := by simpa using hm
        exact ⟨by simp [openedF]; omega, (sound_iff _ _).2 (by simp [openedF])⟩
    · rename_i h3; exact absurd h h3
  · rename_i h2
    rw [if_neg h2]
    split at h
    · cases h
    · rename_i h3
      rw [if_neg h3]
      simp only at h ⊢
      split at h
      · rename_i h4
        rw [if_pos h4]
        obtain ⟨hk, hid⟩ := find_lt h3
        have hmem : o.mts.getD (findF o.mts f.id).toNat default ∈ o.mts := by simp [List.getD, hk]
        have hg' := hg
        obtain ⟨g1, g2, g3, g4⟩ := hg
        obtain ⟨c1, c2⟩ := change_good hg' hd (by omega) (by omega) (g3 _ hmem).2 h4
        refine ⟨⟨g1, by simpa using g2, fun m hm => ?_, apart_set hk c1 g4⟩, rfl⟩
        rcases List.mem_or_eq_of_mem_set hm with hm | rfl
        · exact g3 m hm
        · exact ⟨by rw [c1]; exact (g3 _ hmem).1, c2⟩
      · rename_i h4; exact absurd h h4

theorem file_good {d : Dk} {f : Fl} (h : (fileF d f).2.2 = 0) : Good (fileF d f).1 ∧ (fileF d f).1.day = f.day := by
  unfold fileF at *
  split at h
  · rename_i h1
    rw [if_pos h1]
    exact act_good (adv_good h1) rfl h
  · rename_i h1; exact absurd h h1
end Go.Proofs.Ytpddpdkdlodniaa
