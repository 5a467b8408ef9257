/-
  Plain laws on services: bounds, no losses, more losses, other notices. No program is in sight here.
-/
import Derived.Test.YtlblacgmecgbkaaPlain
namespace Go.Proofs.Ytlblacgmecgbkaa
open Go.RowKit

theorem latestF_eq {ev tr pu da : Int} (h1 : 1 ≤ ev) (h2 : ev ≤ 1000) (h3 : 1 ≤ tr) (h4 : tr ≤ 16) (h5 : 0 ≤ da) (h6 : da ≤ 1048576) (h7 : 0 ≤ pu) (h8 : pu ≤ 1000) : latestF ev tr pu da = da + ev * (tr - 1) + pu := by
  obtain ⟨m0, m1⟩ := mul_bd h1 h2 (by omega : 0 ≤ tr - 1) (by omega)
  unfold latestF
  rw [IntWalk.wrap64_in (tr - 1) ⟨by omega, by omega⟩, IntWalk.wrap64_in (ev * (tr - 1)) ⟨by omega, by omega⟩, IntWalk.wrap64_in (da + ev * (tr - 1)) ⟨by omega, by omega⟩, IntWalk.wrap64_in (da + ev * (tr - 1) + pu) ⟨by omega, by omega⟩]

/-- What holds of a service that begins at try t with 'rec' copies received, the first on 'day'. -/
theorem serveGo_bounds {ev tr pu da : Int} (no : Int) (l : List LossD) (h1 : 1 ≤ ev) (h2 : ev ≤ 1000) (h3 : 1 ≤ tr) (h4 : tr ≤ 16) (h5 : 0 ≤ da) (h6 : da ≤ 1048576) (h7 : 0 ≤ pu) (h8 : pu ≤ 1000) :
    ∀ (n : Nat) (t day rec : Int), 0 ≤ t → t + n = tr → 0 ≤ rec → rec ≤ t → (rec = 0 ∨ (da ≤ day ∧ day ≤ da + ev * (tr - 1))) →
      let s := serveGo ev tr pu da no l n t day rec
      da ≤ s.1 ∧ s.1 ≤ latestF ev tr pu da ∧ t ≤ s.2.1 ∧ s.2.1 ≤ tr ∧ (0 < n → t < s.2.1) ∧ s.2.2.1 ≤ s.2.1 ∧ (s.2.2.2 = true → s.2.2.1 ≠ 0)
  | 0, t, day, rec, ht, hn, hr, hrt, _ => by
    have hl := latestF_eq h1 h2 h3 h4 h5 h6 h7 h8
    obtain ⟨m0, m1⟩ := mul_bd h1 h2 (by omega : 0 ≤ tr - 1) (by omega)
    simp only [serveGo]
    refine ⟨by omega, by omega, by omega, by omega, by omega, by omega, by simp⟩
  | n + 1, t, day, rec, ht, hn, hr, hrt, hd => by
    have hl := latestF_eq h1 h2 h3 h4 h5 h6 h7 h8
    have hev : ev * t ≤ ev * (tr - 1) := Int.mul_le_mul_of_nonneg_left (by omega) (by omega)
    have hev0 : 0 ≤ ev * t := Int.mul_nonneg (by omega) ht
    have hday : da ≤ (if rec = 0 then da + ev * t else day) ∧ (if rec = 0 then da + ev * t else day) ≤ da + ev * (tr - 1) := by
      split
      · omega
      · rcases hd with h | h
        · omega
        · exact h
    simp only [serveGo]
    split
    · have ih := serveGo_bounds no l h1 h2 h3 h4 h5 h6 h7 h8 n (t + 1) day rec (by omega) (by omega) hr (by omega) hd
      simp only at ih
      obtain ⟨i1, i2, i3, i4, i5, i6, i7⟩ := ih
      exact ⟨i1, i2, by omega, i4, fun _ => by omega, i6, i7⟩
    · split
      · have ih := serveGo_bounds no l h1 h2 h3 h4 h5 h6 h7 h8 n (t + 1) (if rec = 0 then da + ev * t else day) (rec + 1) (by omega) (by omega) (by omega) (by omega) (.inr hday)
        simp only at ih
        obtain ⟨i1, i2, i3, i4, i5, i6, i7⟩ := ih
        exact ⟨i1, i2, by omega, i4, fun _ => by omega, i6, i7⟩
      · dsimp only
        exact ⟨hday.1, by omega, by omega, by omega, fun _ => by omega, by omega, fun _ => by omega⟩

theorem serveF_bounds {ev tr pu : Int} (n : Int × Int) (no : Int) (l : List LossD) (h1 : 1 ≤ ev) (h2 : ev ≤ 1000) (h3 : 1 ≤ tr) (h4 : tr ≤ 16) (h5 : 0 ≤ n.2) (h6 : n.2 ≤ 1048576) (h7 : 0 ≤ pu) (h8 : pu ≤ 1000) :
    n.2 ≤ (serveF ev tr pu n no l).1 ∧ (serveF ev tr pu n no l).1 ≤ latestF ev tr pu n.2 ∧ 1 ≤ (serveF ev tr pu n no l).2.1 ∧ (serveF ev tr pu n no l).2.1 ≤ tr ∧ (serveF ev tr pu n no l).2.2.1 ≤ (serveF ev tr pu n no l).2.1 ∧
      ((serveF ev tr pu n no l).2.2.2 = true → (serveF ev tr pu n no l).2.2.1 ≠ 0) := by
  have := serveGo_bounds no l h1 h2 h3 h4 h5 h6 h7 h8 tr.toNat 0 0 0 (by omega) (by omega) (by omega) (by omega) (.inl rfl)
  simp only at this
  obtain ⟨i1, i2, i3, i4, i5, i6, i7⟩ := this
  have := i5 (by omega)
  exact ⟨i1, i2, by unfold serveF; omega, i4, i6, i7⟩

theorem serveF_none {ev tr pu : Int} (n : Int × Int) (no : Int) (h3 : 1 ≤ tr) : serveF ev tr pu n no [] = (n.2, 1, 1, true) := by
  obtain ⟨m, hm⟩ : ∃ m, tr.toNat = m + 1 := ⟨tr.toNat - 1, by omega⟩
  unfold serveF
  rw [hm]
  simp [serveGo, goneF]

/-- A day that is not after the coming tries is not after the service. -/
theorem serveGo_low {ev tr pu da : Int} (no : Int) (l : List LossD) (h1 : 1 ≤ ev) (h2 : ev ≤ 1000) (h3 : 1 ≤ tr) (h4 : tr ≤ 16) (h5 : 0 ≤ da) (h6 : da ≤ 1048576) (h7 : 0 ≤ pu) (h8 : pu ≤ 1000) (low : Int) (hlast : low ≤ da + ev * (tr - 1)) :
    ∀ (n : Nat) (t day rec : Int), 0 ≤ t → 0 ≤ rec → low ≤ da + ev * t → (rec = 0 ∨ low ≤ day) → low ≤ (serveGo ev tr pu da no l n t day rec).1
  | 0, t, day, rec, _, _, _, _ => by
    have hl := latestF_eq h1 h2 h3 h4 h5 h6 h7 h8
    simp only [serveGo]
    omega
  | n + 1, t, day, rec, ht, hr, hlow, hd => by
    have hev1 : ev * (t + 1) = ev * t + ev := by rw [Int.mul_add, Int.mul_one]
    have hday : low ≤ (if rec = 0 then da + ev * t else day) := by
      split
      · exact hlow
      · rcases hd with h | h
        · omega
        · exact h
    simp only [serveGo]
    split
    · exact serveGo_low no l h1 h2 h3 h4 h5 h6 h7 h8 low hlast n (t + 1) day rec (by omega) hr (by omega) hd
    · split
      · exact serveGo_low no l h1 h2 h3 h4 h5 h6 h7 h8 low hlast n (t + 1) _ (rec + 1) (by omega) (by omega) (by omega) (.inr hday)
      · exact hday

/-- More losses: never served earlier, no fewer copies, no confirmation that there was not. -/
theorem serveGo_worse {ev tr pu da : Int} (no : Int) (l l' : List LossD) (hs : ∀ x, goneF l x = true → goneF l' x = true) (h1 : 1 ≤ ev) (h2 : ev ≤ 1000) (h3 : 1 ≤ tr) (h4 : tr ≤ 16) (h5 : 0 ≤ da) (h6 : da ≤ 1048576) (h7 : 0 ≤ pu) (h8 : pu ≤ 1000) :
    ∀ (n : Nat) (t day rec day' rec' : Int), 0 ≤ t → t + n = tr → 0 ≤ rec' → rec' ≤ rec → rec ≤ t → (rec = 0 ∨ (da ≤ day ∧ day ≤ da + ev * (tr - 1) ∧ day ≤ da + ev * t)) → (rec' = 0 ∨ (day ≤ day' ∧ da ≤ day' ∧ day' ≤ da + ev * (tr - 1))) →
      let s := serveGo ev tr pu da no l n t day rec
      let s' := serveGo ev tr pu da no l' n t day' rec'
      s.1 ≤ s'.1 ∧ s.2.1 ≤ s'.2.1 ∧ (s'.2.2.2 = true → s.2.2.2 = true)
  | 0, t, day, rec, day', rec', _, _, _, _, _, _, _ => by simp [serveGo]
  | n + 1, t, day, rec, day', rec', ht, hn, hr', hrr, hrt, hd, hd' => by
    have hl := latestF_eq h1 h2 h3 h4 h5 h6 h7 h8
    obtain ⟨m0, m1⟩ := mul_bd h1 h2 (by omega : 0 ≤ tr - 1) (by omega)
    have hev : ev * t ≤ ev * (tr - 1) := Int.mul_le_mul_of_nonneg_left (by omega) (by omega)
    have hev0 : 0 ≤ ev * t := Int.mul_nonneg (by omega) ht
    have hev1 : ev * (t + 1) = ev * t + ev := by rw [Int.mul_add, Int.mul_one]
    have hday : da ≤ (if rec = 0 then da + ev * t else day) ∧ (if rec = 0 then da + ev * t else day) ≤ da + ev * (tr - 1) ∧ (if rec = 0 then da + ev * t else day) ≤ da + ev * t := by
      split
      · omega
      · rcases hd with h | h
        · omega
        · omega
    have hday' : (if rec = 0 then da + ev * t else day) ≤ (if rec' = 0 then da + ev * t else day') ∧ da ≤ (if rec' = 0 then da + ev * t else day') ∧ (if rec' = 0 then da + ev * t else day') ≤ da + ev * (tr - 1) := by
      have := hday.2.2
      split
      · rename_i h0
        split <;> rename_i h0' <;> omega
      · rename_i h0
        rcases hd with h | h
        · omega
        · split <;> rename_i h0'
          · omega
          · rcases hd' with h' | h' <;> omega
    simp only [serveGo]
    by_cases g : goneF l (no, t, false) = true
    · have g' := hs _ g
      rw [if_pos g, if_pos g']
      exact serveGo_worse no l l' hs h1 h2 h3 h4 h5 h6 h7 h8 n (t + 1) day rec day' rec' (by omega) (by omega) hr' hrr (by omega) (by rcases hd with h | h; exact .inl h; exact .inr ⟨h.1, h.2.1, by omega⟩) hd'
    · rw [if_neg g]
      by_cases g' : goneF l' (no, t, false) = true
      · rw [if_pos g']
        by_cases c : goneF l (no, t, true) = true
        · rw [if_pos c]
          refine serveGo_worse no l l' hs h1 h2 h3 h4 h5 h6 h7 h8 n (t + 1) _ (rec + 1) day' rec' (by omega) (by omega) hr' (by omega) (by omega) (.inr ⟨hday.1, hday.2.1, by omega⟩) ?_
          rcases hd' with h | h
          · exact .inl h
          · by_cases r0 : rec' = 0
            · exact .inl r0
            · refine .inr ⟨?_, h.2⟩
              have : rec ≠ 0 := by omega
              rw [if_neg this]
              exact h.1
        · rw [if_neg c]
          have hb := serveGo_bounds no l' h1 h2 h3 h4 h5 h6 h7 h8 n (t + 1) day' rec' (by omega) (by omega) hr' (by omega) (by rcases hd' with h | h; exact .inl h; exact .inr h.2)
          have hlow := serveGo_low no l' h1 h2 h3 h4 h5 h6 h7 h8 (if rec = 0 then da + ev * t else day) hday.2.1 n (t + 1) day' rec' (by omega) hr' (by omega)
            (by
              by_cases r0 : rec' = 0
              · exact .inl r0
              · rcases hd' with h | h
                · exact .inl h
                · exact .inr (by rw [if_neg (by omega)]; exact h.1))
          simp only at hb
          exact ⟨hlow, hb.2.2.1, fun _ => rfl⟩
      · rw [if_neg g']
        by_cases c : goneF l (no, t, true) = true
        · have c' := hs _ c
          rw [if_pos c, if_pos c']
          exact serveGo_worse no l l' hs h1 h2 h3 h4 h5 h6 h7 h8 n (t + 1) _ (rec + 1) _ (rec' + 1) (by omega) (by omega) (by omega) (by omega) (by omega) (.inr ⟨hday.1, hday.2.1, by omega⟩) (.inr hday')
        · rw [if_neg c]
          by_cases c' : goneF l' (no, t, true) = true
          · rw [if_pos c']
            have hb := serveGo_bounds no l' h1 h2 h3 h4 h5 h6 h7 h8 n (t + 1) (if rec' = 0 then da + ev * t else day') (rec' + 1) (by omega) (by omega) (by omega) (by omega) (.inr hday'.2)
            have hlow := serveGo_low no l' h1 h2 h3 h4 h5 h6 h7 h8 (if rec = 0 then da + ev * t else day) hday.2.1 n (t + 1) (if rec' = 0 then da + ev * t else day') (rec' + 1) (by omega) (by omega) (by omega) (.inr hday'.1)
            simp only at hb
            exact ⟨hlow, hb.2.2.1, fun _ => rfl⟩
          · rw [if_neg c']
            exact ⟨hday'.1, Int.le_refl _, fun _ => rfl⟩
theorem serveF_worse {ev tr pu : Int} (n : Int × Int) (no : Int) (l l' : List LossD) (hs : ∀ x, x ∈ l → x ∈ l') (h1 : 1 ≤ ev) (h2 : ev ≤ 1000) (h3 : 1 ≤ tr) (h4 : tr ≤ 16) (h5 : 0 ≤ n.2) (h6 : n.2 ≤ 1048576) (h7 : 0 ≤ pu) (h8 : pu ≤ 1000) :
    (serveF ev tr pu n no l).1 ≤ (serveF ev tr pu n no l').1 ∧ (serveF ev tr pu n no l).2.1 ≤ (serveF ev tr pu n no l').2.1 ∧ ((serveF ev tr pu n no l').2.2.2 = true → (serveF ev tr pu n no l).2.2.2 = true) :=
  serveGo_worse no l l' (fun x h => by simp only [goneF, decide_eq_true_eq] at h ⊢; exact hs x h) h1 h2 h3 h4 h5 h6 h7 h8 tr.toNat 0 0 0 0 0 (by omega) (by omega) (by omega) (by omega) (by omega) (.inl rfl) (.inl rfl)

/-- A notice hangs on its own losses alone. -/
theorem serveGo_own (ev tr pu da no no' : Int) (l l' : List LossD) (h : ∀ t c, goneF l (no, t, c) = goneF l' (no', t, c)) : ∀ (n : Nat) (t day rec : Int), serveGo ev tr pu da no l n t day rec = serveGo ev tr pu da no' l' n t day rec
  | 0, _, _, _ => rfl
  | n + 1, t, day, rec => by
    simp only [serveGo, h, serveGo_own ev tr pu da no no' l l' h n]

theorem serveF_own (ev tr pu no no' : Int) (n : Int × Int) (l l' : List LossD) (h : ∀ t c, goneF l (no, t, c) = goneF l' (no', t, c)) : serveF ev tr pu n no l = serveF ev tr pu n no' l' :=
  serveGo_own ev tr pu n.2 no no' l l' h tr.toNat 0 0 0
end Go.Proofs.Ytlblacgmecgbkaa
