/-
  What a crash can leave behind whole frames: 'torn' accepts it, 'first' finds no frame in it. No program is in sight here.
-/
import Derived.Test.YtkbdbinafjmjkaaJPlain
namespace Go.Proofs.Ytkbdbinafjmjkaa
open Go.RowKit

theorem flip_all : ∀ n : Fin 256, flipB ((n : Nat) : Int) ≠ ((n : Nat) : Int) ∧ flipB (flipB ((n : Nat) : Int)) = ((n : Nat) : Int) := by decide +kernel
theorem flip_byte {z : Int} (h0 : 0 ≤ z) (h1 : z ≤ 255) : flipB z ≠ z ∧ flipB (flipB z) = z := by
  obtain ⟨n, rfl⟩ : ∃ n : Nat, z = n := ⟨z.toNat, by omega⟩
  exact flip_all ⟨n, by omega⟩
theorem flip_snoc (l : List Int) (z : Int) : flipLast (l ++ [z]) = l ++ [flipB z] := by
  unfold flipLast
  simp [List.getD]
theorem ex_snoc (b : List Int) (h : b ≠ []) : ∃ c z, b = c ++ [z] := ⟨b.dropLast, b.getLast h, (List.dropLast_concat_getLast h).symm⟩
theorem flip_append (a b : List Int) (h : b ≠ []) : flipLast (a ++ b) = a ++ flipLast b := by
  obtain ⟨c, z, rfl⟩ : ∃ c z, b = c ++ [z] := ex_snoc b h
  rw [← List.append_assoc, flip_snoc, flip_snoc, List.append_assoc]
theorem flip_twice (l : List Int) (hb : Bytes l) : flipLast (flipLast l) = l := by
  by_cases h : l = []
  · subst h; rfl
  · obtain ⟨c, z, rfl⟩ : ∃ c z, l = c ++ [z] := ex_snoc l h
    have hz := hb z (by simp)
    rw [flip_snoc, flip_snoc, (flip_byte hz.1 hz.2).2]

theorem sumGo_fst (x y : Int) (bs : List Int) (hx : 0 ≤ x ∧ x < 65521) : (sumGo x y bs).1 = (x + bs.sum) % 65521 := by
  induction bs generalizing x y with
  | nil => simp [sumGo]; omega
  | cons b bs ih =>
    show (sumGo ((x + b) % 65521) _ bs).1 = _
    rw [ih _ _ (by omega), List.sum_cons]
    omega
theorem sum_flip (l : List Int) (hb : Bytes l) (h : l ≠ []) : sumF (flipLast l) ≠ sumF l := by
  obtain ⟨c, z, rfl⟩ : ∃ c z, l = c ++ [z] := ex_snoc l h
  have hz := hb z (by simp)
  have h1 := flip_byte hz.1 hz.2
  have h2 := flipB_bd z
  have e1 := sumGo_fst 1 0 (c ++ [z]) (by omega)
  have e2 := sumGo_fst 1 0 (c ++ [flipB z]) (by omega)
  have b1 := sumGo_bd 1 0 (c ++ [z]) (by omega) (by omega)
  have b2 := sumGo_bd 1 0 (c ++ [flipB z]) (by omega) (by omega)
  rw [flip_snoc]
  unfold sumF
  rw [List.sum_append] at e1 e2
  simp only [List.sum_cons, List.sum_nil] at e1 e2
  intro e
  have h3 := h1.1
  omega

theorem take_putF (n : Int) (j k : Nat) (h : k ≤ j) : (putF n j).take k = putF n k := by
  induction k generalizing n j with
  | zero => rfl
  | succ k ih =>
    obtain ⟨j, rfl⟩ : ∃ j', j = j' + 1 := ⟨j - 1, by omega⟩
    simp only [putF, List.take_succ_cons]
    rw [ih _ _ (by omega)]

/-- The parts of a frame. -/
theorem frame_parts (rs : List (List Int)) (h : Good rs) : ∃ S C B, frameF rs = S ++ (C ++ B) ∧ S = putF (B.length : Int) 4 ∧ B = bodyF rs ∧ S.length = 4 ∧ C.length = 4 ∧ getF S = (B.length : Int) ∧ getF C = sumF (S ++ B) ∧ 3 ≤ B.length ∧ B.length ≤ 65569 ∧ Bytes S ∧ Bytes B := by
  have hbl := body_len rs
  have hfb := flat_bound rs h.2.2.1
  have h1 := h.1
  have h16 := h.2.1
  refine ⟨putF ((bodyF rs).length : Int) 4, putF (sumF (putF ((bodyF rs).length : Int) 4 ++ bodyF rs)) 4, bodyF rs, rfl, rfl, rfl, putF_length _ _, putF_length _ _, get_put _ 4 (by omega) (by show _ < (4294967296 : Int); omega), ?_, by omega, by omega, putF_ok _ _, body_ok rs h.2.2.2⟩
  obtain ⟨q0, q1⟩ := sumF_bd (putF ((bodyF rs).length : Int) 4 ++ bodyF rs)
  exact get_put _ 4 q0 (by show _ < (4294967296 : Int); exact q1)

/-- What a crash can leave behind whole frames. -/
def Tail (t : List Int) : Prop := t = [] ∨ ∃ rs, Good rs ∧ ∃ k, 1 ≤ k ∧ ((k < (frameF rs).length ∧ t = (frameF rs).take k) ∨ (k ≤ (frameF rs).length ∧ t = flipLast ((frameF rs).take k)))

theorem first_short {b : List Int} {N : Nat} (h4 : getF (b.take 4) = (N : Int)) (hl : b.length < 8 + N) : firstF b = none := by
  unfold firstF
  by_cases h8 : b.length < 8
  · rw [if_pos h8]
  · rw [if_neg h8, h4, if_pos (.inr (by rw [Int.toNat_natCast]; exact hl))]
theorem first_tiny {b : List Int} (hl : b.length < 8) : firstF b = none := by
  unfold firstF
  rw [if_pos hl]

theorem tail_first {t : List Int} (h : Tail t) : firstF t = none := by
  rcases h with rfl | ⟨rs, hg, k, hk, h | h⟩
  · rfl
  · obtain ⟨S, C, B, hf, -, -, hS, hC, hSg, -, -, -, -, -⟩ := frame_parts rs hg
    obtain ⟨h1, rfl⟩ := h
    have hl : (frameF rs).length = 8 + B.length := by rw [hf]; simp; omega
    by_cases h8 : k < 8
    · exact first_tiny (by rw [List.length_take]; omega)
    · refine first_short (N := B.length) ?_ (by rw [List.length_take]; omega)
      rw [List.take_take, Nat.min_eq_left (by omega), hf, List.take_left' hS, hSg]
  · obtain ⟨S, C, B, hf, -, -, hS, hC, hSg, hCg, hB3, -, hSb, hBb⟩ := frame_parts rs hg
    obtain ⟨h1, rfl⟩ := h
    have hl : (frameF rs).length = 8 + B.length := by rw [hf]; simp; omega
    by_cases h8 : k < 8
    · exact first_tiny (by rw [flipLast_length, List.length_take]; omega)
    have ht4 : (flipLast ((frameF rs).take k)).take 4 = S := by
      unfold flipLast
      rw [List.take_set_of_le (by rw [List.length_take]; omega), List.take_take, Nat.min_eq_left (by omega), hf, List.take_left' hS]
    by_cases hk2 : k < (frameF rs).length
    · exact first_short (N := B.length) (by rw [ht4, hSg]) (by rw [flipLast_length, List.length_take]; omega)
    · have hkl : k = (frameF rs).length := by omega
      have hBn : B ≠ [] := fun e => by rw [e] at hB3; simp at hB3
      have hfl : flipLast ((frameF rs).take k) = S ++ (C ++ flipLast B) := by
        rw [List.take_of_length_le (by omega), hf, flip_append S _ (by simp [hBn]), flip_append C B hBn]
      have hne : sumF (S ++ flipLast B) ≠ sumF (S ++ B) := by
        rw [← flip_append S B hBn]
        exact sum_flip _ (bytes_append hSb hBb) (by simp [hBn])
      have hflen := flipLast_length B
      rw [hfl]
      unfold firstF
      have t1 : (S ++ (C ++ flipLast B)).take 4 = S := List.take_left' hS
      have t2 : ((S ++ (C ++ flipLast B)).drop 4).take 4 = C := by rw [List.drop_left' hS, List.take_left' hC]
      have t3 : (S ++ (C ++ flipLast B)).drop 8 = flipLast B := by rw [show 8 = 4 + 4 from rfl, ← List.drop_drop, List.drop_left' hS, List.drop_left' hC]
      rw [t1, t2, t3, hSg, Int.toNat_natCast, List.take_of_length_le (by omega)]
      split
      · rfl
      · split
        · rfl
        · rw [if_pos (.inr (.inr (.inr (by rw [hCg]; exact hne))))]

/-- The lengths that the first bytes of a body contain. -/
theorem lens_prefix (rs : List (List Int)) (hlg : longF rs = false) (j : Nat) (hj : j ≤ (bodyF rs).length) (f i : Nat) (l : List Int) (t : Int) (hfi : i + f = rs.length) (hl : l.length = i) :
    (lensGo ((bodyF rs).take j) f i l t).2.2.2 = true ∧ ((lensGo ((bodyF rs).take j) f i l t).2.2.1 = true → (lensGo ((bodyF rs).take j) f i l t).2.1 = t + ((rs.drop i).map lenOf).sum) ∧
      (lensGo ((bodyF rs).take j) f i l t).2.1 ≤ t + ((rs.drop i).map lenOf).sum ∧ t + ((rs.drop i).map lenOf).sum ≤ (lensGo ((bodyF rs).take j) f i l t).2.1 + ((rs.length : Int) - (lensGo ((bodyF rs).take j) f i l t).1.length) * 4096 := by
  induction f generalizing i l t with
  | zero =>
    rw [List.drop_of_length_le (by omega)]
    simp [lensGo]
    omega
  | succ f ih =>
    have hd : rs.drop i = rs.getD i [] :: rs.drop (i + 1) := by
      rw [List.drop_eq_getElem_cons (by omega)]
      simp [List.getD, show i < rs.length by omega]
    have h1 := one_long rs hlg i (by omega)
    have hlj : ((bodyF rs).take j).length = j := by rw [List.length_take]; omega
    unfold lensGo
    by_cases hc : ((bodyF rs).take j).length < 1 + 2 * i + 2
    · rw [if_pos hc]
      have hb1 : ∀ m : List (List Int), longF m = false → 0 ≤ (m.map lenOf).sum ∧ (m.map lenOf).sum ≤ 4096 * (m.length : Int) := fun m hm => by
        have := flat_bound m hm
        rw [sum_lens]
        omega
      have hdl : longF (rs.drop i) = false := by
        unfold longF at hlg ⊢
        rw [List.any_eq_false] at hlg ⊢
        exact fun x hx => hlg x (List.mem_of_mem_drop hx)
      have h2 := hb1 _ hdl
      rw [List.length_drop] at h2
      refine ⟨rfl, (fun h => by cases h), by dsimp only; omega, by dsimp only; rw [hl]; omega⟩
    · rw [if_neg hc]
      have hgd : ∀ m, m < j → ((bodyF rs).take j).getD m 0 = (bodyF rs).getD m 0 := fun m hm => by simp [List.getD, hm]
      have h2 := body_getF rs i (by omega) h1
      rw [hgd _ (by omega), hgd _ (by omega), h2, if_neg (by unfold lenOf; omega)]
      have h3 := ih (i + 1) (l ++ [lenOf (rs.getD i [])]) (t + lenOf (rs.getD i [])) (by omega) (by simp [hl])
      rw [hd, List.map_cons, List.sum_cons]
      simp only [Int.add_assoc] at h3 ⊢
      exact h3

theorem begins_prefix {rs : List (List Int)} (hg : Good rs) (k : Nat) (h1 : 1 ≤ k) (hk : k < (frameF rs).length) : beginsF ((frameF rs).take k) = true := by
  obtain ⟨S, C, B, hf, hSp, hBe, hS, hC, hSg, -, hB3, hB6, hSb, hBb⟩ := frame_parts rs hg
  have hl : (frameF rs).length = 8 + B.length := by rw [hf]; simp; omega
  have htl : ((frameF rs).take k).length = k := by rw [List.length_take]; omega
  unfold beginsF
  rw [htl]
  by_cases h4 : k < 4
  · rw [if_pos h4]
    have ht : (frameF rs).take k = putF (B.length : Int) k := by
      rw [hf, List.take_append_of_le_length (by omega), hSp, take_putF _ _ _ (by omega)]
    unfold reachF
    rw [ht, putF_length]
    have hbd := getF_bd (putF (B.length : Int) k) (putF_ok _ _)
    rw [putF_length] at hbd
    have hk3 : k = 1 ∨ k = 2 ∨ k = 3 := by omega
    simp only [decide_eq_true_eq]
    rcases hk3 with rfl | rfl | rfl
    · exact ⟨by have := hbd.2; simp at this; omega, .inr (by omega)⟩
    · exact ⟨by have : getF (putF (B.length : Int) 2) < 65536 := hbd.2; omega, .inr (by omega)⟩
    · rw [get_put _ 3 (by omega) (by show _ < (16777216 : Int); omega)]
      exact ⟨by omega, .inl (by omega)⟩
  rw [if_neg h4]
  have ht4 : ((frameF rs).take k).take 4 = S := by rw [List.take_take, Nat.min_eq_left (by omega), hf, List.take_left' hS]
  rw [ht4, hSg, if_neg (by omega)]
  by_cases h8 : k ≤ 8
  · rw [if_pos h8]
  rw [if_neg h8]
  have ht8 : ((frameF rs).take k).drop 8 = (bodyF rs).take (k - 8) := by
    rw [List.drop_take, hf, show 8 = 4 + 4 from rfl, ← List.drop_drop, List.drop_left' hS, List.drop_left' hC, hBe]
  rw [hBe] at hl hB3 hB6 ⊢
  rw [ht8]
  have hpl : ((bodyF rs).take (k - 8)).length = k - 8 := by rw [List.length_take]; omega
  rw [hpl, if_neg (by omega)]
  have h0 : ((bodyF rs).take (k - 8)).getD 0 0 = (rs.length : Int) := by
    have e : ((bodyF rs).take (k - 8)).getD 0 0 = (bodyF rs).getD 0 0 := by simp [List.getD, show 0 < k - 8 by omega]
    rw [e, body_split]
    have := hg.2.1
    show (rs.length : Int) % 256 = rs.length
    omega
  have hg1 := hg.1
  have hg2 := hg.2.1
  have hL : lengthsF ((bodyF rs).take (k - 8)) = lensGo ((bodyF rs).take (k - 8)) rs.length 0 [] (1 + 2 * (rs.length : Int)) := by
    unfold lengthsF
    rw [hpl, h0, if_neg (by omega), if_neg (by omega), Int.toNat_natCast]
  obtain ⟨p1, p2, p3, p4⟩ := lens_prefix rs hg.2.2.1 (k - 8) (by omega) rs.length 0 [] (1 + 2 * (rs.length : Int)) (by omega) rfl
  rw [List.drop_zero, sum_lens] at p2 p3 p4
  have hbl := body_len rs
  rw [hL, p1, h0, if_neg (by simp)]
  by_cases hw : (lensGo ((bodyF rs).take (k - 8)) rs.length 0 [] (1 + 2 * (rs.length : Int))).2.2.1 = true
  · rw [if_pos hw, p2 hw]
    simp only [decide_eq_true_eq]
    omega
  · rw [if_neg hw]
    simp only [decide_eq_true_eq]
    exact ⟨by omega, by omega⟩

theorem tail_torn {t : List Int} (h : Tail t) (hne : t ≠ []) : tornF t = true := by
  rcases h with rfl | ⟨rs, hg, k, hk, h | h⟩
  · exact absurd rfl hne
  · obtain ⟨h1, rfl⟩ := h
    unfold tornF
    rw [if_pos (begins_prefix hg k hk h1)]
  · obtain ⟨h1, rfl⟩ := h
    have hbt : Bytes ((frameF rs).take k) := bytes_take (frame_ok rs hg.2.2.2) k
    unfold tornF
    rw [flip_twice _ hbt, flipLast_length]
    split
    · rfl
    · by_cases hk2 : k < (frameF rs).length
      · rw [if_pos (begins_prefix hg k hk hk2)]
      · split
        · rfl
        · have := first_frame hg []
          rw [List.append_nil] at this
          rw [List.take_of_length_le (by omega), this]
          simp
end Go.Proofs.Ytkbdbinafjmjkaa
