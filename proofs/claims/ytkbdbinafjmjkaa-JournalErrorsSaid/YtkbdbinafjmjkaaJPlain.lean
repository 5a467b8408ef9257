/-
  The first frame of a frame with bytes behind it. No program is in sight here.
-/
import Derived.Test.YtkbdbinafjmjkaaJApp3
namespace Go.Proofs.Ytkbdbinafjmjkaa
open Go.RowKit

/-- Records that one call of Append takes. -/
def Good (rs : List (List Int)) : Prop := 1 ≤ rs.length ∧ rs.length ≤ 16 ∧ longF rs = false ∧ ∀ r ∈ rs, Bytes r
def lenOf (r : List Int) : Int := (r.length : Int)

theorem body_at (rs : List (List Int)) (i : Nat) (h : i < rs.length) : ((bodyF rs).drop (1 + 2 * i)).take 2 = putF ((rs.getD i []).length : Int) 2 := by
  have h1 : rs = rs.take i ++ (rs.getD i [] :: rs.drop (i + 1)) := by
    conv => lhs; rw [← List.take_append_drop i rs, List.drop_eq_getElem_cons h]
    simp [List.getD, h]
  have h2 : lensF rs = lensF (rs.take i) ++ (putF ((rs.getD i []).length : Int) 2 ++ lensF (rs.drop (i + 1))) := by
    conv => lhs; rw [h1]
    simp [lensF, List.flatMap_append]
  have h3 : bodyF rs = ((rs.length : Int) % 256 :: lensF (rs.take i)) ++ (putF ((rs.getD i []).length : Int) 2 ++ (lensF (rs.drop (i + 1)) ++ rs.flatten)) := by
    rw [body_split, h2]
    simp
  have h4 : ((rs.length : Int) % 256 :: lensF (rs.take i)).length = 1 + 2 * i := by
    rw [List.length_cons, lens_length, List.length_take]
    omega
  rw [h3, List.drop_left' h4, List.take_left' (putF_length _ 2)]
theorem body_getF (rs : List (List Int)) (i : Nat) (h : i < rs.length) (hl : (rs.getD i []).length ≤ 4096) : getF [(bodyF rs).getD (1 + 2 * i) 0, (bodyF rs).getD (2 + 2 * i) 0] = lenOf (rs.getD i []) := by
  have hb := body_len rs
  have := take_two (bodyF rs) (1 + 2 * i) (by omega)
  rw [body_at rs i h] at this
  rw [show 2 + 2 * i = 1 + 2 * i + 1 by omega, ← this, get_put _ 2 (by omega) (by show _ < (65536 : Int); omega)]
  rfl

theorem lens_go (rs : List (List Int)) (hlg : longF rs = false) (f i : Nat) (l : List Int) (t : Int) (hfi : i + f = rs.length) :
    lensGo (bodyF rs) f i l t = (l ++ (rs.drop i).map lenOf, t + ((rs.drop i).map lenOf).sum, true, true) := by
  induction f generalizing i l t with
  | zero =>
    rw [List.drop_of_length_le (by omega)]
    simp [lensGo]
  | succ f ih =>
    have hb := body_len rs
    have h1 := one_long rs hlg i (by omega)
    have h2 := body_getF rs i (by omega) h1
    have hd : rs.drop i = rs.getD i [] :: rs.drop (i + 1) := by
      rw [List.drop_eq_getElem_cons (by omega)]
      simp [List.getD, show i < rs.length by omega]
    unfold lensGo
    rw [if_neg (by omega), h2, if_neg (by unfold lenOf; omega), ih (i + 1) _ _ (by omega), hd]
    simp [Int.add_assoc]
theorem sum_lens (rs : List (List Int)) : (rs.map lenOf).sum = (rs.flatten.length : Int) := by
  induction rs with
  | nil => rfl
  | cons r rs ih => rw [List.map_cons, List.sum_cons, ih, List.flatten_cons, List.length_append]; unfold lenOf; omega
theorem lengths_body {rs : List (List Int)} (h : Good rs) : lengthsF (bodyF rs) = (rs.map lenOf, ((bodyF rs).length : Int), true, true) := by
  obtain ⟨h1, h2, h3, _⟩ := h
  have hb := body_len rs
  have h0 : (bodyF rs).getD 0 0 = (rs.length : Int) := by
    rw [body_split]
    show (rs.length : Int) % 256 = rs.length
    omega
  unfold lengthsF
  rw [h0, if_neg (by omega), if_neg (by omega), Int.toNat_natCast, lens_go rs h3 rs.length 0 [] _ (by omega), List.drop_zero, sum_lens, hb]
  simp
theorem cuts_all (rs : List (List Int)) (body rest : List Int) (at_ : Nat) (h : body.drop at_ = rs.flatten ++ rest) : cutsF body at_ (rs.map lenOf) = rs := by
  induction rs generalizing at_ with
  | nil => rfl
  | cons r rs ih =>
    have h1 : (lenOf r).toNat = r.length := by unfold lenOf; omega
    rw [List.flatten_cons, List.append_assoc] at h
    simp only [List.map_cons, cutsF]
    rw [h1, h, List.take_left' rfl, ih (at_ + r.length) (by rw [← List.drop_drop, h, List.drop_left' rfl])]

theorem first_frame {rs : List (List Int)} (h : Good rs) (rest : List Int) : firstF (frameF rs ++ rest) = some (rs, (frameF rs).length) := by
  have hl := lengths_body h
  have hbl := body_len rs
  have hfl := frame_len rs
  have hfb := flat_bound rs h.2.2.1
  have h16 := h.2.1
  have hc := cuts_all rs (bodyF rs) [] (1 + 2 * rs.length) (by
    rw [body_split, List.drop_left' (by rw [List.length_cons, lens_length]; omega)]
    simp)
  obtain ⟨S, hS⟩ : ∃ S, putF ((bodyF rs).length : Int) 4 = S := ⟨_, rfl⟩
  have hSl : S.length = 4 := by rw [← hS, putF_length]
  have hSg : getF S = ((bodyF rs).length : Int) := by rw [← hS]; exact get_put _ 4 (by omega) (by show _ < (4294967296 : Int); omega)
  obtain ⟨q0, q1⟩ := sumF_bd (S ++ bodyF rs)
  obtain ⟨C, hC⟩ : ∃ C, putF (sumF (S ++ bodyF rs)) 4 = C := ⟨_, rfl⟩
  have hCl : C.length = 4 := by rw [← hC, putF_length]
  have hCg : getF C = sumF (S ++ bodyF rs) := by rw [← hC]; exact get_put _ 4 q0 (by show _ < (4294967296 : Int); exact q1)
  have hfr : frameF rs ++ rest = S ++ (C ++ (bodyF rs ++ rest)) := by
    unfold frameF
    rw [hS, hC]
    simp
  have t1 : (frameF rs ++ rest).take 4 = S := by rw [hfr, List.take_left' hSl]
  have t2 : ((frameF rs ++ rest).drop 4).take 4 = C := by rw [hfr, List.drop_left' hSl, List.take_left' hCl]
  have t3 : ((frameF rs ++ rest).drop 8).take (bodyF rs).length = bodyF rs := by
    rw [hfr, show 8 = 4 + 4 from rfl, ← List.drop_drop, List.drop_left' hSl, List.drop_left' hCl, List.take_left' rfl]
  have t4 : (frameF rs ++ rest).length = (frameF rs).length + rest.length := List.length_append
  unfold firstF
  rw [if_neg (by omega), t1, hSg, Int.toNat_natCast, if_neg (by omega), t3, t2, hCg, hl]
  dsimp only
  rw [if_neg (by simp), List.length_map, hc, hbl, hfl]
  congr 2
  omega

theorem first_nil : firstF [] = none := rfl

/-- Frames one behind the other. -/
def framesF (bs : List (List (List Int))) : List Int := (bs.map frameF).flatten
theorem frames_snoc (bs : List (List (List Int))) (b : List (List Int)) : framesF (bs ++ [b]) = framesF bs ++ frameF b := by simp [framesF]
theorem scan_frames (bs : List (List (List Int))) (hg : ∀ b ∈ bs, Good b) (t : List Int) (ht : firstF t = none) (f : Nat) (hf : (framesF bs ++ t).length < f) :
    scanF f (framesF bs ++ t) = (bs.flatten, (framesF bs).length) := by
  induction bs generalizing f with
  | nil => exact scan_none f ht
  | cons b bs ih =>
    have hgb := hg b (by simp)
    have hfl := frame_len b
    have he : framesF (b :: bs) ++ t = frameF b ++ (framesF bs ++ t) := by simp [framesF]
    have hl : (framesF (b :: bs)).length = (frameF b).length + (framesF bs).length := by simp [framesF]
    rw [he] at hf ⊢
    rw [List.length_append] at hf
    obtain ⟨f, rfl⟩ : ∃ f', f = f' + 1 := ⟨f - 1, by omega⟩
    rw [scan_some f (by rw [List.length_append]; omega) (first_frame hgb _)]
    dsimp only
    rw [List.drop_left' rfl, ih (fun x hx => hg x (by simp [hx])) f (by omega), hl]
    simp
end Go.Proofs.Ytkbdbinafjmjkaa
