/-
  Contract: the first frame of some bytes, all ways together.
-/
import Derived.Test.YtkbdbinafjmjkaaJFirst2
namespace Go.Proofs.Ytkbdbinafjmjkaa
open Go.RowKit

set_option maxRecDepth 100000 in
set_option maxHeartbeats 4000000 in
theorem first_any (ao : Option Addr) (cap n : Nat) (b : List Int) (w : World) (hn : b.length = n) (hB : Byt w ao b) (hb : Bytes b) (hc0 : n ≤ cap) (hc1 : cap ≤ 9223372036854775807) (hl : n ≤ 300000) :
    Calls Try.prog 42 #[.slice ao n cap] w (FirstTo w (firstF b)) := by
  subst hn
  have HB := Lib.hid hB
  by_cases h8 : b.length < 8
  · have hF : firstF b = none := by unfold firstF; rw [if_pos h8]
    rw [hF]
    clear hB hb hF
    have h8i : (b.length : Int) < 8 := by omega
    go_enter Try.func42, Try.ntmps42
    go_wp2_with fail
    go_ret3
    exact first_none (Below.refl _ _)
  rcases hB with h0 | ⟨blk, off, rfl, hbw, -⟩
  · rw [h0] at h8
    simp at h8
  have h8i : (8 : Int) ≤ (b.length : Int) := by omega
  have hci : (b.length : Int) ≤ (cap : Int) := by omega
  have hG0 := get_any (some ⟨blk, off, none⟩) cap 4 (b.take 4) w (by simp; omega) (by have := HB.out.part 0 4 (by omega); simpa using this) (bytes_take hb 4) (by omega)
  obtain ⟨n0, n1⟩ := getF_four b hb 0
  rw [List.drop_zero] at n0 n1
  obtain ⟨N, hN⟩ : ∃ N, getF (b.take 4) = N := ⟨_, rfl⟩
  rw [hN] at hG0 n0 n1
  have HG0 := Lib.hid hG0
  have HN := Lib.hid hN
  clear hG0 hN
  by_cases hbig : 65569 < N
  · have hF : firstF b = none := by unfold firstF; rw [if_neg h8, if_pos (.inl (by rw [HN.out]; exact hbig))]
    rw [hF]
    clear hb hF
    go_enter Try.func42, Try.ntmps42
    go_wp2_with fail
    refine HG0.out.mono ?_
    rintro e w2 ⟨rfl, rfl⟩
    go_wp2_with fail
    go_ret3
    exact first_none (Below.refl _ _)
  have hbig2 : N ≤ 65569 := by omega
  obtain ⟨m, rfl⟩ : ∃ m : Nat, N = m := ⟨N.toNat, by omega⟩
  clear n1
  by_cases hsh : b.length < 8 + m
  · have hF : firstF b = none := by unfold firstF; rw [if_neg h8, if_pos (.inr (by rw [HN.out, Int.toNat_natCast]; exact hsh))]
    rw [hF]
    have hshi : (b.length : Int) < 8 + (m : Int) := by omega
    clear hb hF hbig
    go_enter Try.func42, Try.ntmps42
    go_wp2_with fail
    refine HG0.out.mono ?_
    rintro e w2 ⟨rfl, rfl⟩
    go_wp2_with fail
    go_ret3
    exact first_none (Below.refl _ _)
  have hshi : 8 + (m : Int) ≤ (b.length : Int) := by omega
  have hF : firstF b = if (lengthsF ((b.drop 8).take m)).2.2.2 = false ∨ (lengthsF ((b.drop 8).take m)).2.2.1 = false ∨ (lengthsF ((b.drop 8).take m)).2.1 ≠ (m : Int) ∨ sumF (b.take 4 ++ (b.drop 8).take m) ≠ getF ((b.drop 4).take 4) then none
      else some (cutsF ((b.drop 8).take m) (1 + 2 * (lengthsF ((b.drop 8).take m)).1.length) (lengthsF ((b.drop 8).take m)).1, 8 + m) := by
    unfold firstF
    rw [if_neg h8, HN.out, Int.toNat_natCast, if_neg (by omega)]
  rw [hF]
  have hbody := HB.out.part 8 m (by omega)
  have hbl : ((b.drop 8).take m).length = m := by simp; omega
  have hbb : Bytes ((b.drop 8).take m) := fun x hx => hb x (List.mem_of_mem_drop (List.mem_of_mem_take hx))
  have h44 : Byt w (some ⟨blk, off + 4, none⟩) ((b.drop 4).take 4) := HB.out.part 4 4 (by omega)
  have h40 : Byt w (some ⟨blk, off, none⟩) (b.take 4) := by have := HB.out.part 0 4 (by omega); simpa using this
  have hlen4 : ((b.drop 4).take 4).length = 4 := by simp; omega
  have hlen0 : (b.take 4).length = 4 := by simp; omega
  have hb44 : Bytes ((b.drop 4).take 4) := fun x hx => hb x (List.mem_of_mem_drop (List.mem_of_mem_take hx))
  have hb40 : Bytes (b.take 4) := bytes_take hb 4
  generalize (b.drop 8).take m = body at hbody hbl hbb ⊢
  generalize (b.drop 4).take 4 = C at h44 hlen4 hb44 ⊢
  generalize b.take 4 = Z at h40 hlen0 hb40 HN ⊢
  have hT := lengths_total body hbb
  by_cases h9 : cap = 8
  · obtain rfl : m = 0 := by omega
    obtain rfl : body = [] := List.eq_nil_of_length_eq_zero hbl
    have hE : lengthsF [] = ([], 0, false, true) := by decide
    rw [hE, if_pos (.inr (.inl rfl))]
    have hL := lengths_any (some ⟨blk, off, none⟩) 0 0 [] w rfl (Byt.nil _ _) hbb (by omega) (by omega)
    rw [hE] at hL
    exact first_nobody w blk off cap b.length 0 [] 0 (sumF (Z ++ [])) (getF C) ⟨HG0.out, hL, fun d hd => jsum_any _ _ cap 0 4 0 Z [] d hlen0 rfl (h40.next hd) (Byt.nil _ _) hb40 hbb (by omega),
      fun d hd => get_any _ (cap - 4) 4 C d hlen4 (h44.next hd) hb44 (by omega)⟩ h8i hci h9 hc1 hbig2 hshi
  have hc9 : (8 : Int) < (cap : Int) := by omega
  have hL := lengths_any (some ⟨blk, off + 8, none⟩) (cap - 8) m body w hbl hbody hbb (by omega) (by omega)
  generalize lengthsF body = R at hL hT ⊢
  obtain ⟨L, tot, wh, ok⟩ := R
  dsimp only at hL hT ⊢
  have hI : FirstIn w blk off cap m (some ⟨blk, off + 8, none⟩) (cap - 8) L tot wh ok (sumF (Z ++ body)) (getF C) := ⟨HG0.out, hL, fun d hd => jsum_any _ _ cap (cap - 8) 4 m Z body d hlen0 hbl (h40.next hd) (hbody.next hd) hb40 hbb (by omega),
      fun d hd => get_any _ (cap - 4) 4 C d hlen4 (h44.next hd) hb44 (by omega)⟩
  cases ok with
  | false =>
    rw [if_pos (.inl rfl)]
    exact first_notok w blk off cap b.length m L tot _ _ wh hI h8i hci hc9 hc1 hbig2 hshi
  | true =>
    cases wh with
    | false =>
      rw [if_pos (.inr (.inl rfl))]
      exact first_notwhole w blk off cap b.length m L tot _ _ hI h8i hci hc9 hc1 hbig2 hshi
    | true =>
      obtain ⟨t1, t2, t3, t4⟩ := hT rfl rfl
      by_cases ht : tot = (m : Int)
      · by_cases hx : sumF (Z ++ body) = getF C
        · rw [if_neg (by simp [ht, hx])]
          rw [← hx, ht] at hI
          exact first_good w blk off cap b.length m L body _ hI h8i hci hc9 hc1 hbig2 hshi hbody hbl (fun z hz => (t3 z hz).1) (by omega)
        · rw [if_pos (.inr (.inr (.inr hx)))]
          exact first_notsum w blk off cap b.length m L tot _ _ hI h8i hci hc9 hc1 hbig2 hshi ht.symm (by simpa using hx)
      · rw [if_pos (.inr (.inr (.inl ht)))]
        exact first_nottot w blk off cap b.length m L tot _ _ hI h8i hci hc9 hc1 hbig2 hshi (by simpa using ht)
end Go.Proofs.Ytkbdbinafjmjkaa
