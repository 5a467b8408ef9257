/-
  Contract: the frame of records.
-/
import Derived.Test.YtkbdbinafjmjkaaJFrame
namespace Go.Proofs.Ytkbdbinafjmjkaa
open Go.RowKit

theorem owns_one (w : World) (e : TypeId) (x : Int) : (w.alloc (.cells #[.int .u8 x] e)).ownsRow w.heap.size e 1 (.slice (some ⟨w.heap.size, 0, none⟩) 1 1) 1 (bcells [x]) :=
  ⟨rfl, .inr ⟨w.heap.size, 1, #[.int .u8 x], rfl, Nat.le_refl _, heap_alloc_new w _, Nat.le_refl _, by unfold maxLen; omega, rfl, rfl⟩⟩

/-- The lengths of the first records. -/
def lensF (rs : List (List Int)) : List Int := rs.flatMap fun r => putF (r.length : Int) 2
theorem lens_take (rs : List (List Int)) (k : Nat) (h : k < rs.length) : lensF (rs.take (k + 1)) = lensF (rs.take k) ++ putF ((rs.getD k []).length : Int) 2 := by
  unfold lensF
  rw [List.take_succ_eq_append_getElem h, List.flatMap_append]
  simp [List.getD, h]
theorem lens_length (rs : List (List Int)) : (lensF rs).length = 2 * rs.length := by
  unfold lensF
  induction rs with
  | nil => rfl
  | cons r rs ih => simp only [List.flatMap_cons, List.length_append, ih, putF_length, List.length_cons]; omega
theorem body_split (rs : List (List Int)) : bodyF rs = ((rs.length : Int) % 256 :: lensF rs) ++ rs.flatten := rfl
theorem body_ok (rs : List (List Int)) (h : ∀ r ∈ rs, Bytes r) : Bytes (bodyF rs) := by
  intro x hx
  rw [body_split] at hx
  rcases List.mem_append.1 hx with h1 | h1
  · rcases List.mem_cons.1 h1 with rfl | h1
    · omega
    · obtain ⟨r, _, hr⟩ := List.mem_flatMap.1 h1
      exact putF_ok _ _ x hr
  · obtain ⟨r, hr, hxr⟩ := List.mem_flatten.1 h1
    exact h r hr x hxr
theorem sumF_bd (bs : List Int) : 0 ≤ sumF bs ∧ sumF bs < 4294967296 := by
  have := sumGo_bd 1 0 bs (by omega) (by omega)
  unfold sumF
  omega

set_option maxRecDepth 100000 in
set_option maxHeartbeats 2000000 in
theorem frame_any (ao : Option Addr) (cap n : Nat) (rs : List (List Int)) (w : World) (hn : rs.length = n) (hR : Recs w ao rs) (hrb : ∀ r ∈ rs, Bytes r) (hl : (bodyF rs).length ≤ 900000) (hl2 : n ≤ 255) :
    Calls Try.prog 46 #[.slice ao n cap] w fun e w' => ∃ go gc, e = .returned (.slice go (frameF rs).length gc) ∧ Byt w' go (frameF rs) ∧ (∀ k o, go = some ⟨k, o, none⟩ → w.heap.size ≤ k) ∧ Below w.heap.size w w' := by
  subst hn
  obtain ⟨i0, hi, hz0, hz1, hz2⟩ := info_parts Try.infoByte
  have HR := Lib.hid hR
  have hbl : (bodyF rs).length = 1 + 2 * rs.length + rs.flatten.length := by rw [body_split, List.length_append, List.length_cons, lens_length]; omega
  have hlm : ((rs.length : Int) % 256) = rs.length := by omega
  have HBO := Lib.hid (body_ok rs hrb)
  have HLM := Lib.hid hlm
  have hfb : rs.flatten.length ≤ 900000 := by omega
  have HBL := Lib.hid hbl
  clear hR hrb hlm hbl
  go_enter Try.func46, Try.ntmps46
  go_wp2_with fail
  go_loopw [3, 15] (fun v i wr => ∃ k : Nat, k ≤ rs.length ∧ i = .int .i64 k ∧ wr.ownsRow w.heap.size 5 1 v (1 + 2 * k) (bcells ((rs.length : Int) :: lensF (rs.take k))) ∧ Below w.heap.size w wr) (fun _ i _ => rs.length - (intOf i).toNat)
  case atStart => exact ⟨0, Nat.zero_le _, rfl, owns_one w 5 (rs.length : Int), by go_grown⟩
  case round =>
    obtain ⟨k, hk, rfl, hown, hb⟩ := hrel
    have hsr := hb.size
    by_cases hlt : k < rs.length
    · rcases HR.out.next hb with h0 | ⟨b, off, rfl, hbw, hc0⟩
      · rw [h0] at hlt
        simp at hlt
      obtain ⟨po, pc, hc, -⟩ := hc0 k hlt
      have hft := lens_take rs k hlt
      have hql : (rs.getD k []).length ≤ 900000 := by
        have h1 := flat_le rs (k + 1)
        rw [flat_take rs k hlt, List.length_append] at h1
        omega
      generalize (rs.getD k []).length = q at hc hft hql
      have HP := Lib.hid (put_any (q : Int) 2 wr (by omega) (by omega) (by omega))
      have HFT := Lib.hid hft
      have HO := Lib.hid hown
      have HB := Lib.hid hb
      have hk0 : (0 : Int) ≤ (k : Int) := Int.natCast_nonneg _
      have hk1 : (k : Int) < (rs.length : Int) := by omega
      clear hc0 hft hown hb
      go_wp2_with fail
      refine HP.out.mono ?_
      rintro e w3 ⟨qo, qc, rfl, hy3, -, hb3⟩
      have hs3 : w.heap.size ≤ w3.heap.size := Nat.le_trans hsr hb3.size
      have HO3 := Lib.hid (owns_next HO.out hb3)
      have HB3 := Lib.hid (HB.out.trans (hb3.mono hsr))
      have HY3 := Lib.hid hy3
      clear hy3 hb3 HP HO HB
      go_wp2_with (at_builtin
                   refine wpList_append_byt _ rfl (.tmp 19) (.tmp 23) 30 rfl w.heap.size 5 i0 (.int .u8 0) Try.underlying30 hi hz0 hz1 hz2 rfl _ (1 + 2 * k) _ rfl HO3.out qo 2 qc (putF (q : Int) 2) (putF_length _ _) rfl HY3.out (by omega) hs3 ?_
                   intro g5 c5 w5 hown5 hg5 hv5
                   have hb5 : Below w.heap.size w w5 := HB3.out.grown hg5 hs3 (fun j hj => (HO3.out.lt j hj).1))
      go_roundw
      case rel =>
        refine ⟨k + 1, hlt, by go_num, ?_, hb5⟩
        rw [HFT.out, show 1 + 2 * (k + 1) = 1 + 2 * k + 2 by omega]
        simpa [bcells] using hown5
      case measure => simp [intOf]; omega
    · obtain rfl : k = rs.length := by omega
      rw [List.take_length] at hown
      have HO := Lib.hid hown
      have HB := Lib.hid hb
      clear hown hb hlt
      go_wp2_with fail
      obtain ⟨wo, hwo⟩ : ∃ wo : World, wo = wr := ⟨_, rfl⟩
      rw [← hwo] at HO HB hsr
      rw [← hwo]
      clear hwo wr
      go_loopw [3, 28] (fun v i wr => ∃ k : Nat, k ≤ rs.length ∧ i = .int .i64 k ∧ wr.ownsRow w.heap.size 5 1 v (1 + 2 * rs.length + (rs.take k).flatten.length) (bcells ((rs.length : Int) :: lensF rs ++ (rs.take k).flatten)) ∧ Below w.heap.size w wr) (fun _ i _ => rs.length - (intOf i).toNat)
      case atStart => exact ⟨0, Nat.zero_le _, rfl, by simpa using HO.out, HB.out⟩
      case round =>
        obtain ⟨k, hk2, rfl, hown, hb⟩ := hrel
        have hsr2 := hb.size
        have hmle := flat_le rs k
        by_cases hlt : k < rs.length
        · rcases HR.out.next hb with h0 | ⟨b, off, rfl, hbw, hc0⟩
          · rw [h0] at hlt
            simp at hlt
          obtain ⟨po, pc, hc, hy⟩ := hc0 k hlt
          have hft := flat_take rs k hlt
          have hfl := flat_le rs (k + 1)
          rw [hft, List.length_append] at hfl
          generalize rs.getD k [] = r at hc hy hft hfl
          generalize (rs.take k).flatten = F at hown hft hfl hmle
          have HFT := Lib.hid hft
          have HY := Lib.hid hy
          have HO2 := Lib.hid hown
          have HB2 := Lib.hid hb
          have hk0 : (0 : Int) ≤ (k : Int) := Int.natCast_nonneg _
          have hk1 : (k : Int) < (rs.length : Int) := by omega
          clear hc0 hy hft hown hb HO HB
          go_wp2_with (at_builtin
                       refine wpList_append_byt _ rfl (.tmp 32) (.tmp 33) 30 rfl w.heap.size 5 i0 (.int .u8 0) Try.underlying30 hi hz0 hz1 hz2 rfl _ (1 + 2 * rs.length + F.length) _ rfl HO2.out po r.length pc r rfl rfl HY.out (by omega) hsr2 ?_
                       intro g5 c5 w5 hown5 hg5 hv5
                       have hb5 : Below w.heap.size w w5 := HB2.out.grown hg5 hsr2 (fun j hj => (HO2.out.lt j hj).1))
          go_roundw
          case rel =>
            refine ⟨k + 1, hlt, by go_num, ?_, hb5⟩
            rw [HFT.out, List.length_append, ← Nat.add_assoc]
            simpa [bcells] using hown5
          case measure => simp [intOf]; omega
        · obtain rfl : k = rs.length := by omega
          rw [List.take_length] at hown
          have hbody : ((rs.length : Int) :: lensF rs ++ rs.flatten) = bodyF rs := by rw [body_split, HLM.out]
          rw [hbody, ← HBL.out] at hown
          obtain ⟨bo, bc, rfl, hB, hbase⟩ := byt_slice hown rfl
          have HY := Lib.hid hB
          have HB2 := Lib.hid hb
          clear hown hlt hmle hB hbase hb hbody HO HB HBL HLM hfb
          have hfr : frameF rs = putF ((bodyF rs).length : Int) 4 ++ (putF (sumF (putF ((bodyF rs).length : Int) 4 ++ bodyF rs)) 4 ++ bodyF rs) := rfl
          have HFR := Lib.hid hfr
          generalize bodyF rs = B at HY HBO HFR hl ⊢
          obtain ⟨S, hS⟩ : ∃ S, putF (B.length : Int) 4 = S := ⟨_, rfl⟩
          have hSl : S.length = 4 := by rw [← hS, putF_length]
          have hSb : Bytes S := by rw [← hS]; exact putF_ok _ _
          have hP := put_any (B.length : Int) 4 wr (by omega) (by omega) (by omega)
          rw [hS] at hP HFR
          obtain ⟨q0, q1⟩ := sumF_bd (S ++ B)
          generalize hz : sumF (S ++ B) = z at HFR q0 q1
          obtain ⟨C, hC⟩ : ∃ C, putF z 4 = C := ⟨_, rfl⟩
          have hCl : C.length = 4 := by rw [← hC, putF_length]
          rw [hC] at HFR
          have HP := Lib.hid hP
          have HZ := Lib.hid hz
          have HC := Lib.hid hC
          have HSL := Lib.hid hSl
          have HSB := Lib.hid hSb
          have HCL := Lib.hid hCl
          clear hP hz hC hSl hSb hCl hS hfr
          go_wp2_with fail
          refine HP.out.mono ?_
          rintro e w1 ⟨p1, c1, rfl, hy1, -, hb1⟩
          have HY1 := Lib.hid hy1
          have HYB := Lib.hid (HY.out.next hb1)
          have HB1 := Lib.hid (HB2.out.trans (hb1.mono HB2.out.size))
          clear hy1 hb1 HY HB2 HP
          go_wp2_with fail
          have hJ := jsum_any p1 bo c1 bc 4 B.length S B w1 HSL.out rfl HY1.out HYB.out HSB.out HBO.out (by omega)
          rw [HZ.out] at hJ
          refine hJ.mono ?_
          rintro e w2 ⟨rfl, hb2⟩
          have HY2 := Lib.hid (HY1.out.next hb2)
          have HYB2 := Lib.hid (HYB.out.next hb2)
          have HB2 := Lib.hid (HB1.out.trans (hb2.mono HB1.out.size))
          clear hJ hb2 HY1 HYB HB1
          go_wp2_with fail
          have hP2 := put_any z 4 w2 q0 q1 (by omega)
          rw [HC.out] at hP2
          refine hP2.mono ?_
          rintro e w3 ⟨p3, c3, rfl, hy3, -, hb3⟩
          have hal : Below w3.heap.size w3 (w3.alloc (.cells #[.slice p1 4 c1, .slice p3 4 c3, .slice bo B.length bc] 30)) := (Below.refl _ _).alloc (Nat.le_refl _) _
          have hrc := recs_three w3 30 p1 p3 bo c1 c3 bc S C B (HY2.out.next hb3) hy3 (HYB2.out.next hb3)
          rw [HSL.out, HCL.out] at hrc
          have hfl : [S, C, B].flatten = S ++ (C ++ B) := by simp
          have hK := concat_any (some ⟨w3.heap.size, 0, none⟩) 3 3 [S, C, B] _ rfl hrc (by rw [hfl, List.length_append, List.length_append, HSL.out, HCL.out]; omega) (by omega)
          rw [hfl, ← HFR.out] at hK
          have HK := Lib.hid hK
          have HB3 := Lib.hid ((HB2.out.trans (hb3.mono HB2.out.size)).trans (hal.mono (Nat.le_trans HB2.out.size hb3.size)))
          clear hP2 hy3 hrc hfl hK HY2 HYB2 hb3 hal HB2
          go_wp2_with fail
          refine HK.out.mono ?_
          rintro e w4 ⟨go, gc, rfl, hy4, hg4, hb4⟩
          have HB4 := Lib.hid (HB3.out.trans (hb4.mono HB3.out.size))
          have HY4 := Lib.hid hy4
          have HG4 := Lib.hid (fun k o h => Nat.le_trans HB3.out.size (hg4 k o h))
          clear hy4 hg4 hb4 HK HB3
          go_wp2_with fail
          go_ret
          exact ⟨go, gc, rfl, HY4.out, HG4.out, HB4.out⟩
end Go.Proofs.Ytkbdbinafjmjkaa
