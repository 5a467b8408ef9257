/-
  The law that a journal keeps bytes of its own, walked.
-/
import Derived.Test.YtkbdbinafjmjkaaJNone
namespace Go.Proofs.Ytkbdbinafjmjkaa
open Go.RowKit

theorem own_short (ao : Option Addr) (n cap : Nat) (a c : Int) (w : World) (h : n = 0 ∨ 40 < n) :
    Calls Try.prog 11 #[.slice ao n cap, .int .u8 a, .int .u8 c] w fun e w' => e = .returned (.bool true) ∧ Below w.heap.size w w' := by
  have HAW := Lib.hid fun (d : World) => jawake_any d
  rcases h with rfl | h
  · go_enter Try.func11, Try.ntmps11
    go_wp2_with fail
    refine (HAW.out w).mono ?_
    rintro e w2 ⟨rfl, hb2⟩
    go_wp2_with fail
    go_ret
    exact ⟨rfl, hb2⟩
  · have h40i : 40 < (n : Int) := by omega
    have h2 : ((n : Int) == 0) = false := by rw [beq_eq_false_iff_ne]; omega
    go_enter Try.func11, Try.ntmps11
    go_wp2_with fail
    refine (HAW.out w).mono ?_
    rintro e w2 ⟨rfl, hb2⟩
    go_wp2_with fail
    go_ret
    exact ⟨rfl, hb2⟩

theorem good_one (b : List Int) (hb : Bytes b) (hl : b.length ≤ 4096) : Good [b] :=
  ⟨by simp, by simp, by simp [longF]; omega, fun r hr => by rw [List.mem_singleton.1 hr]; exact hb⟩
theorem frame_one (b : List Int) : (frameF [b]).length = 11 + b.length := by rw [frame_len]; simp

set_option maxRecDepth 100000 in
set_option maxHeartbeats 4000000 in
theorem own_body (ao : Option Addr) (cap m : Nat) (b : List Int) (at0 c : Int) (w : World) (hm : b.length = m) (hb : Byt w ao b) (hbb : Bytes b) (h1 : 1 ≤ m) (h40 : m ≤ 40) (a0 : 0 ≤ at0) (a1 : at0 ≤ 255) :
    Calls Try.prog 11 #[.slice ao m cap, .int .u8 at0, .int .u8 c] w fun e w' => e = .returned (.bool true) ∧ Below w.heap.size w w' := by
  obtain ⟨i0, hi, hz0, hz1, hz2⟩ := info_parts Try.infoByte
  have h2 : ((m : Int) == 0) = false := by simp; omega
  have h3 : ¬ (40 : Int) < (m : Int) := by omega
  obtain ⟨kk, hkk⟩ : ∃ kk : Nat, at0 % (m : Int) = kk := ⟨(at0 % (m : Int)).toNat, by have := Int.emod_nonneg at0 (show (m : Int) ≠ 0 by omega); omega⟩
  have hkm : kk < m := by have := Int.emod_lt_of_pos at0 (show (0 : Int) < (m : Int) by omega); omega
  have HM := Lib.hid hm
  have HY := Lib.hid hb
  have HKK := Lib.hid hkk
  have hgood := good_one b hbb (by omega)
  have hfl := frame_one b
  have HGD := Lib.hid hgood
  have HFL := Lib.hid hfl
  have hN := Lib.hid (new_any 1000 w (by omega) (by omega))
  clear hkk hm hb hgood hfl
  go_enter Try.func11, Try.ntmps11
  go_wp2_with fail
  refine hN.out.mono ?_
  rintro e w1 ⟨rfl, hd1, hb1⟩
  have hO := Lib.hid (open_live w.heap.size w.heap.size (fun _ => False) none (newD 1000) w1 [] hd1 (new_clean _) (fun _ h => h.elim) (fun h => h) (fun _ _ h => h))
  have HB1 := Lib.hid hb1
  clear hd1 hb1 hN
  go_wp2_with fail
  refine hO.out.mono ?_
  rintro e w2 ⟨g2, q, v, s2, rfl, hj2, hc2, hr2, -, hm2, -⟩
  have hb2 := HB1.out.trans (hm2.below HB1.out.size (fun k hk => by rcases hk with h | h; exact Nat.le_of_eq h.symm; cases h))
  have hw2 := hb2.size
  have HJ2 := Lib.hid hj2
  have HC2 := Lib.hid hc2
  have HR2 := Lib.hid hr2
  have HB2 := Lib.hid hb2
  have hcv := bytes_string cap HM.out (HY.out.next hb2)
  have HY2 := Lib.hid ((HY.out.next hb2).next ((Below.refl _ _).alloc (Nat.le_refl _) (.cells #[] 5)))
  have HO : Hid ((w2.alloc (.cells #[] 5)).ownsRow w2.heap.size 5 1 (.slice (some ⟨w2.heap.size, 0, none⟩) 0 0) 0 []) := World.ownsRow_made w2 #[] 0 (Nat.le_refl _) (by decide) rfl
  clear hj2 hc2 hr2 hb2 hm2 hO HB1 HY
  go_wp2_with (at_builtin
               refine wpList_append_byt _ rfl (.tmp 43) (.tmp 44) 30 rfl w2.heap.size 5 i0 (.int .u8 0) Try.underlying30 hi hz0 hz1 hz2 rfl (.slice (some ⟨w2.heap.size, 0, none⟩) 0 0) 0 [] rfl HO.out ao m cap b HM.out rfl HY2.out (by omega) (by simp) ?_
               intro g3 c3 w3 hown3 hg3 hv3
               rw [Nat.zero_add, List.nil_append] at hown3
               have hb3 : Below w2.heap.size w2 w3 := ((Below.refl _ _).alloc (Nat.le_refl _) _).grown hg3 (by simp) (fun k hk => by simp [Value.ownBlock] at hk; omega)
               have HO3 := Lib.hid hown3
               have HB3 := Lib.hid hb3
               obtain ⟨gb, hgb⟩ : ∃ gb, g3 = some gb := by
                 cases g3 with
                 | some gb => exact ⟨gb, rfl⟩
                 | none =>
                   rcases hown3.2 with ⟨_, h0⟩ | ⟨g, _, _, hv, _⟩
                   · omega
                   · cases hv
               subst hgb
               rw [show gad (some gb) = some ⟨gb, 0, none⟩ from rfl]
               clear hg3 hv3 hown3 hb3)
  have hgb : w2.heap.size ≤ gb ∧ gb < w3.heap.size := HO3.out.lt gb rfl
  have hj3 : JIs w3 w.heap.size (fun k => k = gb) q w.heap.size g2 s2 v [] false := ((HJ2.out.reX (X' := fun k => k = gb) fun k hk e => by omega).next HB3.out)
  have hfresh : ∀ k, w2.heap.size ≤ k → ¬ Foot q w.heap.size g2 v k := fun k hk h => by have := (HJ2.out.foot k h).2.1; omega
  have hy3 : Byt w3 (some ⟨gb, 0, none⟩) b := by
    have := (byt_own (bs := b) (v := .slice (some ⟨gb, 0, none⟩) m c3) (by rw [HM.out]; exact HO3.out)).choose_spec.2.2.2
    exact this
  have hrec := recsN_one w3 30 (some ⟨gb, 0, none⟩) c3 b (fun k => ¬ Foot q w.heap.size g2 v k) (hy3.withN fun b off hb _ => by cases hb; exact hfresh _ hgb.1) (hfresh _ HB3.out.size)
  have ha3 : Below w3.heap.size w3 (w3.alloc (.cells #[.slice (some ⟨gb, 0, none⟩) b.length c3] 30)) := (Below.refl _ _).alloc (Nat.le_refl _) _
  have hlen : (s2.bs.length : Int) + (frameF [b]).length ≤ s2.room := by
    rw [HR2.out, HC2.out.bs, HFL.out]
    have h := HM.out
    show ((0 : Nat) : Int) + _ ≤ 1000
    omega
  have hA := append_live _ w.heap.size (fun k => k = gb) q w.heap.size g2 s2 v [] [b] [] (some ⟨w3.heap.size, 0, none⟩) 1 1 (hj3.next ha3) HC2.out (fun k hk => by have := ha3.size; omega) rfl hrec HGD.out (by simp) hlen
  rw [HM.out] at hA ha3
  have HA := Lib.hid hA
  have hb30 : Below w.heap.size w w3 := HB2.out.trans (HB3.out.mono HB2.out.size)
  have HB4 := Lib.hid (hb30.trans (ha3.mono hb30.size))
  have HO4 := Lib.hid (owns_next HO3.out ha3)
  have HFT := Lib.hid fun k hk => (hj3.foot k hk)
  have HSZ : Hid (w3.heap.size ≤ (w3.alloc (.cells #[.slice (some ⟨gb, 0, none⟩) m c3] 30)).heap.size) := Lib.hid ha3.size
  clear hA hj3 hfresh hy3 hrec ha3 hlen hb30 HJ2 HC2 HR2 HB2 HB3 HO3 HO HY2 HGD HFL
  go_wp2_with fail
  refine HA.out.mono ?_
  rintro e w4 ⟨g4, v4, s4, rfl, hj4, -, -, -, hm4, -⟩
  have HJ4 := Lib.hid hj4
  have HB5 := Lib.hid (HB4.out.trans (hm4.below HB4.out.size (fun k hk => (HFT.out k hk).1)))
  have ho4 := owns_moved HO4.out hm4 (fun k hk e => by
    have hk2 : some gb = some k := hk
    cases hk2
    exact (HFT.out gb e).2.2 rfl)
  have HOW := Lib.hid ho4
  clear hj4 hm4 ho4 HA HB4 HO4 HFT
  have hx : (bcells b)[kk]? = some (.int .u8 (b.getD kk 0)) := bcells_get b _ (by have := HM.out; omega)
  have r0 := HOW.out.cellAt kk (by omega)
  rw [hx] at r0
  have r1 := HOW.out.frozenAt kk
  have e1 : at0 % (m : Int) = (kk : Int) := HKK.out
  have e2 : (0 : Int) ≤ (kk : Int) := by omega
  have e3 : (kk : Int) < (m : Int) := by omega
  have hj5 : JIs (w4.setCell ⟨gb, kk, none⟩ (.int .u8 c)) w.heap.size (fun k => k = gb) q w.heap.size g4 s4 v4 [b] false := HJ4.out.moved (Moved.setCell w4 gb kk (.int .u8 c)) fun k _ e => e
  have hb6 : Below w.heap.size w (w4.setCell ⟨gb, kk, none⟩ (.int .u8 c)) := HB5.out.setCell (p := ⟨gb, kk, none⟩) (by have := (HOW.out.lt gb rfl).1; have h8 := hgb.1; dsimp only; omega) _
  obtain ⟨ro, rc, rv, hrr⟩ := hj5.row.recs
  subst rv
  have HRE := Lib.hid (record_some q 0 1 rc _ _ ro [b] _ hj5.box rfl hrr (by omega) (by have := HM.out; simp; omega))
  have HB6 := Lib.hid hb6
  clear hx hj5 hb6 hrr HJ4 HOW HB5
  go_wp2_with fail
  refine HRE.out.mono ?_
  rintro e w5 ⟨g5, c5, rfl, hown5, hb5⟩
  have hy5 : Byt w5 (gad g5) b := by
    have := (byt_own (bs := b) (v := .slice (gad g5) b.length c5) hown5).choose_spec.2.2.2
    rwa [gad_own] at this
  have HB7 := Lib.hid (HB6.out.trans (hb5.mono HB6.out.size))
  have HY5 := Lib.hid hy5
  clear hown5 hb5 hy5 HRE HB6 r0 r1
  go_wp2_with fail
  refine (jawake_any w5).mono ?_
  rintro e w6 ⟨rfl, hb6⟩
  have hcv6 := bytes_string c5 rfl (HY5.out.next hb6)
  have HB8 := Lib.hid (HB7.out.trans (hb6.mono HB7.out.size))
  clear hb6 HY5 HB7
  go_wp2_with fail
  go_ret
  exact ⟨rfl, HB8.out⟩
end Go.Proofs.Ytkbdbinafjmjkaa
