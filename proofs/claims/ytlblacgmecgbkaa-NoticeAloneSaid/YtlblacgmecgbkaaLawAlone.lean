/-
  NoticeAlone returns true for every input, and turns nothing that was there.
-/
import Derived.Test.YtlblacgmecgbkaaAlone0
import Derived.BigQuiet
namespace Go.Proofs.Ytlblacgmecgbkaa
open Go.ChangeShapes Go.WideShapes Go.ChangeAt Go.RowKit Go.Sort Go.BigFrame

theorem alone_mod {n m : Int} (hm : 0 < m) : ∃ k : Nat, n % m = (k : Int) ∧ (k : Int) < m :=
  ⟨(n % m).toNat, by rw [Int.toNat_of_nonneg (Int.emod_nonneg _ (by omega))], by rw [Int.toNat_of_nonneg (Int.emod_nonneg _ (by omega))]; exact Int.emod_lt_of_pos _ hm⟩

/-- Serve for one built notice. -/
theorem serve_one {ev tr pu : Int} (hp : PostIn ev tr pu) (x : Int × Int) (hx : 0 ≤ x.1 ∧ 0 ≤ x.2 ∧ x.2 ≤ 50) (ao bo : Option Addr) (c c' m : Nat) (lost : List LossD) (w : World) (hm : lost.length = m) (hl : LiesAt w ao 2 1 (noticeCell [x]))
    (hlost : LiesAt w bo 3 m (lossCell lost)) (hfit : ∀ x ∈ lost, LossFits x) (h : m ≤ 256) :
    Calls Try.prog 15 #[.agg #[.int .i64 ev, .int .i64 tr, .int .i64 pu], .slice ao 1 c, .slice bo m c'] w fun e w' =>
      ∃ b off rc, e = .returned (.tuple #[.slice (some ⟨b, off, none⟩) 1 rc, .int .i64 0]) ∧ b < w'.heap.size ∧ fourCells w' b off (serveF ev tr pu x 0 lost) ∧ Below w.heap.size w w' := by
  subst hm
  obtain ⟨h1, h2, h3, h4, h5, h6⟩ := hp
  have hc : checkF ev tr pu [x] lost.length = 0 := by
    unfold checkF postOk
    rw [if_pos (by simp; omega), if_neg (by simp; omega)]
    exact noticesF_ok _ fun y hy => by
      simp at hy
      subst hy
      omega
  refine (serve_ok ev tr pu ao bo c c' [x] lost w hl hlost hfit hc).mono ?_
  rintro e w' ⟨ro, rc, rfl, hr, hb⟩
  obtain ⟨b, off, rfl, hlt, h4⟩ := four_of_lies (k := 0) hr (by simp)
  exact ⟨b, off, rc, rfl, hlt, by simpa [servesFrom] using h4, hb⟩

set_option maxRecDepth 10000 in
set_option maxHeartbeats 2000000 in
theorem noticeAlone_walk (a b d n : Int) (zo lo : Option Addr) (zc lc : Nat) (zs : List Int) (xs : List (Int × Int × Int)) (w : World)
    (hz : LiesAt w zo 1 zs.length (u16Cell zs)) (hzr : ∀ i, 0 ≤ zs.getD i 0 ∧ zs.getD i 0 ≤ 65535)
    (hx : LiesAt w lo 3 xs.length (u8x3Cell xs)) (hxr : ∀ i, 0 ≤ (xs.getD i (0, 0, 0)).1 ∧ 0 ≤ (xs.getD i (0, 0, 0)).2.1 ∧ 0 ≤ (xs.getD i (0, 0, 0)).2.2)
    (a0 : 0 ≤ a) (a1 : a ≤ 255) (b0 : 0 ≤ b) (b1 : b ≤ 255) (d0 : 0 ≤ d) (d1 : d ≤ 255) (n0 : 0 ≤ n) (n1 : n ≤ 255) :
    Calls Try.prog 8 #[.agg #[.int .u8 a, .int .u8 b, .int .u8 d], .slice zo zs.length zc, .slice lo xs.length lc, .int .u8 n] w fun e w' =>
      e = .returned (.bool true) ∧ Below w.heap.size w w' := by
  obtain ⟨ev, tr, pu, hp, hpc⟩ := postB_ex a b d a0 a1 b0 b1 d0 d1
  have HZ := Lib.hid hz
  have HZR := Lib.hid hzr
  have HX := Lib.hid hx
  have HXR := Lib.hid hxr
  have HP := Lib.hid hp
  have HPC := Lib.hid hpc
  have hnl := noticesOf_length zs
  have hll := lossesOf_length xs
  clear hz hzr hx hxr hp hpc a0 a1 b0 b1 d0 d1
  obtain ⟨i1, gi, gz0, gz1, gz2⟩ := info_parts Try.infoLoss
  go_enter Try.func8, Try.ntmps8
  go_wp2_with fail
  refine (HPC.out _).mono ?_
  rintro e w1 ⟨rfl, hb1⟩
  have HB1 : Hid (Below w.heap.size w w1) := below_next (below_alloc _ _) hb1
  clear hb1 HPC
  go_wp2_with fail
  have hb1' : Below w.heap.size w (w1.alloc (.cells #[.int .i64 ev, .int .i64 tr, .int .i64 pu] 23)) := below_next HB1.out (below_alloc _ _)
  refine (notices_own zo zc zs _ (HZ.out.next hb1') HZR.out).mono ?_
  rintro e w2 ⟨v, rfl, hown2, hb2⟩
  obtain ⟨no, nc, rfl, hn2, hcap, hcap2⟩ := lies_notices _ hown2
  have HB2 : Hid (Below w.heap.size w w2) := below_next hb1' hb2
  have HN2 := Lib.hid hn2
  have HQ2 : Hid (Box3 w2 w1.heap.size (.int .i64 ev) (.int .i64 tr) (.int .i64 pu)) := (Box3.new w1 (.int .i64 ev) (.int .i64 tr) (.int .i64 pu) 23).next hb2
  clear hown2 hn2 hb2 hb1' HZ
  by_cases hz : (noticesOf zs).length = 0
  · have hzi : ((noticesOf zs).length : Int) = 0 := by omega
    go_wp2_with (go_at_call 9; refine (awake_any _).mono ?_; rintro e w9 ⟨rfl, hb9⟩)
    go_ret
    exact ⟨rfl, below_next HB2.out hb9⟩
  · have hzi : (((noticesOf zs).length : Int) == 0) = false := by simpa using hz
    obtain ⟨kk, hkk, hkl⟩ := alone_mod (n := n) (by omega : (0 : Int) < ((noticesOf zs).length : Int))
    go_wp2_with fail
    rw [hkk]
    clear hkk n0 n1
    refine (losses_any lo lc xs _ (HX.out.next HB2.out) HXR.out).mono ?_
    rintro e w3 ⟨so, sc, rfl, hl3, hb3⟩
    have HB3 := Lib.hid hb3
    have HL3 := Lib.hid hl3
    have HF := Lib.hid (lossesOf_fits xs)
    obtain ⟨L, hL⟩ : ∃ L, lossesOf xs = L := ⟨_, rfl⟩
    rw [hL] at HL3 HF hll
    simp only [hL]
    clear hL hl3 hb3 HX HXR
    go_wp2_with fail
    go_loopw [13, 14] (fun v i wr => ∃ j : Nat, j ≤ L.length ∧ i = .int .i64 j ∧ wr.ownsRow w3.heap.size 54 3 v (ownOf kk (L.take j)).length ((ownOf kk (L.take j)).flatMap lossFlat) ∧ Below w3.heap.size w3 wr) (fun _ i _ => L.length - (intOf i).toNat)
    case atStart => exact ⟨0, Nat.zero_le _, rfl, World.ownsRow_nil _ _ _ _, Below.refl _ _⟩
    case round =>
      obtain ⟨j, hj, rfl, hown, hb⟩ := hrel
      have hsr := hb.size
      by_cases hlt : j < L.length
      · rcases HL3.out with h0 | ⟨cb, off, rfl, hbw, hc⟩
        · omega
        have hcr : ∀ t, t < 3 → wr.cell? ⟨cb, off + j * 3 + t, none⟩ = some (lossCell L j t) := fun t ht => by
          rw [hb.cell (p := ⟨cb, off + j * 3 + t, none⟩) hbw]; exact hc j hlt t ht
        have hc0 := hcr 0 (by omega)
        have hc1 := hcr 1 (by omega)
        have hc2 := hcr 2 (by omega)
        simp only [lossCell, if_true, Nat.add_zero, Nat.one_ne_zero, if_false, Nat.reduceEqDiff] at hc0 hc1 hc2
        clear hc hcr
        have htk := ownOf_take kk L j hlt
        obtain ⟨⟨x0, x1, x2⟩, hx⟩ : ∃ x, x = L.getD j (0, 0, false) := ⟨_, rfl⟩
        rw [← hx] at hc0 hc1 hc2 htk
        simp only at hc0 hc1 hc2 htk
        have hm := ownOf_length kk (L.take j)
        rw [List.length_take] at hm
        have hm2 : (ownOf kk (L.take j)).length ≤ 20 := by omega
        clear hm
        have HO := Lib.hid hown
        have HB := Lib.hid hb
        clear hx hown hb
        by_cases hk : x0 = kk
        · rw [if_pos hk] at htk
          have HT := Lib.hid htk
          obtain ⟨m, hm⟩ : ∃ m, (ownOf kk (L.take j)).length = m := ⟨_, rfl⟩
          rw [hm] at HO hm2
          have HM := Lib.hid hm
          clear htk hm
          subst hk
          go_wp2_with fail
          go_region_held3 (fun w' => w'.cell? ⟨cb, off + j * 3 + 1, none⟩ = some (.int .i64 x1) ∧ w'.cell? ⟨cb, off + j * 3 + 2, none⟩ = some (.bool x2))
            (first | exact ⟨hc1, hc2⟩ | go_keep)
            (first
              | (refine step_append_lies _ (by rfl) _ _ _ (by rfl) w3.heap.size 54 i1 (.agg #[.int .i64 0, .int .i64 0, .bool false]) 3 24 Try.underlying25 gi gz0 gz1 gz2 rfl (by omega) _ m _ (by rfl) ((HO.out.alloc _).drew)
                   ⟨wr.heap.size, 0, none⟩ 1 1 [.int .i64 0, .int .i64 x1, .bool x2] (by rfl) (by rfl) (World.news_of_block (cs := #[.int .i64 0, .int .i64 x1, .bool x2]) (t := 54) (fr := (0, 0)) (heap_alloc_new wr _)) (by simp [Value.oneCell'])
                   (by omega) (by unfold maxLen; omega) (by omega) (by simp; omega) (wr.heap.size + 1) (by simp) ?_
                 intro gg cap w4 hown4 hg4 hat hlt4
                 have hb4 := build_step HB.out hsr HO.out hg4
                 have f1 := below_two HB.out hb4 (p := ⟨cb, off + j * 3 + 1, none⟩) (by simpa using hbw) hc1
                 have f2 := below_two HB.out hb4 (p := ⟨cb, off + j * 3 + 2, none⟩) (by simpa using hbw) hc2))
          go_wp2_with fail
          go_roundw
          case rel => exact ⟨j + 1, hlt, by go_num, by rw [HT.out, List.length_append, List.flatMap_append, HM.out]; exact hown4, hb4⟩
          case measure => simp [intOf]; omega
        · rw [if_neg hk] at htk
          have HT := Lib.hid htk
          clear htk
          go_wp2_with fail
          go_roundw
          case rel => exact ⟨j + 1, hlt, by go_num, by rw [HT.out]; exact HO.out, HB.out⟩
          case measure => simp [intOf]; omega
      · rw [List.take_of_length_le (by omega)] at hown
        have HO := Lib.hid hown
        have HB := Lib.hid hb
        clear hown hb
        obtain ⟨oo, oc, rfl, hO⟩ := lies_losses _ HO.out
        obtain ⟨M, hM⟩ : ∃ M, ownOf kk L = M := ⟨_, rfl⟩
        have hMl : M.length ≤ 20 := by rw [← hM]; exact Nat.le_trans (ownOf_length kk L) hll
        have hMf : ∀ x ∈ M, LossFits x := by rw [← hM]; exact ownOf_fits kk L HF.out
        have hal := fun x => serveF_alone ev tr pu x kk L
        rw [hM] at hal
        simp only [hM] at hO ⊢
        have HMF := Lib.hid hMf
        have HAL := Lib.hid hal
        have hsz := HB.out.size
        obtain ⟨q0, q1, q2, q3⟩ := (HQ2.out.next HB3.out).next HB.out
        have HN := Lib.hid ((HN2.out.next HB3.out).next HB.out)
        have HL := Lib.hid (HL3.out.next HB.out)
        have HOO := Lib.hid hO
        have HBr : Hid (Below w.heap.size w wr) := below_next HB2.out (below_next HB3.out HB.out)
        have hk' : kk < (noticesOf zs).length := by omega
        obtain ⟨x, hx⟩ : ∃ x, (noticesOf zs).getD kk (0, 0) = x := ⟨_, rfl⟩
        have hxr := noticesOf_range zs HZR.out x (by rw [← hx]; exact getD_mem _ _ _ hk')
        have HXR := Lib.hid hxr
        have HX := Lib.hid hx
        clear hO hM hMf hal hsz hxr hx HO HB HN2 HL3 HQ2 HB2 HB3 HB1
        go_wp2_with fail
        refine (serve_b HP.out zs HZR.out no so nc sc _ L _ rfl HN.out HL.out HF.out (by omega)).mono ?_
        rintro e w4 ⟨ro, rc, rfl, hr4, hb4⟩
        obtain ⟨p0, p1, p2, p3⟩ := Box3.next (W := wr) ⟨q0, q1, q2, q3⟩ hb4
        obtain ⟨nb, noff, rfl, hnb, hn1, hn2⟩ := notice_at HN.out kk hk' x HX.out
        have hN1 : LiesAt w4 (some ⟨nb, noff + kk * 2, none⟩) 2 1 (noticeCell [x]) := by
          refine .inr ⟨nb, noff + kk * 2, rfl, Nat.lt_of_lt_of_le hnb hb4.size, fun i hi j hj => ?_⟩
          obtain rfl : i = 0 := by omega
          match j, hj with
          | 0, _ => simpa [noticeCell] using (hb4.cell hnb).trans hn1
          | 1, _ => simpa [noticeCell] using (hb4.cell hnb).trans hn2
        obtain ⟨sb, soff, rfl, hs0, hs1, hs2, hs3, hs4⟩ := service_at hr4 kk hk' _ (by rw [HX.out])
        have HN1 := Lib.hid hN1
        have HL4 := Lib.hid (HOO.out.next hb4)
        have HB4 := Lib.hid hb4
        clear hr4 hb4 hN1 hn1 hn2 q0 q1 q2 q3 HN HL HOO
        have hN1' := HN1.out.next ((Below.refl w4.heap.size w4).drew)
        have hL4' := HL4.out.next ((Below.refl w4.heap.size w4).drew)
        have HS : Hid (∀ c c' : Nat, Calls Try.prog 15 #[.agg #[.int .i64 ev, .int .i64 tr, .int .i64 pu], .slice (some ⟨nb, noff + kk * 2, none⟩) 1 c, .slice oo M.length c'] w4.drew fun e w' =>
            ∃ b off rc, e = .returned (.tuple #[.slice (some ⟨b, off, none⟩) 1 rc, .int .i64 0]) ∧ b < w'.heap.size ∧ fourCells w' b off (serveF ev tr pu x kk L) ∧ Below w4.heap.size w4.drew w') := by
          intro c c'
          have := serve_one HP.out x HXR.out (some ⟨nb, noff + kk * 2, none⟩) oo c c' _ M w4.drew rfl hN1' hL4' HMF.out (by omega)
          rw [HAL.out] at this
          exact this
        have hk0 : (0 : Int) ≤ (kk : Int) := Int.natCast_nonneg _
        have s1 : IntKind.i64.wrap ((kk : Int) + 1) = (kk : Int) + 1 := IntWalk.i64_in _ ⟨by omega, by omega⟩
        have s2 : (0 : Int) ≤ (kk : Int) + 1 := by omega
        have s3 : ((kk : Int) + 1).toNat = kk + 1 := by omega
        unfold maxLen at hcap2
        have s4 : ¬ nc = kk := by omega
        have s5 : (kk : Int) + 1 ≤ (nc : Int) := by omega
        have s6 : (kk : Int) ≤ (kk : Int) + 1 := by omega
        clear hN1' hL4' HN1 HL4 HAL HMF hsr hlt hj hz
        go_wp2_with fail
        go_region_held3 (fun w' => w'.cell? ⟨w1.heap.size, 0, none⟩ = some (.int .i64 ev) ∧ w'.cell? ⟨w1.heap.size, 1, none⟩ = some (.int .i64 tr) ∧ w'.cell? ⟨w1.heap.size, 2, none⟩ = some (.int .i64 pu))
          (first | exact ⟨p0, p1, p2⟩ | go_keep)
          (first
            | (go_at_call 15
               refine (HS.out _ _).mono ?_
               rintro e w5 ⟨b, off, rc5, rfl, hbw5, h45, hb5⟩
               have d0 : w5.cell? ⟨w1.heap.size, 0, none⟩ = some (.int .i64 ev) := (hb5.cell p3).trans p0
               have d1 : w5.cell? ⟨w1.heap.size, 1, none⟩ = some (.int .i64 tr) := (hb5.cell p3).trans p1
               have d2 : w5.cell? ⟨w1.heap.size, 2, none⟩ = some (.int .i64 pu) := (hb5.cell p3).trans p2))
        have hb45 : Below w4.heap.size w4 w5 := (Below.refl w4.heap.size w4).drew.trans hb5
        obtain ⟨u0, u1, u2, u3⟩ := four_below (s := serveF ev tr pu x kk L) (B := w4.heap.size) (W := w4) ⟨hs1, hs2, hs3, hs4⟩ hb45 hs0
        obtain ⟨v0, v1, v2, v3⟩ := h45
        obtain ⟨⟨t1, t2, t3, t4⟩, ht⟩ : ∃ t, serveF ev tr pu x kk L = t := ⟨_, rfl⟩
        rw [ht] at u0 u1 u2 u3 v0 v1 v2 v3
        simp only at u0 u1 u2 u3 v0 v1 v2 v3
        have HB5 : Hid (Below w.heap.size w w5) := below_next HBr.out (below_next HB4.out hb45)
        clear ht hs1 hs2 hs3 hs4 hb5 hb45 d0 d1 d2 p0 p1 p2 HBr HB4 HS s1 s2 s3 s4 s5 s6 p3 hs0 HXR HX
        have G1 := cell_regrown u0
        have G2 := cell_regrown u1
        have G3 := cell_regrown u2
        have G4 := cell_regrown u3
        have K1 := cell_regrown v0
        have K2 := cell_regrown v1
        have K3 := cell_regrown v2
        have K4 := cell_regrown v3
        clear u0 u1 u2 u3 v0 v1 v2 v3
        go_wp2_with fail
        refine wp_region_quiet_below (by kernel_rfl) (by kernel_rfl) ?_
        repeat (go_big_quiet_step (exact Calls.regrown_of (awake_any _)))
        refine wpQuiet_nil ?_
        intro _ hw'
        obtain ⟨⟨dq, osq⟩, hw''⟩ := hw'
        subst hw''
        go_wp2_with fail
        go_ret
        exact ⟨rfl, HB5.out.trans ((below_regrown w5 dq osq).mono HB5.out.size)⟩
end Go.Proofs.Ytlblacgmecgbkaa
