/-
  NoticeBounds returns true for every input, and turns nothing that was there.
-/
import Derived.Test.YtlblacgmecgbkaaKit2
import Derived.BigQuiet
namespace Go.Proofs.Ytlblacgmecgbkaa
open Go.ChangeShapes Go.WideShapes Go.ChangeAt Go.RowKit Go.Sort Go.BigFrame

set_option maxRecDepth 10000 in
set_option maxHeartbeats 2000000 in
theorem noticeBounds_walk (a b d : Int) (zo lo : Option Addr) (zc lc : Nat) (zs : List Int) (xs : List (Int × Int × Int)) (w : World)
    (hz : LiesAt w zo 1 zs.length (u16Cell zs)) (hzr : ∀ i, 0 ≤ zs.getD i 0 ∧ zs.getD i 0 ≤ 65535)
    (hx : LiesAt w lo 3 xs.length (u8x3Cell xs)) (hxr : ∀ i, 0 ≤ (xs.getD i (0, 0, 0)).1 ∧ 0 ≤ (xs.getD i (0, 0, 0)).2.1 ∧ 0 ≤ (xs.getD i (0, 0, 0)).2.2)
    (a0 : 0 ≤ a) (a1 : a ≤ 255) (b0 : 0 ≤ b) (b1 : b ≤ 255) (d0 : 0 ≤ d) (d1 : d ≤ 255) :
    Calls Try.prog 6 #[.agg #[.int .u8 a, .int .u8 b, .int .u8 d], .slice zo zs.length zc, .slice lo xs.length lc] w fun e w' =>
      e = .returned (.bool true) ∧ Below w.heap.size w w' := by
  obtain ⟨ev, tr, pu, hp, hpc⟩ := postB_ex a b d a0 a1 b0 b1 d0 d1
  have HZ := Lib.hid hz
  have HZR := Lib.hid hzr
  have HX := Lib.hid hx
  have HXR := Lib.hid hxr
  have HP := Lib.hid hp
  have HPC := Lib.hid hpc
  have hnl := noticesOf_length zs
  have hll := lossesOf_length xs
  clear hz hzr hx hxr hp hpc
  go_enter Try.func6, Try.ntmps6
  go_wp2_with fail
  refine (HPC.out _).mono ?_
  rintro e w1 ⟨rfl, hb1⟩
  have HB1 : Hid (Below w.heap.size w w1) := below_next (below_alloc _ _) hb1
  clear hb1 HPC
  go_wp2_with fail
  have hb1' : Below w.heap.size w (w1.alloc (.cells #[.int .i64 ev, .int .i64 tr, .int .i64 pu] 23)) := below_next HB1.out (below_alloc _ _)
  refine (notices_any zo zc zs _ (HZ.out.next hb1') HZR.out).mono ?_
  rintro e w2 ⟨no, nc, rfl, hn2, hb2⟩
  have HB2 : Hid (Below w.heap.size w w2) := below_next hb1' hb2
  have HN2 := Lib.hid hn2
  have bp2 := (Box3.new w1 (.int .i64 ev) (.int .i64 tr) (.int .i64 pu) 23).next hb2
  obtain ⟨q0, q1, q2, q3⟩ := bp2
  clear hn2 hb2 hb1' HZ
  go_wp2_with fail
  go_region_held3 (fun w' => w'.cell? ⟨w1.heap.size, 0, none⟩ = some (.int .i64 ev) ∧ w'.cell? ⟨w1.heap.size, 1, none⟩ = some (.int .i64 tr) ∧ w'.cell? ⟨w1.heap.size, 2, none⟩ = some (.int .i64 pu))
    (first | exact ⟨q0, q1, q2⟩ | exact ⟨r0, r1, r2⟩ | exact ⟨t0, t1, t2⟩)
    (first
      | (go_at_call 14
         refine (losses_any lo lc xs _ ((HX.out.next HB2.out).next (Below.drew (Below.refl _ _))) HXR.out).mono ?_
         rintro e w3 ⟨so, sc, rfl, hl3, hb3⟩
         have hb3' : Below w2.heap.size w2 w3 := below_next (Below.drew (Below.refl _ _)) hb3
         have HB3 := Lib.hid hb3'
         have HL3 := Lib.hid hl3
         obtain ⟨r0, r1, r2, r3⟩ := Box3.next (W := w2) ⟨q0, q1, q2, q3⟩ hb3'
         clear hl3 hb3 hb3')
      | (go_at_call 15
         refine (serve_b HP.out zs HZR.out no so nc sc _ (lossesOf xs) _ rfl (HN2.out.next HB3.out) HL3.out (lossesOf_fits xs) (by omega)).mono ?_
         rintro e w4 ⟨ro, rc, rfl, hr4, hb4⟩
         obtain ⟨t0, t1, t2, t3⟩ := Box3.next (W := w3) ⟨r0, r1, r2, r3⟩ hb4
         have HB4 := Lib.hid hb4
         have HR4 := Lib.hid hr4
         clear hr4 hb4))
  go_wp2_with fail
  have hb24 := below_next HB3.out HB4.out
  refine (serve_b HP.out zs HZR.out no none nc 0 0 [] _ rfl (HN2.out.next hb24) (.inl rfl) (by simp) (by omega)).mono ?_
  rintro e w5 ⟨r2o, r2c, rfl, hr5, hb5⟩
  obtain ⟨u0, u1, u2, u3⟩ := Box3.next (W := w4) ⟨t0, t1, t2, t3⟩ hb5
  have HN5 := Lib.hid ((HN2.out.next hb24).next hb5)
  have HB5 : Hid (Below w.heap.size w w5) := below_next HB2.out (below_next hb24 hb5)
  have HR5 := Lib.hid hr5
  have HR4' := Lib.hid (HR4.out.next hb5)
  clear HR4 hr5 hb5 hb24 HN2 HB2 HB3 HB4 HL3 q0 q1 q2 q3 r0 r1 r2 r3 t0 t1 t2 t3
  go_wp2_with fail
  go_loopw [13] (fun i wr => ∃ k : Nat, k ≤ (noticesOf zs).length ∧ i = .int .i64 k ∧ Below w5.heap.size w5 wr) (fun i _ => (noticesOf zs).length - (intOf i).toNat)
  case atStart => exact ⟨0, Nat.zero_le _, rfl, Below.refl _ _⟩
  case round =>
    obtain ⟨k, hk, rfl, hb⟩ := hrel
    by_cases hlt : k < (noticesOf zs).length
    · obtain ⟨x, hx⟩ : ∃ x, (noticesOf zs).getD k (0, 0) = x := ⟨_, rfl⟩
      obtain ⟨x0, x1, x2⟩ := noticesOf_range zs HZR.out x (by rw [← hx]; exact getD_mem _ _ _ hlt)
      obtain ⟨s, hs⟩ : ∃ s, serveF ev tr pu x k (lossesOf xs) = s := ⟨_, rfl⟩
      obtain ⟨p1, p2, p3, p4, p5, p6⟩ := HP.out
      have hbd := serveF_bounds x k (lossesOf xs) p1 (by omega) p3 (by omega) x1 (by omega) p5 (by omega)
      rw [hs] at hbd
      obtain ⟨B1, hB1⟩ : ∃ B1, latestF ev tr pu x.2 = B1 := ⟨_, rfl⟩
      obtain ⟨nb, noff, rfl, hn0, hn1, hn2⟩ := notice_at HN5.out k hlt x hx
      obtain ⟨sb, soff, rfl, hs0, hs1, hs2, hs3, hs4⟩ := service_at HR4'.out k hlt s (by rw [hx]; exact hs)
      obtain ⟨tb, toff, rfl, ht0, ht1, ht2, ht3, ht4⟩ := service_at HR5.out k hlt (x.2, 1, 1, true) (by rw [hx]; exact serveF_none x k p3)
      obtain ⟨xa, xd⟩ := x
      obtain ⟨s1, s2, s3, s4⟩ := s
      simp only at hn1 hn2 hs1 hs2 hs3 hs4 ht1 ht2 ht3 ht4 hbd x0 x1 x2 hB1
      rw [hB1] at hbd
      obtain ⟨d1, d2, d3, d4, d5, d6⟩ := hbd
      have e0 := (hb.cell u3).trans u0
      have e1 := (hb.cell u3).trans u1
      have e2 := (hb.cell u3).trans u2
      have f1 := (hb.cell hn0).trans hn1
      have f2 := (hb.cell hn0).trans hn2
      have g1 := (hb.cell hs0).trans hs1
      have g2 := (hb.cell hs0).trans hs2
      have g3 := (hb.cell hs0).trans hs3
      have g4 := (hb.cell hs0).trans hs4
      have k1 := (hb.cell ht0).trans ht1
      have k2 := (hb.cell ht0).trans ht2
      have k3 := (hb.cell ht0).trans ht3
      have k4 := (hb.cell ht0).trans ht4
      have HB := Lib.hid hb
      have hL : ∀ W, Calls Try.prog 18 #[.agg #[.int .i64 ev, .int .i64 tr, .int .i64 pu], .agg #[.int .i64 xa, .int .i64 xd]] W fun e w' => e = .returned (.int .i64 B1) ∧ Below W.heap.size W w' := by
        intro W
        have := latest_below ev tr pu xa xd W
        rw [hB1] at this
        exact this
      have HL := Lib.hid hL
      clear hb u0 u1 u2 hn1 hn2 hs1 hs2 hs3 hs4 ht1 ht2 ht3 ht4 hx hs hL hB1
      have E0 := cell_regrown e0
      have E1 := cell_regrown e1
      have E2 := cell_regrown e2
      have F1 := cell_regrown f1
      have F2 := cell_regrown f2
      have G1 := cell_regrown g1
      have G2 := cell_regrown g2
      have G3 := cell_regrown g3
      have G4 := cell_regrown g4
      have K1 := cell_regrown k1
      have K2 := cell_regrown k2
      have K3 := cell_regrown k3
      have K4 := cell_regrown k4
      have c1 : decide (s1 < xd) = false := by simp; omega
      have c2 : decide (B1 < s1) = false := by simp; omega
      have c3 : decide (s2 < 1) = false := by simp; omega
      have c4 : decide (tr < s2) = false := by simp; omega
      have c5 : decide (s2 < s3) = false := by simp; omega
      clear e0 e1 e2 f1 f2 g1 g2 g3 g4 k1 k2 k3 k4 p1 p2 p3 p4 p5 p6 x0 x1 x2 d1 d2 d3 d4 d5 u3 hn0 hs0 ht0 a0 a1 b0 b1 d0 hll HZR HX HXR HP HN5 HR4' HR5 HB1 hk
      go_wp2_with fail
      dsimp only [List.append]
      refine wp_region_quiet_below (by kernel_rfl) (by kernel_rfl) ?_
      cases s4
      · repeat (go_big_quiet_step (exact Calls.regrown_of (HL.out _)))
        refine wpQuiet_nil ?_
        intro _ hw'
        obtain ⟨⟨dq, osq⟩, hw''⟩ := hw'
        subst hw''
        go_wp2_with fail
        go_roundw
        case rel => exact ⟨k + 1, hlt, by go_num, HB.out.trans ((below_regrown wr dq osq).mono HB.out.size)⟩
        case measure => simp [intOf]; omega
      · have d6' : (s3 == 0) = false := by simpa using d6 rfl
        repeat (go_big_quiet_step (exact Calls.regrown_of (HL.out _)))
        refine wpQuiet_nil ?_
        intro _ hw'
        obtain ⟨⟨dq, osq⟩, hw''⟩ := hw'
        subst hw''
        go_wp2_with fail
        go_roundw
        case rel => exact ⟨k + 1, hlt, by go_num, HB.out.trans ((below_regrown wr dq osq).mono HB.out.size)⟩
        case measure => simp [intOf]; omega
    · have HB := Lib.hid hb
      clear hb
      go_wp2_with (go_at_call 9; refine (awake_any _).mono ?_; rintro e w7 ⟨rfl, hb7⟩)
      go_ret
      exact ⟨rfl, below_next HB5.out (below_next HB.out hb7)⟩
end Go.Proofs.Ytlblacgmecgbkaa
