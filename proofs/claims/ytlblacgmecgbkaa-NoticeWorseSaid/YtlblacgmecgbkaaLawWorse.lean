/-
  NoticeWorse returns true for every input, and turns nothing that was there.
-/
import Derived.Test.YtlblacgmecgbkaaKit2
import Derived.BigQuiet
namespace Go.Proofs.Ytlblacgmecgbkaa
open Go.ChangeShapes Go.WideShapes Go.ChangeAt Go.RowKit Go.Sort

/-- A row of losses, as a slice that came in: nil only where it is empty. -/
theorem lies_losses2 {w : World} {base : Nat} {v : Value} (l : List LossD) (h : w.ownsRow base 54 3 v l.length (l.flatMap lossFlat)) : ∃ ro rc, v = .slice ro l.length rc ∧ LiesAt w ro 3 l.length (lossCell l) ∧ (ro = none → l.length = 0 ∧ rc = 0) := by
  obtain ⟨ro, rc, rfl, hl⟩ := lies_losses l h
  refine ⟨ro, rc, rfl, hl, fun hn => ?_⟩
  subst hn
  rcases h.2 with ⟨hv, h0⟩ | ⟨g, cap, cur, hv, _⟩
  · injection hv with h1 h2 h3
    exact ⟨h0, h3⟩
  · injection hv with h1
    cases h1

theorem below_drew {B : Nat} {a w : World} (h : Below B a w) (n : Nat) : Below B a (w.drewN n) := h.trans ⟨rfl, rfl, rfl, Nat.le_refl _, fun _ _ => rfl⟩

set_option maxRecDepth 10000 in
set_option maxHeartbeats 2000000 in
theorem noticeWorse_walk (a b d : Int) (zo lo mo : Option Addr) (zc lc mc : Nat) (zs : List Int) (xs ms : List (Int × Int × Int)) (w : World)
    (hz : LiesAt w zo 1 zs.length (u16Cell zs)) (hzr : ∀ i, 0 ≤ zs.getD i 0 ∧ zs.getD i 0 ≤ 65535)
    (hx : LiesAt w lo 3 xs.length (u8x3Cell xs)) (hxr : ∀ i, 0 ≤ (xs.getD i (0, 0, 0)).1 ∧ 0 ≤ (xs.getD i (0, 0, 0)).2.1 ∧ 0 ≤ (xs.getD i (0, 0, 0)).2.2)
    (hm : LiesAt w mo 3 ms.length (u8x3Cell ms)) (hmr : ∀ i, 0 ≤ (ms.getD i (0, 0, 0)).1 ∧ 0 ≤ (ms.getD i (0, 0, 0)).2.1 ∧ 0 ≤ (ms.getD i (0, 0, 0)).2.2)
    (a0 : 0 ≤ a) (a1 : a ≤ 255) (b0 : 0 ≤ b) (b1 : b ≤ 255) (d0 : 0 ≤ d) (d1 : d ≤ 255) :
    Calls Try.prog 7 #[.agg #[.int .u8 a, .int .u8 b, .int .u8 d], .slice zo zs.length zc, .slice lo xs.length lc, .slice mo ms.length mc] w fun e w' =>
      e = .returned (.bool true) ∧ Below w.heap.size w w' := by
  obtain ⟨ev, tr, pu, hp, hpc⟩ := postB_ex a b d a0 a1 b0 b1 d0 d1
  have HZ := Lib.hid hz
  have HZR := Lib.hid hzr
  have HX := Lib.hid hx
  have HXR := Lib.hid hxr
  have HM := Lib.hid hm
  have HMR := Lib.hid hmr
  have HP := Lib.hid hp
  have HPC := Lib.hid hpc
  have hnl := noticesOf_length zs
  have hll := lossesOf_length xs
  have hml := lossesOf_length ms
  clear hz hzr hx hxr hp hpc hm hmr
  obtain ⟨i1, gi, gz0, gz1, gz2⟩ := info_parts Try.infoLoss
  go_enter Try.func7, Try.ntmps7
  go_wp2_with fail
  refine (HPC.out _).mono ?_
  rintro e w1 ⟨rfl, hb1⟩
  have HB1 : Hid (Below w.heap.size w w1) := below_next (below_alloc _ _) hb1
  clear hb1 HPC
  go_wp2_with fail
  have hb1' : Below w.heap.size w (w1.alloc (.cells #[.int .i64 ev, .int .i64 tr, .int .i64 pu] 23)) := below_next HB1.out (below_alloc _ _)
  refine (notices_any zo zc zs _ (HZ.out.next hb1') HZR.out).mono ?_
  rintro e w2 ⟨no, nc, rfl, hn2, hb2⟩
  have HB2 : Hid (Below w.heap.size w w2) := below_next hb1' hb2
  have HN2 := Lib.hid hn2
  have bp2 := (Box3.new w1 (.int .i64 ev) (.int .i64 tr) (.int .i64 pu) 23).next hb2
  have HQ2 : Hid (Box3 w2 w1.heap.size (.int .i64 ev) (.int .i64 tr) (.int .i64 pu)) := bp2
  clear hn2 hb2 hb1' HZ bp2
  go_wp2_with fail
  refine (losses_own lo lc xs _ (HX.out.next HB2.out) HXR.out).mono ?_
  rintro e w3 ⟨v, rfl, hown3, hb3⟩
  obtain ⟨so, sc, rfl, hl3, hso⟩ := lies_losses2 _ hown3
  have HB3 := Lib.hid hb3
  have HL3 := Lib.hid hl3
  have HSO := Lib.hid hso
  clear hown3 hl3 hso hb3
  go_wp2_with (at_builtin; refine wpList_append_lst rfl (.tmp 24) (.tmp 25) 25 rfl w3.heap.size 54 i1 (.agg #[.int .i64 0, .int .i64 0, .bool false]) 3 24 Try.underlying25 gi gz0 gz1 gz2 rfl (by decide) (.slice (some ⟨w3.heap.size, 0, none⟩) 0 0) 0 [] rfl (World.ownsRow_made w3 #[] 0 (Nat.le_refl _) (by decide) rfl) so (lossesOf xs).length sc ((lossesOf xs).flatMap lossFlat) rfl HSO.out (loss_flat_length _) (loss_news _ (HL3.out.next (below_alloc _ _))) (loss_oneCell _) (by unfold maxLen; omega) (by omega) (by simp) ?_; intro v4 w4 hown4 hg4)
  have hb4 : Below w3.heap.size w3 w4 := (below_alloc w3 _).grown hg4 (by simp) (fun j hj => by simp [Value.ownBlock] at hj; omega)
  rw [Nat.zero_add, List.nil_append] at hown4
  have HO4 := Lib.hid hown4
  have hs4 : w3.heap.size ≤ w4.heap.size := hb4.size
  have HB24 : Hid (Below w2.heap.size w2 w4) := below_next HB3.out hb4
  clear hown4 hg4
  go_wp2_with fail
  refine (losses_own mo mc ms _ (HM.out.next (below_next HB2.out HB24.out)) HMR.out).mono ?_
  rintro e w5 ⟨v5, rfl, hown5, hb5⟩
  obtain ⟨mo5, mc5, rfl, hm5, hso5⟩ := lies_losses2 _ hown5
  have HO5 := Lib.hid (owns_below HO4.out hb5)
  have HB45 := Lib.hid hb5
  have HM5 := Lib.hid hm5
  have HSO5 := Lib.hid hso5
  have hs5 : w3.heap.size ≤ w5.heap.size := by have := hb5.size; omega
  clear hown5 hm5 hso5 hb5
  go_wp2_with (at_builtin; refine wpList_append_lst rfl (.tmp 26) (.tmp 28) 25 rfl w3.heap.size 54 i1 (.agg #[.int .i64 0, .int .i64 0, .bool false]) 3 24 Try.underlying25 gi gz0 gz1 gz2 rfl (by decide) v4 (lossesOf xs).length _ rfl HO5.out mo5 (lossesOf ms).length mc5 ((lossesOf ms).flatMap lossFlat) rfl HSO5.out (loss_flat_length _) (loss_news _ HM5.out) (loss_oneCell _) (by unfold maxLen; omega) (by omega) hs5 ?_; intro v6 w6 hown6 hg6; have hb6 : Below w3.heap.size w3 w6 := (hb4.trans (HB45.out.mono hs4)).grown hg6 hs5 (fun j hj => (HO5.out.lt j hj).1); have hb26 : Below w2.heap.size w2 w6 := below_next HB3.out hb6; obtain ⟨q0, q1, q2, q3⟩ := HQ2.out.next hb26)
  rw [← List.flatMap_append, ← List.length_append] at hown6
  obtain ⟨ao, ac, rfl, hA6⟩ := lies_losses _ hown6
  have hfits : ∀ x ∈ lossesOf xs ++ lossesOf ms, LossFits x := fun x hx => by
    rcases List.mem_append.1 hx with h | h
    · exact lossesOf_fits xs x h
    · exact lossesOf_fits ms x h
  have hsub : ∀ x ∈ lossesOf xs, x ∈ lossesOf xs ++ lossesOf ms := fun x hx => List.mem_append_left _ hx
  have hlen : (lossesOf xs ++ lossesOf ms).length ≤ 256 := by rw [List.length_append]; omega
  have HA6 := Lib.hid hA6
  have HF := Lib.hid hfits
  have HS := Lib.hid hsub
  have HL6 := Lib.hid (HL3.out.next hb6)
  have HN6 := Lib.hid (HN2.out.next hb26)
  have HB6 : Hid (Below w.heap.size w w6) := below_next HB2.out hb26
  generalize hLL : lossesOf xs ++ lossesOf ms = L at *
  clear hown6 hg6 hb6 hA6 hfits hsub hb26 hLL HB2 HB3 HB24 HB45 HM5 HSO5 HO5 HO4 HL3 HSO HN2 HQ2 HM HX hb4 hs4 hs5
  go_wp2_with fail
  refine (serve_b HP.out zs HZR.out no so nc sc _ (lossesOf xs) _ rfl HN6.out HL6.out (lossesOf_fits xs) (by omega)).mono ?_
  rintro e w7 ⟨ro, rc, rfl, hr7, hb7⟩
  obtain ⟨r0, r1, r2, r3⟩ := Box3.next (W := w6) ⟨q0, q1, q2, q3⟩ hb7
  have HR7 := Lib.hid hr7
  have HB7 := Lib.hid hb7
  clear hr7 hb7 q0 q1 q2
  go_wp2_with fail
  refine (serve_b HP.out zs HZR.out no ao nc ac _ L _ rfl (HN6.out.next HB7.out) (HA6.out.next HB7.out) HF.out hlen).mono ?_
  rintro e w8 ⟨ro8, rc8, rfl, hr8, hb8⟩
  have HR8 := Lib.hid hr8
  have HS8 := Lib.hid (HR7.out.next hb8)
  have HB8 : Hid (Below w.heap.size w w8) := below_next HB6.out (below_next HB7.out hb8)
  clear hr8 hb8 r0 r1 r2 r3 q3 HR7 HB7 HB6 HA6 HL6 HN6 HF
  go_wp2_with fail
  go_loopw [17] (fun i wr => ∃ k : Nat, k ≤ (noticesOf zs).length ∧ i = .int .i64 k ∧ Below w8.heap.size w8 wr) (fun i _ => (noticesOf zs).length - (intOf i).toNat)
  case atStart => exact ⟨0, Nat.zero_le _, rfl, Below.refl _ _⟩
  case round =>
    obtain ⟨k, hk, rfl, hb⟩ := hrel
    by_cases hlt : k < (noticesOf zs).length
    · obtain ⟨x, hx⟩ : ∃ x, (noticesOf zs).getD k (0, 0) = x := ⟨_, rfl⟩
      obtain ⟨x0, x1, x2⟩ := noticesOf_range zs HZR.out x (by rw [← hx]; exact getD_mem _ _ _ hlt)
      obtain ⟨s, hs⟩ : ∃ s, serveF ev tr pu x k (lossesOf xs) = s := ⟨_, rfl⟩
      obtain ⟨t, ht⟩ : ∃ t, serveF ev tr pu x k L = t := ⟨_, rfl⟩
      obtain ⟨p1, p2, p3, p4, p5, p6⟩ := HP.out
      have hbd := serveF_worse x k (lossesOf xs) L HS.out p1 (by omega) p3 (by omega) x1 (by omega) p5 (by omega)
      rw [hs, ht] at hbd
      obtain ⟨sb, soff, rfl, hs0, hs1, hs2, hs3, hs4⟩ := service_at HS8.out k hlt s (by rw [hx]; exact hs)
      obtain ⟨tb, toff, rfl, ht0, ht1, ht2, ht3, ht4⟩ := service_at HR8.out k hlt t (by rw [hx]; exact ht)
      obtain ⟨s1, s2, s3, s4⟩ := s
      obtain ⟨t1, t2, t3, t4⟩ := t
      simp only at hs1 hs2 hs3 hs4 ht1 ht2 ht3 ht4 hbd
      obtain ⟨d1, d2, d3⟩ := hbd
      have g1 := (hb.cell hs0).trans hs1
      have g2 := (hb.cell hs0).trans hs2
      have g4 := (hb.cell hs0).trans hs4
      have k1 := (hb.cell ht0).trans ht1
      have k2 := (hb.cell ht0).trans ht2
      have k4 := (hb.cell ht0).trans ht4
      have HB := Lib.hid hb
      have D3 := Lib.hid d3
      have c1 : decide (t1 < s1) = false := by simp; omega
      have c2 : decide (t2 < s2) = false := by simp; omega
      clear hb hs1 hs2 hs3 hs4 ht1 ht2 ht3 ht4 hx hs ht d1 d2 d3 x0 x1 x2 p1 p2 p3 p4 p5 p6 hs0 ht0 a0 a1 b0 b1 d0 hll hml hlen HZR HP HR8 HS8 HS
      cases t4
      · go_wp2_with fail
        go_quiet (fail)
        go_wp2_with fail
        go_roundw
        case rel => exact ⟨k + 1, hlt, by go_num, below_drew HB.out _⟩
        case measure => simp [intOf]; omega
      · obtain rfl : s4 = true := D3.out rfl
        go_wp2_with fail
        go_quiet (fail)
        go_wp2_with fail
        go_roundw
        case rel => exact ⟨k + 1, hlt, by go_num, below_drew HB.out _⟩
        case measure => simp [intOf]; omega
    · have HB := Lib.hid hb
      clear hb
      go_wp2_with (go_at_call 9; refine (awake_any _).mono ?_; rintro e w9 ⟨rfl, hb9⟩)
      go_ret
      exact ⟨rfl, below_next HB8.out (below_next HB.out hb9)⟩
end Go.Proofs.Ytlblacgmecgbkaa
