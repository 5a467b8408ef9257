/-
  NoticeServe returns true for every input, and turns nothing that was there.
-/
import Derived.Test.YtlblacgmecgbkaaLawKit
namespace Go.Proofs.Ytlblacgmecgbkaa
open Go.ChangeShapes Go.WideShapes Go.ChangeAt Go.RowKit Go.Sort

theorem noticeServe_long (v1 v2 : Value) (bo : Option Addr) (m c' : Nat) (p1 p2 p3 a b d : Int) (w : World) (h : 12 < m) (hm : m ≤ 9223372036854775807) :
    Calls Try.prog 4 #[.agg #[.int .u8 a, .int .u8 b, .int .u8 d], v1, v2, .slice bo m c', .agg #[.int .i64 p1, .int .i64 p2, .int .i64 p3]] w fun e w' =>
      e = .returned (.bool true) ∧ Below w.heap.size w w' := by
  go_enter Try.func4, Try.ntmps4
  go_wp2_with (go_at_call 9; refine (awake_any _).mono ?_; rintro e w1 ⟨rfl, hb1⟩)
  go_ret
  exact ⟨rfl, below_next (below_next (below_alloc _ _) (below_alloc _ _)) hb1⟩

set_option maxHeartbeats 2000000 in
theorem noticeServe_short (a b d ev tr pu : Int) (zo lo ro : Option Addr) (zc lc rc : Nat) (zs : List Int) (xs : List (Int × Int × Int)) (raw : List LossD) (w : World)
    (hz : LiesAt w zo 1 zs.length (u16Cell zs)) (hzr : ∀ i, 0 ≤ zs.getD i 0 ∧ zs.getD i 0 ≤ 65535)
    (hx : LiesAt w lo 3 xs.length (u8x3Cell xs)) (hxr : ∀ i, 0 ≤ (xs.getD i (0, 0, 0)).1 ∧ 0 ≤ (xs.getD i (0, 0, 0)).2.1 ∧ 0 ≤ (xs.getD i (0, 0, 0)).2.2)
    (hr : LiesAt w ro 3 raw.length (lossCell raw)) (hro : ro = none → raw.length = 0 ∧ rc = 0) (hrf : ∀ x ∈ raw, LossFits x) (h12 : raw.length ≤ 12)
    (a0 : 0 ≤ a) (a1 : a ≤ 255) (b0 : 0 ≤ b) (b1 : b ≤ 255) (d0 : 0 ≤ d) (d1 : d ≤ 255) :
    Calls Try.prog 4 #[.agg #[.int .u8 a, .int .u8 b, .int .u8 d], .slice zo zs.length zc, .slice lo xs.length lc, .slice ro raw.length rc, .agg #[.int .i64 ev, .int .i64 tr, .int .i64 pu]] w fun e w' =>
      e = .returned (.bool true) ∧ Below w.heap.size w w' := by
  have HZ := Lib.hid hz
  have HZR := Lib.hid hzr
  have HX := Lib.hid hx
  have HXR := Lib.hid hxr
  have HR := Lib.hid hr
  have HRO := Lib.hid hro
  have HRF := Lib.hid hrf
  have hnl := noticesOf_length zs
  have hll := lossesOf_length xs
  clear hz hzr hx hxr hr hro hrf
  obtain ⟨i1, gi, gz0, gz1, gz2⟩ := info_parts Try.infoLoss
  have hb0 : Below w.heap.size w ((w.alloc (.cells #[.int .u8 a, .int .u8 b, .int .u8 d] 26)).alloc (.cells #[.int .i64 ev, .int .i64 tr, .int .i64 pu] 23)) := below_next (below_alloc _ _) (below_alloc _ _)
  have HB0 := Lib.hid hb0
  clear hb0
  go_enter Try.func4, Try.ntmps4
  go_wp2_with fail
  refine (notices_any zo zc zs _ (HZ.out.next HB0.out) HZR.out).mono ?_
  rintro e w1 ⟨no, nc, rfl, hn1, hb1⟩
  have HB1 : Hid (Below w.heap.size w w1) := below_next HB0.out hb1
  have HN1 := Lib.hid hn1
  have bx1 := (((Box3.new w (.int .u8 a) (.int .u8 b) (.int .u8 d) 26).alloc (.cells #[.int .i64 ev, .int .i64 tr, .int .i64 pu] 23)).next hb1)
  have bp1 := (Box3.new (w.alloc (.cells #[.int .u8 a, .int .u8 b, .int .u8 d] 26)) (.int .i64 ev) (.int .i64 tr) (.int .i64 pu) 23).next hb1
  rw [World.size_alloc] at bp1
  clear hn1 hb1
  go_wp2_with fail
  refine (losses_own lo lc xs _ (HX.out.next HB1.out) HXR.out).mono ?_
  rintro e w2 ⟨v, rfl, hown2, hb2⟩
  have HB2 : Hid (Below w.heap.size w w2) := below_next HB1.out hb2
  have HO2 := Lib.hid hown2
  have hs2 : w1.heap.size ≤ w2.heap.size := hb2.size
  have hR2 := HR.out.next HB2.out
  clear hown2
  go_wp2_with (at_builtin; refine wpList_append_lst rfl (.tmp 28) (.tmp 29) 25 rfl w1.heap.size 54 i1 (.agg #[.int .i64 0, .int .i64 0, .bool false]) 3 24 Try.underlying25 gi gz0 gz1 gz2 rfl (by decide) v (lossesOf xs).length _ rfl HO2.out ro raw.length rc (raw.flatMap lossFlat) rfl HRO.out (loss_flat_length raw) (loss_news raw hR2) (loss_oneCell raw) (by unfold maxLen; omega) (by omega) hs2 ?_; intro v3 w3 hown3 hg3; have hb3 : Below w1.heap.size w1 w3 := hb2.grown hg3 hs2 (fun j hj => (HO2.out.lt j hj).1); obtain ⟨x0, x1, x2, x3⟩ := bx1.next hb3)
  have HN3 := Lib.hid (HN1.out.next hb3)
  have bp3 := bp1.next hb3
  have HB3 : Hid (Below w.heap.size w w3) := below_next HB1.out hb3
  rw [← List.flatMap_append, ← List.length_append] at hown3
  obtain ⟨ao, ac, rfl, hA3⟩ := lies_losses _ hown3
  have HA3 := Lib.hid hA3
  have hfits : ∀ x ∈ lossesOf xs ++ raw, LossFits x := fun x hx => by
    rcases List.mem_append.1 hx with h | h
    · exact lossesOf_fits xs x h
    · exact HRF.out x h
  have HF := Lib.hid hfits
  generalize hL : lossesOf xs ++ raw = L at *
  have HX3 : Hid (Box3 w3 w.heap.size (.int .u8 a) (.int .u8 b) (.int .u8 d)) := ⟨x0, x1, x2, x3⟩
  clear hown3 hg3 hb3 hb2 bx1 bp1 hR2 hs2 hA3 hfits HN1 HB1 HB2 HO2 HR HRO HRF hL x0 x1 x2 x3
  -- the first call: Serve(Post(x), n, all)
  refine (postB_any a b d _ a0 a1 b0 b1 d0 d1).mono ?_
  rintro e w4 ⟨rfl, hb4⟩
  go_wp2_with fail
  refine (serve_n _ _ _ no ao nc ac _ _ (noticesOf zs) L _ rfl rfl (HN3.out.next hb4) (HA3.out.next hb4) HF.out).mono ?_
  rintro e w5 ⟨r5, c5, rfl, hr5, hb5⟩
  have hb35 := below_next hb4 hb5
  obtain ⟨x0, x1, x2, x3⟩ := HX3.out.next hb35
  go_wp2_with fail
  refine (postB_any a b d _ a0 a1 b0 b1 d0 d1).mono ?_
  rintro e w6 ⟨rfl, hb6⟩
  go_wp2_with fail
  have hb36 := below_next hb35 hb6
  refine (serveR_n _ _ _ no ao nc ac _ _ (noticesOf zs) L _ rfl rfl (HN3.out.next hb36) (HA3.out.next hb36)).mono ?_
  rintro e w7 ⟨r7, c7, rfl, hr7, hb7⟩
  have hb37 := below_next hb36 hb7
  have HR5 := Lib.hid (hr5.next (below_next hb6 hb7))
  have HR7 := Lib.hid hr7
  obtain ⟨p0, p1, p2, p3⟩ := bp3.next hb37
  clear hr5 hr7 hb6 hb7 hb5 hb4 hb35 hb36 x0 x1 x2 x3
  go_wp2_with fail
  refine (serve_n ev tr pu no ao nc ac _ _ (noticesOf zs) L _ rfl rfl (HN3.out.next hb37) (HA3.out.next hb37) HF.out).mono ?_
  rintro e w8 ⟨r8, c8, rfl, hr8, hb8⟩
  have hb38 := below_next hb37 hb8
  obtain ⟨q0, q1, q2, q3⟩ := bp3.next hb38
  clear p0 p1 p2 p3
  go_wp2_with fail
  refine (serveR_n ev tr pu no ao nc ac _ _ (noticesOf zs) L _ rfl rfl (HN3.out.next hb38) (HA3.out.next hb38)).mono ?_
  rintro e w9 ⟨r9, c9, rfl, hr9, hb9⟩
  have hb79 := below_next hb8 hb9
  have H5 := Lib.hid (HR5.out.next hb79)
  have H7 := Lib.hid (HR7.out.next hb79)
  have H8 := Lib.hid (hr8.next hb9)
  have H9 := Lib.hid hr9
  have HB9 : Hid (Below w.heap.size w w9) := below_next HB3.out (below_next hb38 hb9)
  clear q0 q1 q2 q3 hr8 hr9 hb79 hb8 hb9 hb37 hb38 HR5 HR7 bp3
  go_wp2_with fail
  refine (awake_any _).mono ?_
  rintro e w10 ⟨rfl, hb10⟩
  go_wp2_with fail
  refine (same_n r5 r7 c5 c7 _ _ (H5.out.next hb10) (H7.out.next hb10) (resF_length _ _ _ _ _)).mono ?_
  rintro e w11 ⟨rfl, hb11⟩
  go_wp2_with fail
  refine (same_n r8 r9 c8 c9 _ _ (H8.out.next (below_next hb10 hb11)) (H9.out.next (below_next hb10 hb11)) (resF_length _ _ _ _ _)).mono ?_
  rintro e w12 ⟨rfl, hb12⟩
  go_wp2_with fail
  go_ret
  exact ⟨rfl, below_next HB9.out (below_next (below_next hb10 hb11) hb12)⟩
end Go.Proofs.Ytlblacgmecgbkaa
