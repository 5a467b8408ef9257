/-
  NoticeCheck returns true for every input, and turns nothing that was there.
-/
import Derived.Test.YtlblacgmecgbkaaLawKit
namespace Go.Proofs.Ytlblacgmecgbkaa
open Go.ChangeShapes Go.WideShapes Go.ChangeAt Go.RowKit Go.Sort

theorem noticeCheck_long (v0 : Value) (ao bo : Option Addr) (n m c c' : Nat) (p1 p2 p3 a b d x y : Int) (w : World) (h : 12 < n ∨ 12 < m) (hn : n ≤ 9223372036854775807) (hm : m ≤ 9223372036854775807)
    (hv : v0 = .agg #[.int .i64 p1, .int .i64 p2, .int .i64 p3]) :
    Calls Try.prog 3 #[v0, .slice ao n c, .slice bo m c', .agg #[.int .u8 a, .int .u8 b, .int .u8 d], .int .u16 x, .int .u16 y] w fun e w' =>
      e = .returned (.bool true) ∧ Below w.heap.size w w' := by
  subst hv
  by_cases h1 : 12 < n
  · go_enter Try.func3, Try.ntmps3
    go_wp2_with (go_at_call 9; refine (awake_any _).mono ?_; rintro e w1 ⟨rfl, hb1⟩)
    go_ret
    exact ⟨rfl, below_next (below_next (below_alloc _ _) (below_alloc _ _)) hb1⟩
  · have h2 : 12 < m := by omega
    clear h
    go_enter Try.func3, Try.ntmps3
    go_wp2_with (go_at_call 9; refine (awake_any _).mono ?_; rintro e w1 ⟨rfl, hb1⟩)
    go_ret
    exact ⟨rfl, below_next (below_next (below_alloc _ _) (below_alloc _ _)) hb1⟩

set_option maxHeartbeats 2000000 in
theorem noticeCheck_short (ev tr pu a b d x y : Int) (ao bo : Option Addr) (c c' m : Nat) (l : List (Int × Int)) (w : World) (hl : LiesAt w ao 2 l.length (noticeCell l)) (h1 : l.length ≤ 12) (h2 : m ≤ 12)
    (a0 : 0 ≤ a) (a1 : a ≤ 255) (b0 : 0 ≤ b) (b1 : b ≤ 255) (d0 : 0 ≤ d) (d1 : d ≤ 255) (x0 : 0 ≤ x) (x1 : x ≤ 65535) (y0 : 0 ≤ y) (y1 : y ≤ 65535) :
    Calls Try.prog 3 #[.agg #[.int .i64 ev, .int .i64 tr, .int .i64 pu], .slice ao l.length c, .slice bo m c', .agg #[.int .u8 a, .int .u8 b, .int .u8 d], .int .u16 x, .int .u16 y] w fun e w' =>
      e = .returned (.bool true) ∧ Below w.heap.size w w' := by
  have HL := Lib.hid hl
  clear hl
  obtain ⟨i0, hi, hz0, hz1, hz2⟩ := info_parts Try.infoNotice
  obtain ⟨i1, gi, gz0, gz1, gz2⟩ := info_parts Try.infoLoss
  go_enter Try.func3, Try.ntmps3
  go_wp2_with (first
    | (go_at_call 10; (with_reducible refine (postB_any _ _ _ _ a0 a1 b0 b1 d0 d1).mono ?_); rintro e w1 ⟨rfl, hb1⟩)
    | (at_make; refine wpList_make_full _ rfl (.tmp 29) (.tmp 29) 24 rfl _ 46 i0 (.agg #[.int .i64 0, .int .i64 0]) 2 Try.underlying24 hi hz0 hz1 .i64 .i64 (x % 36) (x % 36) (x % 36).toNat rfl rfl (by omega) (by omega) (by rw [hz2]; omega) (by unfold maxLen; omega) (Nat.le_refl _) ?_; intro w2 hown2 hg2)
    | (at_make; refine wpList_make_full _ rfl (.tmp 33) (.tmp 33) 25 rfl _ 54 i1 (.agg #[.int .i64 0, .int .i64 0, .bool false]) 3 Try.underlying25 gi gz0 gz1 .i64 .i64 (y % 300) (y % 300) (y % 300).toNat rfl rfl (by omega) (by omega) (by rw [gz2]; omega) (by unfold maxLen; omega) (Nat.le_refl _) ?_; intro w3 hown3 hg3))
  have g2 := below_grown_none hg2
  have g3 := below_grown_none hg3
  have bp := (((((Box3.new w (.int .i64 ev) (.int .i64 tr) (.int .i64 pu) 23).alloc (.cells #[.int .u8 a, .int .u8 b, .int .u8 d] 26)).next hb1).alloc (.cells #[.int .i64 (1 + a % 6), .int .i64 (1 + b % 4), .int .i64 (d % 20)] 23)).next g2).next g3
  have bq := ((Box3.new w1 (.int .i64 (1 + a % 6)) (.int .i64 (1 + b % 4)) (.int .i64 (d % 20)) 23).next g2).next g3
  have bw : Below w.heap.size w w3 := below_next (below_next (below_next (below_next (below_next (below_alloc _ _) (below_alloc _ _)) hb1) (below_alloc _ _)) g2) g3
  have hl3 := HL.out.next bw
  obtain ⟨ra, rc, hra, hla⟩ := liesAt_of_owns (f := noticeCell (List.replicate (x % 36).toNat (0, 0))) hown2 (fun i hi j hj => zero_notices _ i hi j hj)
  cases hra
  have hla3 := hla.next g3
  rw [World.size_alloc] at hla3
  have HB := Lib.hid bw
  clear hla hown2 hown3 hg2 hg3 g2 g3 bw hb1
  have k0 := cell_regrown bp.1
  have k1 := cell_regrown bp.2.1
  have k2 := cell_regrown bp.2.2.1
  have k3 := cell_regrown bq.1
  have k4 := cell_regrown bq.2.1
  have k5 := cell_regrown bq.2.2.1
  have HL3 := Lib.hid hl3
  have HA3 := Lib.hid hla3
  clear hl3 hla3 bp bq HL
  refine wp_region_quiet_below (by kernel_rfl) (by kernel_rfl) ?_
  repeat (quiet_step (first
    | exact Calls.regrown_of (awake_any _)
    | exact Calls.regrown_of (check_n _ _ _ _ _ _ _ _ _ l _ rfl (HL3.out.regrown _ _))
    | exact Calls.regrown_of (checkR_n _ _ _ _ _ _ _ _ _ l _ rfl (HL3.out.regrown _ _))
    | exact Calls.regrown_of (check_n _ _ _ _ _ _ _ _ _ (List.replicate (x % 36).toNat (0, 0)) _ (List.length_replicate ..) (HA3.out.regrown _ _))
    | exact Calls.regrown_of (checkR_n _ _ _ _ _ _ _ _ _ (List.replicate (x % 36).toNat (0, 0)) _ (List.length_replicate ..) (HA3.out.regrown _ _))))
  refine wpQuiet_nil ?_
  intro _ hw'
  obtain ⟨⟨dq, osq⟩, hw''⟩ := hw'
  subst hw''
  go_wp2
  go_ret
  exact ⟨rfl, below_next HB.out (below_regrown w3 dq osq)⟩
end Go.Proofs.Ytlblacgmecgbkaa
