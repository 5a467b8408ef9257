/-
  NoticeLatest returns true for every input, and turns nothing that was there.
-/
import Derived.Test.YtlblacgmecgbkaaRows
import Derived.Test.YtlblacgmecgbkaaFrame
import Derived.Test.YtlblacgmecgbkaaAwake
import Derived.Test.YtlblacgmecgbkaaBuild
import Derived.Lib.QuietBelow
namespace Go.Proofs.Ytlblacgmecgbkaa
open Go.ChangeShapes Go.WideShapes Go.ChangeAt Go.RowKit Go.Sort

theorem below_of_alloc2 {w w' : World} {o o' : Obj} (h : (w.alloc o).alloc o' = w') : Below w.heap.size w w' := by
  subst h
  exact ((Below.refl w.heap.size w).alloc (Nat.le_refl _) o).alloc (by simp) o'

theorem latest_below (ev tr pu pa da : Int) (w : World) :
    Calls Try.prog 18 #[.agg #[.int .i64 ev, .int .i64 tr, .int .i64 pu], .agg #[.int .i64 pa, .int .i64 da]] w fun e w' => e = .returned (.int .i64 (latestF ev tr pu da)) ∧ Below w.heap.size w w' :=
  (latest_any ev tr pu pa da w).mono fun _ _ ⟨h, hw⟩ => ⟨h, below_of_alloc2 hw⟩
theorem latestR_below (ev tr pu pa da : Int) (w : World) :
    Calls Try.prog 19 #[.agg #[.int .i64 ev, .int .i64 tr, .int .i64 pu], .agg #[.int .i64 pa, .int .i64 da]] w fun e w' => e = .returned (.int .i64 (latestF ev tr pu da)) ∧ Below w.heap.size w w' :=
  (latestR_any ev tr pu pa da w).mono fun _ _ ⟨h, hw⟩ => ⟨h, below_of_alloc2 hw⟩

set_option maxHeartbeats 2000000 in
theorem noticeLatest_walk (ev tr pu pa da a b c : Int) (w : World) (a0 : 0 ≤ a) (a1 : a ≤ 255) (b0 : 0 ≤ b) (b1 : b ≤ 255) (c0 : 0 ≤ c) (c1 : c ≤ 255) :
    Calls Try.prog 5 #[.agg #[.int .i64 ev, .int .i64 tr, .int .i64 pu], .agg #[.int .i64 pa, .int .i64 da], .agg #[.int .u8 a, .int .u8 b, .int .u8 c]] w fun e w' =>
      e = .returned (.bool true) ∧ Below w.heap.size w w' := by
  go_enter Try.func5, Try.ntmps5
  go_wp2_with (go_at_call 10; (with_reducible refine (postB_any _ _ _ _ a0 a1 b0 b1 c0 c1).mono ?_); rintro e w1 ⟨rfl, hb1⟩)
  have hs1 : w.heap.size + 1 + 1 + 1 ≤ w1.heap.size := by have := hb1.size; simpa using this
  have p0 : w1.cell? ⟨w.heap.size, 0, none⟩ = some (.int .i64 ev) := by rw [hb1.cell (by simp; try omega)]; simp [go_sem]
  have p1 : w1.cell? ⟨w.heap.size, 1, none⟩ = some (.int .i64 tr) := by rw [hb1.cell (by simp; try omega)]; simp [go_sem]
  have p2 : w1.cell? ⟨w.heap.size, 2, none⟩ = some (.int .i64 pu) := by rw [hb1.cell (by simp; try omega)]; simp [go_sem]
  have n0 : w1.cell? ⟨w.heap.size + 1, 0, none⟩ = some (.int .i64 pa) := by rw [hb1.cell (by simp; try omega)]; simp [go_sem]
  have n1 : w1.cell? ⟨w.heap.size + 1, 1, none⟩ = some (.int .i64 da) := by rw [hb1.cell (by simp; try omega)]; simp [go_sem]
  have HB : Hid (Below w.heap.size w w1) := (show Below w.heap.size w (((w.alloc (.cells #[.int .i64 ev, .int .i64 tr, .int .i64 pu] 23)).alloc (.cells #[.int .i64 pa, .int .i64 da] 46)).alloc (.cells #[.int .u8 a, .int .u8 b, .int .u8 c] 26)) by go_grown).trans (hb1.mono (by simp; omega))
  clear hb1
  have hlt0 : w.heap.size < w1.heap.size := by omega
  have hlt1 : w.heap.size + 1 < w1.heap.size := by omega
  generalize hq : (Obj.cells #[.int .i64 (1 + a % 6), .int .i64 (1 + b % 4), .int .i64 (c % 20)] 23) = oq
  have q0 : (w1.alloc oq).cell? ⟨w1.heap.size, 0, none⟩ = some (.int .i64 (1 + a % 6)) := by rw [← hq]; simp [go_sem]
  have q1 : (w1.alloc oq).cell? ⟨w1.heap.size, 1, none⟩ = some (.int .i64 (1 + b % 4)) := by rw [← hq]; simp [go_sem]
  have q2 : (w1.alloc oq).cell? ⟨w1.heap.size, 2, none⟩ = some (.int .i64 (c % 20)) := by rw [← hq]; simp [go_sem]
  have k0 := cell_regrown ((World.cell?_alloc_past oq _ _ hlt0).trans p0)
  have k1 := cell_regrown ((World.cell?_alloc_past oq _ _ hlt0).trans p1)
  have k2 := cell_regrown ((World.cell?_alloc_past oq _ _ hlt0).trans p2)
  have k3 := cell_regrown ((World.cell?_alloc_past oq _ _ hlt1).trans n0)
  have k4 := cell_regrown ((World.cell?_alloc_past oq _ _ hlt1).trans n1)
  have k5 := cell_regrown q0
  have k6 := cell_regrown q1
  have k7 := cell_regrown q2
  have HW : Hid (Below w.heap.size w (w1.alloc oq)) := HB.out.alloc (by omega) oq
  generalize w1.alloc oq = W2 at *
  clear q0 q1 q2 p0 p1 p2 n0 n1 hq HB
  refine wp_region_quiet_below (by kernel_rfl) (by kernel_rfl) ?_
  repeat (quiet_step (first | exact Calls.regrown_of (awake_any _) | exact Calls.regrown_of (latest_below _ _ _ _ _ _) | exact Calls.regrown_of (latestR_below _ _ _ _ _ _)))
  refine wpQuiet_nil ?_
  intro _ hw'
  obtain ⟨⟨dq, osq⟩, hw''⟩ := hw'
  subst hw''
  go_wp2
  go_ret
  exact ⟨rfl, HW.out.trans ((below_regrown W2 dq osq).mono (by have := HW.out.size; omega))⟩
end Go.Proofs.Ytlblacgmecgbkaa
