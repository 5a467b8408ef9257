/-
  Latest of notice and of the reference, day, and both checks: each computes its plain function.
-/
import Derived.Test.YtlblacgmecgbkaaChecked
import Derived.Test.YtlblacgmecgbkaaPlain
import Derived.BigQuiet
import Derived.Lib.Hide
namespace Go.Proofs.Ytlblacgmecgbkaa
open Go.RowKit

set_option maxHeartbeats 400000 in
theorem latest_any (ev tr pu pa da : Int) (w : World) :
    Calls Try.prog 18 #[.agg #[.int .i64 ev, .int .i64 tr, .int .i64 pu], .agg #[.int .i64 pa, .int .i64 da]] w fun e w' =>
      e = .returned (.int .i64 (latestF ev tr pu da)) ∧ (w.alloc (.cells #[.int .i64 ev, .int .i64 tr, .int .i64 pu] 23)).alloc (.cells #[.int .i64 pa, .int .i64 da] 46) = w' := by
  go_enter Try.func18, Try.ntmps18
  go_wp2
  go_ret
  exact ⟨rfl, rfl⟩

set_option maxHeartbeats 400000 in
theorem latestR_any (ev tr pu pa da : Int) (w : World) :
    Calls Try.prog 19 #[.agg #[.int .i64 ev, .int .i64 tr, .int .i64 pu], .agg #[.int .i64 pa, .int .i64 da]] w fun e w' =>
      e = .returned (.int .i64 (latestF ev tr pu da)) ∧ (w.alloc (.cells #[.int .i64 ev, .int .i64 tr, .int .i64 pu] 23)).alloc (.cells #[.int .i64 pa, .int .i64 da] 46) = w' := by
  go_enter Try.func19, Try.ntmps19
  go_wp2
  go_ret
  exact ⟨rfl, rfl⟩

theorem day_any (n : Int) (w : World) :
    Calls Try.prog 20 #[.int .i64 n] w fun e w' =>
      e = .returned (.bool (decide (0 ≤ n) && decide (n ≤ 1048576))) ∧ w = w' := by
  by_cases h : 0 ≤ n
  · have hd : decide (0 ≤ n) = true := by simpa using h
    go_enter Try.func20, Try.ntmps20
    go_wp2
    go_ret
    exact ⟨by simp [h], rfl⟩
  · have hd : decide (0 ≤ n) = false := by simpa using h
    go_enter Try.func20, Try.ntmps20
    go_wp2
    go_ret
    exact ⟨by simp, rfl⟩

end Go.Proofs.Ytlblacgmecgbkaa
