/-
  Latest of notice and of the reference, day, and both checks: each computes its plain function.
-/
import Derived.Test.YtgabecolmldbjaaChecked
import Derived.Test.YtgabecolmldbjaaPlain
import Derived.BigQuiet
import Derived.Lib.Hide
namespace Go.Proofs.Ytgabecolmldbjaa
open Go.RowKit

set_option maxHeartbeats 400000 in
theorem latest_any (ev tr pu pa da : Int) (w : World) :
    Calls Try.prog 50 #[.agg #[.int .i64 ev, .int .i64 tr, .int .i64 pu], .agg #[.int .i64 pa, .int .i64 da]] w fun e w' =>
      e = .returned (.int .i64 (latestF ev tr pu da)) ∧ (w.alloc (.cells #[.int .i64 ev, .int .i64 tr, .int .i64 pu] 62)).alloc (.cells #[.int .i64 pa, .int .i64 da] 64) = w' := by
  go_enter Try.func50, Try.ntmps50
  go_wp2
  go_ret
  exact ⟨rfl, rfl⟩

end Go.Proofs.Ytgabecolmldbjaa
