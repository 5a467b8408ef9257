/-
  The blocks that both serve functions work on.
-/
import Derived.Test.YtgabecolmldbjaaNLatest
import Derived.Lib.Hide
namespace Go.Proofs.Ytgabecolmldbjaa
open Go.RowKit

/-- The four blocks that serve works on. -/
def serveWorld (w : World) (ev tr pu pa da day sent rec : Int) (co : Bool) : World :=
  (((w.alloc (.cells #[.int .i64 ev, .int .i64 tr, .int .i64 pu] 62)).alloc (.cells #[.int .i64 pa, .int .i64 da] 64)).alloc
    (.cells #[.int .i64 0, .int .i64 0, .int .i64 0, .bool false] 45)).alloc (.cells #[.int .i64 day, .int .i64 sent, .int .i64 rec, .bool co] 45)

theorem serveWorld_below (w : World) (ev tr pu pa da day sent rec : Int) (co : Bool) : Below w.heap.size w (serveWorld w ev tr pu pa da day sent rec co) := by
  unfold serveWorld; go_grown

end Go.Proofs.Ytgabecolmldbjaa
