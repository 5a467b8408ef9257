/-
  The reference's CheckPost computes checkF.
-/
import Derived.Test.YtgabecolmldbjaaNCheck
namespace Go.Proofs.Ytgabecolmldbjaa
open Go.RowKit

end Go.Proofs.Ytgabecolmldbjaa
