/-
  Contract: the lengths that a body begins with.
-/
import Derived.Test.YtkbdbinafjmjkaaJFrame2
namespace Go.Proofs.Ytkbdbinafjmjkaa
open Go.RowKit

/-- The lengths from the i-th on, f of them: l and total as gathered so far. -/
def lensGo (b : List Int) : Nat → Nat → List Int → Int → List Int × Int × Bool × Bool
  | 0, _, l, t => (l, t, true, true)
  | f + 1, i, l, t =>
    if b.length < 1 + 2 * i + 2 then (l, t, false, true)
    else if 4096 < getF [b.getD (1 + 2 * i) 0, b.getD (2 + 2 * i) 0] then ([], 0, false, false)
    else lensGo b f (i + 1) (l ++ [getF [b.getD (1 + 2 * i) 0, b.getD (2 + 2 * i) 0]]) (t + getF [b.getD (1 + 2 * i) 0, b.getD (2 + 2 * i) 0])
/-- What 'lengths' answers: the lengths, the length of the body, whether all lengths are there, whether they are in range. -/
def lengthsF (b : List Int) : List Int × Int × Bool × Bool :=
  if b.length = 0 then ([], 0, false, true)
  else if b.getD 0 0 < 1 ∨ 16 < b.getD 0 0 then ([], 0, false, false)
  else lensGo b (b.getD 0 0).toNat 0 [] (1 + 2 * b.getD 0 0)

theorem getF_two (x y : Int) : getF [x, y] = x + 256 * y := by simp [getF]
end Go.Proofs.Ytkbdbinafjmjkaa
