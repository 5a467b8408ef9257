/-
  No cell of these rows narrows 'for every input' (looked for: loops, veiled, ifaces, maps, wideKeys, modest, calm, conditions, laid).
  DERIVED. THE GIVEN ROWS OF THIS SEAT. 9 by the template 'for every input the law returns true; each argument reads behind the call as it read before'; 0 by the template 'total and deterministic' (their statements: YtpddpdkdlodniaaTotals.lean).
  GIVEN WITH THE SEED: the statements are not yours to turn. If you find one false, say at which input.
  Laid BY PROGRAM, IN A SANDBOX (cutbox-rows.mjs): the forced cells as the released guide's own fill.sh prints them over the translation 2e302e06633eb154… (all of the seat's roots in one cut). By AI agents, Wed Nov 11 2026. No macro, syntax, notation, axiom, sorry.
-/
import Derived.Test.YtpddpdkdlodniaaChecked
import GoSem.Claim
import GoSem.ClaimJoined
import GoSem.ClaimMapViews
import Derived.JoinedTies
import Derived.KernelRfl
namespace Go.Proofs.Ytpddpdkdlodniaa
/- THE CELL 'sum', in the pinned program and in every row, IS THE sha256 OF THE DUMP (.gsa) THAT YtpddpdkdlodniaaProg.lean LOADS. Nothing in Lean hashes anything: it is a label: what it is worth is what the hold of that sum in a sandbox is worth. -/
noncomputable def Try.pinned : Pinned := { name := "ytpddpdkdlodniaa", sum := "2e302e06633eb15460d4461ad5545865c1d9207c64d162ed6cfb7cb51c14cba6", checked := Try.checked }
namespace Rows
def none {H : Type} : Left H := { results := [], args := [] }

/-- 'insolvencylaw33.DocketTwice': WHATEVER THE INPUT: true; the input reads as it did. -/
def docketTwiceSpec : ChangeSpec := { name := "docketTwice", fn := fun _ => fun
  | [d1, d2, d3, d4, d5] => { results := [.lit (.bool true)], args := [d1, d2, d3, d4, d5] }
  | _ => none }
def docketTwiceRow : OpenClaim := { program := "ytpddpdkdlodniaa", sum := "2e302e06633eb15460d4461ad5545865c1d9207c64d162ed6cfb7cb51c14cba6", func := "insolvency/insolvencylaw33.DocketTwice", spec := "docketTwice", unfollowed := true, recurses := true, apart := false }
def DocketTwiceSaid : Prop := docketTwiceRow.holds Try.pinned (OpenSpec.ofChange docketTwiceSpec)

/-- ITS FALSE NEIGHBOUR: 'it returns false'. Refute it at one input. -/
def docketTwiceWrong : ChangeSpec := { name := "docketTwice", fn := fun _ => fun
  | [d1, d2, d3, d4, d5] => { results := [.lit (.bool false)], args := [d1, d2, d3, d4, d5] }
  | _ => none }
def DocketTwiceWrongFalsely : Prop := docketTwiceRow.holds Try.pinned (OpenSpec.ofChange docketTwiceWrong)

/-- 'insolvencylaw33.DocketOnce': WHATEVER THE INPUT: true; the input reads as it did. -/
def docketOnceSpec : ChangeSpec := { name := "docketOnce", fn := fun _ => fun
  | [d1, d2, d3, d4] => { results := [.lit (.bool true)], args := [d1, d2, d3, d4] }
  | _ => none }
def docketOnceRow : OpenClaim := { program := "ytpddpdkdlodniaa", sum := "2e302e06633eb15460d4461ad5545865c1d9207c64d162ed6cfb7cb51c14cba6", func := "insolvency/insolvencylaw33.DocketOnce", spec := "docketOnce", unfollowed := true, recurses := true, apart := false }
def DocketOnceSaid : Prop := docketOnceRow.holds Try.pinned (OpenSpec.ofChange docketOnceSpec)

/-- ITS FALSE NEIGHBOUR: 'it returns false'. Refute it at one input. -/
def docketOnceWrong : ChangeSpec := { name := "docketOnce", fn := fun _ => fun
  | [d1, d2, d3, d4] => { results := [.lit (.bool false)], args := [d1, d2, d3, d4] }
  | _ => none }
def DocketOnceWrongFalsely : Prop := docketOnceRow.holds Try.pinned (OpenSpec.ofChange docketOnceWrong)

/-- 'insolvencylaw33.DocketNew': WHATEVER THE INPUT: true; the input reads as it did. -/
def docketNewSpec : ChangeSpec := { name := "docketNew", fn := fun _ => fun
  | [d1, d2, d3, d4, d5] => { results := [.lit (.bool true)], args := [d1, d2, d3, d4, d5] }
  | _ => none }
def docketNewRow : OpenClaim := { program := "ytpddpdkdlodniaa", sum := "2e302e06633eb15460d4461ad5545865c1d9207c64d162ed6cfb7cb51c14cba6", func := "insolvency/insolvencylaw33.DocketNew", spec := "docketNew", unfollowed := true, recurses := true, apart := false }
def DocketNewSaid : Prop := docketNewRow.holds Try.pinned (OpenSpec.ofChange docketNewSpec)

/-- ITS FALSE NEIGHBOUR: 'it returns false'. Refute it at one input. -/
def docketNewWrong : ChangeSpec := { name := "docketNew", fn := fun _ => fun
  | [d1, d2, d3, d4, d5] => { results := [.lit (.bool false)], args := [d1, d2, d3, d4, d5] }
  | _ => none }
def DocketNewWrongFalsely : Prop := docketNewRow.holds Try.pinned (OpenSpec.ofChange docketNewWrong)

/-- 'insolvencylaw33.DocketCheck': WHATEVER THE INPUT: true; the input reads as it did. -/
def docketCheckSpec : ChangeSpec := { name := "docketCheck", fn := fun _ => fun
  | [d1, d2, d3, d4, d5, d6] => { results := [.lit (.bool true)], args := [d1, d2, d3, d4, d5, d6] }
  | _ => none }
def docketCheckRow : OpenClaim := { program := "ytpddpdkdlodniaa", sum := "2e302e06633eb15460d4461ad5545865c1d9207c64d162ed6cfb7cb51c14cba6", func := "insolvency/insolvencylaw33.DocketCheck", spec := "docketCheck", unfollowed := true, recurses := true, apart := false }
def DocketCheckSaid : Prop := docketCheckRow.holds Try.pinned (OpenSpec.ofChange docketCheckSpec)

/-- ITS FALSE NEIGHBOUR: 'it returns false'. Refute it at one input. -/
def docketCheckWrong : ChangeSpec := { name := "docketCheck", fn := fun _ => fun
  | [d1, d2, d3, d4, d5, d6] => { results := [.lit (.bool false)], args := [d1, d2, d3, d4, d5, d6] }
  | _ => none }
def DocketCheckWrongFalsely : Prop := docketCheckRow.holds Try.pinned (OpenSpec.ofChange docketCheckWrong)

/-- 'insolvencylaw33.DocketDue': WHATEVER THE INPUT: true; the input reads as it did. -/
def docketDueSpec : ChangeSpec := { name := "docketDue", fn := fun _ => fun
  | [d1, d2, d3, d4] => { results := [.lit (.bool true)], args := [d1, d2, d3, d4] }
  | _ => none }
def docketDueRow : OpenClaim := { program := "ytpddpdkdlodniaa", sum := "2e302e06633eb15460d4461ad5545865c1d9207c64d162ed6cfb7cb51c14cba6", func := "insolvency/insolvencylaw33.DocketDue", spec := "docketDue", unfollowed := true, recurses := true, apart := false }
def DocketDueSaid : Prop := docketDueRow.holds Try.pinned (OpenSpec.ofChange docketDueSpec)

/-- ITS FALSE NEIGHBOUR: 'it returns false'. Refute it at one input. -/
def docketDueWrong : ChangeSpec := { name := "docketDue", fn := fun _ => fun
  | [d1, d2, d3, d4] => { results := [.lit (.bool false)], args := [d1, d2, d3, d4] }
  | _ => none }
def DocketDueWrongFalsely : Prop := docketDueRow.holds Try.pinned (OpenSpec.ofChange docketDueWrong)

/-- 'insolvencylaw33.DocketAdvance': WHATEVER THE INPUT: true; the input reads as it did. -/
def docketAdvanceSpec : ChangeSpec := { name := "docketAdvance", fn := fun _ => fun
  | [d1, d2, d3, d4, d5, d6] => { results := [.lit (.bool true)], args := [d1, d2, d3, d4, d5, d6] }
  | _ => none }
def docketAdvanceRow : OpenClaim := { program := "ytpddpdkdlodniaa", sum := "2e302e06633eb15460d4461ad5545865c1d9207c64d162ed6cfb7cb51c14cba6", func := "insolvency/insolvencylaw33.DocketAdvance", spec := "docketAdvance", unfollowed := true, recurses := true, apart := false }
def DocketAdvanceSaid : Prop := docketAdvanceRow.holds Try.pinned (OpenSpec.ofChange docketAdvanceSpec)

/-- ITS FALSE NEIGHBOUR: 'it returns false'. Refute it at one input. -/
def docketAdvanceWrong : ChangeSpec := { name := "docketAdvance", fn := fun _ => fun
  | [d1, d2, d3, d4, d5, d6] => { results := [.lit (.bool false)], args := [d1, d2, d3, d4, d5, d6] }
  | _ => none }
def DocketAdvanceWrongFalsely : Prop := docketAdvanceRow.holds Try.pinned (OpenSpec.ofChange docketAdvanceWrong)

/-- 'insolvencylaw33.DocketFile': WHATEVER THE INPUT: true; the input reads as it did. -/
def docketFileSpec : ChangeSpec := { name := "docketFile", fn := fun _ => fun
  | [d1, d2, d3, d4, d5, d6, d7, d8, d9] => { results := [.lit (.bool true)], args := [d1, d2, d3, d4, d5, d6, d7, d8, d9] }
  | _ => none }
def docketFileRow : OpenClaim := { program := "ytpddpdkdlodniaa", sum := "2e302e06633eb15460d4461ad5545865c1d9207c64d162ed6cfb7cb51c14cba6", func := "insolvency/insolvencylaw33.DocketFile", spec := "docketFile", unfollowed := true, recurses := true, apart := false }
def DocketFileSaid : Prop := docketFileRow.holds Try.pinned (OpenSpec.ofChange docketFileSpec)

/-- ITS FALSE NEIGHBOUR: 'it returns false'. Refute it at one input. -/
def docketFileWrong : ChangeSpec := { name := "docketFile", fn := fun _ => fun
  | [d1, d2, d3, d4, d5, d6, d7, d8, d9] => { results := [.lit (.bool false)], args := [d1, d2, d3, d4, d5, d6, d7, d8, d9] }
  | _ => none }
def DocketFileWrongFalsely : Prop := docketFileRow.holds Try.pinned (OpenSpec.ofChange docketFileWrong)

/-- 'insolvencylaw33.DocketPlay': WHATEVER THE INPUT: true; the input reads as it did. -/
def docketPlaySpec : ChangeSpec := { name := "docketPlay", fn := fun _ => fun
  | [d1, d2, d3, d4, d5, d6] => { results := [.lit (.bool true)], args := [d1, d2, d3, d4, d5, d6] }
  | _ => none }
def docketPlayRow : OpenClaim := { program := "ytpddpdkdlodniaa", sum := "2e302e06633eb15460d4461ad5545865c1d9207c64d162ed6cfb7cb51c14cba6", func := "insolvency/insolvencylaw33.DocketPlay", spec := "docketPlay", unfollowed := true, recurses := true, apart := false }
def DocketPlaySaid : Prop := docketPlayRow.holds Try.pinned (OpenSpec.ofChange docketPlaySpec)

/-- ITS FALSE NEIGHBOUR: 'it returns false'. Refute it at one input. -/
def docketPlayWrong : ChangeSpec := { name := "docketPlay", fn := fun _ => fun
  | [d1, d2, d3, d4, d5, d6] => { results := [.lit (.bool false)], args := [d1, d2, d3, d4, d5, d6] }
  | _ => none }
def DocketPlayWrongFalsely : Prop := docketPlayRow.holds Try.pinned (OpenSpec.ofChange docketPlayWrong)

/-- 'insolvencylaw33.DocketMany': WHATEVER THE INPUT: true; the input reads as it did. -/
def docketManySpec : ChangeSpec := { name := "docketMany", fn := fun _ => fun
  | [d] => { results := [.lit (.bool true)], args := [d] }
  | _ => none }
def docketManyRow : OpenClaim := { program := "ytpddpdkdlodniaa", sum := "2e302e06633eb15460d4461ad5545865c1d9207c64d162ed6cfb7cb51c14cba6", func := "insolvency/insolvencylaw33.DocketMany", spec := "docketMany", unfollowed := true, recurses := true, apart := false }
def DocketManySaid : Prop := docketManyRow.holds Try.pinned (OpenSpec.ofChange docketManySpec)

/-- ITS FALSE NEIGHBOUR: 'it returns false'. Refute it at one input. -/
def docketManyWrong : ChangeSpec := { name := "docketMany", fn := fun _ => fun
  | [d] => { results := [.lit (.bool false)], args := [d] }
  | _ => none }
def DocketManyWrongFalsely : Prop := docketManyRow.holds Try.pinned (OpenSpec.ofChange docketManyWrong)

/- THE SECOND FORM. 'bulk': how many values and letters a reading holds, each counted each time it is reached (what is shared counts as often as it is met; a slice's spare places count too). A statement '..UptoSaid' is the law's where the arguments, and the package variables that the reading takes, are together of bulk at most 1048576: NARROWER than '..Said'. Prove '..Said' where nothing that the law and all that it calls make is longer than what came in: it says more and counts as full. Else prove '..UptoSaid'. A law counts once. -/
mutual
def uptoBulk {H : Type} : DataW H → Nat
  | .lit (.string bytes) => bytes.length + 1
  | .lit _ => 1
  | .nil => 1
  | .ptr d => uptoBulk d + 1
  | .slice elems spare => uptoBulkAll elems + uptoBulkAll spare + 1
  | .agg parts => uptoBulkAll parts + 1
  | .iface _ d => uptoBulk d + 1
  | .map entries => uptoBulkEntries entries + 1
  | .held _ => 1
def uptoBulkAll {H : Type} : List (DataW H) → Nat
  | [] => 0
  | d :: r => uptoBulk d + uptoBulkAll r
def uptoBulkEntries {H : Type} : List (Lit × DataW H) → Nat
  | [] => 0
  | x :: r => uptoBulkEntry x + uptoBulkEntries r
def uptoBulkEntry {H : Type} : Lit × DataW H → Nat
  | (.string bytes, d) => bytes.length + uptoBulk d + 1
  | (_, d) => uptoBulk d + 1
 end
def uptoSmall : (H : Type) → List (DataW H) → Bool := fun _ ds => decide (uptoBulkAll ds ≤ 1048576)
def OpenSpec.upto (s : _root_.Go.ChangeSpec) : _root_.Go.OpenSpec := { _root_.Go.OpenSpec.ofChange s with cond := some uptoSmall }

/-- 'insolvencylaw33.DocketTwice', WHERE WHAT IT READS IS OF BULK AT MOST 1048576: true; the input reads as it did. -/
def docketTwiceUptoRow : OpenClaim := { program := "ytpddpdkdlodniaa", sum := "2e302e06633eb15460d4461ad5545865c1d9207c64d162ed6cfb7cb51c14cba6", func := "insolvency/insolvencylaw33.DocketTwice", spec := "docketTwice", unfollowed := true, recurses := true, apart := false, narrowed := true }
def DocketTwiceUptoSaid : Prop := docketTwiceUptoRow.holds Try.pinned (OpenSpec.upto docketTwiceSpec)

/-- 'insolvencylaw33.DocketOnce', WHERE WHAT IT READS IS OF BULK AT MOST 1048576: true; the input reads as it did. -/
def docketOnceUptoRow : OpenClaim := { program := "ytpddpdkdlodniaa", sum := "2e302e06633eb15460d4461ad5545865c1d9207c64d162ed6cfb7cb51c14cba6", func := "insolvency/insolvencylaw33.DocketOnce", spec := "docketOnce", unfollowed := true, recurses := true, apart := false, narrowed := true }
def DocketOnceUptoSaid : Prop := docketOnceUptoRow.holds Try.pinned (OpenSpec.upto docketOnceSpec)

/-- 'insolvencylaw33.DocketNew', WHERE WHAT IT READS IS OF BULK AT MOST 1048576: true; the input reads as it did. -/
def docketNewUptoRow : OpenClaim := { program := "ytpddpdkdlodniaa", sum := "2e302e06633eb15460d4461ad5545865c1d9207c64d162ed6cfb7cb51c14cba6", func := "insolvency/insolvencylaw33.DocketNew", spec := "docketNew", unfollowed := true, recurses := true, apart := false, narrowed := true }
def DocketNewUptoSaid : Prop := docketNewUptoRow.holds Try.pinned (OpenSpec.upto docketNewSpec)

/-- 'insolvencylaw33.DocketCheck', WHERE WHAT IT READS IS OF BULK AT MOST 1048576: true; the input reads as it did. -/
def docketCheckUptoRow : OpenClaim := { program := "ytpddpdkdlodniaa", sum := "2e302e06633eb15460d4461ad5545865c1d9207c64d162ed6cfb7cb51c14cba6", func := "insolvency/insolvencylaw33.DocketCheck", spec := "docketCheck", unfollowed := true, recurses := true, apart := false, narrowed := true }
def DocketCheckUptoSaid : Prop := docketCheckUptoRow.holds Try.pinned (OpenSpec.upto docketCheckSpec)

/-- 'insolvencylaw33.DocketDue', WHERE WHAT IT READS IS OF BULK AT MOST 1048576: true; the input reads as it did. -/
def docketDueUptoRow : OpenClaim := { program := "ytpddpdkdlodniaa", sum := "2e302e06633eb15460d4461ad5545865c1d9207c64d162ed6cfb7cb51c14cba6", func := "insolvency/insolvencylaw33.DocketDue", spec := "docketDue", unfollowed := true, recurses := true, apart := false, narrowed := true }
def DocketDueUptoSaid : Prop := docketDueUptoRow.holds Try.pinned (OpenSpec.upto docketDueSpec)

/-- 'insolvencylaw33.DocketAdvance', WHERE WHAT IT READS IS OF BULK AT MOST 1048576: true; the input reads as it did. -/
def docketAdvanceUptoRow : OpenClaim := { program := "ytpddpdkdlodniaa", sum := "2e302e06633eb15460d4461ad5545865c1d9207c64d162ed6cfb7cb51c14cba6", func := "insolvency/insolvencylaw33.DocketAdvance", spec := "docketAdvance", unfollowed := true, recurses := true, apart := false, narrowed := true }
def DocketAdvanceUptoSaid : Prop := docketAdvanceUptoRow.holds Try.pinned (OpenSpec.upto docketAdvanceSpec)

/-- 'insolvencylaw33.DocketFile', WHERE WHAT IT READS IS OF BULK AT MOST 1048576: true; the input reads as it did. -/
def docketFileUptoRow : OpenClaim := { program := "ytpddpdkdlodniaa", sum := "2e302e06633eb15460d4461ad5545865c1d9207c64d162ed6cfb7cb51c14cba6", func := "insolvency/insolvencylaw33.DocketFile", spec := "docketFile", unfollowed := true, recurses := true, apart := false, narrowed := true }
def DocketFileUptoSaid : Prop := docketFileUptoRow.holds Try.pinned (OpenSpec.upto docketFileSpec)

/-- 'insolvencylaw33.DocketPlay', WHERE WHAT IT READS IS OF BULK AT MOST 1048576: true; the input reads as it did. -/
def docketPlayUptoRow : OpenClaim := { program := "ytpddpdkdlodniaa", sum := "2e302e06633eb15460d4461ad5545865c1d9207c64d162ed6cfb7cb51c14cba6", func := "insolvency/insolvencylaw33.DocketPlay", spec := "docketPlay", unfollowed := true, recurses := true, apart := false, narrowed := true }
def DocketPlayUptoSaid : Prop := docketPlayUptoRow.holds Try.pinned (OpenSpec.upto docketPlaySpec)

/-- 'insolvencylaw33.DocketMany', WHERE WHAT IT READS IS OF BULK AT MOST 1048576: true; the input reads as it did. -/
def docketManyUptoRow : OpenClaim := { program := "ytpddpdkdlodniaa", sum := "2e302e06633eb15460d4461ad5545865c1d9207c64d162ed6cfb7cb51c14cba6", func := "insolvency/insolvencylaw33.DocketMany", spec := "docketMany", unfollowed := true, recurses := true, apart := false, narrowed := true }
def DocketManyUptoSaid : Prop := docketManyUptoRow.holds Try.pinned (OpenSpec.upto docketManySpec)

end Rows
end Go.Proofs.Ytpddpdkdlodniaa
