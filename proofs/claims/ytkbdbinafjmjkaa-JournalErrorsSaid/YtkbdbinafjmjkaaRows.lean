/-
  No cell of these rows narrows 'for every input' (looked for: loops, veiled, ifaces, maps, wideKeys, modest, calm, conditions, laid).
  DERIVED. THE GIVEN ROWS OF THIS SEAT. 11 by the template 'for every input the law returns true; each argument reads behind the call as it read before'; 0 by the template 'total and deterministic' (their statements: YtkbdbinafjmjkaaTotals.lean).
  GIVEN WITH THE SEED: the statements are not yours to turn. If you find one false, say at which input.
  Laid BY PROGRAM, IN A SANDBOX (cutbox-rows.mjs): the forced cells as the released guide's own fill.sh prints them over the translation a91a894f375f6d47… (all of the seat's roots in one cut). By AI agents, Wed Nov 11 2026. No macro, syntax, notation, axiom, sorry.
-/
import Derived.Test.YtkbdbinafjmjkaaChecked
import GoSem.Claim
import GoSem.ClaimJoined
import GoSem.ClaimMapViews
import Derived.JoinedTies
import Derived.KernelRfl
namespace Go.Proofs.Ytkbdbinafjmjkaa
/- THE CELL 'sum', in the pinned program and in every row, IS THE sha256 OF THE DUMP (.gsa) THAT YtkbdbinafjmjkaaProg.lean LOADS. Nothing in Lean hashes anything: it is a label: what it is worth is what the hold of that sum in a sandbox is worth. -/
noncomputable def Try.pinned : Pinned := { name := "ytkbdbinafjmjkaa", sum := "a91a894f375f6d47eadf3c361bb62555790ffd01e4b576672bcafc3b41c9a57c", checked := Try.checked }
namespace Rows
def none {H : Type} : Left H := { results := [], args := [] }

/-- 'insolvencylaw36.DiskKept': WHATEVER THE INPUT: true; the input reads as it did. -/
def diskKeptSpec : ChangeSpec := { name := "diskKept", fn := fun _ => fun
  | [d1, d2, d3, d4] => { results := [.lit (.bool true)], args := [d1, d2, d3, d4] }
  | _ => none }
def diskKeptRow : OpenClaim := { program := "ytkbdbinafjmjkaa", sum := "a91a894f375f6d47eadf3c361bb62555790ffd01e4b576672bcafc3b41c9a57c", func := "insolvency/insolvencylaw36.DiskKept", spec := "diskKept", apart := false }
def DiskKeptSaid : Prop := diskKeptRow.holds Try.pinned (OpenSpec.ofChange diskKeptSpec)

/-- ITS FALSE NEIGHBOUR: 'it returns false'. Refute it at one input. -/
def diskKeptWrong : ChangeSpec := { name := "diskKept", fn := fun _ => fun
  | [d1, d2, d3, d4] => { results := [.lit (.bool false)], args := [d1, d2, d3, d4] }
  | _ => none }
def DiskKeptWrongFalsely : Prop := diskKeptRow.holds Try.pinned (OpenSpec.ofChange diskKeptWrong)

/-- 'insolvencylaw36.DiskOwn': WHATEVER THE INPUT: true; the input reads as it did. -/
def diskOwnSpec : ChangeSpec := { name := "diskOwn", fn := fun _ => fun
  | [d1, d2, d3] => { results := [.lit (.bool true)], args := [d1, d2, d3] }
  | _ => none }
def diskOwnRow : OpenClaim := { program := "ytkbdbinafjmjkaa", sum := "a91a894f375f6d47eadf3c361bb62555790ffd01e4b576672bcafc3b41c9a57c", func := "insolvency/insolvencylaw36.DiskOwn", spec := "diskOwn", apart := false }
def DiskOwnSaid : Prop := diskOwnRow.holds Try.pinned (OpenSpec.ofChange diskOwnSpec)

/-- ITS FALSE NEIGHBOUR: 'it returns false'. Refute it at one input. -/
def diskOwnWrong : ChangeSpec := { name := "diskOwn", fn := fun _ => fun
  | [d1, d2, d3] => { results := [.lit (.bool false)], args := [d1, d2, d3] }
  | _ => none }
def DiskOwnWrongFalsely : Prop := diskOwnRow.holds Try.pinned (OpenSpec.ofChange diskOwnWrong)

/-- 'insolvencylaw36.DiskPlays': WHATEVER THE INPUT: true; the input reads as it did. -/
def diskPlaysSpec : ChangeSpec := { name := "diskPlays", fn := fun _ => fun
  | [d1, d2, d3, d4, d5] => { results := [.lit (.bool true)], args := [d1, d2, d3, d4, d5] }
  | _ => none }
def diskPlaysRow : OpenClaim := { program := "ytkbdbinafjmjkaa", sum := "a91a894f375f6d47eadf3c361bb62555790ffd01e4b576672bcafc3b41c9a57c", func := "insolvency/insolvencylaw36.DiskPlays", spec := "diskPlays", apart := false }
def DiskPlaysSaid : Prop := diskPlaysRow.holds Try.pinned (OpenSpec.ofChange diskPlaysSpec)

/-- ITS FALSE NEIGHBOUR: 'it returns false'. Refute it at one input. -/
def diskPlaysWrong : ChangeSpec := { name := "diskPlays", fn := fun _ => fun
  | [d1, d2, d3, d4, d5] => { results := [.lit (.bool false)], args := [d1, d2, d3, d4, d5] }
  | _ => none }
def DiskPlaysWrongFalsely : Prop := diskPlaysRow.holds Try.pinned (OpenSpec.ofChange diskPlaysWrong)

/-- 'insolvencylaw36.DiskNew': WHATEVER THE INPUT: true; the input reads as it did. -/
def diskNewSpec : ChangeSpec := { name := "diskNew", fn := fun _ => fun
  | [d1, d2, d3, d4] => { results := [.lit (.bool true)], args := [d1, d2, d3, d4] }
  | _ => none }
def diskNewRow : OpenClaim := { program := "ytkbdbinafjmjkaa", sum := "a91a894f375f6d47eadf3c361bb62555790ffd01e4b576672bcafc3b41c9a57c", func := "insolvency/insolvencylaw36.DiskNew", spec := "diskNew", apart := false }
def DiskNewSaid : Prop := diskNewRow.holds Try.pinned (OpenSpec.ofChange diskNewSpec)

/-- ITS FALSE NEIGHBOUR: 'it returns false'. Refute it at one input. -/
def diskNewWrong : ChangeSpec := { name := "diskNew", fn := fun _ => fun
  | [d1, d2, d3, d4] => { results := [.lit (.bool false)], args := [d1, d2, d3, d4] }
  | _ => none }
def DiskNewWrongFalsely : Prop := diskNewRow.holds Try.pinned (OpenSpec.ofChange diskNewWrong)

/-- 'insolvencylaw37.JournalPlays': WHATEVER THE INPUT: true; the input reads as it did. -/
def journalPlaysSpec : ChangeSpec := { name := "journalPlays", fn := fun _ => fun
  | [d1, d2, d3] => { results := [.lit (.bool true)], args := [d1, d2, d3] }
  | _ => none }
def journalPlaysRow : OpenClaim := { program := "ytkbdbinafjmjkaa", sum := "a91a894f375f6d47eadf3c361bb62555790ffd01e4b576672bcafc3b41c9a57c", func := "insolvency/insolvencylaw37.JournalPlays", spec := "journalPlays", unfollowed := true, recurses := true, apart := false }
def JournalPlaysSaid : Prop := journalPlaysRow.holds Try.pinned (OpenSpec.ofChange journalPlaysSpec)

/-- ITS FALSE NEIGHBOUR: 'it returns false'. Refute it at one input. -/
def journalPlaysWrong : ChangeSpec := { name := "journalPlays", fn := fun _ => fun
  | [d1, d2, d3] => { results := [.lit (.bool false)], args := [d1, d2, d3] }
  | _ => none }
def JournalPlaysWrongFalsely : Prop := journalPlaysRow.holds Try.pinned (OpenSpec.ofChange journalPlaysWrong)

/-- 'insolvencylaw37.JournalErrors': WHATEVER THE INPUT: true; the input reads as it did. -/
def journalErrorsSpec : ChangeSpec := { name := "journalErrors", fn := fun _ => fun
  | [d1, d2, d3] => { results := [.lit (.bool true)], args := [d1, d2, d3] }
  | _ => none }
def journalErrorsRow : OpenClaim := { program := "ytkbdbinafjmjkaa", sum := "a91a894f375f6d47eadf3c361bb62555790ffd01e4b576672bcafc3b41c9a57c", func := "insolvency/insolvencylaw37.JournalErrors", spec := "journalErrors", unfollowed := true, recurses := true, apart := false }
def JournalErrorsSaid : Prop := journalErrorsRow.holds Try.pinned (OpenSpec.ofChange journalErrorsSpec)

/-- ITS FALSE NEIGHBOUR: 'it returns false'. Refute it at one input. -/
def journalErrorsWrong : ChangeSpec := { name := "journalErrors", fn := fun _ => fun
  | [d1, d2, d3] => { results := [.lit (.bool false)], args := [d1, d2, d3] }
  | _ => none }
def JournalErrorsWrongFalsely : Prop := journalErrorsRow.holds Try.pinned (OpenSpec.ofChange journalErrorsWrong)

/-- 'insolvencylaw37.JournalRoom': WHATEVER THE INPUT: true; the input reads as it did. -/
def journalRoomSpec : ChangeSpec := { name := "journalRoom", fn := fun _ => fun
  | [d1, d2] => { results := [.lit (.bool true)], args := [d1, d2] }
  | _ => none }
def journalRoomRow : OpenClaim := { program := "ytkbdbinafjmjkaa", sum := "a91a894f375f6d47eadf3c361bb62555790ffd01e4b576672bcafc3b41c9a57c", func := "insolvency/insolvencylaw37.JournalRoom", spec := "journalRoom", unfollowed := true, recurses := true, apart := false }
def JournalRoomSaid : Prop := journalRoomRow.holds Try.pinned (OpenSpec.ofChange journalRoomSpec)

/-- ITS FALSE NEIGHBOUR: 'it returns false'. Refute it at one input. -/
def journalRoomWrong : ChangeSpec := { name := "journalRoom", fn := fun _ => fun
  | [d1, d2] => { results := [.lit (.bool false)], args := [d1, d2] }
  | _ => none }
def JournalRoomWrongFalsely : Prop := journalRoomRow.holds Try.pinned (OpenSpec.ofChange journalRoomWrong)

/-- 'insolvencylaw37.JournalNone': WHATEVER THE INPUT: true; the input reads as it did. -/
def journalNoneSpec : ChangeSpec := { name := "journalNone", fn := fun _ => fun
  | [d1, d2] => { results := [.lit (.bool true)], args := [d1, d2] }
  | _ => none }
def journalNoneRow : OpenClaim := { program := "ytkbdbinafjmjkaa", sum := "a91a894f375f6d47eadf3c361bb62555790ffd01e4b576672bcafc3b41c9a57c", func := "insolvency/insolvencylaw37.JournalNone", spec := "journalNone", unfollowed := true, recurses := true, apart := false }
def JournalNoneSaid : Prop := journalNoneRow.holds Try.pinned (OpenSpec.ofChange journalNoneSpec)

/-- ITS FALSE NEIGHBOUR: 'it returns false'. Refute it at one input. -/
def journalNoneWrong : ChangeSpec := { name := "journalNone", fn := fun _ => fun
  | [d1, d2] => { results := [.lit (.bool false)], args := [d1, d2] }
  | _ => none }
def JournalNoneWrongFalsely : Prop := journalNoneRow.holds Try.pinned (OpenSpec.ofChange journalNoneWrong)

/-- 'insolvencylaw37.JournalOwn': WHATEVER THE INPUT: true; the input reads as it did. -/
def journalOwnSpec : ChangeSpec := { name := "journalOwn", fn := fun _ => fun
  | [d1, d2, d3] => { results := [.lit (.bool true)], args := [d1, d2, d3] }
  | _ => none }
def journalOwnRow : OpenClaim := { program := "ytkbdbinafjmjkaa", sum := "a91a894f375f6d47eadf3c361bb62555790ffd01e4b576672bcafc3b41c9a57c", func := "insolvency/insolvencylaw37.JournalOwn", spec := "journalOwn", unfollowed := true, recurses := true, apart := false }
def JournalOwnSaid : Prop := journalOwnRow.holds Try.pinned (OpenSpec.ofChange journalOwnSpec)

/-- ITS FALSE NEIGHBOUR: 'it returns false'. Refute it at one input. -/
def journalOwnWrong : ChangeSpec := { name := "journalOwn", fn := fun _ => fun
  | [d1, d2, d3] => { results := [.lit (.bool false)], args := [d1, d2, d3] }
  | _ => none }
def JournalOwnWrongFalsely : Prop := journalOwnRow.holds Try.pinned (OpenSpec.ofChange journalOwnWrong)

/-- 'insolvencylaw37.JournalCrash': WHATEVER THE INPUT: true; the input reads as it did. -/
def journalCrashSpec : ChangeSpec := { name := "journalCrash", fn := fun _ => fun
  | [d1, d2, d3] => { results := [.lit (.bool true)], args := [d1, d2, d3] }
  | _ => none }
def journalCrashRow : OpenClaim := { program := "ytkbdbinafjmjkaa", sum := "a91a894f375f6d47eadf3c361bb62555790ffd01e4b576672bcafc3b41c9a57c", func := "insolvency/insolvencylaw37.JournalCrash", spec := "journalCrash", unfollowed := true, recurses := true, apart := false }
def JournalCrashSaid : Prop := journalCrashRow.holds Try.pinned (OpenSpec.ofChange journalCrashSpec)

/-- ITS FALSE NEIGHBOUR: 'it returns false'. Refute it at one input. -/
def journalCrashWrong : ChangeSpec := { name := "journalCrash", fn := fun _ => fun
  | [d1, d2, d3] => { results := [.lit (.bool false)], args := [d1, d2, d3] }
  | _ => none }
def JournalCrashWrongFalsely : Prop := journalCrashRow.holds Try.pinned (OpenSpec.ofChange journalCrashWrong)

/-- 'insolvencylaw37.JournalOn': WHATEVER THE INPUT: true; the input reads as it did. -/
def journalOnSpec : ChangeSpec := { name := "journalOn", fn := fun _ => fun
  | [d1, d2, d3, d4, d5] => { results := [.lit (.bool true)], args := [d1, d2, d3, d4, d5] }
  | _ => none }
def journalOnRow : OpenClaim := { program := "ytkbdbinafjmjkaa", sum := "a91a894f375f6d47eadf3c361bb62555790ffd01e4b576672bcafc3b41c9a57c", func := "insolvency/insolvencylaw37.JournalOn", spec := "journalOn", unfollowed := true, recurses := true, apart := false }
def JournalOnSaid : Prop := journalOnRow.holds Try.pinned (OpenSpec.ofChange journalOnSpec)

/-- ITS FALSE NEIGHBOUR: 'it returns false'. Refute it at one input. -/
def journalOnWrong : ChangeSpec := { name := "journalOn", fn := fun _ => fun
  | [d1, d2, d3, d4, d5] => { results := [.lit (.bool false)], args := [d1, d2, d3, d4, d5] }
  | _ => none }
def JournalOnWrongFalsely : Prop := journalOnRow.holds Try.pinned (OpenSpec.ofChange journalOnWrong)

/- THE SECOND FORM. 'bulk': how many values and letters a reading holds, each counted each time it is reached (what is shared counts as often as it is met; a slice's spare places count too). A statement '..UptoSaid' is the law's where the arguments, and the package variables that the reading takes, are together of bulk at most 1048576: NARROWER than '..Said'. Prove '..Said' where nothing that the law and all that it calls make is longer than what came in: it says more and counts as full. Else prove '..UptoSaid'. A law counts once. -/
mutual
def uptoBulk {H : Type} : DataW H → Nat
  | .lit (.string bytes) => bytes.length + 1
  | .lit _ => 1
  | .nil => 1
  | .ptr d => uptoBulk d + 1
  | .slice elems spare => uptoBulkAll elems + uptoBulkAll spare + 1
  | .agg parts => uptoBulkAll parts + 1
  | .iface _ d => uptoBulk d + 1
  | .map entries => uptoBulkEntries entries + 1
  | .held _ => 1
def uptoBulkAll {H : Type} : List (DataW H) → Nat
  | [] => 0
  | d :: r => uptoBulk d + uptoBulkAll r
def uptoBulkEntries {H : Type} : List (Lit × DataW H) → Nat
  | [] => 0
  | x :: r => uptoBulkEntry x + uptoBulkEntries r
def uptoBulkEntry {H : Type} : Lit × DataW H → Nat
  | (.string bytes, d) => bytes.length + uptoBulk d + 1
  | (_, d) => uptoBulk d + 1
 end
def uptoSmall : (H : Type) → List (DataW H) → Bool := fun _ ds => decide (uptoBulkAll ds ≤ 1048576)
def OpenSpec.upto (s : _root_.Go.ChangeSpec) : _root_.Go.OpenSpec := { _root_.Go.OpenSpec.ofChange s with cond := some uptoSmall }

/-- 'insolvencylaw36.DiskKept', WHERE WHAT IT READS IS OF BULK AT MOST 1048576: true; the input reads as it did. -/
def diskKeptUptoRow : OpenClaim := { program := "ytkbdbinafjmjkaa", sum := "a91a894f375f6d47eadf3c361bb62555790ffd01e4b576672bcafc3b41c9a57c", func := "insolvency/insolvencylaw36.DiskKept", spec := "diskKept", apart := false, narrowed := true }
def DiskKeptUptoSaid : Prop := diskKeptUptoRow.holds Try.pinned (OpenSpec.upto diskKeptSpec)

/-- 'insolvencylaw36.DiskOwn', WHERE WHAT IT READS IS OF BULK AT MOST 1048576: true; the input reads as it did. -/
def diskOwnUptoRow : OpenClaim := { program := "ytkbdbinafjmjkaa", sum := "a91a894f375f6d47eadf3c361bb62555790ffd01e4b576672bcafc3b41c9a57c", func := "insolvency/insolvencylaw36.DiskOwn", spec := "diskOwn", apart := false, narrowed := true }
def DiskOwnUptoSaid : Prop := diskOwnUptoRow.holds Try.pinned (OpenSpec.upto diskOwnSpec)

/-- 'insolvencylaw36.DiskPlays', WHERE WHAT IT READS IS OF BULK AT MOST 1048576: true; the input reads as it did. -/
def diskPlaysUptoRow : OpenClaim := { program := "ytkbdbinafjmjkaa", sum := "a91a894f375f6d47eadf3c361bb62555790ffd01e4b576672bcafc3b41c9a57c", func := "insolvency/insolvencylaw36.DiskPlays", spec := "diskPlays", apart := false, narrowed := true }
def DiskPlaysUptoSaid : Prop := diskPlaysUptoRow.holds Try.pinned (OpenSpec.upto diskPlaysSpec)

/-- 'insolvencylaw36.DiskNew', WHERE WHAT IT READS IS OF BULK AT MOST 1048576: true; the input reads as it did. -/
def diskNewUptoRow : OpenClaim := { program := "ytkbdbinafjmjkaa", sum := "a91a894f375f6d47eadf3c361bb62555790ffd01e4b576672bcafc3b41c9a57c", func := "insolvency/insolvencylaw36.DiskNew", spec := "diskNew", apart := false, narrowed := true }
def DiskNewUptoSaid : Prop := diskNewUptoRow.holds Try.pinned (OpenSpec.upto diskNewSpec)

/-- 'insolvencylaw37.JournalPlays', WHERE WHAT IT READS IS OF BULK AT MOST 1048576: true; the input reads as it did. -/
def journalPlaysUptoRow : OpenClaim := { program := "ytkbdbinafjmjkaa", sum := "a91a894f375f6d47eadf3c361bb62555790ffd01e4b576672bcafc3b41c9a57c", func := "insolvency/insolvencylaw37.JournalPlays", spec := "journalPlays", unfollowed := true, recurses := true, apart := false, narrowed := true }
def JournalPlaysUptoSaid : Prop := journalPlaysUptoRow.holds Try.pinned (OpenSpec.upto journalPlaysSpec)

/-- 'insolvencylaw37.JournalErrors', WHERE WHAT IT READS IS OF BULK AT MOST 1048576: true; the input reads as it did. -/
def journalErrorsUptoRow : OpenClaim := { program := "ytkbdbinafjmjkaa", sum := "a91a894f375f6d47eadf3c361bb62555790ffd01e4b576672bcafc3b41c9a57c", func := "insolvency/insolvencylaw37.JournalErrors", spec := "journalErrors", unfollowed := true, recurses := true, apart := false, narrowed := true }
def JournalErrorsUptoSaid : Prop := journalErrorsUptoRow.holds Try.pinned (OpenSpec.upto journalErrorsSpec)

/-- 'insolvencylaw37.JournalRoom', WHERE WHAT IT READS IS OF BULK AT MOST 1048576: true; the input reads as it did. -/
def journalRoomUptoRow : OpenClaim := { program := "ytkbdbinafjmjkaa", sum := "a91a894f375f6d47eadf3c361bb62555790ffd01e4b576672bcafc3b41c9a57c", func := "insolvency/insolvencylaw37.JournalRoom", spec := "journalRoom", unfollowed := true, recurses := true, apart := false, narrowed := true }
def JournalRoomUptoSaid : Prop := journalRoomUptoRow.holds Try.pinned (OpenSpec.upto journalRoomSpec)

/-- 'insolvencylaw37.JournalNone', WHERE WHAT IT READS IS OF BULK AT MOST 1048576: true; the input reads as it did. -/
def journalNoneUptoRow : OpenClaim := { program := "ytkbdbinafjmjkaa", sum := "a91a894f375f6d47eadf3c361bb62555790ffd01e4b576672bcafc3b41c9a57c", func := "insolvency/insolvencylaw37.JournalNone", spec := "journalNone", unfollowed := true, recurses := true, apart := false, narrowed := true }
def JournalNoneUptoSaid : Prop := journalNoneUptoRow.holds Try.pinned (OpenSpec.upto journalNoneSpec)

/-- 'insolvencylaw37.JournalOwn', WHERE WHAT IT READS IS OF BULK AT MOST 1048576: true; the input reads as it did. -/
def journalOwnUptoRow : OpenClaim := { program := "ytkbdbinafjmjkaa", sum := "a91a894f375f6d47eadf3c361bb62555790ffd01e4b576672bcafc3b41c9a57c", func := "insolvency/insolvencylaw37.JournalOwn", spec := "journalOwn", unfollowed := true, recurses := true, apart := false, narrowed := true }
def JournalOwnUptoSaid : Prop := journalOwnUptoRow.holds Try.pinned (OpenSpec.upto journalOwnSpec)

/-- 'insolvencylaw37.JournalCrash', WHERE WHAT IT READS IS OF BULK AT MOST 1048576: true; the input reads as it did. -/
def journalCrashUptoRow : OpenClaim := { program := "ytkbdbinafjmjkaa", sum := "a91a894f375f6d47eadf3c361bb62555790ffd01e4b576672bcafc3b41c9a57c", func := "insolvency/insolvencylaw37.JournalCrash", spec := "journalCrash", unfollowed := true, recurses := true, apart := false, narrowed := true }
def JournalCrashUptoSaid : Prop := journalCrashUptoRow.holds Try.pinned (OpenSpec.upto journalCrashSpec)

/-- 'insolvencylaw37.JournalOn', WHERE WHAT IT READS IS OF BULK AT MOST 1048576: true; the input reads as it did. -/
def journalOnUptoRow : OpenClaim := { program := "ytkbdbinafjmjkaa", sum := "a91a894f375f6d47eadf3c361bb62555790ffd01e4b576672bcafc3b41c9a57c", func := "insolvency/insolvencylaw37.JournalOn", spec := "journalOn", unfollowed := true, recurses := true, apart := false, narrowed := true }
def JournalOnUptoSaid : Prop := journalOnUptoRow.holds Try.pinned (OpenSpec.upto journalOnSpec)

end Rows
end Go.Proofs.Ytkbdbinafjmjkaa
