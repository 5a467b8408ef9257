/-
  No cell of these rows narrows 'for every input' (looked for: loops, veiled, ifaces, maps, wideKeys, modest, calm, conditions, laid).
  DERIVED. THE GIVEN ROWS OF THIS SEAT. 10 by the template 'for every input the law returns true; each argument reads behind the call as it read before'; 0 by the template 'total and deterministic' (their statements: YtgabecolmldbjaaTotals.lean).
  GIVEN WITH THE SEED: the statements are not yours to turn. If you find one false, say at which input.
  Laid BY PROGRAM, IN A SANDBOX (cutbox-rows.mjs): the forced cells as the released guide's own fill.sh prints them over the translation 0dccf643dfb166fb… (all of the seat's roots in one cut). By AI agents, Wed Nov 11 2026. No macro, syntax, notation, axiom, sorry.
-/
import Derived.Test.YtgabecolmldbjaaChecked
import GoSem.Claim
import GoSem.ClaimJoined
import GoSem.ClaimMapViews
import Derived.JoinedTies
import Derived.KernelRfl
namespace Go.Proofs.Ytgabecolmldbjaa
/- THE CELL 'sum', in the pinned program and in every row, IS THE sha256 OF THE DUMP (.gsa) THAT YtgabecolmldbjaaProg.lean LOADS. Nothing in Lean hashes anything: it is a label: what it is worth is what the hold of that sum in a sandbox is worth. -/
noncomputable def Try.pinned : Pinned := { name := "ytgabecolmldbjaa", sum := "0dccf643dfb166fb657deab3abe42d5520ce1dbd188318659ff6f6bbceea738f", checked := Try.checked }
namespace Rows
def none {H : Type} : Left H := { results := [], args := [] }

/-- 'insolvencylaw5.CalendarWeekday': WHATEVER THE INPUT: true; the input reads as it did. -/
def calendarWeekdaySpec : ChangeSpec := { name := "calendarWeekday", fn := fun _ => fun
  | [d] => { results := [.lit (.bool true)], args := [d] }
  | _ => none }
def calendarWeekdayRow : OpenClaim := { program := "ytgabecolmldbjaa", sum := "0dccf643dfb166fb657deab3abe42d5520ce1dbd188318659ff6f6bbceea738f", func := "insolvency/insolvencylaw5.CalendarWeekday", spec := "calendarWeekday", unfollowed := true, recurses := true, plainKeys := false, apart := false }
def CalendarWeekdaySaid : Prop := calendarWeekdayRow.holds Try.pinned (OpenSpec.ofChange calendarWeekdaySpec)

/-- ITS FALSE NEIGHBOUR: 'it returns false'. Refute it at one input. -/
def calendarWeekdayWrong : ChangeSpec := { name := "calendarWeekday", fn := fun _ => fun
  | [d] => { results := [.lit (.bool false)], args := [d] }
  | _ => none }
def CalendarWeekdayWrongFalsely : Prop := calendarWeekdayRow.holds Try.pinned (OpenSpec.ofChange calendarWeekdayWrong)

/-- 'insolvencylaw5.CalendarNext': WHATEVER THE INPUT: true; the input reads as it did. -/
def calendarNextSpec : ChangeSpec := { name := "calendarNext", fn := fun _ => fun
  | [d1, d2] => { results := [.lit (.bool true)], args := [d1, d2] }
  | _ => none }
def calendarNextRow : OpenClaim := { program := "ytgabecolmldbjaa", sum := "0dccf643dfb166fb657deab3abe42d5520ce1dbd188318659ff6f6bbceea738f", func := "insolvency/insolvencylaw5.CalendarNext", spec := "calendarNext", unfollowed := true, recurses := true, plainKeys := false, apart := false }
def CalendarNextSaid : Prop := calendarNextRow.holds Try.pinned (OpenSpec.ofChange calendarNextSpec)

/-- ITS FALSE NEIGHBOUR: 'it returns false'. Refute it at one input. -/
def calendarNextWrong : ChangeSpec := { name := "calendarNext", fn := fun _ => fun
  | [d1, d2] => { results := [.lit (.bool false)], args := [d1, d2] }
  | _ => none }
def CalendarNextWrongFalsely : Prop := calendarNextRow.holds Try.pinned (OpenSpec.ofChange calendarNextWrong)

/-- 'insolvencylaw5.CalendarAdd': WHATEVER THE INPUT: true; the input reads as it did. -/
def calendarAddSpec : ChangeSpec := { name := "calendarAdd", fn := fun _ => fun
  | [d1, d2, d3] => { results := [.lit (.bool true)], args := [d1, d2, d3] }
  | _ => none }
def calendarAddRow : OpenClaim := { program := "ytgabecolmldbjaa", sum := "0dccf643dfb166fb657deab3abe42d5520ce1dbd188318659ff6f6bbceea738f", func := "insolvency/insolvencylaw5.CalendarAdd", spec := "calendarAdd", unfollowed := true, recurses := true, plainKeys := false, apart := false }
def CalendarAddSaid : Prop := calendarAddRow.holds Try.pinned (OpenSpec.ofChange calendarAddSpec)

/-- ITS FALSE NEIGHBOUR: 'it returns false'. Refute it at one input. -/
def calendarAddWrong : ChangeSpec := { name := "calendarAdd", fn := fun _ => fun
  | [d1, d2, d3] => { results := [.lit (.bool false)], args := [d1, d2, d3] }
  | _ => none }
def CalendarAddWrongFalsely : Prop := calendarAddRow.holds Try.pinned (OpenSpec.ofChange calendarAddWrong)

/-- 'insolvencylaw5.CalendarSteps': WHATEVER THE INPUT: true; the input reads as it did. -/
def calendarStepsSpec : ChangeSpec := { name := "calendarSteps", fn := fun _ => fun
  | [d1, d2, d3, d4] => { results := [.lit (.bool true)], args := [d1, d2, d3, d4] }
  | _ => none }
def calendarStepsRow : OpenClaim := { program := "ytgabecolmldbjaa", sum := "0dccf643dfb166fb657deab3abe42d5520ce1dbd188318659ff6f6bbceea738f", func := "insolvency/insolvencylaw5.CalendarSteps", spec := "calendarSteps", unfollowed := true, recurses := true, plainKeys := false, apart := false }
def CalendarStepsSaid : Prop := calendarStepsRow.holds Try.pinned (OpenSpec.ofChange calendarStepsSpec)

/-- ITS FALSE NEIGHBOUR: 'it returns false'. Refute it at one input. -/
def calendarStepsWrong : ChangeSpec := { name := "calendarSteps", fn := fun _ => fun
  | [d1, d2, d3, d4] => { results := [.lit (.bool false)], args := [d1, d2, d3, d4] }
  | _ => none }
def CalendarStepsWrongFalsely : Prop := calendarStepsRow.holds Try.pinned (OpenSpec.ofChange calendarStepsWrong)

/-- 'insolvencylaw5.CalendarCount': WHATEVER THE INPUT: true; the input reads as it did. -/
def calendarCountSpec : ChangeSpec := { name := "calendarCount", fn := fun _ => fun
  | [d1, d2, d3] => { results := [.lit (.bool true)], args := [d1, d2, d3] }
  | _ => none }
def calendarCountRow : OpenClaim := { program := "ytgabecolmldbjaa", sum := "0dccf643dfb166fb657deab3abe42d5520ce1dbd188318659ff6f6bbceea738f", func := "insolvency/insolvencylaw5.CalendarCount", spec := "calendarCount", unfollowed := true, recurses := true, plainKeys := false, apart := false }
def CalendarCountSaid : Prop := calendarCountRow.holds Try.pinned (OpenSpec.ofChange calendarCountSpec)

/-- ITS FALSE NEIGHBOUR: 'it returns false'. Refute it at one input. -/
def calendarCountWrong : ChangeSpec := { name := "calendarCount", fn := fun _ => fun
  | [d1, d2, d3] => { results := [.lit (.bool false)], args := [d1, d2, d3] }
  | _ => none }
def CalendarCountWrongFalsely : Prop := calendarCountRow.holds Try.pinned (OpenSpec.ofChange calendarCountWrong)

/-- 'insolvencylaw5.CalendarMany': WHATEVER THE INPUT: true; the input reads as it did. -/
def calendarManySpec : ChangeSpec := { name := "calendarMany", fn := fun _ => fun
  | [d] => { results := [.lit (.bool true)], args := [d] }
  | _ => none }
def calendarManyRow : OpenClaim := { program := "ytgabecolmldbjaa", sum := "0dccf643dfb166fb657deab3abe42d5520ce1dbd188318659ff6f6bbceea738f", func := "insolvency/insolvencylaw5.CalendarMany", spec := "calendarMany", unfollowed := true, recurses := true, plainKeys := false, apart := false }
def CalendarManySaid : Prop := calendarManyRow.holds Try.pinned (OpenSpec.ofChange calendarManySpec)

/-- ITS FALSE NEIGHBOUR: 'it returns false'. Refute it at one input. -/
def calendarManyWrong : ChangeSpec := { name := "calendarMany", fn := fun _ => fun
  | [d] => { results := [.lit (.bool false)], args := [d] }
  | _ => none }
def CalendarManyWrongFalsely : Prop := calendarManyRow.holds Try.pinned (OpenSpec.ofChange calendarManyWrong)

/-- 'insolvencylaw5.CalendarSplit': WHATEVER THE INPUT: true; the input reads as it did. -/
def calendarSplitSpec : ChangeSpec := { name := "calendarSplit", fn := fun _ => fun
  | [d1, d2, d3, d4] => { results := [.lit (.bool true)], args := [d1, d2, d3, d4] }
  | _ => none }
def calendarSplitRow : OpenClaim := { program := "ytgabecolmldbjaa", sum := "0dccf643dfb166fb657deab3abe42d5520ce1dbd188318659ff6f6bbceea738f", func := "insolvency/insolvencylaw5.CalendarSplit", spec := "calendarSplit", unfollowed := true, recurses := true, plainKeys := false, apart := false }
def CalendarSplitSaid : Prop := calendarSplitRow.holds Try.pinned (OpenSpec.ofChange calendarSplitSpec)

/-- ITS FALSE NEIGHBOUR: 'it returns false'. Refute it at one input. -/
def calendarSplitWrong : ChangeSpec := { name := "calendarSplit", fn := fun _ => fun
  | [d1, d2, d3, d4] => { results := [.lit (.bool false)], args := [d1, d2, d3, d4] }
  | _ => none }
def CalendarSplitWrongFalsely : Prop := calendarSplitRow.holds Try.pinned (OpenSpec.ofChange calendarSplitWrong)

/-- 'insolvencylaw5.CalendarBusiness': WHATEVER THE INPUT: true; the input reads as it did. -/
def calendarBusinessSpec : ChangeSpec := { name := "calendarBusiness", fn := fun _ => fun
  | [d1, d2] => { results := [.lit (.bool true)], args := [d1, d2] }
  | _ => none }
def calendarBusinessRow : OpenClaim := { program := "ytgabecolmldbjaa", sum := "0dccf643dfb166fb657deab3abe42d5520ce1dbd188318659ff6f6bbceea738f", func := "insolvency/insolvencylaw5.CalendarBusiness", spec := "calendarBusiness", unfollowed := true, recurses := true, plainKeys := false, apart := false }
def CalendarBusinessSaid : Prop := calendarBusinessRow.holds Try.pinned (OpenSpec.ofChange calendarBusinessSpec)

/-- ITS FALSE NEIGHBOUR: 'it returns false'. Refute it at one input. -/
def calendarBusinessWrong : ChangeSpec := { name := "calendarBusiness", fn := fun _ => fun
  | [d1, d2] => { results := [.lit (.bool false)], args := [d1, d2] }
  | _ => none }
def CalendarBusinessWrongFalsely : Prop := calendarBusinessRow.holds Try.pinned (OpenSpec.ofChange calendarBusinessWrong)

/-- 'insolvencylaw5.CalendarInverse': WHATEVER THE INPUT: true; the input reads as it did. -/
def calendarInverseSpec : ChangeSpec := { name := "calendarInverse", fn := fun _ => fun
  | [d1, d2, d3] => { results := [.lit (.bool true)], args := [d1, d2, d3] }
  | _ => none }
def calendarInverseRow : OpenClaim := { program := "ytgabecolmldbjaa", sum := "0dccf643dfb166fb657deab3abe42d5520ce1dbd188318659ff6f6bbceea738f", func := "insolvency/insolvencylaw5.CalendarInverse", spec := "calendarInverse", unfollowed := true, recurses := true, plainKeys := false, apart := false }
def CalendarInverseSaid : Prop := calendarInverseRow.holds Try.pinned (OpenSpec.ofChange calendarInverseSpec)

/-- ITS FALSE NEIGHBOUR: 'it returns false'. Refute it at one input. -/
def calendarInverseWrong : ChangeSpec := { name := "calendarInverse", fn := fun _ => fun
  | [d1, d2, d3] => { results := [.lit (.bool false)], args := [d1, d2, d3] }
  | _ => none }
def CalendarInverseWrongFalsely : Prop := calendarInverseRow.holds Try.pinned (OpenSpec.ofChange calendarInverseWrong)

/-- 'insolvencylaw34.NoticeDeadlines': WHATEVER THE INPUT: true; the input reads as it did. -/
def noticeDeadlinesSpec : ChangeSpec := { name := "noticeDeadlines", fn := fun _ => fun
  | [d1, d2, d3, d4, d5] => { results := [.lit (.bool true)], args := [d1, d2, d3, d4, d5] }
  | _ => none }
def noticeDeadlinesRow : OpenClaim := { program := "ytgabecolmldbjaa", sum := "0dccf643dfb166fb657deab3abe42d5520ce1dbd188318659ff6f6bbceea738f", func := "insolvency/insolvencylaw34.NoticeDeadlines", spec := "noticeDeadlines", unfollowed := true, recurses := true, plainKeys := false, apart := false }
def NoticeDeadlinesSaid : Prop := noticeDeadlinesRow.holds Try.pinned (OpenSpec.ofChange noticeDeadlinesSpec)

/-- ITS FALSE NEIGHBOUR: 'it returns false'. Refute it at one input. -/
def noticeDeadlinesWrong : ChangeSpec := { name := "noticeDeadlines", fn := fun _ => fun
  | [d1, d2, d3, d4, d5] => { results := [.lit (.bool false)], args := [d1, d2, d3, d4, d5] }
  | _ => none }
def NoticeDeadlinesWrongFalsely : Prop := noticeDeadlinesRow.holds Try.pinned (OpenSpec.ofChange noticeDeadlinesWrong)

/- THE SECOND FORM. 'bulk': how many values and letters a reading holds, each counted each time it is reached (what is shared counts as often as it is met; a slice's spare places count too). A statement '..UptoSaid' is the law's where the arguments, and the package variables that the reading takes, are together of bulk at most 1048576: NARROWER than '..Said'. Prove '..Said' where nothing that the law and all that it calls make is longer than what came in: it says more and counts as full. Else prove '..UptoSaid'. A law counts once. -/
mutual
def uptoBulk {H : Type} : DataW H → Nat
  | .lit (.string bytes) => bytes.length + 1
  | .lit _ => 1
  | .nil => 1
  | .ptr d => uptoBulk d + 1
  | .slice elems spare => uptoBulkAll elems + uptoBulkAll spare + 1
  | .agg parts => uptoBulkAll parts + 1
  | .iface _ d => uptoBulk d + 1
  | .map entries => uptoBulkEntries entries + 1
  | .held _ => 1
def uptoBulkAll {H : Type} : List (DataW H) → Nat
  | [] => 0
  | d :: r => uptoBulk d + uptoBulkAll r
def uptoBulkEntries {H : Type} : List (Lit × DataW H) → Nat
  | [] => 0
  | x :: r => uptoBulkEntry x + uptoBulkEntries r
def uptoBulkEntry {H : Type} : Lit × DataW H → Nat
  | (.string bytes, d) => bytes.length + uptoBulk d + 1
  | (_, d) => uptoBulk d + 1
 end
def uptoSmall : (H : Type) → List (DataW H) → Bool := fun _ ds => decide (uptoBulkAll ds ≤ 1048576)
def OpenSpec.upto (s : _root_.Go.ChangeSpec) : _root_.Go.OpenSpec := { _root_.Go.OpenSpec.ofChange s with cond := some uptoSmall }

/-- 'insolvencylaw5.CalendarWeekday', WHERE WHAT IT READS IS OF BULK AT MOST 1048576: true; the input reads as it did. -/
def calendarWeekdayUptoRow : OpenClaim := { program := "ytgabecolmldbjaa", sum := "0dccf643dfb166fb657deab3abe42d5520ce1dbd188318659ff6f6bbceea738f", func := "insolvency/insolvencylaw5.CalendarWeekday", spec := "calendarWeekday", unfollowed := true, recurses := true, plainKeys := false, apart := false, narrowed := true }
def CalendarWeekdayUptoSaid : Prop := calendarWeekdayUptoRow.holds Try.pinned (OpenSpec.upto calendarWeekdaySpec)

/-- 'insolvencylaw5.CalendarNext', WHERE WHAT IT READS IS OF BULK AT MOST 1048576: true; the input reads as it did. -/
def calendarNextUptoRow : OpenClaim := { program := "ytgabecolmldbjaa", sum := "0dccf643dfb166fb657deab3abe42d5520ce1dbd188318659ff6f6bbceea738f", func := "insolvency/insolvencylaw5.CalendarNext", spec := "calendarNext", unfollowed := true, recurses := true, plainKeys := false, apart := false, narrowed := true }
def CalendarNextUptoSaid : Prop := calendarNextUptoRow.holds Try.pinned (OpenSpec.upto calendarNextSpec)

/-- 'insolvencylaw5.CalendarAdd', WHERE WHAT IT READS IS OF BULK AT MOST 1048576: true; the input reads as it did. -/
def calendarAddUptoRow : OpenClaim := { program := "ytgabecolmldbjaa", sum := "0dccf643dfb166fb657deab3abe42d5520ce1dbd188318659ff6f6bbceea738f", func := "insolvency/insolvencylaw5.CalendarAdd", spec := "calendarAdd", unfollowed := true, recurses := true, plainKeys := false, apart := false, narrowed := true }
def CalendarAddUptoSaid : Prop := calendarAddUptoRow.holds Try.pinned (OpenSpec.upto calendarAddSpec)

/-- 'insolvencylaw5.CalendarSteps', WHERE WHAT IT READS IS OF BULK AT MOST 1048576: true; the input reads as it did. -/
def calendarStepsUptoRow : OpenClaim := { program := "ytgabecolmldbjaa", sum := "0dccf643dfb166fb657deab3abe42d5520ce1dbd188318659ff6f6bbceea738f", func := "insolvency/insolvencylaw5.CalendarSteps", spec := "calendarSteps", unfollowed := true, recurses := true, plainKeys := false, apart := false, narrowed := true }
def CalendarStepsUptoSaid : Prop := calendarStepsUptoRow.holds Try.pinned (OpenSpec.upto calendarStepsSpec)

/-- 'insolvencylaw5.CalendarCount', WHERE WHAT IT READS IS OF BULK AT MOST 1048576: true; the input reads as it did. -/
def calendarCountUptoRow : OpenClaim := { program := "ytgabecolmldbjaa", sum := "0dccf643dfb166fb657deab3abe42d5520ce1dbd188318659ff6f6bbceea738f", func := "insolvency/insolvencylaw5.CalendarCount", spec := "calendarCount", unfollowed := true, recurses := true, plainKeys := false, apart := false, narrowed := true }
def CalendarCountUptoSaid : Prop := calendarCountUptoRow.holds Try.pinned (OpenSpec.upto calendarCountSpec)

/-- 'insolvencylaw5.CalendarMany', WHERE WHAT IT READS IS OF BULK AT MOST 1048576: true; the input reads as it did. -/
def calendarManyUptoRow : OpenClaim := { program := "ytgabecolmldbjaa", sum := "0dccf643dfb166fb657deab3abe42d5520ce1dbd188318659ff6f6bbceea738f", func := "insolvency/insolvencylaw5.CalendarMany", spec := "calendarMany", unfollowed := true, recurses := true, plainKeys := false, apart := false, narrowed := true }
def CalendarManyUptoSaid : Prop := calendarManyUptoRow.holds Try.pinned (OpenSpec.upto calendarManySpec)

/-- 'insolvencylaw5.CalendarSplit', WHERE WHAT IT READS IS OF BULK AT MOST 1048576: true; the input reads as it did. -/
def calendarSplitUptoRow : OpenClaim := { program := "ytgabecolmldbjaa", sum := "0dccf643dfb166fb657deab3abe42d5520ce1dbd188318659ff6f6bbceea738f", func := "insolvency/insolvencylaw5.CalendarSplit", spec := "calendarSplit", unfollowed := true, recurses := true, plainKeys := false, apart := false, narrowed := true }
def CalendarSplitUptoSaid : Prop := calendarSplitUptoRow.holds Try.pinned (OpenSpec.upto calendarSplitSpec)

/-- 'insolvencylaw5.CalendarBusiness', WHERE WHAT IT READS IS OF BULK AT MOST 1048576: true; the input reads as it did. -/
def calendarBusinessUptoRow : OpenClaim := { program := "ytgabecolmldbjaa", sum := "0dccf643dfb166fb657deab3abe42d5520ce1dbd188318659ff6f6bbceea738f", func := "insolvency/insolvencylaw5.CalendarBusiness", spec := "calendarBusiness", unfollowed := true, recurses := true, plainKeys := false, apart := false, narrowed := true }
def CalendarBusinessUptoSaid : Prop := calendarBusinessUptoRow.holds Try.pinned (OpenSpec.upto calendarBusinessSpec)

/-- 'insolvencylaw5.CalendarInverse', WHERE WHAT IT READS IS OF BULK AT MOST 1048576: true; the input reads as it did. -/
def calendarInverseUptoRow : OpenClaim := { program := "ytgabecolmldbjaa", sum := "0dccf643dfb166fb657deab3abe42d5520ce1dbd188318659ff6f6bbceea738f", func := "insolvency/insolvencylaw5.CalendarInverse", spec := "calendarInverse", unfollowed := true, recurses := true, plainKeys := false, apart := false, narrowed := true }
def CalendarInverseUptoSaid : Prop := calendarInverseUptoRow.holds Try.pinned (OpenSpec.upto calendarInverseSpec)

/-- 'insolvencylaw34.NoticeDeadlines', WHERE WHAT IT READS IS OF BULK AT MOST 1048576: true; the input reads as it did. -/
def noticeDeadlinesUptoRow : OpenClaim := { program := "ytgabecolmldbjaa", sum := "0dccf643dfb166fb657deab3abe42d5520ce1dbd188318659ff6f6bbceea738f", func := "insolvency/insolvencylaw34.NoticeDeadlines", spec := "noticeDeadlines", unfollowed := true, recurses := true, plainKeys := false, apart := false, narrowed := true }
def NoticeDeadlinesUptoSaid : Prop := noticeDeadlinesUptoRow.holds Try.pinned (OpenSpec.upto noticeDeadlinesSpec)

end Rows
end Go.Proofs.Ytgabecolmldbjaa
