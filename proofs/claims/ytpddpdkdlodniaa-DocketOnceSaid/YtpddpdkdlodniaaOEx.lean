/-
  The chapter's example, in plain Lean.
-/
import Derived.Test.YtpddpdkdlodniaaOPure
namespace Go.Proofs.Ytpddpdkdlodniaa
open Go.RowKit

theorem add_ex : addF [] 0 5 = (7, 0) :=
  addF_nth (by decide) (by decide) (by decide) (by decide) (by decide) (.inl ⟨7, rfl, by decide, by decide, by decide, rfl⟩)
theorem sort_one (r : Rl) : sortR [r] = [r] := by simp [sortR]
theorem sort_nil : sortR [] = [] := by simp [sortR]
theorem file_ex1 : fileF ⟨0, 5, 5, [], []⟩ ⟨1, 0, 3, 0⟩ = (⟨0, 5, 5, [], [⟨3, 1, 0, 0, false⟩]⟩, [], 0) := by
  have h : advE ⟨0, 5, 5, [], []⟩ 0 = 0 := by decide
  unfold fileF
  rw [if_pos h]
  simp [actF, advD, advR, rulesF, sort_nil, openE, hasF, openedF]
theorem file_ex2 : fileF ⟨0, 5, 5, [], [⟨3, 1, 0, 0, false⟩]⟩ ⟨2, 0, 3, 0⟩ = (⟨0, 5, 5, [], [⟨3, 2, 7, 0, false⟩]⟩, [], 0) := by
  have h : advE ⟨0, 5, 5, [], [⟨3, 1, 0, 0, false⟩]⟩ 0 = 0 := by decide
  unfold fileF
  rw [if_pos h]
  simp [actF, advD, advR, rulesF, sort_nil, lapsesF, lapseF, runsF, findF, Lib.idxBy, Lib.idxByFrom, changeF, dueOfF, add_ex]
theorem play_ex : playF 0 5 5 [] [⟨1, 0, 3, 0⟩, ⟨2, 0, 3, 0⟩] = (⟨0, 5, 5, [], [⟨3, 2, 7, 0, false⟩]⟩, [], -1, 0) := by
  have h : newF 0 5 5 [] = (⟨0, 5, 5, [], []⟩, 0) := by simp [newF, termsF]
  simp [playF, h, playGo, file_ex1, file_ex2]
theorem due_ex : dueF [⟨3, 2, 7, 0, false⟩] = (7, true) := by decide
theorem adv_ex : advF ⟨0, 5, 5, [], [⟨3, 2, 7, 0, false⟩]⟩ 8 = (⟨8, 5, 5, [], [⟨3, 6, 0, 0, true⟩]⟩, [⟨3, 8, 0⟩], 0) := by
  have h : advE ⟨0, 5, 5, [], [⟨3, 2, 7, 0, false⟩]⟩ 8 = 0 := by decide
  unfold advF
  rw [if_pos h]
  simp [advD, advR, rulesF, lapsesF, lapseF, runsF, rulingF, sort_one]
end Go.Proofs.Ytpddpdkdlodniaa
