/-
  Contract: the laws' sanity check.
-/
import Derived.Test.YtpddpdkdlodniaaOPlay2
import Derived.Test.YtpddpdkdlodniaaOEx
namespace Go.Proofs.Ytpddpdkdlodniaa
open Go.RowKit

theorem two_filings (w : World) : Fls (w.alloc (.cells #[.int .i64 1, .int .i64 0, .int .i64 3, .int .i64 0, .int .i64 2, .int .i64 0, .int .i64 3, .int .i64 0] 47)) (some ⟨w.heap.size, 0, none⟩) [⟨1, 0, 3, 0⟩, ⟨2, 0, 3, 0⟩] := by
  refine .inr ⟨w.heap.size, 0, rfl, by simp, fun i hi => ?_⟩
  have hc := fun o => cell_of_row _ w.heap.size o _ _ _ (heap_alloc_new w (.cells #[.int .i64 1, .int .i64 0, .int .i64 3, .int .i64 0, .int .i64 2, .int .i64 0, .int .i64 3, .int .i64 0] 47))
  match i, hi with
  | 0, _ => exact ⟨hc 0, hc 1, hc 2, hc 3⟩
  | 1, _ => exact ⟨hc 4, hc 5, hc 6, hc 7⟩

set_option maxRecDepth 100000 in
set_option maxHeartbeats 2000000 in
theorem oawake_any (w : World) : Calls Try.prog 14 #[] w fun e w' => e = .returned (.bool true) ∧ Below w.heap.size w w' := by
  obtain ⟨W, hW⟩ : ∃ W, w.alloc (.cells #[.int .i64 1, .int .i64 0, .int .i64 3, .int .i64 0, .int .i64 2, .int .i64 0, .int .i64 3, .int .i64 0] 47) = W := ⟨_, rfl⟩
  have hbW : Below w.heap.size w W := by rw [← hW]; go_grown
  have hp := Play_any 0 5 5 none (some ⟨w.heap.size, 0, none⟩) 0 2 [] [⟨1, 0, 3, 0⟩, ⟨2, 0, 3, 0⟩] W (.inl rfl) (by rw [← hW]; exact two_filings w) (by decide)
  rw [play_ex] at hp
  have HP := Lib.hid hp
  have HBW := Lib.hid hbW
  have HWW := Lib.hid hW
  clear hp hbW hW
  go_enter Try.func14, Try.ntmps14
  go_wp2_with fail
  rw [HWW.out]
  refine HP.out.mono ?_
  rintro e w3 ⟨dv, rv, rfl, ⟨ro, rc, mo, mc, rfl, hO1, hO2⟩, hO3, hb3⟩
  have hmc : 1 ≤ mc := by
    obtain ⟨_, _, e1, hn1⟩ := owns_form hO2
    cases e1
    exact hn1
  go_upto_region 2 with fail
  try dsimp only
  generalize hw4 : w3.alloc (.cells #[.int .i64 0, .int .i64 5, .int .i64 5, .slice ro 0 rc, .slice mo 1 mc] 30) = w4
  have HB4 : Hid (Below w.heap.size w w4) := Lib.hid (by rw [← hw4]; exact (HBW.out.trans (hb3.mono HBW.out.size)).alloc (HBW.out.trans (hb3.mono HBW.out.size)).size _)
  have h4 : w4.heap[w3.heap.size]? = some (dkObj 0 5 5 ro 0 rc mo 1 mc) := by rw [← hw4]; exact heap_alloc_new w3 _
  have HM4 : Hid (Mts w4 mo [⟨3, 2, 7, 0, false⟩]) := Lib.hid (by rw [← hw4]; exact (owns_mts hO2).next ((Below.refl _ _).alloc (Nat.le_refl _) _))
  have HI4 : Hid (Ints w4 ro []) := Lib.hid (.inl rfl)
  obtain ⟨x0, x1, x2, x3, x4⟩ := five_cells h4
  have H4 := Lib.hid h4
  have HD := Lib.hid (due_any 0 5 5 ro mo 0 rc mc [⟨3, 2, 7, 0, false⟩] w4 HM4.out (by decide))
  rw [due_ex] at HD
  clear hw4 h4 hO1 hO2 hO3 hb3 HP
  go_wp2_with fail
  refine HD.out.mono ?_
  rintro e w5 ⟨rfl, hb5⟩
  obtain ⟨x0, x1, x2, x3, x4⟩ := five_cells (keep_heap hb5 H4.out)
  have HB5 := Lib.hid (HB4.out.trans (hb5.mono HB4.out.size))
  have ha := Advance_any 0 5 5 8 ro mo rc mc [] [⟨3, 2, 7, 0, false⟩] w5 (HM4.out.next hb5) (.inl rfl) hmc (by decide)
  rw [adv_ex] at ha
  have HA := Lib.hid ha
  clear ha hb5 HD
  go_wp2_with fail
  refine HA.out.mono ?_
  rintro e w6 ⟨dv, rv, rfl, ⟨ro2, rc2, mo2, mc2, rfl, hP1, hP2⟩, hP3, hb6⟩
  have hb6' := HB5.out.trans (hb6.mono HB5.out.size)
  obtain ⟨g, cap, rfl⟩ : ∃ g cap, rv = .slice (some ⟨g, 0, none⟩) 1 cap := by
    rcases World.ownsRow.form hP3 (by decide) with h
    obtain ⟨_, _, e1, _⟩ := owns_form hP3
    rcases hP3.2 with ⟨e2, e3⟩ | ⟨g, cap, cur, e2, _⟩
    · cases e3
    · exact ⟨g, cap, e2⟩
  have hc0 := World.ownsRow.cellAt hP3 0 (by decide)
  have hc1 := World.ownsRow.cellAt hP3 1 (by decide)
  have hc2 := World.ownsRow.cellAt hP3 2 (by decide)
  simp [rlCells] at hc0 hc1 hc2
  have hgl : g < w6.heap.size := (hP3.lt g rfl).2
  go_upto_region 4 with fail
  try dsimp only
  generalize hw7 : w6.alloc (.cells #[.int .i64 8, .int .i64 5, .int .i64 5, .slice ro2 0 rc2, .slice mo2 1 mc2] 30) = w7
  have hb7 : Below w6.heap.size w6 w7 := by rw [← hw7]; exact (Below.refl _ _).alloc (Nat.le_refl _) _
  have d0 := (hb7.cell (p := ⟨g, 0, none⟩) hgl).trans hc0
  have d1 := (hb7.cell (p := ⟨g, 1, none⟩) hgl).trans hc1
  have d2 := (hb7.cell (p := ⟨g, 2, none⟩) hgl).trans hc2
  have HB7 := Lib.hid (hb6'.trans (hb7.mono hb6'.size))
  clear hw7 hb7 hc0 hc1 hc2 hP1 hP2 hP3 hb6 hb6' HA
  go_wp2_with fail
  go_ret
  exact ⟨rfl, HB7.out⟩
end Go.Proofs.Ytpddpdkdlodniaa
