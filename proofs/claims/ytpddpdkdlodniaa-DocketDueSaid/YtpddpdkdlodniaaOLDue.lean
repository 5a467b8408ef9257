/-
  DocketDue returns true for every input, and turns nothing that was there.
-/
import Derived.Test.YtpddpdkdlodniaaOFew
namespace Go.Proofs.Ytpddpdkdlodniaa
open Go.RowKit

set_option maxRecDepth 100000 in
set_option maxHeartbeats 4000000 in
theorem docketDue_end (raw : Dk) (r0 m0 : Option Addr) (c0 k0 : Nat) (x y : Int) (uo lo : Option Addr) (uc lc : Nat) (hs : List Int) (l : List Q4) (w : World) (hA : DkArg w raw r0 c0 m0 k0) (hf : ¬ (raw.hol.length ≤ 12 ∧ raw.mts.length ≤ 10)) :
    Calls Try.prog 7 #[.agg #[.int .i64 raw.day, .int .i64 raw.ans, .int .i64 raw.app, .slice r0 raw.hol.length c0, .slice m0 raw.mts.length k0], .agg #[.int .u8 x, .int .u8 y], .slice uo hs.length uc, .slice lo l.length lc] w fun e w' => e = .returned (.bool true) ∧ Below w.heap.size w w' := by
  obtain ⟨W, hW⟩ : ∃ W, (w.alloc (dkObj raw.day raw.ans raw.app r0 raw.hol.length c0 m0 raw.mts.length k0)).alloc (b2Obj x y) = W := ⟨_, rfl⟩
  obtain ⟨hbW, k1, k2⟩ := two_made hW
  have HWW := Lib.hid hW
  have B := Lib.hid hbW
  have D0 := Lib.hid (dv_arg hA hbW k1)
  clear hW hA k1
  clear hbW k2
  go_enter Try.func7, Try.ntmps7
  go_upto_region 1 with fail
  try dsimp only
  rw [HWW.out]
  obtain ⟨E0, hE0⟩ : ∃ E, w.heap.size = E := ⟨_, rfl⟩
  rw [hE0] at D0
  try rw [hE0]
  clear HWW hE0
  obtain ⟨x0, x1, x2, x3, x4⟩ := D0.out.cells
  have HC := Lib.hid (few_no raw r0 m0 c0 k0 W hf)
  go_wp2_with fail
  refine HC.out.mono ?_
  rintro e q1 ⟨rfl, hb1⟩
  clear x0 x1 x2 x3 x4
  replace B := Lib.hid (B.out.trans (hb1.mono B.out.size))
  replace D0 := Lib.hid (D0.out.next hb1)
  clear HC hb1
  have HC := Lib.hid (oawake_any q1)
  go_wp2_with fail
  refine HC.out.mono ?_
  rintro e q2 ⟨rfl, hb2⟩
  replace B := Lib.hid (B.out.trans (hb2.mono B.out.size))
  replace D0 := Lib.hid (D0.out.next hb2)
  clear HC hb2
  go_wp2_with fail
  go_ret
  exact ⟨rfl, B.out⟩

set_option maxRecDepth 100000 in
set_option maxHeartbeats 4000000 in
theorem docketDue_walk (raw : Dk) (r0 m0 : Option Addr) (c0 k0 : Nat) (x y : Int) (uo lo : Option Addr) (uc lc : Nat) (hs : List Int) (l : List Q4) (w : World) (hA : DkArg w raw r0 c0 m0 k0) (hf : raw.hol.length ≤ 12 ∧ raw.mts.length ≤ 10) (hL : U16s w uo hs) (hr : ∀ i, 0 ≤ hs.getD i 0 ∧ hs.getD i 0 ≤ 65535) (hQ : Q4s w lo l) (x0 : 0 ≤ x) (x1 : x ≤ 255) (y0 : 0 ≤ y) (y1 : y ≤ 255) :
    Calls Try.prog 7 #[.agg #[.int .i64 raw.day, .int .i64 raw.ans, .int .i64 raw.app, .slice r0 raw.hol.length c0, .slice m0 raw.mts.length k0], .agg #[.int .u8 x, .int .u8 y], .slice uo hs.length uc, .slice lo l.length lc] w fun e w' => e = .returned (.bool true) ∧ Below w.heap.size w w' := by
  obtain ⟨W, hW⟩ : ∃ W, (w.alloc (dkObj raw.day raw.ans raw.app r0 raw.hol.length c0 m0 raw.mts.length k0)).alloc (b2Obj x y) = W := ⟨_, rfl⟩
  obtain ⟨hbW, k1, k2⟩ := two_made hW
  have HWW := Lib.hid hW
  have B := Lib.hid hbW
  have D0 := Lib.hid (dv_arg hA hbW k1)
  clear hW hA k1
  have HL := Lib.hid (hL.next hbW)
  have HQ := Lib.hid (hQ.next hbW)
  have K2 := Lib.hid k2
  have HF := Lib.hid hf
  have HGB := Lib.hid (builtD_good x y hs l)
  have HBG : Hid ((builtD x y hs l).mts.length ≤ 1000) := Lib.hid built_big
  have HBU := Lib.hid fun V h1 h2 => built_any x y uo lo uc lc hs l V h1 hr h2 x0 x1 y0 y1
  generalize builtD x y hs l = d at HGB HBG HBU
  clear hL hQ hr hf hbW k2
  go_enter Try.func7, Try.ntmps7
  go_upto_region 1 with fail
  try dsimp only
  rw [HWW.out]
  obtain ⟨E0, hE0⟩ : ∃ E, w.heap.size = E := ⟨_, rfl⟩
  obtain ⟨EB, hEB⟩ : ∃ E, w.heap.size + 1 = E := ⟨_, rfl⟩
  rw [hEB] at K2
  try rw [hEB]
  rw [hE0] at D0
  try rw [hE0]
  clear HWW hE0 hEB
  obtain ⟨x0, x1, x2, x3, x4⟩ := D0.out.cells
  have HC := Lib.hid (few_yes raw r0 m0 c0 k0 W HF.out.1 HF.out.2)
  go_wp2_with fail
  refine HC.out.mono ?_
  rintro e q1 ⟨rfl, hb1⟩
  clear x0 x1 x2 x3 x4
  replace B := Lib.hid (B.out.trans (hb1.mono B.out.size))
  replace D0 := Lib.hid (D0.out.next hb1)
  replace HL := Lib.hid (HL.out.next hb1)
  replace HQ := Lib.hid (HQ.out.next hb1)
  replace K2 := Lib.hid (keep_heap hb1 K2.out)
  clear HC hb1
  obtain ⟨p0, p1⟩ := two_cells K2.out
  have HC := Lib.hid (HBU.out q1 HL.out HQ.out)
  go_wp2_with fail
  refine HC.out.mono ?_
  rintro e q2 ⟨r1, c1, m1, k1, rfl, hO1, hO2, hb2⟩
  go_upto_region 4 with fail
  try dsimp only
  obtain ⟨v2, hv⟩ : ∃ v, q2.alloc (dkObj d.day d.ans d.app r1 d.hol.length c1 m1 d.mts.length k1) = v := ⟨_, rfl⟩
  rw [hv]
  have hbn : Below q2.heap.size q2 v2 := by rw [← hv]; exact (Below.refl _ _).alloc (Nat.le_refl _) _
  have hbb : Below q1.heap.size q1 v2 := hb2.trans (hbn.mono hb2.size)
  replace B := Lib.hid (B.out.trans (hbb.mono B.out.size))
  replace D0 := Lib.hid (D0.out.next hbb)
  replace HL := Lib.hid (HL.out.next hbb)
  replace HQ := Lib.hid (HQ.out.next hbb)
  replace K2 := Lib.hid (keep_heap hbb K2.out)
  have D1 : Hid (Dv v2 q2.heap.size d r1 c1 m1 k1) := Lib.hid (by rw [← hv]; exact Dv.made hO1 hO2)
  obtain ⟨E1, hE⟩ : ∃ E, q2.heap.size = E := ⟨_, rfl⟩
  rw [hE] at D1 ⊢
  clear hv hbn hbb hE hO1 hO2 HC hb2
  clear p0 p1
  clear HL HQ K2 HBU
  obtain ⟨x0, x1, x2, x3, x4⟩ := D1.out.cells
  have HC := Lib.hid (due_any d.day d.ans d.app r1 m1 d.hol.length c1 k1 d.mts v2 D1.out.hM HBG.out)
  go_wp2_with fail
  refine HC.out.mono ?_
  rintro e q3 ⟨rfl, hb3⟩
  clear x0 x1 x2 x3 x4
  replace B := Lib.hid (B.out.trans (hb3.mono B.out.size))
  replace D0 := Lib.hid (D0.out.next hb3)
  replace D1 := Lib.hid (D1.out.next hb3)
  clear HC hb3
  obtain ⟨x0, x1, x2, x3, x4⟩ := D1.out.cells
  have HC := Lib.hid (dueR_any d.day d.ans d.app r1 m1 d.hol.length c1 k1 d.mts q3 D1.out.hM HBG.out)
  go_wp2_with fail
  refine HC.out.mono ?_
  rintro e q4 ⟨rfl, hb4⟩
  clear x0 x1 x2 x3 x4
  replace B := Lib.hid (B.out.trans (hb4.mono B.out.size))
  replace D0 := Lib.hid (D0.out.next hb4)
  replace D1 := Lib.hid (D1.out.next hb4)
  clear HC hb4
  obtain ⟨x0, x1, x2, x3, x4⟩ := D0.out.cells
  have HC := Lib.hid (due_any raw.day raw.ans raw.app r0 m0 raw.hol.length c0 k0 raw.mts q4 D0.out.hM (Nat.le_trans HF.out.2 (by decide)))
  go_wp2_with fail
  refine HC.out.mono ?_
  rintro e q5 ⟨rfl, hb5⟩
  clear x0 x1 x2 x3 x4
  replace B := Lib.hid (B.out.trans (hb5.mono B.out.size))
  replace D0 := Lib.hid (D0.out.next hb5)
  replace D1 := Lib.hid (D1.out.next hb5)
  clear HC hb5
  obtain ⟨x0, x1, x2, x3, x4⟩ := D0.out.cells
  have HC := Lib.hid (dueR_any raw.day raw.ans raw.app r0 m0 raw.hol.length c0 k0 raw.mts q5 D0.out.hM (Nat.le_trans HF.out.2 (by decide)))
  go_wp2_with fail
  refine HC.out.mono ?_
  rintro e q6 ⟨rfl, hb6⟩
  clear x0 x1 x2 x3 x4
  replace B := Lib.hid (B.out.trans (hb6.mono B.out.size))
  replace D0 := Lib.hid (D0.out.next hb6)
  replace D1 := Lib.hid (D1.out.next hb6)
  clear HC hb6
  generalize (dueF d.mts).1 = i1
  generalize (dueF d.mts).2 = i2
  generalize (dueF raw.mts).1 = i3
  generalize (dueF raw.mts).2 = i4
  have HC := Lib.hid (oawake_any q6)
  go_wp2_with fail
  refine HC.out.mono ?_
  rintro e q7 ⟨rfl, hb7⟩
  replace B := Lib.hid (B.out.trans (hb7.mono B.out.size))
  replace D0 := Lib.hid (D0.out.next hb7)
  replace D1 := Lib.hid (D1.out.next hb7)
  clear HC hb7
  go_wp2_with fail
  go_ret
  exact ⟨rfl, B.out⟩
end Go.Proofs.Ytpddpdkdlodniaa
