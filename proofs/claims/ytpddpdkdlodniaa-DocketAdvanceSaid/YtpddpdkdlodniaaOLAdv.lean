/-
  DocketAdvance returns true for every input, and turns nothing that was there.
-/
import Derived.Test.YtpddpdkdlodniaaOFew
namespace Go.Proofs.Ytpddpdkdlodniaa
open Go.RowKit

set_option maxRecDepth 100000 in
set_option maxHeartbeats 4000000 in
theorem docketAdvance_end (x y : Int) (uo lo : Option Addr) (uc lc : Nat) (hs : List Int) (l : List Q4) (z : Int) (raw : Dk) (r0 m0 : Option Addr) (c0 k0 : Nat) (q : Int) (w : World) (hA : DkArg w raw r0 c0 m0 k0) (hf : ¬ (raw.hol.length ≤ 12 ∧ raw.mts.length ≤ 10)) :
    Calls Try.prog 8 #[.agg #[.int .u8 x, .int .u8 y], .slice uo hs.length uc, .slice lo l.length lc, .int .i8 z, .agg #[.int .i64 raw.day, .int .i64 raw.ans, .int .i64 raw.app, .slice r0 raw.hol.length c0, .slice m0 raw.mts.length k0], .int .i64 q] w fun e w' => e = .returned (.bool true) ∧ Below w.heap.size w w' := by
  obtain ⟨W, hW⟩ : ∃ W, (w.alloc (b2Obj x y)).alloc (dkObj raw.day raw.ans raw.app r0 raw.hol.length c0 m0 raw.mts.length k0) = W := ⟨_, rfl⟩
  obtain ⟨hbW, k1, k2⟩ := two_made' hW
  have HWW := Lib.hid hW
  have B := Lib.hid hbW
  have D0 := Lib.hid (dv_arg hA hbW k1)
  clear hW hA k1
  clear hbW k2
  go_enter Try.func8, Try.ntmps8
  go_upto_region 1 with fail
  try dsimp only
  rw [HWW.out]
  obtain ⟨E0, hE0⟩ : ∃ E, w.heap.size + 1 = E := ⟨_, rfl⟩
  rw [hE0] at D0
  try rw [hE0]
  clear HWW hE0
  obtain ⟨x0, x1, x2, x3, x4⟩ := D0.out.cells
  have HC := Lib.hid (few_no raw r0 m0 c0 k0 W hf)
  go_wp2_with fail
  refine HC.out.mono ?_
  rintro e q1 ⟨rfl, hb1⟩
  clear x0 x1 x2 x3 x4
  replace B := Lib.hid (B.out.trans (hb1.mono B.out.size))
  replace D0 := Lib.hid (D0.out.next hb1)
  clear HC hb1
  have HC := Lib.hid (oawake_any q1)
  go_wp2_with fail
  refine HC.out.mono ?_
  rintro e q2 ⟨rfl, hb2⟩
  replace B := Lib.hid (B.out.trans (hb2.mono B.out.size))
  replace D0 := Lib.hid (D0.out.next hb2)
  clear HC hb2
  go_wp2_with fail
  go_ret
  exact ⟨rfl, B.out⟩

set_option maxRecDepth 100000 in
set_option maxHeartbeats 4000000 in
theorem docketAdvance_walk (x y : Int) (uo lo : Option Addr) (uc lc : Nat) (hs : List Int) (l : List Q4) (z : Int) (raw : Dk) (r0 m0 : Option Addr) (c0 k0 : Nat) (q : Int) (w : World) (hA : DkArg w raw r0 c0 m0 k0) (hf : raw.hol.length ≤ 12 ∧ raw.mts.length ≤ 10) (hL : U16s w uo hs) (hr : ∀ i, 0 ≤ hs.getD i 0 ∧ hs.getD i 0 ≤ 65535) (hQ : Q4s w lo l) (x0 : 0 ≤ x) (x1 : x ≤ 255) (y0 : 0 ≤ y) (y1 : y ≤ 255) (z0 : -128 ≤ z) (z1 : z ≤ 127) :
    Calls Try.prog 8 #[.agg #[.int .u8 x, .int .u8 y], .slice uo hs.length uc, .slice lo l.length lc, .int .i8 z, .agg #[.int .i64 raw.day, .int .i64 raw.ans, .int .i64 raw.app, .slice r0 raw.hol.length c0, .slice m0 raw.mts.length k0], .int .i64 q] w fun e w' => e = .returned (.bool true) ∧ Below w.heap.size w w' := by
  obtain ⟨W, hW⟩ : ∃ W, (w.alloc (b2Obj x y)).alloc (dkObj raw.day raw.ans raw.app r0 raw.hol.length c0 m0 raw.mts.length k0) = W := ⟨_, rfl⟩
  obtain ⟨hbW, k1, k2⟩ := two_made' hW
  have HWW := Lib.hid hW
  have B := Lib.hid hbW
  have D0 := Lib.hid (dv_arg hA hbW k1)
  clear hW hA k1
  have HL := Lib.hid (hL.next hbW)
  have HQ := Lib.hid (hQ.next hbW)
  have K2 := Lib.hid k2
  have HF := Lib.hid hf
  have HGB := Lib.hid (builtD_good x y hs l)
  have HBG : Hid ((builtD x y hs l).mts.length ≤ 1000) := Lib.hid built_big
  have HBU := Lib.hid fun V h1 h2 => built_any x y uo lo uc lc hs l V h1 hr h2 x0 x1 y0 y1
  generalize builtD x y hs l = d at HGB HBG HBU
  clear hL hQ hr hf hbW k2
  go_enter Try.func8, Try.ntmps8
  go_upto_region 1 with fail
  try dsimp only
  rw [HWW.out]
  obtain ⟨E0, hE0⟩ : ∃ E, w.heap.size + 1 = E := ⟨_, rfl⟩
  obtain ⟨EB, hEB⟩ : ∃ E, w.heap.size = E := ⟨_, rfl⟩
  rw [hE0] at D0
  try rw [hE0]
  rw [hEB] at K2
  try rw [hEB]
  clear HWW hE0 hEB
  obtain ⟨x0, x1, x2, x3, x4⟩ := D0.out.cells
  have HC := Lib.hid (few_yes raw r0 m0 c0 k0 W HF.out.1 HF.out.2)
  go_wp2_with fail
  refine HC.out.mono ?_
  rintro e q1 ⟨rfl, hb1⟩
  clear x0 x1 x2 x3 x4
  replace B := Lib.hid (B.out.trans (hb1.mono B.out.size))
  replace D0 := Lib.hid (D0.out.next hb1)
  replace HL := Lib.hid (HL.out.next hb1)
  replace HQ := Lib.hid (HQ.out.next hb1)
  replace K2 := Lib.hid (keep_heap hb1 K2.out)
  clear HC hb1
  obtain ⟨p0, p1⟩ := two_cells K2.out
  have HC := Lib.hid (HBU.out q1 HL.out HQ.out)
  go_wp2_with fail
  refine HC.out.mono ?_
  rintro e q2 ⟨r1, c1, m1, k1, rfl, hO1, hO2, hb2⟩
  go_upto_region 4 with fail
  try dsimp only
  obtain ⟨v2, hv⟩ : ∃ v, q2.alloc (dkObj d.day d.ans d.app r1 d.hol.length c1 m1 d.mts.length k1) = v := ⟨_, rfl⟩
  rw [hv]
  have hbn : Below q2.heap.size q2 v2 := by rw [← hv]; exact (Below.refl _ _).alloc (Nat.le_refl _) _
  have hbb : Below q1.heap.size q1 v2 := hb2.trans (hbn.mono hb2.size)
  replace B := Lib.hid (B.out.trans (hbb.mono B.out.size))
  replace D0 := Lib.hid (D0.out.next hbb)
  replace HL := Lib.hid (HL.out.next hbb)
  replace HQ := Lib.hid (HQ.out.next hbb)
  replace K2 := Lib.hid (keep_heap hbb K2.out)
  have D1 : Hid (Dv v2 q2.heap.size d r1 c1 m1 k1) := Lib.hid (by rw [← hv]; exact Dv.made hO1 hO2)
  obtain ⟨E1, hE⟩ : ∃ E, q2.heap.size = E := ⟨_, rfl⟩
  rw [hE] at D1 ⊢
  clear hv hbn hbb hE hO1 hO2 HC hb2
  clear p0 p1
  clear HL HQ K2 HBU
  obtain ⟨hd0, hd1⟩ := HGB.out.2
  obtain ⟨⟨a, rs, er⟩, hA⟩ : ∃ A, advF d (d.day + z) = A := ⟨_, rfl⟩
  obtain ⟨⟨b, ss, es⟩, hB⟩ : ∃ A, advF raw q = A := ⟨_, rfl⟩
  have HA := Lib.hid hA
  have HB := Lib.hid hB
  have HS1 := Lib.hid (adv_short (d := d) (day := d.day + z))
  have HS2 := Lib.hid (adv_short (d := raw) (day := q))
  rw [hA] at HS1
  rw [hB] at HS2
  clear hA hB
  obtain ⟨x0, x1, x2, x3, x4⟩ := D1.out.cells
  have HC0 : Hid (Calls Try.prog 13 #[.agg #[.int .i64 d.day, .int .i64 d.ans, .int .i64 d.app, .slice r1 d.hol.length c1, .slice m1 d.mts.length k1], .int .i64 (d.day + z)] v2 (AnsPost v2.heap.size v2 (a, rs, er))) := Lib.hid (by rw [← HA.out]; exact (show Calls Try.prog 13 #[.agg #[.int .i64 d.day, .int .i64 d.ans, .int .i64 d.app, .slice r1 d.hol.length c1, .slice m1 d.mts.length k1], .int .i64 (d.day + z)] v2 (AnsPost v2.heap.size v2 (advF d (d.day + z))) from Advance_any d.day d.ans d.app (d.day + z) r1 m1 c1 k1 d.hol d.mts v2 D1.out.hM D1.out.hI D1.out.cap (Nat.le_trans HBG.out (by decide))))
  have HC := Lib.hid (HC0.out)
  go_wp2_with fail
  refine HC.out.mono ?_
  rintro e q3 ⟨dv, rv, rfl, ⟨r2, c2, m2, k2, rfl, hO1, hO2⟩, hO3, hb3⟩
  obtain ⟨a2, b2, rfl, hR⟩ := owns_rls hO3
  clear x0 x1 x2 x3 x4
  go_upto_region 5 with fail
  try dsimp only
  obtain ⟨v3, hv⟩ : ∃ v, q3.alloc (dkObj a.day a.ans a.app r2 a.hol.length c2 m2 a.mts.length k2) = v := ⟨_, rfl⟩
  rw [hv]
  have hbn : Below q3.heap.size q3 v3 := by rw [← hv]; exact (Below.refl _ _).alloc (Nat.le_refl _) _
  have hbb : Below v2.heap.size v2 v3 := hb3.trans (hbn.mono hb3.size)
  replace B := Lib.hid (B.out.trans (hbb.mono B.out.size))
  replace D0 := Lib.hid (D0.out.next hbb)
  replace D1 := Lib.hid (D1.out.next hbb)
  have D2 : Hid (Dv v3 q3.heap.size a r2 c2 m2 k2) := Lib.hid (by rw [← hv]; exact Dv.made hO1 hO2)
  have R2 : Hid (Rls v3 a2 rs) := Lib.hid (hR.next hbn)
  obtain ⟨E2, hE⟩ : ∃ E, q3.heap.size = E := ⟨_, rfl⟩
  rw [hE] at D2 ⊢
  clear hv hbn hbb hE hO1 hO2 hO3 hR HC hb3
  clear HC0
  obtain ⟨x0, x1, x2, x3, x4⟩ := D1.out.cells
  have HC0 : Hid (Calls Try.prog 27 #[.agg #[.int .i64 d.day, .int .i64 d.ans, .int .i64 d.app, .slice r1 d.hol.length c1, .slice m1 d.mts.length k1], .int .i64 (d.day + z)] v3 (AnsPost v3.heap.size v3 (a, rs, er))) := Lib.hid (by rw [← HA.out]; exact (show Calls Try.prog 27 #[.agg #[.int .i64 d.day, .int .i64 d.ans, .int .i64 d.app, .slice r1 d.hol.length c1, .slice m1 d.mts.length k1], .int .i64 (d.day + z)] v3 (AnsPost v3.heap.size v3 (advF d (d.day + z))) from AdvanceR_any d.day d.ans d.app (d.day + z) r1 m1 c1 k1 d.hol d.mts v3 D1.out.hM D1.out.hI D1.out.hn D1.out.mn (Nat.le_trans HBG.out (by decide))))
  have HC := Lib.hid (HC0.out)
  go_wp2_with fail
  refine HC.out.mono ?_
  rintro e q4 ⟨dv, rv, rfl, ⟨r3, c3, m3, k3, rfl, hO1, hO2⟩, hO3, hb4⟩
  obtain ⟨a3, b3, rfl, hR⟩ := owns_rls hO3
  clear x0 x1 x2 x3 x4
  go_upto_region 6 with fail
  try dsimp only
  obtain ⟨v4, hv⟩ : ∃ v, q4.alloc (dkObj a.day a.ans a.app r3 a.hol.length c3 m3 a.mts.length k3) = v := ⟨_, rfl⟩
  rw [hv]
  have hbn : Below q4.heap.size q4 v4 := by rw [← hv]; exact (Below.refl _ _).alloc (Nat.le_refl _) _
  have hbb : Below v3.heap.size v3 v4 := hb4.trans (hbn.mono hb4.size)
  replace B := Lib.hid (B.out.trans (hbb.mono B.out.size))
  replace D0 := Lib.hid (D0.out.next hbb)
  replace D1 := Lib.hid (D1.out.next hbb)
  replace D2 := Lib.hid (D2.out.next hbb)
  replace R2 := Lib.hid (R2.out.next hbb)
  have D3 : Hid (Dv v4 q4.heap.size a r3 c3 m3 k3) := Lib.hid (by rw [← hv]; exact Dv.made hO1 hO2)
  have R3 : Hid (Rls v4 a3 rs) := Lib.hid (hR.next hbn)
  obtain ⟨E3, hE⟩ : ∃ E, q4.heap.size = E := ⟨_, rfl⟩
  rw [hE] at D3 ⊢
  clear hv hbn hbb hE hO1 hO2 hO3 hR HC hb4
  clear HC0
  obtain ⟨x0, x1, x2, x3, x4⟩ := D0.out.cells
  have HC0 : Hid (Calls Try.prog 13 #[.agg #[.int .i64 raw.day, .int .i64 raw.ans, .int .i64 raw.app, .slice r0 raw.hol.length c0, .slice m0 raw.mts.length k0], .int .i64 (q)] v4 (AnsPost v4.heap.size v4 (b, ss, es))) := Lib.hid (by rw [← HB.out]; exact (show Calls Try.prog 13 #[.agg #[.int .i64 raw.day, .int .i64 raw.ans, .int .i64 raw.app, .slice r0 raw.hol.length c0, .slice m0 raw.mts.length k0], .int .i64 (q)] v4 (AnsPost v4.heap.size v4 (advF raw (q))) from Advance_any raw.day raw.ans raw.app (q) r0 m0 c0 k0 raw.hol raw.mts v4 D0.out.hM D0.out.hI D0.out.cap (Nat.le_trans HF.out.2 (by decide))))
  have HC := Lib.hid (HC0.out)
  go_wp2_with fail
  refine HC.out.mono ?_
  rintro e q5 ⟨dv, rv, rfl, ⟨r4, c4, m4, k4, rfl, hO1, hO2⟩, hO3, hb5⟩
  obtain ⟨a4, b4, rfl, hR⟩ := owns_rls hO3
  clear x0 x1 x2 x3 x4
  go_upto_region 7 with fail
  try dsimp only
  obtain ⟨v5, hv⟩ : ∃ v, q5.alloc (dkObj b.day b.ans b.app r4 b.hol.length c4 m4 b.mts.length k4) = v := ⟨_, rfl⟩
  rw [hv]
  have hbn : Below q5.heap.size q5 v5 := by rw [← hv]; exact (Below.refl _ _).alloc (Nat.le_refl _) _
  have hbb : Below v4.heap.size v4 v5 := hb5.trans (hbn.mono hb5.size)
  replace B := Lib.hid (B.out.trans (hbb.mono B.out.size))
  replace D0 := Lib.hid (D0.out.next hbb)
  replace D1 := Lib.hid (D1.out.next hbb)
  replace D2 := Lib.hid (D2.out.next hbb)
  replace R2 := Lib.hid (R2.out.next hbb)
  replace D3 := Lib.hid (D3.out.next hbb)
  replace R3 := Lib.hid (R3.out.next hbb)
  have D4 : Hid (Dv v5 q5.heap.size b r4 c4 m4 k4) := Lib.hid (by rw [← hv]; exact Dv.made hO1 hO2)
  have R4 : Hid (Rls v5 a4 ss) := Lib.hid (hR.next hbn)
  obtain ⟨E4, hE⟩ : ∃ E, q5.heap.size = E := ⟨_, rfl⟩
  rw [hE] at D4 ⊢
  clear hv hbn hbb hE hO1 hO2 hO3 hR HC hb5
  clear HC0
  obtain ⟨x0, x1, x2, x3, x4⟩ := D0.out.cells
  have HC0 : Hid (Calls Try.prog 27 #[.agg #[.int .i64 raw.day, .int .i64 raw.ans, .int .i64 raw.app, .slice r0 raw.hol.length c0, .slice m0 raw.mts.length k0], .int .i64 (q)] v5 (AnsPost v5.heap.size v5 (b, ss, es))) := Lib.hid (by rw [← HB.out]; exact (show Calls Try.prog 27 #[.agg #[.int .i64 raw.day, .int .i64 raw.ans, .int .i64 raw.app, .slice r0 raw.hol.length c0, .slice m0 raw.mts.length k0], .int .i64 (q)] v5 (AnsPost v5.heap.size v5 (advF raw (q))) from AdvanceR_any raw.day raw.ans raw.app (q) r0 m0 c0 k0 raw.hol raw.mts v5 D0.out.hM D0.out.hI D0.out.hn D0.out.mn (Nat.le_trans HF.out.2 (by decide))))
  have HC := Lib.hid (HC0.out)
  go_wp2_with fail
  refine HC.out.mono ?_
  rintro e q6 ⟨dv, rv, rfl, ⟨r5, c5, m5, k5, rfl, hO1, hO2⟩, hO3, hb6⟩
  obtain ⟨a5, b5, rfl, hR⟩ := owns_rls hO3
  clear x0 x1 x2 x3 x4
  go_upto_region 8 with fail
  try dsimp only
  obtain ⟨v6, hv⟩ : ∃ v, q6.alloc (dkObj b.day b.ans b.app r5 b.hol.length c5 m5 b.mts.length k5) = v := ⟨_, rfl⟩
  rw [hv]
  have hbn : Below q6.heap.size q6 v6 := by rw [← hv]; exact (Below.refl _ _).alloc (Nat.le_refl _) _
  have hbb : Below v5.heap.size v5 v6 := hb6.trans (hbn.mono hb6.size)
  replace B := Lib.hid (B.out.trans (hbb.mono B.out.size))
  replace D0 := Lib.hid (D0.out.next hbb)
  replace D1 := Lib.hid (D1.out.next hbb)
  replace D2 := Lib.hid (D2.out.next hbb)
  replace R2 := Lib.hid (R2.out.next hbb)
  replace D3 := Lib.hid (D3.out.next hbb)
  replace R3 := Lib.hid (R3.out.next hbb)
  replace D4 := Lib.hid (D4.out.next hbb)
  replace R4 := Lib.hid (R4.out.next hbb)
  have D5 : Hid (Dv v6 q6.heap.size b r5 c5 m5 k5) := Lib.hid (by rw [← hv]; exact Dv.made hO1 hO2)
  have R5 : Hid (Rls v6 a5 ss) := Lib.hid (hR.next hbn)
  obtain ⟨E5, hE⟩ : ∃ E, q6.heap.size = E := ⟨_, rfl⟩
  rw [hE] at D5 ⊢
  clear hv hbn hbb hE hO1 hO2 hO3 hR HC hb6
  clear HC0
  have HC := Lib.hid (oawake_any v6)
  go_wp2_with fail
  refine HC.out.mono ?_
  rintro e q7 ⟨rfl, hb7⟩
  replace B := Lib.hid (B.out.trans (hb7.mono B.out.size))
  replace D0 := Lib.hid (D0.out.next hb7)
  replace D1 := Lib.hid (D1.out.next hb7)
  replace D2 := Lib.hid (D2.out.next hb7)
  replace R2 := Lib.hid (R2.out.next hb7)
  replace D3 := Lib.hid (D3.out.next hb7)
  replace R3 := Lib.hid (R3.out.next hb7)
  replace D4 := Lib.hid (D4.out.next hb7)
  replace R4 := Lib.hid (R4.out.next hb7)
  replace D5 := Lib.hid (D5.out.next hb7)
  replace R5 := Lib.hid (R5.out.next hb7)
  clear HC hb7
  obtain ⟨x0, x1, x2, x3, x4⟩ := D2.out.cells
  obtain ⟨y0, y1, y2, y3, y4⟩ := D3.out.cells
  have HC := Lib.hid (sameDocket_any a.day a.ans a.app r2 r3 m2 m3 c2 c3 k2 k3 a.hol a.mts q7 D2.out.hI D3.out.hI D2.out.hM D3.out.hM (Nat.le_trans HS1.out.2.1 (by decide)) (Nat.le_trans HS1.out.1 (by decide)))
  go_wp2_with fail
  refine HC.out.mono ?_
  rintro e q8 ⟨rfl, hb8⟩
  clear x0 x1 x2 x3 x4
  clear y0 y1 y2 y3 y4
  replace B := Lib.hid (B.out.trans (hb8.mono B.out.size))
  replace D0 := Lib.hid (D0.out.next hb8)
  replace D1 := Lib.hid (D1.out.next hb8)
  replace D2 := Lib.hid (D2.out.next hb8)
  replace R2 := Lib.hid (R2.out.next hb8)
  replace D3 := Lib.hid (D3.out.next hb8)
  replace R3 := Lib.hid (R3.out.next hb8)
  replace D4 := Lib.hid (D4.out.next hb8)
  replace R4 := Lib.hid (R4.out.next hb8)
  replace D5 := Lib.hid (D5.out.next hb8)
  replace R5 := Lib.hid (R5.out.next hb8)
  clear HC hb8
  have HC := Lib.hid (sameRulings_any a2 a3 b2 b3 rs q8 R2.out R3.out (Nat.le_trans HS1.out.2.2 (by decide)))
  go_wp2_with fail
  refine HC.out.mono ?_
  rintro e q9 ⟨rfl, hb9⟩
  replace B := Lib.hid (B.out.trans (hb9.mono B.out.size))
  replace D0 := Lib.hid (D0.out.next hb9)
  replace D1 := Lib.hid (D1.out.next hb9)
  replace D2 := Lib.hid (D2.out.next hb9)
  replace R2 := Lib.hid (R2.out.next hb9)
  replace D3 := Lib.hid (D3.out.next hb9)
  replace R3 := Lib.hid (R3.out.next hb9)
  replace D4 := Lib.hid (D4.out.next hb9)
  replace R4 := Lib.hid (R4.out.next hb9)
  replace D5 := Lib.hid (D5.out.next hb9)
  replace R5 := Lib.hid (R5.out.next hb9)
  clear HC hb9
  obtain ⟨x0, x1, x2, x3, x4⟩ := D4.out.cells
  obtain ⟨y0, y1, y2, y3, y4⟩ := D5.out.cells
  have HC := Lib.hid (sameDocket_any b.day b.ans b.app r4 r5 m4 m5 c4 c5 k4 k5 b.hol b.mts q9 D4.out.hI D5.out.hI D4.out.hM D5.out.hM (Nat.le_trans HS2.out.2.1 (by decide)) (Nat.le_trans HS2.out.1 (by decide)))
  go_wp2_with fail
  refine HC.out.mono ?_
  rintro e q10 ⟨rfl, hb10⟩
  clear x0 x1 x2 x3 x4
  clear y0 y1 y2 y3 y4
  replace B := Lib.hid (B.out.trans (hb10.mono B.out.size))
  replace D0 := Lib.hid (D0.out.next hb10)
  replace D1 := Lib.hid (D1.out.next hb10)
  replace D2 := Lib.hid (D2.out.next hb10)
  replace R2 := Lib.hid (R2.out.next hb10)
  replace D3 := Lib.hid (D3.out.next hb10)
  replace R3 := Lib.hid (R3.out.next hb10)
  replace D4 := Lib.hid (D4.out.next hb10)
  replace R4 := Lib.hid (R4.out.next hb10)
  replace D5 := Lib.hid (D5.out.next hb10)
  replace R5 := Lib.hid (R5.out.next hb10)
  clear HC hb10
  have HC := Lib.hid (sameRulings_any a4 a5 b4 b5 ss q10 R4.out R5.out (Nat.le_trans HS2.out.2.2 (by decide)))
  go_wp2_with fail
  refine HC.out.mono ?_
  rintro e q11 ⟨rfl, hb11⟩
  replace B := Lib.hid (B.out.trans (hb11.mono B.out.size))
  replace D0 := Lib.hid (D0.out.next hb11)
  replace D1 := Lib.hid (D1.out.next hb11)
  replace D2 := Lib.hid (D2.out.next hb11)
  replace R2 := Lib.hid (R2.out.next hb11)
  replace D3 := Lib.hid (D3.out.next hb11)
  replace R3 := Lib.hid (R3.out.next hb11)
  replace D4 := Lib.hid (D4.out.next hb11)
  replace R4 := Lib.hid (R4.out.next hb11)
  replace D5 := Lib.hid (D5.out.next hb11)
  replace R5 := Lib.hid (R5.out.next hb11)
  clear HC hb11
  go_wp2_with fail
  go_ret
  exact ⟨rfl, B.out⟩
end Go.Proofs.Ytpddpdkdlodniaa
