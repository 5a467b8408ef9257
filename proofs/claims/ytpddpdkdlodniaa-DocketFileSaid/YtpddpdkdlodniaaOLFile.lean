/-
  DocketFile returns true for every input, and turns nothing that was there.
-/
import Derived.Test.YtpddpdkdlodniaaOFew
namespace Go.Proofs.Ytpddpdkdlodniaa
open Go.RowKit

theorem tmod40 (z : Int) : -39 ≤ z.tmod 40 ∧ z.tmod 40 ≤ 39 := by
  by_cases h : 0 ≤ z
  · rw [Int.tmod_eq_emod_of_nonneg h]
    omega
  · have h2 : (-z).tmod 40 = (-z) % 40 := Int.tmod_eq_emod_of_nonneg (by omega)
    rw [Int.neg_tmod] at h2
    omega

set_option maxRecDepth 100000 in
set_option maxHeartbeats 4000000 in
theorem docketFile_soon (x y : Int) (uo lo : Option Addr) (uc lc : Nat) (hs : List Int) (l : List Q4) (f : Fl) (kd id op z : Int) (w : World) (hL : U16s w uo hs) (hr : ∀ i, 0 ≤ hs.getD i 0 ∧ hs.getD i 0 ≤ 65535) (hQ : Q4s w lo l) (x0 : 0 ≤ x) (x1 : x ≤ 255) (y0 : 0 ≤ y) (y1 : y ≤ 255) (kd0 : 0 ≤ kd) (kd1 : kd ≤ 255) (id0 : 0 ≤ id) (id1 : id ≤ 255) (op0 : 0 ≤ op) (op1 : op ≤ 255) :
    Calls Try.prog 9 #[.agg #[.int .u8 x, .int .u8 y], .slice uo hs.length uc, .slice lo l.length lc, .agg #[.int .i64 f.kind, .int .i64 f.day, .int .i64 f.id, .int .i64 f.opt], .int .u8 kd, .int .u8 id, .int .u8 op, .int .i8 z, .bool false] w fun e w' => e = .returned (.bool true) ∧ Below w.heap.size w w' := by
  obtain ⟨W, hW⟩ : ∃ W, (w.alloc (b2Obj x y)).alloc (flObj f) = W := ⟨_, rfl⟩
  obtain ⟨hbW, k1, k2⟩ := two_made' hW
  have HWW := Lib.hid hW
  have B := Lib.hid hbW
  have KF := Lib.hid k1
  have K2 := Lib.hid k2
  have HL := Lib.hid (hL.next hbW)
  have HQ := Lib.hid (hQ.next hbW)
  have HGB := Lib.hid (builtD_good x y hs l)
  have HBG : Hid ((builtD x y hs l).mts.length ≤ 1000) := Lib.hid built_big
  have HBU := Lib.hid fun V h1 h2 => built_any x y uo lo uc lc hs l V h1 hr h2 x0 x1 y0 y1
  generalize builtD x y hs l = d at HGB HBG HBU
  obtain ⟨t, ht⟩ : ∃ t, z.tmod 40 = t := ⟨_, rfl⟩
  have htb := tmod40 z
  rw [ht] at htb
  obtain ⟨t0, t1⟩ := htb
  clear hL hQ hr hW hbW k1 k2
  go_enter Try.func9, Try.ntmps9
  go_upto_region 1 with fail
  try dsimp only
  rw [HWW.out]
  obtain ⟨EF, hEF⟩ : ∃ E, w.heap.size + 1 = E := ⟨_, rfl⟩
  obtain ⟨EB, hEB⟩ : ∃ E, w.heap.size = E := ⟨_, rfl⟩
  rw [hEF] at KF
  try rw [hEF]
  rw [hEB] at K2
  try rw [hEB]
  clear HWW hEF hEB
  obtain ⟨p0, p1⟩ := two_cells K2.out
  have HC := Lib.hid (HBU.out W HL.out HQ.out)
  go_wp2_with fail
  refine HC.out.mono ?_
  rintro e q1 ⟨r1, c1, m1, k1, rfl, hO1, hO2, hb1⟩
  go_upto_region 2 with fail
  try dsimp only
  obtain ⟨v1, hv⟩ : ∃ v, q1.alloc (dkObj d.day d.ans d.app r1 d.hol.length c1 m1 d.mts.length k1) = v := ⟨_, rfl⟩
  rw [hv]
  have hbn : Below q1.heap.size q1 v1 := by rw [← hv]; exact (Below.refl _ _).alloc (Nat.le_refl _) _
  have hbb : Below W.heap.size W v1 := hb1.trans (hbn.mono hb1.size)
  replace B := Lib.hid (B.out.trans (hbb.mono B.out.size))
  replace KF := Lib.hid (keep_heap hbb KF.out)
  replace HL := Lib.hid (HL.out.next hbb)
  replace HQ := Lib.hid (HQ.out.next hbb)
  replace K2 := Lib.hid (keep_heap hbb K2.out)
  have D1 : Hid (Dv v1 q1.heap.size d r1 c1 m1 k1) := Lib.hid (by rw [← hv]; exact Dv.made hO1 hO2)
  obtain ⟨E1, hE⟩ : ∃ E, q1.heap.size = E := ⟨_, rfl⟩
  rw [hE] at D1 ⊢
  clear hv hbn hbb hE hO1 hO2 HC hb1
  clear p0 p1 HL HQ K2 HBU
  obtain ⟨hd0, hd1⟩ := HGB.out.2
  obtain ⟨x0, x1, x2, x3, x4⟩ := D1.out.cells
  have hDl := D1.out.lt
  go_upto_region 5 with fail
  try dsimp only
  obtain ⟨V, hv⟩ : ∃ v, v1.alloc (fiObj (kd % 8) (d.day + t) (id % 5 - id / 250) (op % 6 - 1)) = v := ⟨_, rfl⟩
  rw [hv]
  have hbb : Below v1.heap.size v1 V := by rw [← hv]; exact (Below.refl _ _).alloc (Nat.le_refl _) _
  have KG0 : V.heap[v1.heap.size]? = some (flObj ⟨kd % 8, d.day + t, id % 5 - id / 250, op % 6 - 1⟩) := by rw [← hv]; exact heap_alloc_new v1 _
  obtain ⟨f2, hf2⟩ : ∃ f2 : Fl, (⟨kd % 8, d.day + t, id % 5 - id / 250, op % 6 - 1⟩ : Fl) = f2 := ⟨_, rfl⟩
  rw [hf2] at KG0
  have KG := Lib.hid KG0
  clear x0 x1 x2 x3 x4
  replace B := Lib.hid (B.out.trans (hbb.mono B.out.size))
  replace KF := Lib.hid (keep_heap hbb KF.out)
  replace D1 := Lib.hid (D1.out.next hbb)
  obtain ⟨EG, hE⟩ : ∃ E, v1.heap.size = E := ⟨_, rfl⟩
  rw [hE] at KG ⊢
  clear hv hbb KG0 hf2 hE hDl kd0 kd1 id0 id1 op0 op1 ht t0 t1 hd0 hd1
  obtain ⟨⟨a, rs, er⟩, hA⟩ : ∃ A, fileF d f2 = A := ⟨_, rfl⟩
  obtain ⟨⟨b, ss, es⟩, hB⟩ : ∃ A, fileF d f = A := ⟨_, rfl⟩
  have HS1 := Lib.hid (file_short (d := d) (f := f2))
  have HS3 := Lib.hid (file_rl_len d f2)
  rw [hA] at HS1 HS3
  have HA := Lib.hid hA
  have HB := Lib.hid hB
  clear hA hB
  obtain ⟨x0, x1, x2, x3, x4⟩ := D1.out.cells
  obtain ⟨p0, p1, p2, p3⟩ := four_cells KG.out
  have HC0 : Hid (Calls Try.prog 20 #[.agg #[.int .i64 d.day, .int .i64 d.ans, .int .i64 d.app, .slice r1 d.hol.length c1, .slice m1 d.mts.length k1], .agg #[.int .i64 f2.kind, .int .i64 f2.day, .int .i64 f2.id, .int .i64 f2.opt]] V (AnsPost V.heap.size V (a, rs, er))) := Lib.hid (by rw [← HA.out]; exact File_any d.day d.ans d.app f2 r1 m1 c1 k1 d.hol d.mts V D1.out.hM D1.out.hI D1.out.cap (Nat.le_trans HBG.out (by decide)))
  have HC := Lib.hid (HC0.out)
  go_wp2_with fail
  refine HC.out.mono ?_
  rintro e q2 ⟨dv, rv, rfl, ⟨r2, c2, m2, k2, rfl, hO1, hO2⟩, hO3, hb2⟩
  obtain ⟨a2, b2, rfl, hR⟩ := owns_rls hO3
  clear x0 x1 x2 x3 x4
  go_upto_region 6 with fail
  try dsimp only
  obtain ⟨v2, hv⟩ : ∃ v, q2.alloc (dkObj a.day a.ans a.app r2 a.hol.length c2 m2 a.mts.length k2) = v := ⟨_, rfl⟩
  rw [hv]
  have hbn : Below q2.heap.size q2 v2 := by rw [← hv]; exact (Below.refl _ _).alloc (Nat.le_refl _) _
  have hbb : Below V.heap.size V v2 := hb2.trans (hbn.mono hb2.size)
  replace B := Lib.hid (B.out.trans (hbb.mono B.out.size))
  replace KF := Lib.hid (keep_heap hbb KF.out)
  replace D1 := Lib.hid (D1.out.next hbb)
  replace KG := Lib.hid (keep_heap hbb KG.out)
  have D2 : Hid (Dv v2 q2.heap.size a r2 c2 m2 k2) := Lib.hid (by rw [← hv]; exact Dv.made hO1 hO2)
  have R2 : Hid (Rls v2 a2 rs) := Lib.hid (hR.next hbn)
  obtain ⟨E2, hE⟩ : ∃ E, q2.heap.size = E := ⟨_, rfl⟩
  rw [hE] at D2 ⊢
  clear hv hbn hbb hE hO1 hO2 hO3 hR HC hb2
  clear HC0 p0 p1 p2 p3
  obtain ⟨x0, x1, x2, x3, x4⟩ := D1.out.cells
  obtain ⟨p0, p1, p2, p3⟩ := four_cells KG.out
  have HC0 : Hid (Calls Try.prog 28 #[.agg #[.int .i64 d.day, .int .i64 d.ans, .int .i64 d.app, .slice r1 d.hol.length c1, .slice m1 d.mts.length k1], .agg #[.int .i64 f2.kind, .int .i64 f2.day, .int .i64 f2.id, .int .i64 f2.opt]] v2 (AnsPost v2.heap.size v2 (a, rs, er))) := Lib.hid (by rw [← HA.out]; exact FileR_any d.day d.ans d.app f2 r1 m1 c1 k1 d.hol d.mts v2 D1.out.hM D1.out.hI D1.out.hn D1.out.mn (Nat.le_trans HBG.out (by decide)))
  have HC := Lib.hid (HC0.out)
  go_wp2_with fail
  refine HC.out.mono ?_
  rintro e q3 ⟨dv, rv, rfl, ⟨r3, c3, m3, k3, rfl, hO1, hO2⟩, hO3, hb3⟩
  obtain ⟨a3, b3, rfl, hR⟩ := owns_rls hO3
  clear x0 x1 x2 x3 x4
  go_upto_region 7 with fail
  try dsimp only
  obtain ⟨v3, hv⟩ : ∃ v, q3.alloc (dkObj a.day a.ans a.app r3 a.hol.length c3 m3 a.mts.length k3) = v := ⟨_, rfl⟩
  rw [hv]
  have hbn : Below q3.heap.size q3 v3 := by rw [← hv]; exact (Below.refl _ _).alloc (Nat.le_refl _) _
  have hbb : Below v2.heap.size v2 v3 := hb3.trans (hbn.mono hb3.size)
  replace B := Lib.hid (B.out.trans (hbb.mono B.out.size))
  replace KF := Lib.hid (keep_heap hbb KF.out)
  replace D1 := Lib.hid (D1.out.next hbb)
  replace KG := Lib.hid (keep_heap hbb KG.out)
  replace D2 := Lib.hid (D2.out.next hbb)
  replace R2 := Lib.hid (R2.out.next hbb)
  have D3 : Hid (Dv v3 q3.heap.size a r3 c3 m3 k3) := Lib.hid (by rw [← hv]; exact Dv.made hO1 hO2)
  have R3 : Hid (Rls v3 a3 rs) := Lib.hid (hR.next hbn)
  obtain ⟨E3, hE⟩ : ∃ E, q3.heap.size = E := ⟨_, rfl⟩
  rw [hE] at D3 ⊢
  clear hv hbn hbb hE hO1 hO2 hO3 hR HC hb3
  clear HC0 p0 p1 p2 p3
  obtain ⟨x0, x1, x2, x3, x4⟩ := D1.out.cells
  obtain ⟨p0, p1, p2, p3⟩ := four_cells KF.out
  have HC0 : Hid (Calls Try.prog 20 #[.agg #[.int .i64 d.day, .int .i64 d.ans, .int .i64 d.app, .slice r1 d.hol.length c1, .slice m1 d.mts.length k1], .agg #[.int .i64 f.kind, .int .i64 f.day, .int .i64 f.id, .int .i64 f.opt]] v3 (AnsPost v3.heap.size v3 (b, ss, es))) := Lib.hid (by rw [← HB.out]; exact File_any d.day d.ans d.app f r1 m1 c1 k1 d.hol d.mts v3 D1.out.hM D1.out.hI D1.out.cap (Nat.le_trans HBG.out (by decide)))
  have HC := Lib.hid (HC0.out)
  go_wp2_with fail
  refine HC.out.mono ?_
  rintro e q4 ⟨dv, rv, rfl, ⟨r4, c4, m4, k4, rfl, hO1, hO2⟩, hO3, hb4⟩
  obtain ⟨a4, b4, rfl, hR⟩ := owns_rls hO3
  clear x0 x1 x2 x3 x4
  go_upto_region 8 with fail
  try dsimp only
  obtain ⟨v4, hv⟩ : ∃ v, q4.alloc (dkObj b.day b.ans b.app r4 b.hol.length c4 m4 b.mts.length k4) = v := ⟨_, rfl⟩
  rw [hv]
  have hbn : Below q4.heap.size q4 v4 := by rw [← hv]; exact (Below.refl _ _).alloc (Nat.le_refl _) _
  have hbb : Below v3.heap.size v3 v4 := hb4.trans (hbn.mono hb4.size)
  replace B := Lib.hid (B.out.trans (hbb.mono B.out.size))
  replace KF := Lib.hid (keep_heap hbb KF.out)
  replace D1 := Lib.hid (D1.out.next hbb)
  replace KG := Lib.hid (keep_heap hbb KG.out)
  replace D2 := Lib.hid (D2.out.next hbb)
  replace R2 := Lib.hid (R2.out.next hbb)
  replace D3 := Lib.hid (D3.out.next hbb)
  replace R3 := Lib.hid (R3.out.next hbb)
  have D4 : Hid (Dv v4 q4.heap.size b r4 c4 m4 k4) := Lib.hid (by rw [← hv]; exact Dv.made hO1 hO2)
  have R4 : Hid (Rls v4 a4 ss) := Lib.hid (hR.next hbn)
  obtain ⟨E4, hE⟩ : ∃ E, q4.heap.size = E := ⟨_, rfl⟩
  rw [hE] at D4 ⊢
  clear hv hbn hbb hE hO1 hO2 hO3 hR HC hb4
  clear HC0 p0 p1 p2 p3
  obtain ⟨x0, x1, x2, x3, x4⟩ := D1.out.cells
  obtain ⟨p0, p1, p2, p3⟩ := four_cells KF.out
  have HC0 : Hid (Calls Try.prog 28 #[.agg #[.int .i64 d.day, .int .i64 d.ans, .int .i64 d.app, .slice r1 d.hol.length c1, .slice m1 d.mts.length k1], .agg #[.int .i64 f.kind, .int .i64 f.day, .int .i64 f.id, .int .i64 f.opt]] v4 (AnsPost v4.heap.size v4 (b, ss, es))) := Lib.hid (by rw [← HB.out]; exact FileR_any d.day d.ans d.app f r1 m1 c1 k1 d.hol d.mts v4 D1.out.hM D1.out.hI D1.out.hn D1.out.mn (Nat.le_trans HBG.out (by decide)))
  have HC := Lib.hid (HC0.out)
  go_wp2_with fail
  refine HC.out.mono ?_
  rintro e q5 ⟨dv, rv, rfl, ⟨r5, c5, m5, k5, rfl, hO1, hO2⟩, hO3, hb5⟩
  obtain ⟨a5, b5, rfl, hR⟩ := owns_rls hO3
  clear x0 x1 x2 x3 x4
  go_upto_region 9 with fail
  try dsimp only
  obtain ⟨v5, hv⟩ : ∃ v, q5.alloc (dkObj b.day b.ans b.app r5 b.hol.length c5 m5 b.mts.length k5) = v := ⟨_, rfl⟩
  rw [hv]
  have hbn : Below q5.heap.size q5 v5 := by rw [← hv]; exact (Below.refl _ _).alloc (Nat.le_refl _) _
  have hbb : Below v4.heap.size v4 v5 := hb5.trans (hbn.mono hb5.size)
  replace B := Lib.hid (B.out.trans (hbb.mono B.out.size))
  replace KF := Lib.hid (keep_heap hbb KF.out)
  replace D1 := Lib.hid (D1.out.next hbb)
  replace KG := Lib.hid (keep_heap hbb KG.out)
  replace D2 := Lib.hid (D2.out.next hbb)
  replace R2 := Lib.hid (R2.out.next hbb)
  replace D3 := Lib.hid (D3.out.next hbb)
  replace R3 := Lib.hid (R3.out.next hbb)
  replace D4 := Lib.hid (D4.out.next hbb)
  replace R4 := Lib.hid (R4.out.next hbb)
  have D5 : Hid (Dv v5 q5.heap.size b r5 c5 m5 k5) := Lib.hid (by rw [← hv]; exact Dv.made hO1 hO2)
  have R5 : Hid (Rls v5 a5 ss) := Lib.hid (hR.next hbn)
  obtain ⟨E5, hE⟩ : ∃ E, q5.heap.size = E := ⟨_, rfl⟩
  rw [hE] at D5 ⊢
  clear hv hbn hbb hE hO1 hO2 hO3 hR HC hb5
  clear HC0 p0 p1 p2 p3
  have HC := Lib.hid (oawake_any v5)
  go_wp2_with fail
  refine HC.out.mono ?_
  rintro e q6 ⟨rfl, hb6⟩
  replace B := Lib.hid (B.out.trans (hb6.mono B.out.size))
  replace KF := Lib.hid (keep_heap hb6 KF.out)
  replace D1 := Lib.hid (D1.out.next hb6)
  replace KG := Lib.hid (keep_heap hb6 KG.out)
  replace D2 := Lib.hid (D2.out.next hb6)
  replace R2 := Lib.hid (R2.out.next hb6)
  replace D3 := Lib.hid (D3.out.next hb6)
  replace R3 := Lib.hid (R3.out.next hb6)
  replace D4 := Lib.hid (D4.out.next hb6)
  replace R4 := Lib.hid (R4.out.next hb6)
  replace D5 := Lib.hid (D5.out.next hb6)
  replace R5 := Lib.hid (R5.out.next hb6)
  clear HC hb6
  obtain ⟨x0, x1, x2, x3, x4⟩ := D2.out.cells
  obtain ⟨y0, y1, y2, y3, y4⟩ := D3.out.cells
  have HC := Lib.hid (sameDocket_any a.day a.ans a.app r2 r3 m2 m3 c2 c3 k2 k3 a.hol a.mts q6 D2.out.hI D3.out.hI D2.out.hM D3.out.hM (Nat.le_trans HS1.out.2 (by decide)) (Nat.le_trans HS1.out.1 (by decide)))
  go_wp2_with fail
  refine HC.out.mono ?_
  rintro e q7 ⟨rfl, hb7⟩
  clear x0 x1 x2 x3 x4
  clear y0 y1 y2 y3 y4
  replace B := Lib.hid (B.out.trans (hb7.mono B.out.size))
  replace KF := Lib.hid (keep_heap hb7 KF.out)
  replace D1 := Lib.hid (D1.out.next hb7)
  replace KG := Lib.hid (keep_heap hb7 KG.out)
  replace D2 := Lib.hid (D2.out.next hb7)
  replace R2 := Lib.hid (R2.out.next hb7)
  replace D3 := Lib.hid (D3.out.next hb7)
  replace R3 := Lib.hid (R3.out.next hb7)
  replace D4 := Lib.hid (D4.out.next hb7)
  replace R4 := Lib.hid (R4.out.next hb7)
  replace D5 := Lib.hid (D5.out.next hb7)
  replace R5 := Lib.hid (R5.out.next hb7)
  clear HC hb7
  have HC := Lib.hid (sameRulings_any a2 a3 b2 b3 rs q7 R2.out R3.out (Nat.le_trans HS3.out (by decide)))
  go_wp2_with fail
  refine HC.out.mono ?_
  rintro e q8 ⟨rfl, hb8⟩
  replace B := Lib.hid (B.out.trans (hb8.mono B.out.size))
  replace KF := Lib.hid (keep_heap hb8 KF.out)
  replace D1 := Lib.hid (D1.out.next hb8)
  replace KG := Lib.hid (keep_heap hb8 KG.out)
  replace D2 := Lib.hid (D2.out.next hb8)
  replace R2 := Lib.hid (R2.out.next hb8)
  replace D3 := Lib.hid (D3.out.next hb8)
  replace R3 := Lib.hid (R3.out.next hb8)
  replace D4 := Lib.hid (D4.out.next hb8)
  replace R4 := Lib.hid (R4.out.next hb8)
  replace D5 := Lib.hid (D5.out.next hb8)
  replace R5 := Lib.hid (R5.out.next hb8)
  clear HC hb8
  go_wp2_with fail
  go_ret
  exact ⟨rfl, B.out⟩

set_option maxRecDepth 100000 in
set_option maxHeartbeats 4000000 in
theorem docketFile_late (x y : Int) (uo lo : Option Addr) (uc lc : Nat) (hs : List Int) (l : List Q4) (f : Fl) (kd id op z : Int) (w : World) (hL : U16s w uo hs) (hr : ∀ i, 0 ≤ hs.getD i 0 ∧ hs.getD i 0 ≤ 65535) (hQ : Q4s w lo l) (x0 : 0 ≤ x) (x1 : x ≤ 255) (y0 : 0 ≤ y) (y1 : y ≤ 255) (kd0 : 0 ≤ kd) (kd1 : kd ≤ 255) (id0 : 0 ≤ id) (id1 : id ≤ 255) (op0 : 0 ≤ op) (op1 : op ≤ 255) :
    Calls Try.prog 9 #[.agg #[.int .u8 x, .int .u8 y], .slice uo hs.length uc, .slice lo l.length lc, .agg #[.int .i64 f.kind, .int .i64 f.day, .int .i64 f.id, .int .i64 f.opt], .int .u8 kd, .int .u8 id, .int .u8 op, .int .i8 z, .bool true] w fun e w' => e = .returned (.bool true) ∧ Below w.heap.size w w' := by
  obtain ⟨W, hW⟩ : ∃ W, (w.alloc (b2Obj x y)).alloc (flObj f) = W := ⟨_, rfl⟩
  obtain ⟨hbW, k1, k2⟩ := two_made' hW
  have HWW := Lib.hid hW
  have B := Lib.hid hbW
  have KF := Lib.hid k1
  have K2 := Lib.hid k2
  have HL := Lib.hid (hL.next hbW)
  have HQ := Lib.hid (hQ.next hbW)
  have HGB := Lib.hid (builtD_good x y hs l)
  have HBG : Hid ((builtD x y hs l).mts.length ≤ 1000) := Lib.hid built_big
  have HBU := Lib.hid fun V h1 h2 => built_any x y uo lo uc lc hs l V h1 hr h2 x0 x1 y0 y1
  generalize builtD x y hs l = d at HGB HBG HBU
  obtain ⟨t, ht⟩ : ∃ t, z.tmod 40 = t := ⟨_, rfl⟩
  have htb := tmod40 z
  rw [ht] at htb
  obtain ⟨t0, t1⟩ := htb
  clear hL hQ hr hW hbW k1 k2
  go_enter Try.func9, Try.ntmps9
  go_upto_region 1 with fail
  try dsimp only
  rw [HWW.out]
  obtain ⟨EF, hEF⟩ : ∃ E, w.heap.size + 1 = E := ⟨_, rfl⟩
  obtain ⟨EB, hEB⟩ : ∃ E, w.heap.size = E := ⟨_, rfl⟩
  rw [hEF] at KF
  try rw [hEF]
  rw [hEB] at K2
  try rw [hEB]
  clear HWW hEF hEB
  obtain ⟨p0, p1⟩ := two_cells K2.out
  have HC := Lib.hid (HBU.out W HL.out HQ.out)
  go_wp2_with fail
  refine HC.out.mono ?_
  rintro e q1 ⟨r1, c1, m1, k1, rfl, hO1, hO2, hb1⟩
  go_upto_region 2 with fail
  try dsimp only
  obtain ⟨v1, hv⟩ : ∃ v, q1.alloc (dkObj d.day d.ans d.app r1 d.hol.length c1 m1 d.mts.length k1) = v := ⟨_, rfl⟩
  rw [hv]
  have hbn : Below q1.heap.size q1 v1 := by rw [← hv]; exact (Below.refl _ _).alloc (Nat.le_refl _) _
  have hbb : Below W.heap.size W v1 := hb1.trans (hbn.mono hb1.size)
  replace B := Lib.hid (B.out.trans (hbb.mono B.out.size))
  replace KF := Lib.hid (keep_heap hbb KF.out)
  replace HL := Lib.hid (HL.out.next hbb)
  replace HQ := Lib.hid (HQ.out.next hbb)
  replace K2 := Lib.hid (keep_heap hbb K2.out)
  have D1 : Hid (Dv v1 q1.heap.size d r1 c1 m1 k1) := Lib.hid (by rw [← hv]; exact Dv.made hO1 hO2)
  obtain ⟨E1, hE⟩ : ∃ E, q1.heap.size = E := ⟨_, rfl⟩
  rw [hE] at D1 ⊢
  clear hv hbn hbb hE hO1 hO2 HC hb1
  clear p0 p1 HL HQ K2 HBU
  obtain ⟨hd0, hd1⟩ := HGB.out.2
  obtain ⟨x0, x1, x2, x3, x4⟩ := D1.out.cells
  have hDl := D1.out.lt
  go_upto_region 5 with fail
  try dsimp only
  obtain ⟨V, hv⟩ : ∃ v, v1.alloc (fiObj (kd % 8) (1048576 - op % 12) (id % 5 - id / 250) (op % 6 - 1)) = v := ⟨_, rfl⟩
  rw [hv]
  have hbb : Below v1.heap.size v1 V := by rw [← hv]; exact (Below.refl _ _).alloc (Nat.le_refl _) _
  have KG0 : V.heap[v1.heap.size]? = some (flObj ⟨kd % 8, 1048576 - op % 12, id % 5 - id / 250, op % 6 - 1⟩) := by rw [← hv]; exact heap_alloc_new v1 _
  obtain ⟨f2, hf2⟩ : ∃ f2 : Fl, (⟨kd % 8, 1048576 - op % 12, id % 5 - id / 250, op % 6 - 1⟩ : Fl) = f2 := ⟨_, rfl⟩
  rw [hf2] at KG0
  have KG := Lib.hid KG0
  clear x0 x1 x2 x3 x4
  replace B := Lib.hid (B.out.trans (hbb.mono B.out.size))
  replace KF := Lib.hid (keep_heap hbb KF.out)
  replace D1 := Lib.hid (D1.out.next hbb)
  obtain ⟨EG, hE⟩ : ∃ E, v1.heap.size = E := ⟨_, rfl⟩
  rw [hE] at KG ⊢
  clear hv hbb KG0 hf2 hE hDl kd0 kd1 id0 id1 op0 op1 ht t0 t1 hd0 hd1
  obtain ⟨⟨a, rs, er⟩, hA⟩ : ∃ A, fileF d f2 = A := ⟨_, rfl⟩
  obtain ⟨⟨b, ss, es⟩, hB⟩ : ∃ A, fileF d f = A := ⟨_, rfl⟩
  have HS1 := Lib.hid (file_short (d := d) (f := f2))
  have HS3 := Lib.hid (file_rl_len d f2)
  rw [hA] at HS1 HS3
  have HA := Lib.hid hA
  have HB := Lib.hid hB
  clear hA hB
  obtain ⟨x0, x1, x2, x3, x4⟩ := D1.out.cells
  obtain ⟨p0, p1, p2, p3⟩ := four_cells KG.out
  have HC0 : Hid (Calls Try.prog 20 #[.agg #[.int .i64 d.day, .int .i64 d.ans, .int .i64 d.app, .slice r1 d.hol.length c1, .slice m1 d.mts.length k1], .agg #[.int .i64 f2.kind, .int .i64 f2.day, .int .i64 f2.id, .int .i64 f2.opt]] V (AnsPost V.heap.size V (a, rs, er))) := Lib.hid (by rw [← HA.out]; exact File_any d.day d.ans d.app f2 r1 m1 c1 k1 d.hol d.mts V D1.out.hM D1.out.hI D1.out.cap (Nat.le_trans HBG.out (by decide)))
  have HC := Lib.hid (HC0.out)
  go_wp2_with fail
  refine HC.out.mono ?_
  rintro e q2 ⟨dv, rv, rfl, ⟨r2, c2, m2, k2, rfl, hO1, hO2⟩, hO3, hb2⟩
  obtain ⟨a2, b2, rfl, hR⟩ := owns_rls hO3
  clear x0 x1 x2 x3 x4
  go_upto_region 6 with fail
  try dsimp only
  obtain ⟨v2, hv⟩ : ∃ v, q2.alloc (dkObj a.day a.ans a.app r2 a.hol.length c2 m2 a.mts.length k2) = v := ⟨_, rfl⟩
  rw [hv]
  have hbn : Below q2.heap.size q2 v2 := by rw [← hv]; exact (Below.refl _ _).alloc (Nat.le_refl _) _
  have hbb : Below V.heap.size V v2 := hb2.trans (hbn.mono hb2.size)
  replace B := Lib.hid (B.out.trans (hbb.mono B.out.size))
  replace KF := Lib.hid (keep_heap hbb KF.out)
  replace D1 := Lib.hid (D1.out.next hbb)
  replace KG := Lib.hid (keep_heap hbb KG.out)
  have D2 : Hid (Dv v2 q2.heap.size a r2 c2 m2 k2) := Lib.hid (by rw [← hv]; exact Dv.made hO1 hO2)
  have R2 : Hid (Rls v2 a2 rs) := Lib.hid (hR.next hbn)
  obtain ⟨E2, hE⟩ : ∃ E, q2.heap.size = E := ⟨_, rfl⟩
  rw [hE] at D2 ⊢
  clear hv hbn hbb hE hO1 hO2 hO3 hR HC hb2
  clear HC0 p0 p1 p2 p3
  obtain ⟨x0, x1, x2, x3, x4⟩ := D1.out.cells
  obtain ⟨p0, p1, p2, p3⟩ := four_cells KG.out
  have HC0 : Hid (Calls Try.prog 28 #[.agg #[.int .i64 d.day, .int .i64 d.ans, .int .i64 d.app, .slice r1 d.hol.length c1, .slice m1 d.mts.length k1], .agg #[.int .i64 f2.kind, .int .i64 f2.day, .int .i64 f2.id, .int .i64 f2.opt]] v2 (AnsPost v2.heap.size v2 (a, rs, er))) := Lib.hid (by rw [← HA.out]; exact FileR_any d.day d.ans d.app f2 r1 m1 c1 k1 d.hol d.mts v2 D1.out.hM D1.out.hI D1.out.hn D1.out.mn (Nat.le_trans HBG.out (by decide)))
  have HC := Lib.hid (HC0.out)
  go_wp2_with fail
  refine HC.out.mono ?_
  rintro e q3 ⟨dv, rv, rfl, ⟨r3, c3, m3, k3, rfl, hO1, hO2⟩, hO3, hb3⟩
  obtain ⟨a3, b3, rfl, hR⟩ := owns_rls hO3
  clear x0 x1 x2 x3 x4
  go_upto_region 7 with fail
  try dsimp only
  obtain ⟨v3, hv⟩ : ∃ v, q3.alloc (dkObj a.day a.ans a.app r3 a.hol.length c3 m3 a.mts.length k3) = v := ⟨_, rfl⟩
  rw [hv]
  have hbn : Below q3.heap.size q3 v3 := by rw [← hv]; exact (Below.refl _ _).alloc (Nat.le_refl _) _
  have hbb : Below v2.heap.size v2 v3 := hb3.trans (hbn.mono hb3.size)
  replace B := Lib.hid (B.out.trans (hbb.mono B.out.size))
  replace KF := Lib.hid (keep_heap hbb KF.out)
  replace D1 := Lib.hid (D1.out.next hbb)
  replace KG := Lib.hid (keep_heap hbb KG.out)
  replace D2 := Lib.hid (D2.out.next hbb)
  replace R2 := Lib.hid (R2.out.next hbb)
  have D3 : Hid (Dv v3 q3.heap.size a r3 c3 m3 k3) := Lib.hid (by rw [← hv]; exact Dv.made hO1 hO2)
  have R3 : Hid (Rls v3 a3 rs) := Lib.hid (hR.next hbn)
  obtain ⟨E3, hE⟩ : ∃ E, q3.heap.size = E := ⟨_, rfl⟩
  rw [hE] at D3 ⊢
  clear hv hbn hbb hE hO1 hO2 hO3 hR HC hb3
  clear HC0 p0 p1 p2 p3
  obtain ⟨x0, x1, x2, x3, x4⟩ := D1.out.cells
  obtain ⟨p0, p1, p2, p3⟩ := four_cells KF.out
  have HC0 : Hid (Calls Try.prog 20 #[.agg #[.int .i64 d.day, .int .i64 d.ans, .int .i64 d.app, .slice r1 d.hol.length c1, .slice m1 d.mts.length k1], .agg #[.int .i64 f.kind, .int .i64 f.day, .int .i64 f.id, .int .i64 f.opt]] v3 (AnsPost v3.heap.size v3 (b, ss, es))) := Lib.hid (by rw [← HB.out]; exact File_any d.day d.ans d.app f r1 m1 c1 k1 d.hol d.mts v3 D1.out.hM D1.out.hI D1.out.cap (Nat.le_trans HBG.out (by decide)))
  have HC := Lib.hid (HC0.out)
  go_wp2_with fail
  refine HC.out.mono ?_
  rintro e q4 ⟨dv, rv, rfl, ⟨r4, c4, m4, k4, rfl, hO1, hO2⟩, hO3, hb4⟩
  obtain ⟨a4, b4, rfl, hR⟩ := owns_rls hO3
  clear x0 x1 x2 x3 x4
  go_upto_region 8 with fail
  try dsimp only
  obtain ⟨v4, hv⟩ : ∃ v, q4.alloc (dkObj b.day b.ans b.app r4 b.hol.length c4 m4 b.mts.length k4) = v := ⟨_, rfl⟩
  rw [hv]
  have hbn : Below q4.heap.size q4 v4 := by rw [← hv]; exact (Below.refl _ _).alloc (Nat.le_refl _) _
  have hbb : Below v3.heap.size v3 v4 := hb4.trans (hbn.mono hb4.size)
  replace B := Lib.hid (B.out.trans (hbb.mono B.out.size))
  replace KF := Lib.hid (keep_heap hbb KF.out)
  replace D1 := Lib.hid (D1.out.next hbb)
  replace KG := Lib.hid (keep_heap hbb KG.out)
  replace D2 := Lib.hid (D2.out.next hbb)
  replace R2 := Lib.hid (R2.out.next hbb)
  replace D3 := Lib.hid (D3.out.next hbb)
  replace R3 := Lib.hid (R3.out.next hbb)
  have D4 : Hid (Dv v4 q4.heap.size b r4 c4 m4 k4) := Lib.hid (by rw [← hv]; exact Dv.made hO1 hO2)
  have R4 : Hid (Rls v4 a4 ss) := Lib.hid (hR.next hbn)
  obtain ⟨E4, hE⟩ : ∃ E, q4.heap.size = E := ⟨_, rfl⟩
  rw [hE] at D4 ⊢
  clear hv hbn hbb hE hO1 hO2 hO3 hR HC hb4
  clear HC0 p0 p1 p2 p3
  obtain ⟨x0, x1, x2, x3, x4⟩ := D1.out.cells
  obtain ⟨p0, p1, p2, p3⟩ := four_cells KF.out
  have HC0 : Hid (Calls Try.prog 28 #[.agg #[.int .i64 d.day, .int .i64 d.ans, .int .i64 d.app, .slice r1 d.hol.length c1, .slice m1 d.mts.length k1], .agg #[.int .i64 f.kind, .int .i64 f.day, .int .i64 f.id, .int .i64 f.opt]] v4 (AnsPost v4.heap.size v4 (b, ss, es))) := Lib.hid (by rw [← HB.out]; exact FileR_any d.day d.ans d.app f r1 m1 c1 k1 d.hol d.mts v4 D1.out.hM D1.out.hI D1.out.hn D1.out.mn (Nat.le_trans HBG.out (by decide)))
  have HC := Lib.hid (HC0.out)
  go_wp2_with fail
  refine HC.out.mono ?_
  rintro e q5 ⟨dv, rv, rfl, ⟨r5, c5, m5, k5, rfl, hO1, hO2⟩, hO3, hb5⟩
  obtain ⟨a5, b5, rfl, hR⟩ := owns_rls hO3
  clear x0 x1 x2 x3 x4
  go_upto_region 9 with fail
  try dsimp only
  obtain ⟨v5, hv⟩ : ∃ v, q5.alloc (dkObj b.day b.ans b.app r5 b.hol.length c5 m5 b.mts.length k5) = v := ⟨_, rfl⟩
  rw [hv]
  have hbn : Below q5.heap.size q5 v5 := by rw [← hv]; exact (Below.refl _ _).alloc (Nat.le_refl _) _
  have hbb : Below v4.heap.size v4 v5 := hb5.trans (hbn.mono hb5.size)
  replace B := Lib.hid (B.out.trans (hbb.mono B.out.size))
  replace KF := Lib.hid (keep_heap hbb KF.out)
  replace D1 := Lib.hid (D1.out.next hbb)
  replace KG := Lib.hid (keep_heap hbb KG.out)
  replace D2 := Lib.hid (D2.out.next hbb)
  replace R2 := Lib.hid (R2.out.next hbb)
  replace D3 := Lib.hid (D3.out.next hbb)
  replace R3 := Lib.hid (R3.out.next hbb)
  replace D4 := Lib.hid (D4.out.next hbb)
  replace R4 := Lib.hid (R4.out.next hbb)
  have D5 : Hid (Dv v5 q5.heap.size b r5 c5 m5 k5) := Lib.hid (by rw [← hv]; exact Dv.made hO1 hO2)
  have R5 : Hid (Rls v5 a5 ss) := Lib.hid (hR.next hbn)
  obtain ⟨E5, hE⟩ : ∃ E, q5.heap.size = E := ⟨_, rfl⟩
  rw [hE] at D5 ⊢
  clear hv hbn hbb hE hO1 hO2 hO3 hR HC hb5
  clear HC0 p0 p1 p2 p3
  have HC := Lib.hid (oawake_any v5)
  go_wp2_with fail
  refine HC.out.mono ?_
  rintro e q6 ⟨rfl, hb6⟩
  replace B := Lib.hid (B.out.trans (hb6.mono B.out.size))
  replace KF := Lib.hid (keep_heap hb6 KF.out)
  replace D1 := Lib.hid (D1.out.next hb6)
  replace KG := Lib.hid (keep_heap hb6 KG.out)
  replace D2 := Lib.hid (D2.out.next hb6)
  replace R2 := Lib.hid (R2.out.next hb6)
  replace D3 := Lib.hid (D3.out.next hb6)
  replace R3 := Lib.hid (R3.out.next hb6)
  replace D4 := Lib.hid (D4.out.next hb6)
  replace R4 := Lib.hid (R4.out.next hb6)
  replace D5 := Lib.hid (D5.out.next hb6)
  replace R5 := Lib.hid (R5.out.next hb6)
  clear HC hb6
  obtain ⟨x0, x1, x2, x3, x4⟩ := D2.out.cells
  obtain ⟨y0, y1, y2, y3, y4⟩ := D3.out.cells
  have HC := Lib.hid (sameDocket_any a.day a.ans a.app r2 r3 m2 m3 c2 c3 k2 k3 a.hol a.mts q6 D2.out.hI D3.out.hI D2.out.hM D3.out.hM (Nat.le_trans HS1.out.2 (by decide)) (Nat.le_trans HS1.out.1 (by decide)))
  go_wp2_with fail
  refine HC.out.mono ?_
  rintro e q7 ⟨rfl, hb7⟩
  clear x0 x1 x2 x3 x4
  clear y0 y1 y2 y3 y4
  replace B := Lib.hid (B.out.trans (hb7.mono B.out.size))
  replace KF := Lib.hid (keep_heap hb7 KF.out)
  replace D1 := Lib.hid (D1.out.next hb7)
  replace KG := Lib.hid (keep_heap hb7 KG.out)
  replace D2 := Lib.hid (D2.out.next hb7)
  replace R2 := Lib.hid (R2.out.next hb7)
  replace D3 := Lib.hid (D3.out.next hb7)
  replace R3 := Lib.hid (R3.out.next hb7)
  replace D4 := Lib.hid (D4.out.next hb7)
  replace R4 := Lib.hid (R4.out.next hb7)
  replace D5 := Lib.hid (D5.out.next hb7)
  replace R5 := Lib.hid (R5.out.next hb7)
  clear HC hb7
  have HC := Lib.hid (sameRulings_any a2 a3 b2 b3 rs q7 R2.out R3.out (Nat.le_trans HS3.out (by decide)))
  go_wp2_with fail
  refine HC.out.mono ?_
  rintro e q8 ⟨rfl, hb8⟩
  replace B := Lib.hid (B.out.trans (hb8.mono B.out.size))
  replace KF := Lib.hid (keep_heap hb8 KF.out)
  replace D1 := Lib.hid (D1.out.next hb8)
  replace KG := Lib.hid (keep_heap hb8 KG.out)
  replace D2 := Lib.hid (D2.out.next hb8)
  replace R2 := Lib.hid (R2.out.next hb8)
  replace D3 := Lib.hid (D3.out.next hb8)
  replace R3 := Lib.hid (R3.out.next hb8)
  replace D4 := Lib.hid (D4.out.next hb8)
  replace R4 := Lib.hid (R4.out.next hb8)
  replace D5 := Lib.hid (D5.out.next hb8)
  replace R5 := Lib.hid (R5.out.next hb8)
  clear HC hb8
  go_wp2_with fail
  go_ret
  exact ⟨rfl, B.out⟩
end Go.Proofs.Ytpddpdkdlodniaa
