/-
  DocketCheck returns true for every input, and turns nothing that was there.
-/
import Derived.Test.YtpddpdkdlodniaaOFew
namespace Go.Proofs.Ytpddpdkdlodniaa
open Go.RowKit

/-- A docket's variable whose slices the law owns. -/
structure DvO (B : Nat) (w : World) (b : Nat) (d : Dk) (ro : Option Addr) (rc : Nat) (mo : Option Addr) (mc : Nat) : Prop where
  hp : w.heap[b]? = some (dkObj d.day d.ans d.app ro d.hol.length rc mo d.mts.length mc)
  h1 : w.ownsRow B 3 1 (.slice ro d.hol.length rc) d.hol.length (d.hol.map (Value.int .i64))
  h2 : w.ownsRow B 50 5 (.slice mo d.mts.length mc) d.mts.length (d.mts.flatMap mtCells)
  hB : B ≤ b
theorem DvO.dv {B : Nat} {w : World} {b : Nat} {d : Dk} {ro mo : Option Addr} {rc mc : Nat} (h : DvO B w b d ro rc mo mc) : Dv w b d ro rc mo mc := by
  obtain ⟨_, _, e1, hn1⟩ := owns_form h.h2
  cases e1
  exact ⟨h.hp, owns_ints h.h1, owns_mts h.h2, owns_nil h.h1, owns_nil h.h2, hn1⟩
theorem DvO.next {B : Nat} {w w2 : World} {b : Nat} {d : Dk} {ro mo : Option Addr} {rc mc : Nat} (h : DvO B w b d ro rc mo mc) (hb : Below w.heap.size w w2) : DvO B w2 b d ro rc mo mc :=
  ⟨keep_heap hb h.hp, owns_next h.h1 hb, owns_next h.h2 hb, h.hB⟩
/-- One element of its matters is changed. -/
theorem DvO.setM {B : Nat} {w : World} {b g : Nat} {d : Dk} {ro : Option Addr} {rc mc i j : Nat} {m m' : Mt} {u : Value} (h : DvO B w b d ro rc (some ⟨g, 0, none⟩) mc) (hi : i < d.mts.length) (hm : d.mts.getD i default = m) (hj : j < 5) (hu : (mtCells m).set j u = mtCells m') :
    DvO B (w.setCell ⟨g, i * 5 + j, none⟩ u) b { d with mts := d.mts.set i m' } ro rc (some ⟨g, 0, none⟩) mc := by
  obtain ⟨cs, hcs⟩ := row_block h.h2 rfl
  have hne : b ≠ g := fun e1 => by have := h.hp; rw [e1, hcs] at this; simp at this
  refine ⟨?_, owns_set h.h1 hcs (by decide), ?_, h.hB⟩
  · simp only [List.length_set]
    exact set_heap h.hp hne
  · simp only [List.length_set]
    exact owns_put1 h.h2 hi j u m' hj (by rw [hm]; exact hu)
/-- Its terms are changed. -/
theorem DvO.setA {B : Nat} {w : World} {b : Nat} {d : Dk} {ro mo : Option Addr} {rc mc : Nat} {a : Int} (h : DvO B w b d ro rc mo mc) : DvO B (w.setCell ⟨b, 1, none⟩ (.int .i64 a)) b { d with ans := a } ro rc mo mc :=
  ⟨heap_setCell_same w b 1 _ _ (.int .i64 a) h.hp, owns_set h.h1 h.hp (by decide), owns_set h.h2 h.hp (by decide), h.hB⟩
/-- A docket that came in stays as it is. -/
theorem dv_set {w w2 : World} {d : Dk} {ho mo : Option Addr} {hc mc b g i : Nat} {u : Value} (hA : DkArg w d ho hc mo mc) (h : Dv w2 b d ho hc mo mc) (hb : Below w.heap.size w (w2.setCell ⟨g, i, none⟩ u)) (hne : b ≠ g) : Dv (w2.setCell ⟨g, i, none⟩ u) b d ho hc mo mc :=
  dv_arg hA hb (set_heap h.hp hne)
theorem idx_of {n : Nat} {a : Int} (hn : 0 < n) : ∃ i : Nat, a % (n : Int) = i ∧ i < n := by
  have h1 := Int.emod_nonneg a (show (n : Int) ≠ 0 by omega)
  have h2 := Int.emod_lt_of_pos a (show (0 : Int) < n by omega)
  exact ⟨(a % (n : Int)).toNat, by omega, by omega⟩
theorem built_mt {d : Dk} {i : Nat} {m : Mt} (h : GoodB d) (hi : i < d.mts.length) (hm : d.mts.getD i default = m) : 0 ≤ m.id ∧ 1 ≤ m.st ∧ m.st ≤ 6 ∧ 0 ≤ m.due ∧ m.due ≤ 1048576 := by
  have hmem : m ∈ d.mts := by
    rw [← hm, List.getD, List.getElem?_eq_getElem hi]
    exact List.getElem_mem hi
  obtain ⟨h1, h2⟩ := h.1.2.2.1 m hmem
  obtain ⟨a, b, -, -, e, f, -, -⟩ := (sound_iff _ _).1 h2
  have := h.2
  refine ⟨h1, a, b, ?_⟩
  by_cases hr : m.st = 2 ∨ m.st = 4
  · have := e hr; omega
  · have := f (by omega) (by omega); omega
theorem cs10 {w w2 : World} {b c : Nat} {d d' : Dk} {ro mo ro' mo' : Option Addr} {rc mc rc' mc' : Nat} (h : Dv w b d ro rc mo mc) (h' : Dv w c d' ro' rc' mo' mc') (hb : Below w.heap.size w w2) :
    w2.cell? ⟨b, 0, none⟩ = some (.int .i64 d.day) ∧ w2.cell? ⟨b, 1, none⟩ = some (.int .i64 d.ans) ∧ w2.cell? ⟨b, 2, none⟩ = some (.int .i64 d.app) ∧ w2.cell? ⟨b, 3, none⟩ = some (.slice ro d.hol.length rc) ∧ w2.cell? ⟨b, 4, none⟩ = some (.slice mo d.mts.length mc) ∧
    w2.cell? ⟨c, 0, none⟩ = some (.int .i64 d'.day) ∧ w2.cell? ⟨c, 1, none⟩ = some (.int .i64 d'.ans) ∧ w2.cell? ⟨c, 2, none⟩ = some (.int .i64 d'.app) ∧ w2.cell? ⟨c, 3, none⟩ = some (.slice ro' d'.hol.length rc') ∧ w2.cell? ⟨c, 4, none⟩ = some (.slice mo' d'.mts.length mc') := by
  obtain ⟨a0, a1, a2, a3, a4⟩ := (h.next hb).cells
  obtain ⟨b0, b1, b2, b3, b4⟩ := (h'.next hb).cells
  exact ⟨a0, a1, a2, a3, a4, b0, b1, b2, b3, b4⟩

set_option maxRecDepth 100000 in
set_option maxHeartbeats 4000000 in
theorem docketCheck_end (raw : Dk) (r0 m0 : Option Addr) (c0 k0 : Nat) (x y : Int) (uo lo : Option Addr) (uc lc : Nat) (hs : List Int) (l : List Q4) (ai wh : Int) (w : World) (hA : DkArg w raw r0 c0 m0 k0) (hf : ¬ (raw.hol.length ≤ 12 ∧ raw.mts.length ≤ 10)) :
    Calls Try.prog 6 #[.agg #[.int .i64 raw.day, .int .i64 raw.ans, .int .i64 raw.app, .slice r0 raw.hol.length c0, .slice m0 raw.mts.length k0], .agg #[.int .u8 x, .int .u8 y], .slice uo hs.length uc, .slice lo l.length lc, .int .u8 ai, .int .u8 wh] w fun e w' => e = .returned (.bool true) ∧ Below w.heap.size w w' := by
  obtain ⟨W, hW⟩ : ∃ W, (w.alloc (dkObj raw.day raw.ans raw.app r0 raw.hol.length c0 m0 raw.mts.length k0)).alloc (b2Obj x y) = W := ⟨_, rfl⟩
  obtain ⟨hbW, k1, k2⟩ := two_made hW
  have HWW := Lib.hid hW
  have B := Lib.hid hbW
  have D0 := Lib.hid (dv_arg hA hbW k1)
  clear hW hA k1 hbW k2
  go_enter Try.func6, Try.ntmps6
  go_upto_region 1 with fail
  try dsimp only
  rw [HWW.out]
  obtain ⟨E0, hE0⟩ : ∃ E, w.heap.size = E := ⟨_, rfl⟩
  rw [hE0] at D0
  try rw [hE0]
  clear HWW hE0
  obtain ⟨x0, x1, x2, x3, x4⟩ := D0.out.cells
  have HC := Lib.hid (few_no raw r0 m0 c0 k0 W hf)
  go_wp2_with fail
  refine HC.out.mono ?_
  rintro e q1 ⟨rfl, hb1⟩
  clear x0 x1 x2 x3 x4
  replace B := Lib.hid (B.out.trans (hb1.mono B.out.size))
  replace D0 := Lib.hid (D0.out.next hb1)
  clear HC hb1
  have HC := Lib.hid (oawake_any q1)
  go_wp2_with fail
  refine HC.out.mono ?_
  rintro e q2 ⟨rfl, hb2⟩
  replace B := Lib.hid (B.out.trans (hb2.mono B.out.size))
  replace D0 := Lib.hid (D0.out.next hb2)
  clear HC hb2
  go_wp2_with fail
  go_ret
  exact ⟨rfl, B.out⟩

set_option maxRecDepth 100000 in
set_option maxHeartbeats 4000000 in
theorem docketCheck_none (raw : Dk) (r0 m0 : Option Addr) (c0 k0 : Nat) (x y : Int) (uo lo : Option Addr) (uc lc : Nat) (hs : List Int) (l : List Q4) (ai wh : Int) (w : World) (hA : DkArg w raw r0 c0 m0 k0) (hf : raw.hol.length ≤ 12 ∧ raw.mts.length ≤ 10) (hL : U16s w uo hs) (hr : ∀ i, 0 ≤ hs.getD i 0 ∧ hs.getD i 0 ≤ 65535) (hQ : Q4s w lo l) (x0 : 0 ≤ x) (x1 : x ≤ 255) (y0 : 0 ≤ y) (y1 : y ≤ 255) (hn : ¬ 0 < (builtD x y hs l).mts.length) :
    Calls Try.prog 6 #[.agg #[.int .i64 raw.day, .int .i64 raw.ans, .int .i64 raw.app, .slice r0 raw.hol.length c0, .slice m0 raw.mts.length k0], .agg #[.int .u8 x, .int .u8 y], .slice uo hs.length uc, .slice lo l.length lc, .int .u8 ai, .int .u8 wh] w fun e w' => e = .returned (.bool true) ∧ Below w.heap.size w w' := by
  obtain ⟨W, hW⟩ : ∃ W, (w.alloc (dkObj raw.day raw.ans raw.app r0 raw.hol.length c0 m0 raw.mts.length k0)).alloc (b2Obj x y) = W := ⟨_, rfl⟩
  obtain ⟨hbW, k1, k2⟩ := two_made hW
  have HWW := Lib.hid hW
  have B := Lib.hid hbW
  have D0 := Lib.hid (dv_arg hA hbW k1)
  have HAR := Lib.hid hA
  have HL := Lib.hid (hL.next hbW)
  have HQ := Lib.hid (hQ.next hbW)
  have K2 := Lib.hid k2
  have HF := Lib.hid hf
  have HGB := Lib.hid (builtD_good x y hs l)
  have HBG : Hid ((builtD x y hs l).mts.length ≤ 1000) := Lib.hid built_big
  have HBU := Lib.hid fun V h1 h2 => built_any x y uo lo uc lc hs l V h1 hr h2 x0 x1 y0 y1
  generalize builtD x y hs l = d at HGB HBG HBU hn
  clear hW hA k1 hL hQ hr hf hbW k2
  go_enter Try.func6, Try.ntmps6
  go_upto_region 1 with fail
  try dsimp only
  rw [HWW.out]
  obtain ⟨E0, hE0⟩ : ∃ E, w.heap.size = E := ⟨_, rfl⟩
  obtain ⟨EB, hEB⟩ : ∃ E, w.heap.size + 1 = E := ⟨_, rfl⟩
  rw [hEB] at K2
  try rw [hEB]
  rw [hE0] at D0
  try rw [hE0]
  have HE0 := Lib.hid hE0
  clear HWW hE0 hEB
  obtain ⟨x0, x1, x2, x3, x4⟩ := D0.out.cells
  have HC := Lib.hid (few_yes raw r0 m0 c0 k0 W HF.out.1 HF.out.2)
  go_wp2_with fail
  refine HC.out.mono ?_
  rintro e q1 ⟨rfl, hb1⟩
  clear x0 x1 x2 x3 x4
  replace B := Lib.hid (B.out.trans (hb1.mono B.out.size))
  replace D0 := Lib.hid (D0.out.next hb1)
  replace HL := Lib.hid (HL.out.next hb1)
  replace HQ := Lib.hid (HQ.out.next hb1)
  replace K2 := Lib.hid (keep_heap hb1 K2.out)
  clear HC hb1
  obtain ⟨p0, p1⟩ := two_cells K2.out
  have hE0q := D0.out.lt
  have HC := Lib.hid (HBU.out q1 HL.out HQ.out)
  go_wp2_with fail
  refine HC.out.mono ?_
  rintro e q9 ⟨r1, c1, m1, k1, rfl, hO1, hO2, hb9⟩
  clear p0 p1
  go_upto_region 4 with fail
  try dsimp only
  obtain ⟨V, hv⟩ : ∃ v, q9.alloc (dkObj d.day d.ans d.app r1 d.hol.length c1 m1 d.mts.length k1) = v := ⟨_, rfl⟩
  rw [hv]
  have hbn : Below q9.heap.size q9 V := by rw [← hv]; exact (Below.refl _ _).alloc (Nat.le_refl _) _
  have hbb : Below q1.heap.size q1 V := hb9.trans (hbn.mono hb9.size)
  have hws := B.out.size
  have DO : Hid (DvO w.heap.size V q9.heap.size d r1 c1 m1 k1) := Lib.hid (by rw [← hv]; exact ⟨heap_alloc_new q9 _, (hO1.mono hws).alloc _, (hO2.mono hws).alloc _, Nat.le_trans hws hb9.size⟩)
  replace B := Lib.hid (B.out.trans (hbb.mono B.out.size))
  replace D0 := Lib.hid (D0.out.next hbb)
  have hEl : E0 < q9.heap.size := Nat.lt_of_lt_of_le hE0q hb9.size
  obtain ⟨E1, hE⟩ : ∃ E, q9.heap.size = E := ⟨_, rfl⟩
  rw [hE] at DO hEl ⊢
  clear hv hbn hbb hE hO1 hO2 hb9 HC HL HQ K2 HBU hws
  have hbg : d.mts.length ≤ 9223372036854775807 := by omega
  obtain ⟨x0, x1, x2, x3, x4⟩ := DO.out.dv.cells
  go_upto_region 27 with fail
  obtain ⟨V2, hV2⟩ : ∃ V2, V = V2 := ⟨_, rfl⟩
  obtain ⟨d2, hd2⟩ : ∃ d2, d = d2 := ⟨_, rfl⟩
  subst hV2
  subst hd2
  have HBG2 := Lib.hid hbg
  clear hbg x0 x1 x2 x3 x4
  have HD1 := Lib.hid DO.out.dv
  obtain ⟨x0, x1, x2, x3, x4⟩ := HD1.out.cells
  obtain ⟨y0, y1, y2, y3, y4⟩ := D0.out.cells
  have HAW := Lib.hid (oawake_any V.drew)
  go_wp2_with fail
  go_region_held3 (fun w' => w'.cell? ⟨E1, 0, none⟩ = some (.int .i64 d.day) ∧ w'.cell? ⟨E1, 1, none⟩ = some (.int .i64 d.ans) ∧ w'.cell? ⟨E1, 2, none⟩ = some (.int .i64 d.app) ∧ w'.cell? ⟨E1, 3, none⟩ = some (.slice r1 d.hol.length c1) ∧ w'.cell? ⟨E1, 4, none⟩ = some (.slice m1 d.mts.length k1) ∧
      w'.cell? ⟨E0, 0, none⟩ = some (.int .i64 raw.day) ∧ w'.cell? ⟨E0, 1, none⟩ = some (.int .i64 raw.ans) ∧ w'.cell? ⟨E0, 2, none⟩ = some (.int .i64 raw.app) ∧ w'.cell? ⟨E0, 3, none⟩ = some (.slice r0 raw.hol.length c0) ∧ w'.cell? ⟨E0, 4, none⟩ = some (.slice m0 raw.mts.length k0))
    (first | with_reducible exact ⟨x0, x1, x2, x3, x4, y0, y1, y2, y3, y4⟩ | with_reducible exact CS.out | go_keep)
    (first
      | (go_at_call 14
         (with_reducible refine HAW.out.mono ?_)
         rintro e q1 ⟨rfl, hb1⟩
         have HB1 : Hid (Below V.heap.size V q1) := Lib.hid ((Below.refl _ _).drew.trans hb1)
         have CS := Lib.hid (cs10 HD1.out D0.out HB1.out)
         have HC1 := Lib.hid (check_any d.day d.ans d.app r1 m1 c1 k1 d.hol d.mts q1 (HD1.out.hM.next HB1.out) HD1.out.cap HBG2.out)
         clear hb1)
      | (go_at_call 21
         (with_reducible refine HC1.out.mono ?_)
         rintro e q2 ⟨rfl, hb2⟩
         have HB2 : Hid (Below V.heap.size V q2) := Lib.hid (HB1.out.trans (hb2.mono HB1.out.size))
         have CS := Lib.hid (cs10 HD1.out D0.out HB2.out)
         have HC2 := Lib.hid (checkR_any d.day d.ans d.app r1 m1 c1 k1 d.hol d.mts q2 (HD1.out.hM.next HB2.out) HBG2.out)
         clear hb2)
      | (go_at_call 24
         (with_reducible refine HC2.out.mono ?_)
         rintro e q3 ⟨rfl, hb3⟩
         have HB3 : Hid (Below V.heap.size V q3) := Lib.hid (HB2.out.trans (hb3.mono HB2.out.size))
         have CS := Lib.hid (cs10 HD1.out D0.out HB3.out)
         have HC3 := Lib.hid (check_any raw.day raw.ans raw.app r0 m0 c0 k0 raw.hol raw.mts q3 (D0.out.hM.next HB3.out) D0.out.cap HAR.out.big)
         clear hb3)
      | (go_at_call 21
         (with_reducible refine HC3.out.mono ?_)
         rintro e q4 ⟨rfl, hb4⟩
         have HB4 : Hid (Below V.heap.size V q4) := Lib.hid (HB3.out.trans (hb4.mono HB3.out.size))
         have CS := Lib.hid (cs10 HD1.out D0.out HB4.out)
         have HC4 := Lib.hid (checkR_any raw.day raw.ans raw.app r0 m0 c0 k0 raw.hol raw.mts q4 (D0.out.hM.next HB4.out) HAR.out.big)
         clear hb4)
      | (go_at_call 24
         (with_reducible refine HC4.out.mono ?_)
         rintro e q5 ⟨rfl, hb5⟩
         have HB5 : Hid (Below V.heap.size V q5) := Lib.hid (HB4.out.trans (hb5.mono HB4.out.size))
         have CS := Lib.hid (cs10 HD1.out D0.out HB5.out)
         clear hb5))
  go_wp2_with fail
  go_ret
  exact ⟨by first | rfl | simp, B.out.trans (HB5.out.mono B.out.size)⟩

set_option maxRecDepth 100000 in
set_option maxHeartbeats 4000000 in
theorem docketCheck_q0 (raw : Dk) (r0 m0 : Option Addr) (c0 k0 : Nat) (x y : Int) (uo lo : Option Addr) (uc lc : Nat) (hs : List Int) (l : List Q4) (ai wh : Int) (w : World) (hA : DkArg w raw r0 c0 m0 k0) (hf : raw.hol.length ≤ 12 ∧ raw.mts.length ≤ 10) (hL : U16s w uo hs) (hr : ∀ i, 0 ≤ hs.getD i 0 ∧ hs.getD i 0 ≤ 65535) (hQ : Q4s w lo l) (x0 : 0 ≤ x) (x1 : x ≤ 255) (y0 : 0 ≤ y) (y1 : y ≤ 255) (hn : 0 < (builtD x y hs l).mts.length) (a0 : 0 ≤ ai) (a1 : ai ≤ 255) (wh0 : 0 ≤ wh) (wh1 : wh ≤ 255) (hq : wh % 12 = 0) :
    Calls Try.prog 6 #[.agg #[.int .i64 raw.day, .int .i64 raw.ans, .int .i64 raw.app, .slice r0 raw.hol.length c0, .slice m0 raw.mts.length k0], .agg #[.int .u8 x, .int .u8 y], .slice uo hs.length uc, .slice lo l.length lc, .int .u8 ai, .int .u8 wh] w fun e w' => e = .returned (.bool true) ∧ Below w.heap.size w w' := by
  obtain ⟨W, hW⟩ : ∃ W, (w.alloc (dkObj raw.day raw.ans raw.app r0 raw.hol.length c0 m0 raw.mts.length k0)).alloc (b2Obj x y) = W := ⟨_, rfl⟩
  obtain ⟨hbW, k1, k2⟩ := two_made hW
  have HWW := Lib.hid hW
  have B := Lib.hid hbW
  have D0 := Lib.hid (dv_arg hA hbW k1)
  have HAR := Lib.hid hA
  have HL := Lib.hid (hL.next hbW)
  have HQ := Lib.hid (hQ.next hbW)
  have K2 := Lib.hid k2
  have HF := Lib.hid hf
  have HGB := Lib.hid (builtD_good x y hs l)
  have HBG : Hid ((builtD x y hs l).mts.length ≤ 1000) := Lib.hid built_big
  have HBU := Lib.hid fun V h1 h2 => built_any x y uo lo uc lc hs l V h1 hr h2 x0 x1 y0 y1
  generalize builtD x y hs l = d at HGB HBG HBU hn
  clear hW hA k1 hL hQ hr hf hbW k2
  go_enter Try.func6, Try.ntmps6
  go_upto_region 1 with fail
  try dsimp only
  rw [HWW.out]
  obtain ⟨E0, hE0⟩ : ∃ E, w.heap.size = E := ⟨_, rfl⟩
  obtain ⟨EB, hEB⟩ : ∃ E, w.heap.size + 1 = E := ⟨_, rfl⟩
  rw [hEB] at K2
  try rw [hEB]
  rw [hE0] at D0
  try rw [hE0]
  have HE0 := Lib.hid hE0
  clear HWW hE0 hEB
  obtain ⟨x0, x1, x2, x3, x4⟩ := D0.out.cells
  have HC := Lib.hid (few_yes raw r0 m0 c0 k0 W HF.out.1 HF.out.2)
  go_wp2_with fail
  refine HC.out.mono ?_
  rintro e q1 ⟨rfl, hb1⟩
  clear x0 x1 x2 x3 x4
  replace B := Lib.hid (B.out.trans (hb1.mono B.out.size))
  replace D0 := Lib.hid (D0.out.next hb1)
  replace HL := Lib.hid (HL.out.next hb1)
  replace HQ := Lib.hid (HQ.out.next hb1)
  replace K2 := Lib.hid (keep_heap hb1 K2.out)
  clear HC hb1
  obtain ⟨p0, p1⟩ := two_cells K2.out
  have hE0q := D0.out.lt
  have HC := Lib.hid (HBU.out q1 HL.out HQ.out)
  go_wp2_with fail
  refine HC.out.mono ?_
  rintro e q9 ⟨r1, c1, m1, k1, rfl, hO1, hO2, hb9⟩
  clear p0 p1
  go_upto_region 4 with fail
  try dsimp only
  obtain ⟨V, hv⟩ : ∃ v, q9.alloc (dkObj d.day d.ans d.app r1 d.hol.length c1 m1 d.mts.length k1) = v := ⟨_, rfl⟩
  rw [hv]
  have hbn : Below q9.heap.size q9 V := by rw [← hv]; exact (Below.refl _ _).alloc (Nat.le_refl _) _
  have hbb : Below q1.heap.size q1 V := hb9.trans (hbn.mono hb9.size)
  have hws := B.out.size
  have DO : Hid (DvO w.heap.size V q9.heap.size d r1 c1 m1 k1) := Lib.hid (by rw [← hv]; exact ⟨heap_alloc_new q9 _, (hO1.mono hws).alloc _, (hO2.mono hws).alloc _, Nat.le_trans hws hb9.size⟩)
  replace B := Lib.hid (B.out.trans (hbb.mono B.out.size))
  replace D0 := Lib.hid (D0.out.next hbb)
  have hEl : E0 < q9.heap.size := Nat.lt_of_lt_of_le hE0q hb9.size
  obtain ⟨E1, hE⟩ : ∃ E, q9.heap.size = E := ⟨_, rfl⟩
  rw [hE] at DO hEl ⊢
  clear hv hbn hbb hE hO1 hO2 hb9 HC HL HQ K2 HBU hws
  obtain ⟨i, hi, hil⟩ := idx_of (a := ai) hn
  obtain ⟨m, hm⟩ : ∃ m, d.mts.getD i default = m := ⟨_, rfl⟩
  have HM := Lib.hid hm
  obtain ⟨hid, hst0, hst1, hdu0, hdu1⟩ := built_mt HGB.out hil hm
  obtain ⟨hd0, hd1⟩ := HGB.out.2
  obtain ⟨g, rfl⟩ : ∃ g, m1 = some ⟨g, 0, none⟩ := by
    rcases DO.out.h2.2 with ⟨e1, e2⟩ | ⟨g, cap, cur, e1, _⟩
    · omega
    · cases e1; exact ⟨g, rfl⟩
  have hmod : ai.tmod (d.mts.length : Int) = (i : Int) := by rw [Int.tmod_eq_emod_of_nonneg a0]; exact hi
  have hi0 : (0 : Int) ≤ (i : Int) := Int.natCast_nonneg _
  have hi1 : (i : Int) < (d.mts.length : Int) := by omega
  have hn1 : (0 : Int) < (d.mts.length : Int) := by omega
  have hn2 : ((d.mts.length : Int) == 0) = false := by rw [beq_eq_false_iff_ne]; omega
  have hn3 : ¬ (d.mts.length : Int) = 0 := by omega
  have hwa : IntKind.i64.wrap ai = ai := IntWalk.i64_in _ ⟨by omega, by omega⟩
  have HIL := Lib.hid hil
  have HNN := Lib.hid hn
  obtain ⟨x0, x1, x2, x3, x4⟩ := DO.out.dv.cells
  clear hm hid hi
  go_upto_region 5 with fail
  go_quiet (fail)
  go_upto_region 6 with fail
  obtain ⟨V1, hV1⟩ : ∃ V1, V.drewN nq = V1 := ⟨_, rfl⟩
  rw [hV1]
  have hb1 : Below V.heap.size V V1 := by rw [← hV1]; exact below_drewN (Below.refl _ _) _
  replace DO := Lib.hid (DO.out.next hb1)
  replace D0 := Lib.hid (D0.out.next hb1)
  replace B := Lib.hid (B.out.trans (hb1.mono B.out.size))
  clear hV1 hb1 x0 x1 x2 x3 x4 hmod hn1 hn2 hn3 hwa hn
  obtain ⟨x0, x1, x2, x3, x4⟩ := DO.out.dv.cells
  obtain ⟨f0, f1, f2, f3, f4⟩ := five_free DO.out.hp
  obtain ⟨⟨m0', m1', m2', m3', m4'⟩, hgl⟩ := owns_mt DO.out.h2 HIL.out HM.out
  obtain ⟨⟨n0', -, -, -, -⟩, -⟩ := owns_mt DO.out.h2 HNN.out rfl
  rw [Nat.zero_mul] at n0'
  obtain ⟨zi, hzi⟩ : ∃ zi, (d.mts.getD 0 default).id = zi := ⟨_, rfl⟩
  rw [hzi] at n0'
  clear hzi
  have e0 := DO.out.h2.frozenAt (i * 5)
  have e1 := DO.out.h2.frozenAt (i * 5 + 1)
  have e2 := DO.out.h2.frozenAt (i * 5 + 2)
  have e3 := DO.out.h2.frozenAt (i * 5 + 3)
  have e4 := DO.out.h2.frozenAt (i * 5 + 4)
  have hgw := (DO.out.h2.lt g rfl).1
  try simp only at m0' m1' m2' m3' m4'
  go_upto_region 27 with fail
  obtain ⟨V2, hV2⟩ : ∃ V2, V1.setCell ⟨g, i * 5, none⟩ (.int .i64 (-1)) = V2 := ⟨_, rfl⟩
  rw [hV2]
  have hdo : DvO w.heap.size (V1.setCell ⟨g, i * 5, none⟩ (.int .i64 (-1))) E1 { d with mts := d.mts.set i ⟨-1, m.st, m.due, m.opt, m.df⟩ } r1 c1 (some ⟨g, 0, none⟩) k1 := DO.out.setM (j := 0) HIL.out HM.out (by omega) rfl
  have hne : E0 ≠ g := fun e => by
    obtain ⟨cs, hcs⟩ := row_block DO.out.h2 rfl
    have h := D0.out.hp
    rw [e, hcs] at h
    simp at h
  have hbs := B.out.setCell (p := ⟨g, i * 5, none⟩) hgw (.int .i64 (-1))
  have hd0' := dv_set HAR.out D0.out hbs hne
  have hlen : ({ d with mts := d.mts.set i ⟨-1, m.st, m.due, m.opt, m.df⟩ } : Dk).mts.length ≤ 9223372036854775807 := by simp only [List.length_set]; exact Nat.le_trans HBG.out (by decide)
  obtain ⟨d2, hd2⟩ : ∃ d2 : Dk, { d with mts := d.mts.set i ⟨-1, m.st, m.due, m.opt, m.df⟩ } = d2 := ⟨_, rfl⟩
  rw [hV2] at hdo hbs hd0'
  rw [hd2] at hdo hlen
  replace DO := Lib.hid hdo
  replace D0 := Lib.hid hd0'
  replace B := Lib.hid hbs
  have HBG2 := Lib.hid hlen
  obtain ⟨m1, hm1⟩ : ∃ m1 : Option Addr, some ⟨g, 0, none⟩ = m1 := ⟨_, rfl⟩
  clear hV2 hd2 hdo hbs hd0' hlen x0 x1 x2 x3 x4 f0 f1 f2 f3 f4 m0' m1' m2' m3' m4' n0' e0 e1 e2 e3 e4 hst0 hst1 hdu0 hdu1 hd0 hd1 hm1 m1
  clear hne
  have HD1 := Lib.hid DO.out.dv
  obtain ⟨x0, x1, x2, x3, x4⟩ := HD1.out.cells
  obtain ⟨y0, y1, y2, y3, y4⟩ := D0.out.cells
  have HAW := Lib.hid (oawake_any V2.drew)
  go_wp2_with fail
  go_region_held3 (fun w' => w'.cell? ⟨E1, 0, none⟩ = some (.int .i64 d2.day) ∧ w'.cell? ⟨E1, 1, none⟩ = some (.int .i64 d2.ans) ∧ w'.cell? ⟨E1, 2, none⟩ = some (.int .i64 d2.app) ∧ w'.cell? ⟨E1, 3, none⟩ = some (.slice r1 d2.hol.length c1) ∧ w'.cell? ⟨E1, 4, none⟩ = some (.slice (some ⟨g, 0, none⟩) d2.mts.length k1) ∧
      w'.cell? ⟨E0, 0, none⟩ = some (.int .i64 raw.day) ∧ w'.cell? ⟨E0, 1, none⟩ = some (.int .i64 raw.ans) ∧ w'.cell? ⟨E0, 2, none⟩ = some (.int .i64 raw.app) ∧ w'.cell? ⟨E0, 3, none⟩ = some (.slice r0 raw.hol.length c0) ∧ w'.cell? ⟨E0, 4, none⟩ = some (.slice m0 raw.mts.length k0))
    (first | with_reducible exact ⟨x0, x1, x2, x3, x4, y0, y1, y2, y3, y4⟩ | with_reducible exact CS.out | go_keep)
    (first
      | (go_at_call 14
         (with_reducible refine HAW.out.mono ?_)
         rintro e q1 ⟨rfl, hb1⟩
         have HB1 : Hid (Below V2.heap.size V2 q1) := Lib.hid ((Below.refl _ _).drew.trans hb1)
         have CS := Lib.hid (cs10 HD1.out D0.out HB1.out)
         have HC1 := Lib.hid (check_any d2.day d2.ans d2.app r1 (some ⟨g, 0, none⟩) c1 k1 d2.hol d2.mts q1 (HD1.out.hM.next HB1.out) HD1.out.cap HBG2.out)
         clear hb1)
      | (go_at_call 21
         (with_reducible refine HC1.out.mono ?_)
         rintro e q2 ⟨rfl, hb2⟩
         have HB2 : Hid (Below V2.heap.size V2 q2) := Lib.hid (HB1.out.trans (hb2.mono HB1.out.size))
         have CS := Lib.hid (cs10 HD1.out D0.out HB2.out)
         have HC2 := Lib.hid (checkR_any d2.day d2.ans d2.app r1 (some ⟨g, 0, none⟩) c1 k1 d2.hol d2.mts q2 (HD1.out.hM.next HB2.out) HBG2.out)
         clear hb2)
      | (go_at_call 24
         (with_reducible refine HC2.out.mono ?_)
         rintro e q3 ⟨rfl, hb3⟩
         have HB3 : Hid (Below V2.heap.size V2 q3) := Lib.hid (HB2.out.trans (hb3.mono HB2.out.size))
         have CS := Lib.hid (cs10 HD1.out D0.out HB3.out)
         have HC3 := Lib.hid (check_any raw.day raw.ans raw.app r0 m0 c0 k0 raw.hol raw.mts q3 (D0.out.hM.next HB3.out) D0.out.cap HAR.out.big)
         clear hb3)
      | (go_at_call 21
         (with_reducible refine HC3.out.mono ?_)
         rintro e q4 ⟨rfl, hb4⟩
         have HB4 : Hid (Below V2.heap.size V2 q4) := Lib.hid (HB3.out.trans (hb4.mono HB3.out.size))
         have CS := Lib.hid (cs10 HD1.out D0.out HB4.out)
         have HC4 := Lib.hid (checkR_any raw.day raw.ans raw.app r0 m0 c0 k0 raw.hol raw.mts q4 (D0.out.hM.next HB4.out) HAR.out.big)
         clear hb4)
      | (go_at_call 24
         (with_reducible refine HC4.out.mono ?_)
         rintro e q5 ⟨rfl, hb5⟩
         have HB5 : Hid (Below V2.heap.size V2 q5) := Lib.hid (HB4.out.trans (hb5.mono HB4.out.size))
         have CS := Lib.hid (cs10 HD1.out D0.out HB5.out)
         clear hb5))
  go_wp2_with fail
  go_ret
  exact ⟨by first | rfl | simp, B.out.trans (HB5.out.mono B.out.size)⟩

set_option maxRecDepth 100000 in
set_option maxHeartbeats 4000000 in
theorem docketCheck_q1 (raw : Dk) (r0 m0 : Option Addr) (c0 k0 : Nat) (x y : Int) (uo lo : Option Addr) (uc lc : Nat) (hs : List Int) (l : List Q4) (ai wh : Int) (w : World) (hA : DkArg w raw r0 c0 m0 k0) (hf : raw.hol.length ≤ 12 ∧ raw.mts.length ≤ 10) (hL : U16s w uo hs) (hr : ∀ i, 0 ≤ hs.getD i 0 ∧ hs.getD i 0 ≤ 65535) (hQ : Q4s w lo l) (x0 : 0 ≤ x) (x1 : x ≤ 255) (y0 : 0 ≤ y) (y1 : y ≤ 255) (hn : 0 < (builtD x y hs l).mts.length) (a0 : 0 ≤ ai) (a1 : ai ≤ 255) (wh0 : 0 ≤ wh) (wh1 : wh ≤ 255) (hq : wh % 12 = 1) :
    Calls Try.prog 6 #[.agg #[.int .i64 raw.day, .int .i64 raw.ans, .int .i64 raw.app, .slice r0 raw.hol.length c0, .slice m0 raw.mts.length k0], .agg #[.int .u8 x, .int .u8 y], .slice uo hs.length uc, .slice lo l.length lc, .int .u8 ai, .int .u8 wh] w fun e w' => e = .returned (.bool true) ∧ Below w.heap.size w w' := by
  obtain ⟨W, hW⟩ : ∃ W, (w.alloc (dkObj raw.day raw.ans raw.app r0 raw.hol.length c0 m0 raw.mts.length k0)).alloc (b2Obj x y) = W := ⟨_, rfl⟩
  obtain ⟨hbW, k1, k2⟩ := two_made hW
  have HWW := Lib.hid hW
  have B := Lib.hid hbW
  have D0 := Lib.hid (dv_arg hA hbW k1)
  have HAR := Lib.hid hA
  have HL := Lib.hid (hL.next hbW)
  have HQ := Lib.hid (hQ.next hbW)
  have K2 := Lib.hid k2
  have HF := Lib.hid hf
  have HGB := Lib.hid (builtD_good x y hs l)
  have HBG : Hid ((builtD x y hs l).mts.length ≤ 1000) := Lib.hid built_big
  have HBU := Lib.hid fun V h1 h2 => built_any x y uo lo uc lc hs l V h1 hr h2 x0 x1 y0 y1
  generalize builtD x y hs l = d at HGB HBG HBU hn
  clear hW hA k1 hL hQ hr hf hbW k2
  go_enter Try.func6, Try.ntmps6
  go_upto_region 1 with fail
  try dsimp only
  rw [HWW.out]
  obtain ⟨E0, hE0⟩ : ∃ E, w.heap.size = E := ⟨_, rfl⟩
  obtain ⟨EB, hEB⟩ : ∃ E, w.heap.size + 1 = E := ⟨_, rfl⟩
  rw [hEB] at K2
  try rw [hEB]
  rw [hE0] at D0
  try rw [hE0]
  have HE0 := Lib.hid hE0
  clear HWW hE0 hEB
  obtain ⟨x0, x1, x2, x3, x4⟩ := D0.out.cells
  have HC := Lib.hid (few_yes raw r0 m0 c0 k0 W HF.out.1 HF.out.2)
  go_wp2_with fail
  refine HC.out.mono ?_
  rintro e q1 ⟨rfl, hb1⟩
  clear x0 x1 x2 x3 x4
  replace B := Lib.hid (B.out.trans (hb1.mono B.out.size))
  replace D0 := Lib.hid (D0.out.next hb1)
  replace HL := Lib.hid (HL.out.next hb1)
  replace HQ := Lib.hid (HQ.out.next hb1)
  replace K2 := Lib.hid (keep_heap hb1 K2.out)
  clear HC hb1
  obtain ⟨p0, p1⟩ := two_cells K2.out
  have hE0q := D0.out.lt
  have HC := Lib.hid (HBU.out q1 HL.out HQ.out)
  go_wp2_with fail
  refine HC.out.mono ?_
  rintro e q9 ⟨r1, c1, m1, k1, rfl, hO1, hO2, hb9⟩
  clear p0 p1
  go_upto_region 4 with fail
  try dsimp only
  obtain ⟨V, hv⟩ : ∃ v, q9.alloc (dkObj d.day d.ans d.app r1 d.hol.length c1 m1 d.mts.length k1) = v := ⟨_, rfl⟩
  rw [hv]
  have hbn : Below q9.heap.size q9 V := by rw [← hv]; exact (Below.refl _ _).alloc (Nat.le_refl _) _
  have hbb : Below q1.heap.size q1 V := hb9.trans (hbn.mono hb9.size)
  have hws := B.out.size
  have DO : Hid (DvO w.heap.size V q9.heap.size d r1 c1 m1 k1) := Lib.hid (by rw [← hv]; exact ⟨heap_alloc_new q9 _, (hO1.mono hws).alloc _, (hO2.mono hws).alloc _, Nat.le_trans hws hb9.size⟩)
  replace B := Lib.hid (B.out.trans (hbb.mono B.out.size))
  replace D0 := Lib.hid (D0.out.next hbb)
  have hEl : E0 < q9.heap.size := Nat.lt_of_lt_of_le hE0q hb9.size
  obtain ⟨E1, hE⟩ : ∃ E, q9.heap.size = E := ⟨_, rfl⟩
  rw [hE] at DO hEl ⊢
  clear hv hbn hbb hE hO1 hO2 hb9 HC HL HQ K2 HBU hws
  obtain ⟨i, hi, hil⟩ := idx_of (a := ai) hn
  obtain ⟨m, hm⟩ : ∃ m, d.mts.getD i default = m := ⟨_, rfl⟩
  have HM := Lib.hid hm
  obtain ⟨hid, hst0, hst1, hdu0, hdu1⟩ := built_mt HGB.out hil hm
  obtain ⟨hd0, hd1⟩ := HGB.out.2
  obtain ⟨g, rfl⟩ : ∃ g, m1 = some ⟨g, 0, none⟩ := by
    rcases DO.out.h2.2 with ⟨e1, e2⟩ | ⟨g, cap, cur, e1, _⟩
    · omega
    · cases e1; exact ⟨g, rfl⟩
  have hmod : ai.tmod (d.mts.length : Int) = (i : Int) := by rw [Int.tmod_eq_emod_of_nonneg a0]; exact hi
  have hi0 : (0 : Int) ≤ (i : Int) := Int.natCast_nonneg _
  have hi1 : (i : Int) < (d.mts.length : Int) := by omega
  have hn1 : (0 : Int) < (d.mts.length : Int) := by omega
  have hn2 : ((d.mts.length : Int) == 0) = false := by rw [beq_eq_false_iff_ne]; omega
  have hn3 : ¬ (d.mts.length : Int) = 0 := by omega
  have hwa : IntKind.i64.wrap ai = ai := IntWalk.i64_in _ ⟨by omega, by omega⟩
  have HIL := Lib.hid hil
  have HNN := Lib.hid hn
  obtain ⟨x0, x1, x2, x3, x4⟩ := DO.out.dv.cells
  clear hm hid hi
  go_upto_region 5 with fail
  go_quiet (fail)
  go_upto_region 6 with fail
  obtain ⟨V1, hV1⟩ : ∃ V1, V.drewN nq = V1 := ⟨_, rfl⟩
  rw [hV1]
  have hb1 : Below V.heap.size V V1 := by rw [← hV1]; exact below_drewN (Below.refl _ _) _
  replace DO := Lib.hid (DO.out.next hb1)
  replace D0 := Lib.hid (D0.out.next hb1)
  replace B := Lib.hid (B.out.trans (hb1.mono B.out.size))
  clear hV1 hb1 x0 x1 x2 x3 x4 hmod hn1 hn2 hn3 hwa hn
  obtain ⟨x0, x1, x2, x3, x4⟩ := DO.out.dv.cells
  obtain ⟨f0, f1, f2, f3, f4⟩ := five_free DO.out.hp
  obtain ⟨⟨m0', m1', m2', m3', m4'⟩, hgl⟩ := owns_mt DO.out.h2 HIL.out HM.out
  obtain ⟨⟨n0', -, -, -, -⟩, -⟩ := owns_mt DO.out.h2 HNN.out rfl
  rw [Nat.zero_mul] at n0'
  obtain ⟨zi, hzi⟩ : ∃ zi, (d.mts.getD 0 default).id = zi := ⟨_, rfl⟩
  rw [hzi] at n0'
  clear hzi
  have e0 := DO.out.h2.frozenAt (i * 5)
  have e1 := DO.out.h2.frozenAt (i * 5 + 1)
  have e2 := DO.out.h2.frozenAt (i * 5 + 2)
  have e3 := DO.out.h2.frozenAt (i * 5 + 3)
  have e4 := DO.out.h2.frozenAt (i * 5 + 4)
  have hgw := (DO.out.h2.lt g rfl).1
  try simp only at m0' m1' m2' m3' m4'
  go_upto_region 27 with fail
  obtain ⟨V2, hV2⟩ : ∃ V2, V1.setCell ⟨g, i * 5, none⟩ (.int .i64 zi) = V2 := ⟨_, rfl⟩
  rw [hV2]
  have hdo : DvO w.heap.size (V1.setCell ⟨g, i * 5, none⟩ (.int .i64 zi)) E1 { d with mts := d.mts.set i ⟨zi, m.st, m.due, m.opt, m.df⟩ } r1 c1 (some ⟨g, 0, none⟩) k1 := DO.out.setM (j := 0) HIL.out HM.out (by omega) rfl
  have hne : E0 ≠ g := fun e => by
    obtain ⟨cs, hcs⟩ := row_block DO.out.h2 rfl
    have h := D0.out.hp
    rw [e, hcs] at h
    simp at h
  have hbs := B.out.setCell (p := ⟨g, i * 5, none⟩) hgw (.int .i64 zi)
  have hd0' := dv_set HAR.out D0.out hbs hne
  have hlen : ({ d with mts := d.mts.set i ⟨zi, m.st, m.due, m.opt, m.df⟩ } : Dk).mts.length ≤ 9223372036854775807 := by simp only [List.length_set]; exact Nat.le_trans HBG.out (by decide)
  obtain ⟨d2, hd2⟩ : ∃ d2 : Dk, { d with mts := d.mts.set i ⟨zi, m.st, m.due, m.opt, m.df⟩ } = d2 := ⟨_, rfl⟩
  rw [hV2] at hdo hbs hd0'
  rw [hd2] at hdo hlen
  replace DO := Lib.hid hdo
  replace D0 := Lib.hid hd0'
  replace B := Lib.hid hbs
  have HBG2 := Lib.hid hlen
  obtain ⟨m1, hm1⟩ : ∃ m1 : Option Addr, some ⟨g, 0, none⟩ = m1 := ⟨_, rfl⟩
  clear hV2 hd2 hdo hbs hd0' hlen x0 x1 x2 x3 x4 f0 f1 f2 f3 f4 m0' m1' m2' m3' m4' n0' e0 e1 e2 e3 e4 hst0 hst1 hdu0 hdu1 hd0 hd1 hm1 m1
  clear hne
  have HD1 := Lib.hid DO.out.dv
  obtain ⟨x0, x1, x2, x3, x4⟩ := HD1.out.cells
  obtain ⟨y0, y1, y2, y3, y4⟩ := D0.out.cells
  have HAW := Lib.hid (oawake_any V2.drew)
  go_wp2_with fail
  go_region_held3 (fun w' => w'.cell? ⟨E1, 0, none⟩ = some (.int .i64 d2.day) ∧ w'.cell? ⟨E1, 1, none⟩ = some (.int .i64 d2.ans) ∧ w'.cell? ⟨E1, 2, none⟩ = some (.int .i64 d2.app) ∧ w'.cell? ⟨E1, 3, none⟩ = some (.slice r1 d2.hol.length c1) ∧ w'.cell? ⟨E1, 4, none⟩ = some (.slice (some ⟨g, 0, none⟩) d2.mts.length k1) ∧
      w'.cell? ⟨E0, 0, none⟩ = some (.int .i64 raw.day) ∧ w'.cell? ⟨E0, 1, none⟩ = some (.int .i64 raw.ans) ∧ w'.cell? ⟨E0, 2, none⟩ = some (.int .i64 raw.app) ∧ w'.cell? ⟨E0, 3, none⟩ = some (.slice r0 raw.hol.length c0) ∧ w'.cell? ⟨E0, 4, none⟩ = some (.slice m0 raw.mts.length k0))
    (first | with_reducible exact ⟨x0, x1, x2, x3, x4, y0, y1, y2, y3, y4⟩ | with_reducible exact CS.out | go_keep)
    (first
      | (go_at_call 14
         (with_reducible refine HAW.out.mono ?_)
         rintro e q1 ⟨rfl, hb1⟩
         have HB1 : Hid (Below V2.heap.size V2 q1) := Lib.hid ((Below.refl _ _).drew.trans hb1)
         have CS := Lib.hid (cs10 HD1.out D0.out HB1.out)
         have HC1 := Lib.hid (check_any d2.day d2.ans d2.app r1 (some ⟨g, 0, none⟩) c1 k1 d2.hol d2.mts q1 (HD1.out.hM.next HB1.out) HD1.out.cap HBG2.out)
         clear hb1)
      | (go_at_call 21
         (with_reducible refine HC1.out.mono ?_)
         rintro e q2 ⟨rfl, hb2⟩
         have HB2 : Hid (Below V2.heap.size V2 q2) := Lib.hid (HB1.out.trans (hb2.mono HB1.out.size))
         have CS := Lib.hid (cs10 HD1.out D0.out HB2.out)
         have HC2 := Lib.hid (checkR_any d2.day d2.ans d2.app r1 (some ⟨g, 0, none⟩) c1 k1 d2.hol d2.mts q2 (HD1.out.hM.next HB2.out) HBG2.out)
         clear hb2)
      | (go_at_call 24
         (with_reducible refine HC2.out.mono ?_)
         rintro e q3 ⟨rfl, hb3⟩
         have HB3 : Hid (Below V2.heap.size V2 q3) := Lib.hid (HB2.out.trans (hb3.mono HB2.out.size))
         have CS := Lib.hid (cs10 HD1.out D0.out HB3.out)
         have HC3 := Lib.hid (check_any raw.day raw.ans raw.app r0 m0 c0 k0 raw.hol raw.mts q3 (D0.out.hM.next HB3.out) D0.out.cap HAR.out.big)
         clear hb3)
      | (go_at_call 21
         (with_reducible refine HC3.out.mono ?_)
         rintro e q4 ⟨rfl, hb4⟩
         have HB4 : Hid (Below V2.heap.size V2 q4) := Lib.hid (HB3.out.trans (hb4.mono HB3.out.size))
         have CS := Lib.hid (cs10 HD1.out D0.out HB4.out)
         have HC4 := Lib.hid (checkR_any raw.day raw.ans raw.app r0 m0 c0 k0 raw.hol raw.mts q4 (D0.out.hM.next HB4.out) HAR.out.big)
         clear hb4)
      | (go_at_call 24
         (with_reducible refine HC4.out.mono ?_)
         rintro e q5 ⟨rfl, hb5⟩
         have HB5 : Hid (Below V2.heap.size V2 q5) := Lib.hid (HB4.out.trans (hb5.mono HB4.out.size))
         have CS := Lib.hid (cs10 HD1.out D0.out HB5.out)
         clear hb5))
  go_wp2_with fail
  go_ret
  exact ⟨by first | rfl | simp, B.out.trans (HB5.out.mono B.out.size)⟩

set_option maxRecDepth 100000 in
set_option maxHeartbeats 4000000 in
theorem docketCheck_q2 (raw : Dk) (r0 m0 : Option Addr) (c0 k0 : Nat) (x y : Int) (uo lo : Option Addr) (uc lc : Nat) (hs : List Int) (l : List Q4) (ai wh : Int) (w : World) (hA : DkArg w raw r0 c0 m0 k0) (hf : raw.hol.length ≤ 12 ∧ raw.mts.length ≤ 10) (hL : U16s w uo hs) (hr : ∀ i, 0 ≤ hs.getD i 0 ∧ hs.getD i 0 ≤ 65535) (hQ : Q4s w lo l) (x0 : 0 ≤ x) (x1 : x ≤ 255) (y0 : 0 ≤ y) (y1 : y ≤ 255) (hn : 0 < (builtD x y hs l).mts.length) (a0 : 0 ≤ ai) (a1 : ai ≤ 255) (wh0 : 0 ≤ wh) (wh1 : wh ≤ 255) (hq : wh % 12 = 2) :
    Calls Try.prog 6 #[.agg #[.int .i64 raw.day, .int .i64 raw.ans, .int .i64 raw.app, .slice r0 raw.hol.length c0, .slice m0 raw.mts.length k0], .agg #[.int .u8 x, .int .u8 y], .slice uo hs.length uc, .slice lo l.length lc, .int .u8 ai, .int .u8 wh] w fun e w' => e = .returned (.bool true) ∧ Below w.heap.size w w' := by
  obtain ⟨W, hW⟩ : ∃ W, (w.alloc (dkObj raw.day raw.ans raw.app r0 raw.hol.length c0 m0 raw.mts.length k0)).alloc (b2Obj x y) = W := ⟨_, rfl⟩
  obtain ⟨hbW, k1, k2⟩ := two_made hW
  have HWW := Lib.hid hW
  have B := Lib.hid hbW
  have D0 := Lib.hid (dv_arg hA hbW k1)
  have HAR := Lib.hid hA
  have HL := Lib.hid (hL.next hbW)
  have HQ := Lib.hid (hQ.next hbW)
  have K2 := Lib.hid k2
  have HF := Lib.hid hf
  have HGB := Lib.hid (builtD_good x y hs l)
  have HBG : Hid ((builtD x y hs l).mts.length ≤ 1000) := Lib.hid built_big
  have HBU := Lib.hid fun V h1 h2 => built_any x y uo lo uc lc hs l V h1 hr h2 x0 x1 y0 y1
  generalize builtD x y hs l = d at HGB HBG HBU hn
  clear hW hA k1 hL hQ hr hf hbW k2
  go_enter Try.func6, Try.ntmps6
  go_upto_region 1 with fail
  try dsimp only
  rw [HWW.out]
  obtain ⟨E0, hE0⟩ : ∃ E, w.heap.size = E := ⟨_, rfl⟩
  obtain ⟨EB, hEB⟩ : ∃ E, w.heap.size + 1 = E := ⟨_, rfl⟩
  rw [hEB] at K2
  try rw [hEB]
  rw [hE0] at D0
  try rw [hE0]
  have HE0 := Lib.hid hE0
  clear HWW hE0 hEB
  obtain ⟨x0, x1, x2, x3, x4⟩ := D0.out.cells
  have HC := Lib.hid (few_yes raw r0 m0 c0 k0 W HF.out.1 HF.out.2)
  go_wp2_with fail
  refine HC.out.mono ?_
  rintro e q1 ⟨rfl, hb1⟩
  clear x0 x1 x2 x3 x4
  replace B := Lib.hid (B.out.trans (hb1.mono B.out.size))
  replace D0 := Lib.hid (D0.out.next hb1)
  replace HL := Lib.hid (HL.out.next hb1)
  replace HQ := Lib.hid (HQ.out.next hb1)
  replace K2 := Lib.hid (keep_heap hb1 K2.out)
  clear HC hb1
  obtain ⟨p0, p1⟩ := two_cells K2.out
  have hE0q := D0.out.lt
  have HC := Lib.hid (HBU.out q1 HL.out HQ.out)
  go_wp2_with fail
  refine HC.out.mono ?_
  rintro e q9 ⟨r1, c1, m1, k1, rfl, hO1, hO2, hb9⟩
  clear p0 p1
  go_upto_region 4 with fail
  try dsimp only
  obtain ⟨V, hv⟩ : ∃ v, q9.alloc (dkObj d.day d.ans d.app r1 d.hol.length c1 m1 d.mts.length k1) = v := ⟨_, rfl⟩
  rw [hv]
  have hbn : Below q9.heap.size q9 V := by rw [← hv]; exact (Below.refl _ _).alloc (Nat.le_refl _) _
  have hbb : Below q1.heap.size q1 V := hb9.trans (hbn.mono hb9.size)
  have hws := B.out.size
  have DO : Hid (DvO w.heap.size V q9.heap.size d r1 c1 m1 k1) := Lib.hid (by rw [← hv]; exact ⟨heap_alloc_new q9 _, (hO1.mono hws).alloc _, (hO2.mono hws).alloc _, Nat.le_trans hws hb9.size⟩)
  replace B := Lib.hid (B.out.trans (hbb.mono B.out.size))
  replace D0 := Lib.hid (D0.out.next hbb)
  have hEl : E0 < q9.heap.size := Nat.lt_of_lt_of_le hE0q hb9.size
  obtain ⟨E1, hE⟩ : ∃ E, q9.heap.size = E := ⟨_, rfl⟩
  rw [hE] at DO hEl ⊢
  clear hv hbn hbb hE hO1 hO2 hb9 HC HL HQ K2 HBU hws
  obtain ⟨i, hi, hil⟩ := idx_of (a := ai) hn
  obtain ⟨m, hm⟩ : ∃ m, d.mts.getD i default = m := ⟨_, rfl⟩
  have HM := Lib.hid hm
  obtain ⟨hid, hst0, hst1, hdu0, hdu1⟩ := built_mt HGB.out hil hm
  obtain ⟨hd0, hd1⟩ := HGB.out.2
  obtain ⟨g, rfl⟩ : ∃ g, m1 = some ⟨g, 0, none⟩ := by
    rcases DO.out.h2.2 with ⟨e1, e2⟩ | ⟨g, cap, cur, e1, _⟩
    · omega
    · cases e1; exact ⟨g, rfl⟩
  have hmod : ai.tmod (d.mts.length : Int) = (i : Int) := by rw [Int.tmod_eq_emod_of_nonneg a0]; exact hi
  have hi0 : (0 : Int) ≤ (i : Int) := Int.natCast_nonneg _
  have hi1 : (i : Int) < (d.mts.length : Int) := by omega
  have hn1 : (0 : Int) < (d.mts.length : Int) := by omega
  have hn2 : ((d.mts.length : Int) == 0) = false := by rw [beq_eq_false_iff_ne]; omega
  have hn3 : ¬ (d.mts.length : Int) = 0 := by omega
  have hwa : IntKind.i64.wrap ai = ai := IntWalk.i64_in _ ⟨by omega, by omega⟩
  have HIL := Lib.hid hil
  have HNN := Lib.hid hn
  obtain ⟨x0, x1, x2, x3, x4⟩ := DO.out.dv.cells
  clear hm hid hi
  go_upto_region 5 with fail
  go_quiet (fail)
  go_upto_region 6 with fail
  obtain ⟨V1, hV1⟩ : ∃ V1, V.drewN nq = V1 := ⟨_, rfl⟩
  rw [hV1]
  have hb1 : Below V.heap.size V V1 := by rw [← hV1]; exact below_drewN (Below.refl _ _) _
  replace DO := Lib.hid (DO.out.next hb1)
  replace D0 := Lib.hid (D0.out.next hb1)
  replace B := Lib.hid (B.out.trans (hb1.mono B.out.size))
  clear hV1 hb1 x0 x1 x2 x3 x4 hmod hn1 hn2 hn3 hwa hn
  obtain ⟨x0, x1, x2, x3, x4⟩ := DO.out.dv.cells
  obtain ⟨f0, f1, f2, f3, f4⟩ := five_free DO.out.hp
  obtain ⟨⟨m0', m1', m2', m3', m4'⟩, hgl⟩ := owns_mt DO.out.h2 HIL.out HM.out
  obtain ⟨⟨n0', -, -, -, -⟩, -⟩ := owns_mt DO.out.h2 HNN.out rfl
  rw [Nat.zero_mul] at n0'
  obtain ⟨zi, hzi⟩ : ∃ zi, (d.mts.getD 0 default).id = zi := ⟨_, rfl⟩
  rw [hzi] at n0'
  clear hzi
  have e0 := DO.out.h2.frozenAt (i * 5)
  have e1 := DO.out.h2.frozenAt (i * 5 + 1)
  have e2 := DO.out.h2.frozenAt (i * 5 + 2)
  have e3 := DO.out.h2.frozenAt (i * 5 + 3)
  have e4 := DO.out.h2.frozenAt (i * 5 + 4)
  have hgw := (DO.out.h2.lt g rfl).1
  try simp only at m0' m1' m2' m3' m4'
  go_upto_region 27 with fail
  obtain ⟨V2, hV2⟩ : ∃ V2, V1.setCell ⟨g, i * 5 + 1, none⟩ (.int .i64 7) = V2 := ⟨_, rfl⟩
  rw [hV2]
  have hdo : DvO w.heap.size (V1.setCell ⟨g, i * 5 + 1, none⟩ (.int .i64 7)) E1 { d with mts := d.mts.set i ⟨m.id, 7, m.due, m.opt, m.df⟩ } r1 c1 (some ⟨g, 0, none⟩) k1 := DO.out.setM (j := 1) HIL.out HM.out (by omega) rfl
  have hne : E0 ≠ g := fun e => by
    obtain ⟨cs, hcs⟩ := row_block DO.out.h2 rfl
    have h := D0.out.hp
    rw [e, hcs] at h
    simp at h
  have hbs := B.out.setCell (p := ⟨g, i * 5 + 1, none⟩) hgw (.int .i64 7)
  have hd0' := dv_set HAR.out D0.out hbs hne
  have hlen : ({ d with mts := d.mts.set i ⟨m.id, 7, m.due, m.opt, m.df⟩ } : Dk).mts.length ≤ 9223372036854775807 := by simp only [List.length_set]; exact Nat.le_trans HBG.out (by decide)
  obtain ⟨d2, hd2⟩ : ∃ d2 : Dk, { d with mts := d.mts.set i ⟨m.id, 7, m.due, m.opt, m.df⟩ } = d2 := ⟨_, rfl⟩
  rw [hV2] at hdo hbs hd0'
  rw [hd2] at hdo hlen
  replace DO := Lib.hid hdo
  replace D0 := Lib.hid hd0'
  replace B := Lib.hid hbs
  have HBG2 := Lib.hid hlen
  obtain ⟨m1, hm1⟩ : ∃ m1 : Option Addr, some ⟨g, 0, none⟩ = m1 := ⟨_, rfl⟩
  clear hV2 hd2 hdo hbs hd0' hlen x0 x1 x2 x3 x4 f0 f1 f2 f3 f4 m0' m1' m2' m3' m4' n0' e0 e1 e2 e3 e4 hst0 hst1 hdu0 hdu1 hd0 hd1 hm1 m1
  clear hne
  have HD1 := Lib.hid DO.out.dv
  obtain ⟨x0, x1, x2, x3, x4⟩ := HD1.out.cells
  obtain ⟨y0, y1, y2, y3, y4⟩ := D0.out.cells
  have HAW := Lib.hid (oawake_any V2.drew)
  go_wp2_with fail
  go_region_held3 (fun w' => w'.cell? ⟨E1, 0, none⟩ = some (.int .i64 d2.day) ∧ w'.cell? ⟨E1, 1, none⟩ = some (.int .i64 d2.ans) ∧ w'.cell? ⟨E1, 2, none⟩ = some (.int .i64 d2.app) ∧ w'.cell? ⟨E1, 3, none⟩ = some (.slice r1 d2.hol.length c1) ∧ w'.cell? ⟨E1, 4, none⟩ = some (.slice (some ⟨g, 0, none⟩) d2.mts.length k1) ∧
      w'.cell? ⟨E0, 0, none⟩ = some (.int .i64 raw.day) ∧ w'.cell? ⟨E0, 1, none⟩ = some (.int .i64 raw.ans) ∧ w'.cell? ⟨E0, 2, none⟩ = some (.int .i64 raw.app) ∧ w'.cell? ⟨E0, 3, none⟩ = some (.slice r0 raw.hol.length c0) ∧ w'.cell? ⟨E0, 4, none⟩ = some (.slice m0 raw.mts.length k0))
    (first | with_reducible exact ⟨x0, x1, x2, x3, x4, y0, y1, y2, y3, y4⟩ | with_reducible exact CS.out | go_keep)
    (first
      | (go_at_call 14
         (with_reducible refine HAW.out.mono ?_)
         rintro e q1 ⟨rfl, hb1⟩
         have HB1 : Hid (Below V2.heap.size V2 q1) := Lib.hid ((Below.refl _ _).drew.trans hb1)
         have CS := Lib.hid (cs10 HD1.out D0.out HB1.out)
         have HC1 := Lib.hid (check_any d2.day d2.ans d2.app r1 (some ⟨g, 0, none⟩) c1 k1 d2.hol d2.mts q1 (HD1.out.hM.next HB1.out) HD1.out.cap HBG2.out)
         clear hb1)
      | (go_at_call 21
         (with_reducible refine HC1.out.mono ?_)
         rintro e q2 ⟨rfl, hb2⟩
         have HB2 : Hid (Below V2.heap.size V2 q2) := Lib.hid (HB1.out.trans (hb2.mono HB1.out.size))
         have CS := Lib.hid (cs10 HD1.out D0.out HB2.out)
         have HC2 := Lib.hid (checkR_any d2.day d2.ans d2.app r1 (some ⟨g, 0, none⟩) c1 k1 d2.hol d2.mts q2 (HD1.out.hM.next HB2.out) HBG2.out)
         clear hb2)
      | (go_at_call 24
         (with_reducible refine HC2.out.mono ?_)
         rintro e q3 ⟨rfl, hb3⟩
         have HB3 : Hid (Below V2.heap.size V2 q3) := Lib.hid (HB2.out.trans (hb3.mono HB2.out.size))
         have CS := Lib.hid (cs10 HD1.out D0.out HB3.out)
         have HC3 := Lib.hid (check_any raw.day raw.ans raw.app r0 m0 c0 k0 raw.hol raw.mts q3 (D0.out.hM.next HB3.out) D0.out.cap HAR.out.big)
         clear hb3)
      | (go_at_call 21
         (with_reducible refine HC3.out.mono ?_)
         rintro e q4 ⟨rfl, hb4⟩
         have HB4 : Hid (Below V2.heap.size V2 q4) := Lib.hid (HB3.out.trans (hb4.mono HB3.out.size))
         have CS := Lib.hid (cs10 HD1.out D0.out HB4.out)
         have HC4 := Lib.hid (checkR_any raw.day raw.ans raw.app r0 m0 c0 k0 raw.hol raw.mts q4 (D0.out.hM.next HB4.out) HAR.out.big)
         clear hb4)
      | (go_at_call 24
         (with_reducible refine HC4.out.mono ?_)
         rintro e q5 ⟨rfl, hb5⟩
         have HB5 : Hid (Below V2.heap.size V2 q5) := Lib.hid (HB4.out.trans (hb5.mono HB4.out.size))
         have CS := Lib.hid (cs10 HD1.out D0.out HB5.out)
         clear hb5))
  go_wp2_with fail
  go_ret
  exact ⟨by first | rfl | simp, B.out.trans (HB5.out.mono B.out.size)⟩

set_option maxRecDepth 100000 in
set_option maxHeartbeats 4000000 in
theorem docketCheck_q3 (raw : Dk) (r0 m0 : Option Addr) (c0 k0 : Nat) (x y : Int) (uo lo : Option Addr) (uc lc : Nat) (hs : List Int) (l : List Q4) (ai wh : Int) (w : World) (hA : DkArg w raw r0 c0 m0 k0) (hf : raw.hol.length ≤ 12 ∧ raw.mts.length ≤ 10) (hL : U16s w uo hs) (hr : ∀ i, 0 ≤ hs.getD i 0 ∧ hs.getD i 0 ≤ 65535) (hQ : Q4s w lo l) (x0 : 0 ≤ x) (x1 : x ≤ 255) (y0 : 0 ≤ y) (y1 : y ≤ 255) (hn : 0 < (builtD x y hs l).mts.length) (a0 : 0 ≤ ai) (a1 : ai ≤ 255) (wh0 : 0 ≤ wh) (wh1 : wh ≤ 255) (hq : wh % 12 = 3) :
    Calls Try.prog 6 #[.agg #[.int .i64 raw.day, .int .i64 raw.ans, .int .i64 raw.app, .slice r0 raw.hol.length c0, .slice m0 raw.mts.length k0], .agg #[.int .u8 x, .int .u8 y], .slice uo hs.length uc, .slice lo l.length lc, .int .u8 ai, .int .u8 wh] w fun e w' => e = .returned (.bool true) ∧ Below w.heap.size w w' := by
  obtain ⟨W, hW⟩ : ∃ W, (w.alloc (dkObj raw.day raw.ans raw.app r0 raw.hol.length c0 m0 raw.mts.length k0)).alloc (b2Obj x y) = W := ⟨_, rfl⟩
  obtain ⟨hbW, k1, k2⟩ := two_made hW
  have HWW := Lib.hid hW
  have B := Lib.hid hbW
  have D0 := Lib.hid (dv_arg hA hbW k1)
  have HAR := Lib.hid hA
  have HL := Lib.hid (hL.next hbW)
  have HQ := Lib.hid (hQ.next hbW)
  have K2 := Lib.hid k2
  have HF := Lib.hid hf
  have HGB := Lib.hid (builtD_good x y hs l)
  have HBG : Hid ((builtD x y hs l).mts.length ≤ 1000) := Lib.hid built_big
  have HBU := Lib.hid fun V h1 h2 => built_any x y uo lo uc lc hs l V h1 hr h2 x0 x1 y0 y1
  generalize builtD x y hs l = d at HGB HBG HBU hn
  clear hW hA k1 hL hQ hr hf hbW k2
  go_enter Try.func6, Try.ntmps6
  go_upto_region 1 with fail
  try dsimp only
  rw [HWW.out]
  obtain ⟨E0, hE0⟩ : ∃ E, w.heap.size = E := ⟨_, rfl⟩
  obtain ⟨EB, hEB⟩ : ∃ E, w.heap.size + 1 = E := ⟨_, rfl⟩
  rw [hEB] at K2
  try rw [hEB]
  rw [hE0] at D0
  try rw [hE0]
  have HE0 := Lib.hid hE0
  clear HWW hE0 hEB
  obtain ⟨x0, x1, x2, x3, x4⟩ := D0.out.cells
  have HC := Lib.hid (few_yes raw r0 m0 c0 k0 W HF.out.1 HF.out.2)
  go_wp2_with fail
  refine HC.out.mono ?_
  rintro e q1 ⟨rfl, hb1⟩
  clear x0 x1 x2 x3 x4
  replace B := Lib.hid (B.out.trans (hb1.mono B.out.size))
  replace D0 := Lib.hid (D0.out.next hb1)
  replace HL := Lib.hid (HL.out.next hb1)
  replace HQ := Lib.hid (HQ.out.next hb1)
  replace K2 := Lib.hid (keep_heap hb1 K2.out)
  clear HC hb1
  obtain ⟨p0, p1⟩ := two_cells K2.out
  have hE0q := D0.out.lt
  have HC := Lib.hid (HBU.out q1 HL.out HQ.out)
  go_wp2_with fail
  refine HC.out.mono ?_
  rintro e q9 ⟨r1, c1, m1, k1, rfl, hO1, hO2, hb9⟩
  clear p0 p1
  go_upto_region 4 with fail
  try dsimp only
  obtain ⟨V, hv⟩ : ∃ v, q9.alloc (dkObj d.day d.ans d.app r1 d.hol.length c1 m1 d.mts.length k1) = v := ⟨_, rfl⟩
  rw [hv]
  have hbn : Below q9.heap.size q9 V := by rw [← hv]; exact (Below.refl _ _).alloc (Nat.le_refl _) _
  have hbb : Below q1.heap.size q1 V := hb9.trans (hbn.mono hb9.size)
  have hws := B.out.size
  have DO : Hid (DvO w.heap.size V q9.heap.size d r1 c1 m1 k1) := Lib.hid (by rw [← hv]; exact ⟨heap_alloc_new q9 _, (hO1.mono hws).alloc _, (hO2.mono hws).alloc _, Nat.le_trans hws hb9.size⟩)
  replace B := Lib.hid (B.out.trans (hbb.mono B.out.size))
  replace D0 := Lib.hid (D0.out.next hbb)
  have hEl : E0 < q9.heap.size := Nat.lt_of_lt_of_le hE0q hb9.size
  obtain ⟨E1, hE⟩ : ∃ E, q9.heap.size = E := ⟨_, rfl⟩
  rw [hE] at DO hEl ⊢
  clear hv hbn hbb hE hO1 hO2 hb9 HC HL HQ K2 HBU hws
  obtain ⟨i, hi, hil⟩ := idx_of (a := ai) hn
  obtain ⟨m, hm⟩ : ∃ m, d.mts.getD i default = m := ⟨_, rfl⟩
  have HM := Lib.hid hm
  obtain ⟨hid, hst0, hst1, hdu0, hdu1⟩ := built_mt HGB.out hil hm
  obtain ⟨hd0, hd1⟩ := HGB.out.2
  obtain ⟨g, rfl⟩ : ∃ g, m1 = some ⟨g, 0, none⟩ := by
    rcases DO.out.h2.2 with ⟨e1, e2⟩ | ⟨g, cap, cur, e1, _⟩
    · omega
    · cases e1; exact ⟨g, rfl⟩
  have hmod : ai.tmod (d.mts.length : Int) = (i : Int) := by rw [Int.tmod_eq_emod_of_nonneg a0]; exact hi
  have hi0 : (0 : Int) ≤ (i : Int) := Int.natCast_nonneg _
  have hi1 : (i : Int) < (d.mts.length : Int) := by omega
  have hn1 : (0 : Int) < (d.mts.length : Int) := by omega
  have hn2 : ((d.mts.length : Int) == 0) = false := by rw [beq_eq_false_iff_ne]; omega
  have hn3 : ¬ (d.mts.length : Int) = 0 := by omega
  have hwa : IntKind.i64.wrap ai = ai := IntWalk.i64_in _ ⟨by omega, by omega⟩
  have HIL := Lib.hid hil
  have HNN := Lib.hid hn
  obtain ⟨x0, x1, x2, x3, x4⟩ := DO.out.dv.cells
  clear hm hid hi
  go_upto_region 5 with fail
  go_quiet (fail)
  go_upto_region 6 with fail
  obtain ⟨V1, hV1⟩ : ∃ V1, V.drewN nq = V1 := ⟨_, rfl⟩
  rw [hV1]
  have hb1 : Below V.heap.size V V1 := by rw [← hV1]; exact below_drewN (Below.refl _ _) _
  replace DO := Lib.hid (DO.out.next hb1)
  replace D0 := Lib.hid (D0.out.next hb1)
  replace B := Lib.hid (B.out.trans (hb1.mono B.out.size))
  clear hV1 hb1 x0 x1 x2 x3 x4 hmod hn1 hn2 hn3 hwa hn
  obtain ⟨x0, x1, x2, x3, x4⟩ := DO.out.dv.cells
  obtain ⟨f0, f1, f2, f3, f4⟩ := five_free DO.out.hp
  obtain ⟨⟨m0', m1', m2', m3', m4'⟩, hgl⟩ := owns_mt DO.out.h2 HIL.out HM.out
  obtain ⟨⟨n0', -, -, -, -⟩, -⟩ := owns_mt DO.out.h2 HNN.out rfl
  rw [Nat.zero_mul] at n0'
  obtain ⟨zi, hzi⟩ : ∃ zi, (d.mts.getD 0 default).id = zi := ⟨_, rfl⟩
  rw [hzi] at n0'
  clear hzi
  have e0 := DO.out.h2.frozenAt (i * 5)
  have e1 := DO.out.h2.frozenAt (i * 5 + 1)
  have e2 := DO.out.h2.frozenAt (i * 5 + 2)
  have e3 := DO.out.h2.frozenAt (i * 5 + 3)
  have e4 := DO.out.h2.frozenAt (i * 5 + 4)
  have hgw := (DO.out.h2.lt g rfl).1
  try simp only at m0' m1' m2' m3' m4'
  go_upto_region 27 with fail
  obtain ⟨V2, hV2⟩ : ∃ V2, V1.setCell ⟨g, i * 5 + 1, none⟩ (.int .i64 (m.st % 6 + 1)) = V2 := ⟨_, rfl⟩
  rw [hV2]
  have hdo : DvO w.heap.size (V1.setCell ⟨g, i * 5 + 1, none⟩ (.int .i64 (m.st % 6 + 1))) E1 { d with mts := d.mts.set i ⟨m.id, m.st % 6 + 1, m.due, m.opt, m.df⟩ } r1 c1 (some ⟨g, 0, none⟩) k1 := DO.out.setM (j := 1) HIL.out HM.out (by omega) rfl
  have hne : E0 ≠ g := fun e => by
    obtain ⟨cs, hcs⟩ := row_block DO.out.h2 rfl
    have h := D0.out.hp
    rw [e, hcs] at h
    simp at h
  have hbs := B.out.setCell (p := ⟨g, i * 5 + 1, none⟩) hgw (.int .i64 (m.st % 6 + 1))
  have hd0' := dv_set HAR.out D0.out hbs hne
  have hlen : ({ d with mts := d.mts.set i ⟨m.id, m.st % 6 + 1, m.due, m.opt, m.df⟩ } : Dk).mts.length ≤ 9223372036854775807 := by simp only [List.length_set]; exact Nat.le_trans HBG.out (by decide)
  obtain ⟨d2, hd2⟩ : ∃ d2 : Dk, { d with mts := d.mts.set i ⟨m.id, m.st % 6 + 1, m.due, m.opt, m.df⟩ } = d2 := ⟨_, rfl⟩
  rw [hV2] at hdo hbs hd0'
  rw [hd2] at hdo hlen
  replace DO := Lib.hid hdo
  replace D0 := Lib.hid hd0'
  replace B := Lib.hid hbs
  have HBG2 := Lib.hid hlen
  obtain ⟨m1, hm1⟩ : ∃ m1 : Option Addr, some ⟨g, 0, none⟩ = m1 := ⟨_, rfl⟩
  clear hV2 hd2 hdo hbs hd0' hlen x0 x1 x2 x3 x4 f0 f1 f2 f3 f4 m0' m1' m2' m3' m4' n0' e0 e1 e2 e3 e4 hst0 hst1 hdu0 hdu1 hd0 hd1 hm1 m1
  clear hne
  have HD1 := Lib.hid DO.out.dv
  obtain ⟨x0, x1, x2, x3, x4⟩ := HD1.out.cells
  obtain ⟨y0, y1, y2, y3, y4⟩ := D0.out.cells
  have HAW := Lib.hid (oawake_any V2.drew)
  go_wp2_with fail
  go_region_held3 (fun w' => w'.cell? ⟨E1, 0, none⟩ = some (.int .i64 d2.day) ∧ w'.cell? ⟨E1, 1, none⟩ = some (.int .i64 d2.ans) ∧ w'.cell? ⟨E1, 2, none⟩ = some (.int .i64 d2.app) ∧ w'.cell? ⟨E1, 3, none⟩ = some (.slice r1 d2.hol.length c1) ∧ w'.cell? ⟨E1, 4, none⟩ = some (.slice (some ⟨g, 0, none⟩) d2.mts.length k1) ∧
      w'.cell? ⟨E0, 0, none⟩ = some (.int .i64 raw.day) ∧ w'.cell? ⟨E0, 1, none⟩ = some (.int .i64 raw.ans) ∧ w'.cell? ⟨E0, 2, none⟩ = some (.int .i64 raw.app) ∧ w'.cell? ⟨E0, 3, none⟩ = some (.slice r0 raw.hol.length c0) ∧ w'.cell? ⟨E0, 4, none⟩ = some (.slice m0 raw.mts.length k0))
    (first | with_reducible exact ⟨x0, x1, x2, x3, x4, y0, y1, y2, y3, y4⟩ | with_reducible exact CS.out | go_keep)
    (first
      | (go_at_call 14
         (with_reducible refine HAW.out.mono ?_)
         rintro e q1 ⟨rfl, hb1⟩
         have HB1 : Hid (Below V2.heap.size V2 q1) := Lib.hid ((Below.refl _ _).drew.trans hb1)
         have CS := Lib.hid (cs10 HD1.out D0.out HB1.out)
         have HC1 := Lib.hid (check_any d2.day d2.ans d2.app r1 (some ⟨g, 0, none⟩) c1 k1 d2.hol d2.mts q1 (HD1.out.hM.next HB1.out) HD1.out.cap HBG2.out)
         clear hb1)
      | (go_at_call 21
         (with_reducible refine HC1.out.mono ?_)
         rintro e q2 ⟨rfl, hb2⟩
         have HB2 : Hid (Below V2.heap.size V2 q2) := Lib.hid (HB1.out.trans (hb2.mono HB1.out.size))
         have CS := Lib.hid (cs10 HD1.out D0.out HB2.out)
         have HC2 := Lib.hid (checkR_any d2.day d2.ans d2.app r1 (some ⟨g, 0, none⟩) c1 k1 d2.hol d2.mts q2 (HD1.out.hM.next HB2.out) HBG2.out)
         clear hb2)
      | (go_at_call 24
         (with_reducible refine HC2.out.mono ?_)
         rintro e q3 ⟨rfl, hb3⟩
         have HB3 : Hid (Below V2.heap.size V2 q3) := Lib.hid (HB2.out.trans (hb3.mono HB2.out.size))
         have CS := Lib.hid (cs10 HD1.out D0.out HB3.out)
         have HC3 := Lib.hid (check_any raw.day raw.ans raw.app r0 m0 c0 k0 raw.hol raw.mts q3 (D0.out.hM.next HB3.out) D0.out.cap HAR.out.big)
         clear hb3)
      | (go_at_call 21
         (with_reducible refine HC3.out.mono ?_)
         rintro e q4 ⟨rfl, hb4⟩
         have HB4 : Hid (Below V2.heap.size V2 q4) := Lib.hid (HB3.out.trans (hb4.mono HB3.out.size))
         have CS := Lib.hid (cs10 HD1.out D0.out HB4.out)
         have HC4 := Lib.hid (checkR_any raw.day raw.ans raw.app r0 m0 c0 k0 raw.hol raw.mts q4 (D0.out.hM.next HB4.out) HAR.out.big)
         clear hb4)
      | (go_at_call 24
         (with_reducible refine HC4.out.mono ?_)
         rintro e q5 ⟨rfl, hb5⟩
         have HB5 : Hid (Below V2.heap.size V2 q5) := Lib.hid (HB4.out.trans (hb5.mono HB4.out.size))
         have CS := Lib.hid (cs10 HD1.out D0.out HB5.out)
         clear hb5))
  go_wp2_with fail
  go_ret
  exact ⟨by first | rfl | simp, B.out.trans (HB5.out.mono B.out.size)⟩

set_option maxRecDepth 100000 in
set_option maxHeartbeats 4000000 in
theorem docketCheck_q4 (raw : Dk) (r0 m0 : Option Addr) (c0 k0 : Nat) (x y : Int) (uo lo : Option Addr) (uc lc : Nat) (hs : List Int) (l : List Q4) (ai wh : Int) (w : World) (hA : DkArg w raw r0 c0 m0 k0) (hf : raw.hol.length ≤ 12 ∧ raw.mts.length ≤ 10) (hL : U16s w uo hs) (hr : ∀ i, 0 ≤ hs.getD i 0 ∧ hs.getD i 0 ≤ 65535) (hQ : Q4s w lo l) (x0 : 0 ≤ x) (x1 : x ≤ 255) (y0 : 0 ≤ y) (y1 : y ≤ 255) (hn : 0 < (builtD x y hs l).mts.length) (a0 : 0 ≤ ai) (a1 : ai ≤ 255) (wh0 : 0 ≤ wh) (wh1 : wh ≤ 255) (hq : wh % 12 = 4) :
    Calls Try.prog 6 #[.agg #[.int .i64 raw.day, .int .i64 raw.ans, .int .i64 raw.app, .slice r0 raw.hol.length c0, .slice m0 raw.mts.length k0], .agg #[.int .u8 x, .int .u8 y], .slice uo hs.length uc, .slice lo l.length lc, .int .u8 ai, .int .u8 wh] w fun e w' => e = .returned (.bool true) ∧ Below w.heap.size w w' := by
  obtain ⟨W, hW⟩ : ∃ W, (w.alloc (dkObj raw.day raw.ans raw.app r0 raw.hol.length c0 m0 raw.mts.length k0)).alloc (b2Obj x y) = W := ⟨_, rfl⟩
  obtain ⟨hbW, k1, k2⟩ := two_made hW
  have HWW := Lib.hid hW
  have B := Lib.hid hbW
  have D0 := Lib.hid (dv_arg hA hbW k1)
  have HAR := Lib.hid hA
  have HL := Lib.hid (hL.next hbW)
  have HQ := Lib.hid (hQ.next hbW)
  have K2 := Lib.hid k2
  have HF := Lib.hid hf
  have HGB := Lib.hid (builtD_good x y hs l)
  have HBG : Hid ((builtD x y hs l).mts.length ≤ 1000) := Lib.hid built_big
  have HBU := Lib.hid fun V h1 h2 => built_any x y uo lo uc lc hs l V h1 hr h2 x0 x1 y0 y1
  generalize builtD x y hs l = d at HGB HBG HBU hn
  clear hW hA k1 hL hQ hr hf hbW k2
  go_enter Try.func6, Try.ntmps6
  go_upto_region 1 with fail
  try dsimp only
  rw [HWW.out]
  obtain ⟨E0, hE0⟩ : ∃ E, w.heap.size = E := ⟨_, rfl⟩
  obtain ⟨EB, hEB⟩ : ∃ E, w.heap.size + 1 = E := ⟨_, rfl⟩
  rw [hEB] at K2
  try rw [hEB]
  rw [hE0] at D0
  try rw [hE0]
  have HE0 := Lib.hid hE0
  clear HWW hE0 hEB
  obtain ⟨x0, x1, x2, x3, x4⟩ := D0.out.cells
  have HC := Lib.hid (few_yes raw r0 m0 c0 k0 W HF.out.1 HF.out.2)
  go_wp2_with fail
  refine HC.out.mono ?_
  rintro e q1 ⟨rfl, hb1⟩
  clear x0 x1 x2 x3 x4
  replace B := Lib.hid (B.out.trans (hb1.mono B.out.size))
  replace D0 := Lib.hid (D0.out.next hb1)
  replace HL := Lib.hid (HL.out.next hb1)
  replace HQ := Lib.hid (HQ.out.next hb1)
  replace K2 := Lib.hid (keep_heap hb1 K2.out)
  clear HC hb1
  obtain ⟨p0, p1⟩ := two_cells K2.out
  have hE0q := D0.out.lt
  have HC := Lib.hid (HBU.out q1 HL.out HQ.out)
  go_wp2_with fail
  refine HC.out.mono ?_
  rintro e q9 ⟨r1, c1, m1, k1, rfl, hO1, hO2, hb9⟩
  clear p0 p1
  go_upto_region 4 with fail
  try dsimp only
  obtain ⟨V, hv⟩ : ∃ v, q9.alloc (dkObj d.day d.ans d.app r1 d.hol.length c1 m1 d.mts.length k1) = v := ⟨_, rfl⟩
  rw [hv]
  have hbn : Below q9.heap.size q9 V := by rw [← hv]; exact (Below.refl _ _).alloc (Nat.le_refl _) _
  have hbb : Below q1.heap.size q1 V := hb9.trans (hbn.mono hb9.size)
  have hws := B.out.size
  have DO : Hid (DvO w.heap.size V q9.heap.size d r1 c1 m1 k1) := Lib.hid (by rw [← hv]; exact ⟨heap_alloc_new q9 _, (hO1.mono hws).alloc _, (hO2.mono hws).alloc _, Nat.le_trans hws hb9.size⟩)
  replace B := Lib.hid (B.out.trans (hbb.mono B.out.size))
  replace D0 := Lib.hid (D0.out.next hbb)
  have hEl : E0 < q9.heap.size := Nat.lt_of_lt_of_le hE0q hb9.size
  obtain ⟨E1, hE⟩ : ∃ E, q9.heap.size = E := ⟨_, rfl⟩
  rw [hE] at DO hEl ⊢
  clear hv hbn hbb hE hO1 hO2 hb9 HC HL HQ K2 HBU hws
  obtain ⟨i, hi, hil⟩ := idx_of (a := ai) hn
  obtain ⟨m, hm⟩ : ∃ m, d.mts.getD i default = m := ⟨_, rfl⟩
  have HM := Lib.hid hm
  obtain ⟨hid, hst0, hst1, hdu0, hdu1⟩ := built_mt HGB.out hil hm
  obtain ⟨hd0, hd1⟩ := HGB.out.2
  obtain ⟨g, rfl⟩ : ∃ g, m1 = some ⟨g, 0, none⟩ := by
    rcases DO.out.h2.2 with ⟨e1, e2⟩ | ⟨g, cap, cur, e1, _⟩
    · omega
    · cases e1; exact ⟨g, rfl⟩
  have hmod : ai.tmod (d.mts.length : Int) = (i : Int) := by rw [Int.tmod_eq_emod_of_nonneg a0]; exact hi
  have hi0 : (0 : Int) ≤ (i : Int) := Int.natCast_nonneg _
  have hi1 : (i : Int) < (d.mts.length : Int) := by omega
  have hn1 : (0 : Int) < (d.mts.length : Int) := by omega
  have hn2 : ((d.mts.length : Int) == 0) = false := by rw [beq_eq_false_iff_ne]; omega
  have hn3 : ¬ (d.mts.length : Int) = 0 := by omega
  have hwa : IntKind.i64.wrap ai = ai := IntWalk.i64_in _ ⟨by omega, by omega⟩
  have HIL := Lib.hid hil
  have HNN := Lib.hid hn
  obtain ⟨x0, x1, x2, x3, x4⟩ := DO.out.dv.cells
  clear hm hid hi
  go_upto_region 5 with fail
  go_quiet (fail)
  go_upto_region 6 with fail
  obtain ⟨V1, hV1⟩ : ∃ V1, V.drewN nq = V1 := ⟨_, rfl⟩
  rw [hV1]
  have hb1 : Below V.heap.size V V1 := by rw [← hV1]; exact below_drewN (Below.refl _ _) _
  replace DO := Lib.hid (DO.out.next hb1)
  replace D0 := Lib.hid (D0.out.next hb1)
  replace B := Lib.hid (B.out.trans (hb1.mono B.out.size))
  clear hV1 hb1 x0 x1 x2 x3 x4 hmod hn1 hn2 hn3 hwa hn
  obtain ⟨x0, x1, x2, x3, x4⟩ := DO.out.dv.cells
  obtain ⟨f0, f1, f2, f3, f4⟩ := five_free DO.out.hp
  obtain ⟨⟨m0', m1', m2', m3', m4'⟩, hgl⟩ := owns_mt DO.out.h2 HIL.out HM.out
  obtain ⟨⟨n0', -, -, -, -⟩, -⟩ := owns_mt DO.out.h2 HNN.out rfl
  rw [Nat.zero_mul] at n0'
  obtain ⟨zi, hzi⟩ : ∃ zi, (d.mts.getD 0 default).id = zi := ⟨_, rfl⟩
  rw [hzi] at n0'
  clear hzi
  have e0 := DO.out.h2.frozenAt (i * 5)
  have e1 := DO.out.h2.frozenAt (i * 5 + 1)
  have e2 := DO.out.h2.frozenAt (i * 5 + 2)
  have e3 := DO.out.h2.frozenAt (i * 5 + 3)
  have e4 := DO.out.h2.frozenAt (i * 5 + 4)
  have hgw := (DO.out.h2.lt g rfl).1
  try simp only at m0' m1' m2' m3' m4'
  go_upto_region 27 with fail
  obtain ⟨V2, hV2⟩ : ∃ V2, V1.setCell ⟨g, i * 5 + 2, none⟩ (.int .i64 (d.day - 1)) = V2 := ⟨_, rfl⟩
  rw [hV2]
  have hdo : DvO w.heap.size (V1.setCell ⟨g, i * 5 + 2, none⟩ (.int .i64 (d.day - 1))) E1 { d with mts := d.mts.set i ⟨m.id, m.st, d.day - 1, m.opt, m.df⟩ } r1 c1 (some ⟨g, 0, none⟩) k1 := DO.out.setM (j := 2) HIL.out HM.out (by omega) rfl
  have hne : E0 ≠ g := fun e => by
    obtain ⟨cs, hcs⟩ := row_block DO.out.h2 rfl
    have h := D0.out.hp
    rw [e, hcs] at h
    simp at h
  have hbs := B.out.setCell (p := ⟨g, i * 5 + 2, none⟩) hgw (.int .i64 (d.day - 1))
  have hd0' := dv_set HAR.out D0.out hbs hne
  have hlen : ({ d with mts := d.mts.set i ⟨m.id, m.st, d.day - 1, m.opt, m.df⟩ } : Dk).mts.length ≤ 9223372036854775807 := by simp only [List.length_set]; exact Nat.le_trans HBG.out (by decide)
  obtain ⟨d2, hd2⟩ : ∃ d2 : Dk, { d with mts := d.mts.set i ⟨m.id, m.st, d.day - 1, m.opt, m.df⟩ } = d2 := ⟨_, rfl⟩
  rw [hV2] at hdo hbs hd0'
  rw [hd2] at hdo hlen
  replace DO := Lib.hid hdo
  replace D0 := Lib.hid hd0'
  replace B := Lib.hid hbs
  have HBG2 := Lib.hid hlen
  obtain ⟨m1, hm1⟩ : ∃ m1 : Option Addr, some ⟨g, 0, none⟩ = m1 := ⟨_, rfl⟩
  clear hV2 hd2 hdo hbs hd0' hlen x0 x1 x2 x3 x4 f0 f1 f2 f3 f4 m0' m1' m2' m3' m4' n0' e0 e1 e2 e3 e4 hst0 hst1 hdu0 hdu1 hd0 hd1 hm1 m1
  clear hne
  have HD1 := Lib.hid DO.out.dv
  obtain ⟨x0, x1, x2, x3, x4⟩ := HD1.out.cells
  obtain ⟨y0, y1, y2, y3, y4⟩ := D0.out.cells
  have HAW := Lib.hid (oawake_any V2.drew)
  go_wp2_with fail
  go_region_held3 (fun w' => w'.cell? ⟨E1, 0, none⟩ = some (.int .i64 d2.day) ∧ w'.cell? ⟨E1, 1, none⟩ = some (.int .i64 d2.ans) ∧ w'.cell? ⟨E1, 2, none⟩ = some (.int .i64 d2.app) ∧ w'.cell? ⟨E1, 3, none⟩ = some (.slice r1 d2.hol.length c1) ∧ w'.cell? ⟨E1, 4, none⟩ = some (.slice (some ⟨g, 0, none⟩) d2.mts.length k1) ∧
      w'.cell? ⟨E0, 0, none⟩ = some (.int .i64 raw.day) ∧ w'.cell? ⟨E0, 1, none⟩ = some (.int .i64 raw.ans) ∧ w'.cell? ⟨E0, 2, none⟩ = some (.int .i64 raw.app) ∧ w'.cell? ⟨E0, 3, none⟩ = some (.slice r0 raw.hol.length c0) ∧ w'.cell? ⟨E0, 4, none⟩ = some (.slice m0 raw.mts.length k0))
    (first | with_reducible exact ⟨x0, x1, x2, x3, x4, y0, y1, y2, y3, y4⟩ | with_reducible exact CS.out | go_keep)
    (first
      | (go_at_call 14
         (with_reducible refine HAW.out.mono ?_)
         rintro e q1 ⟨rfl, hb1⟩
         have HB1 : Hid (Below V2.heap.size V2 q1) := Lib.hid ((Below.refl _ _).drew.trans hb1)
         have CS := Lib.hid (cs10 HD1.out D0.out HB1.out)
         have HC1 := Lib.hid (check_any d2.day d2.ans d2.app r1 (some ⟨g, 0, none⟩) c1 k1 d2.hol d2.mts q1 (HD1.out.hM.next HB1.out) HD1.out.cap HBG2.out)
         clear hb1)
      | (go_at_call 21
         (with_reducible refine HC1.out.mono ?_)
         rintro e q2 ⟨rfl, hb2⟩
         have HB2 : Hid (Below V2.heap.size V2 q2) := Lib.hid (HB1.out.trans (hb2.mono HB1.out.size))
         have CS := Lib.hid (cs10 HD1.out D0.out HB2.out)
         have HC2 := Lib.hid (checkR_any d2.day d2.ans d2.app r1 (some ⟨g, 0, none⟩) c1 k1 d2.hol d2.mts q2 (HD1.out.hM.next HB2.out) HBG2.out)
         clear hb2)
      | (go_at_call 24
         (with_reducible refine HC2.out.mono ?_)
         rintro e q3 ⟨rfl, hb3⟩
         have HB3 : Hid (Below V2.heap.size V2 q3) := Lib.hid (HB2.out.trans (hb3.mono HB2.out.size))
         have CS := Lib.hid (cs10 HD1.out D0.out HB3.out)
         have HC3 := Lib.hid (check_any raw.day raw.ans raw.app r0 m0 c0 k0 raw.hol raw.mts q3 (D0.out.hM.next HB3.out) D0.out.cap HAR.out.big)
         clear hb3)
      | (go_at_call 21
         (with_reducible refine HC3.out.mono ?_)
         rintro e q4 ⟨rfl, hb4⟩
         have HB4 : Hid (Below V2.heap.size V2 q4) := Lib.hid (HB3.out.trans (hb4.mono HB3.out.size))
         have CS := Lib.hid (cs10 HD1.out D0.out HB4.out)
         have HC4 := Lib.hid (checkR_any raw.day raw.ans raw.app r0 m0 c0 k0 raw.hol raw.mts q4 (D0.out.hM.next HB4.out) HAR.out.big)
         clear hb4)
      | (go_at_call 24
         (with_reducible refine HC4.out.mono ?_)
         rintro e q5 ⟨rfl, hb5⟩
         have HB5 : Hid (Below V2.heap.size V2 q5) := Lib.hid (HB4.out.trans (hb5.mono HB4.out.size))
         have CS := Lib.hid (cs10 HD1.out D0.out HB5.out)
         clear hb5))
  go_wp2_with fail
  go_ret
  exact ⟨by first | rfl | simp, B.out.trans (HB5.out.mono B.out.size)⟩

set_option maxRecDepth 100000 in
set_option maxHeartbeats 4000000 in
theorem docketCheck_q5 (raw : Dk) (r0 m0 : Option Addr) (c0 k0 : Nat) (x y : Int) (uo lo : Option Addr) (uc lc : Nat) (hs : List Int) (l : List Q4) (ai wh : Int) (w : World) (hA : DkArg w raw r0 c0 m0 k0) (hf : raw.hol.length ≤ 12 ∧ raw.mts.length ≤ 10) (hL : U16s w uo hs) (hr : ∀ i, 0 ≤ hs.getD i 0 ∧ hs.getD i 0 ≤ 65535) (hQ : Q4s w lo l) (x0 : 0 ≤ x) (x1 : x ≤ 255) (y0 : 0 ≤ y) (y1 : y ≤ 255) (hn : 0 < (builtD x y hs l).mts.length) (a0 : 0 ≤ ai) (a1 : ai ≤ 255) (wh0 : 0 ≤ wh) (wh1 : wh ≤ 255) (hq : wh % 12 = 5) :
    Calls Try.prog 6 #[.agg #[.int .i64 raw.day, .int .i64 raw.ans, .int .i64 raw.app, .slice r0 raw.hol.length c0, .slice m0 raw.mts.length k0], .agg #[.int .u8 x, .int .u8 y], .slice uo hs.length uc, .slice lo l.length lc, .int .u8 ai, .int .u8 wh] w fun e w' => e = .returned (.bool true) ∧ Below w.heap.size w w' := by
  obtain ⟨W, hW⟩ : ∃ W, (w.alloc (dkObj raw.day raw.ans raw.app r0 raw.hol.length c0 m0 raw.mts.length k0)).alloc (b2Obj x y) = W := ⟨_, rfl⟩
  obtain ⟨hbW, k1, k2⟩ := two_made hW
  have HWW := Lib.hid hW
  have B := Lib.hid hbW
  have D0 := Lib.hid (dv_arg hA hbW k1)
  have HAR := Lib.hid hA
  have HL := Lib.hid (hL.next hbW)
  have HQ := Lib.hid (hQ.next hbW)
  have K2 := Lib.hid k2
  have HF := Lib.hid hf
  have HGB := Lib.hid (builtD_good x y hs l)
  have HBG : Hid ((builtD x y hs l).mts.length ≤ 1000) := Lib.hid built_big
  have HBU := Lib.hid fun V h1 h2 => built_any x y uo lo uc lc hs l V h1 hr h2 x0 x1 y0 y1
  generalize builtD x y hs l = d at HGB HBG HBU hn
  clear hW hA k1 hL hQ hr hf hbW k2
  go_enter Try.func6, Try.ntmps6
  go_upto_region 1 with fail
  try dsimp only
  rw [HWW.out]
  obtain ⟨E0, hE0⟩ : ∃ E, w.heap.size = E := ⟨_, rfl⟩
  obtain ⟨EB, hEB⟩ : ∃ E, w.heap.size + 1 = E := ⟨_, rfl⟩
  rw [hEB] at K2
  try rw [hEB]
  rw [hE0] at D0
  try rw [hE0]
  have HE0 := Lib.hid hE0
  clear HWW hE0 hEB
  obtain ⟨x0, x1, x2, x3, x4⟩ := D0.out.cells
  have HC := Lib.hid (few_yes raw r0 m0 c0 k0 W HF.out.1 HF.out.2)
  go_wp2_with fail
  refine HC.out.mono ?_
  rintro e q1 ⟨rfl, hb1⟩
  clear x0 x1 x2 x3 x4
  replace B := Lib.hid (B.out.trans (hb1.mono B.out.size))
  replace D0 := Lib.hid (D0.out.next hb1)
  replace HL := Lib.hid (HL.out.next hb1)
  replace HQ := Lib.hid (HQ.out.next hb1)
  replace K2 := Lib.hid (keep_heap hb1 K2.out)
  clear HC hb1
  obtain ⟨p0, p1⟩ := two_cells K2.out
  have hE0q := D0.out.lt
  have HC := Lib.hid (HBU.out q1 HL.out HQ.out)
  go_wp2_with fail
  refine HC.out.mono ?_
  rintro e q9 ⟨r1, c1, m1, k1, rfl, hO1, hO2, hb9⟩
  clear p0 p1
  go_upto_region 4 with fail
  try dsimp only
  obtain ⟨V, hv⟩ : ∃ v, q9.alloc (dkObj d.day d.ans d.app r1 d.hol.length c1 m1 d.mts.length k1) = v := ⟨_, rfl⟩
  rw [hv]
  have hbn : Below q9.heap.size q9 V := by rw [← hv]; exact (Below.refl _ _).alloc (Nat.le_refl _) _
  have hbb : Below q1.heap.size q1 V := hb9.trans (hbn.mono hb9.size)
  have hws := B.out.size
  have DO : Hid (DvO w.heap.size V q9.heap.size d r1 c1 m1 k1) := Lib.hid (by rw [← hv]; exact ⟨heap_alloc_new q9 _, (hO1.mono hws).alloc _, (hO2.mono hws).alloc _, Nat.le_trans hws hb9.size⟩)
  replace B := Lib.hid (B.out.trans (hbb.mono B.out.size))
  replace D0 := Lib.hid (D0.out.next hbb)
  have hEl : E0 < q9.heap.size := Nat.lt_of_lt_of_le hE0q hb9.size
  obtain ⟨E1, hE⟩ : ∃ E, q9.heap.size = E := ⟨_, rfl⟩
  rw [hE] at DO hEl ⊢
  clear hv hbn hbb hE hO1 hO2 hb9 HC HL HQ K2 HBU hws
  obtain ⟨i, hi, hil⟩ := idx_of (a := ai) hn
  obtain ⟨m, hm⟩ : ∃ m, d.mts.getD i default = m := ⟨_, rfl⟩
  have HM := Lib.hid hm
  obtain ⟨hid, hst0, hst1, hdu0, hdu1⟩ := built_mt HGB.out hil hm
  obtain ⟨hd0, hd1⟩ := HGB.out.2
  obtain ⟨g, rfl⟩ : ∃ g, m1 = some ⟨g, 0, none⟩ := by
    rcases DO.out.h2.2 with ⟨e1, e2⟩ | ⟨g, cap, cur, e1, _⟩
    · omega
    · cases e1; exact ⟨g, rfl⟩
  have hmod : ai.tmod (d.mts.length : Int) = (i : Int) := by rw [Int.tmod_eq_emod_of_nonneg a0]; exact hi
  have hi0 : (0 : Int) ≤ (i : Int) := Int.natCast_nonneg _
  have hi1 : (i : Int) < (d.mts.length : Int) := by omega
  have hn1 : (0 : Int) < (d.mts.length : Int) := by omega
  have hn2 : ((d.mts.length : Int) == 0) = false := by rw [beq_eq_false_iff_ne]; omega
  have hn3 : ¬ (d.mts.length : Int) = 0 := by omega
  have hwa : IntKind.i64.wrap ai = ai := IntWalk.i64_in _ ⟨by omega, by omega⟩
  have HIL := Lib.hid hil
  have HNN := Lib.hid hn
  obtain ⟨x0, x1, x2, x3, x4⟩ := DO.out.dv.cells
  clear hm hid hi
  go_upto_region 5 with fail
  go_quiet (fail)
  go_upto_region 6 with fail
  obtain ⟨V1, hV1⟩ : ∃ V1, V.drewN nq = V1 := ⟨_, rfl⟩
  rw [hV1]
  have hb1 : Below V.heap.size V V1 := by rw [← hV1]; exact below_drewN (Below.refl _ _) _
  replace DO := Lib.hid (DO.out.next hb1)
  replace D0 := Lib.hid (D0.out.next hb1)
  replace B := Lib.hid (B.out.trans (hb1.mono B.out.size))
  clear hV1 hb1 x0 x1 x2 x3 x4 hmod hn1 hn2 hn3 hwa hn
  obtain ⟨x0, x1, x2, x3, x4⟩ := DO.out.dv.cells
  obtain ⟨f0, f1, f2, f3, f4⟩ := five_free DO.out.hp
  obtain ⟨⟨m0', m1', m2', m3', m4'⟩, hgl⟩ := owns_mt DO.out.h2 HIL.out HM.out
  obtain ⟨⟨n0', -, -, -, -⟩, -⟩ := owns_mt DO.out.h2 HNN.out rfl
  rw [Nat.zero_mul] at n0'
  obtain ⟨zi, hzi⟩ : ∃ zi, (d.mts.getD 0 default).id = zi := ⟨_, rfl⟩
  rw [hzi] at n0'
  clear hzi
  have e0 := DO.out.h2.frozenAt (i * 5)
  have e1 := DO.out.h2.frozenAt (i * 5 + 1)
  have e2 := DO.out.h2.frozenAt (i * 5 + 2)
  have e3 := DO.out.h2.frozenAt (i * 5 + 3)
  have e4 := DO.out.h2.frozenAt (i * 5 + 4)
  have hgw := (DO.out.h2.lt g rfl).1
  try simp only at m0' m1' m2' m3' m4'
  go_upto_region 27 with fail
  obtain ⟨V2, hV2⟩ : ∃ V2, V1.setCell ⟨g, i * 5 + 2, none⟩ (.int .i64 (m.due + 1)) = V2 := ⟨_, rfl⟩
  rw [hV2]
  have hdo : DvO w.heap.size (V1.setCell ⟨g, i * 5 + 2, none⟩ (.int .i64 (m.due + 1))) E1 { d with mts := d.mts.set i ⟨m.id, m.st, m.due + 1, m.opt, m.df⟩ } r1 c1 (some ⟨g, 0, none⟩) k1 := DO.out.setM (j := 2) HIL.out HM.out (by omega) rfl
  have hne : E0 ≠ g := fun e => by
    obtain ⟨cs, hcs⟩ := row_block DO.out.h2 rfl
    have h := D0.out.hp
    rw [e, hcs] at h
    simp at h
  have hbs := B.out.setCell (p := ⟨g, i * 5 + 2, none⟩) hgw (.int .i64 (m.due + 1))
  have hd0' := dv_set HAR.out D0.out hbs hne
  have hlen : ({ d with mts := d.mts.set i ⟨m.id, m.st, m.due + 1, m.opt, m.df⟩ } : Dk).mts.length ≤ 9223372036854775807 := by simp only [List.length_set]; exact Nat.le_trans HBG.out (by decide)
  obtain ⟨d2, hd2⟩ : ∃ d2 : Dk, { d with mts := d.mts.set i ⟨m.id, m.st, m.due + 1, m.opt, m.df⟩ } = d2 := ⟨_, rfl⟩
  rw [hV2] at hdo hbs hd0'
  rw [hd2] at hdo hlen
  replace DO := Lib.hid hdo
  replace D0 := Lib.hid hd0'
  replace B := Lib.hid hbs
  have HBG2 := Lib.hid hlen
  obtain ⟨m1, hm1⟩ : ∃ m1 : Option Addr, some ⟨g, 0, none⟩ = m1 := ⟨_, rfl⟩
  clear hV2 hd2 hdo hbs hd0' hlen x0 x1 x2 x3 x4 f0 f1 f2 f3 f4 m0' m1' m2' m3' m4' n0' e0 e1 e2 e3 e4 hst0 hst1 hdu0 hdu1 hd0 hd1 hm1 m1
  clear hne
  have HD1 := Lib.hid DO.out.dv
  obtain ⟨x0, x1, x2, x3, x4⟩ := HD1.out.cells
  obtain ⟨y0, y1, y2, y3, y4⟩ := D0.out.cells
  have HAW := Lib.hid (oawake_any V2.drew)
  go_wp2_with fail
  go_region_held3 (fun w' => w'.cell? ⟨E1, 0, none⟩ = some (.int .i64 d2.day) ∧ w'.cell? ⟨E1, 1, none⟩ = some (.int .i64 d2.ans) ∧ w'.cell? ⟨E1, 2, none⟩ = some (.int .i64 d2.app) ∧ w'.cell? ⟨E1, 3, none⟩ = some (.slice r1 d2.hol.length c1) ∧ w'.cell? ⟨E1, 4, none⟩ = some (.slice (some ⟨g, 0, none⟩) d2.mts.length k1) ∧
      w'.cell? ⟨E0, 0, none⟩ = some (.int .i64 raw.day) ∧ w'.cell? ⟨E0, 1, none⟩ = some (.int .i64 raw.ans) ∧ w'.cell? ⟨E0, 2, none⟩ = some (.int .i64 raw.app) ∧ w'.cell? ⟨E0, 3, none⟩ = some (.slice r0 raw.hol.length c0) ∧ w'.cell? ⟨E0, 4, none⟩ = some (.slice m0 raw.mts.length k0))
    (first | with_reducible exact ⟨x0, x1, x2, x3, x4, y0, y1, y2, y3, y4⟩ | with_reducible exact CS.out | go_keep)
    (first
      | (go_at_call 14
         (with_reducible refine HAW.out.mono ?_)
         rintro e q1 ⟨rfl, hb1⟩
         have HB1 : Hid (Below V2.heap.size V2 q1) := Lib.hid ((Below.refl _ _).drew.trans hb1)
         have CS := Lib.hid (cs10 HD1.out D0.out HB1.out)
         have HC1 := Lib.hid (check_any d2.day d2.ans d2.app r1 (some ⟨g, 0, none⟩) c1 k1 d2.hol d2.mts q1 (HD1.out.hM.next HB1.out) HD1.out.cap HBG2.out)
         clear hb1)
      | (go_at_call 21
         (with_reducible refine HC1.out.mono ?_)
         rintro e q2 ⟨rfl, hb2⟩
         have HB2 : Hid (Below V2.heap.size V2 q2) := Lib.hid (HB1.out.trans (hb2.mono HB1.out.size))
         have CS := Lib.hid (cs10 HD1.out D0.out HB2.out)
         have HC2 := Lib.hid (checkR_any d2.day d2.ans d2.app r1 (some ⟨g, 0, none⟩) c1 k1 d2.hol d2.mts q2 (HD1.out.hM.next HB2.out) HBG2.out)
         clear hb2)
      | (go_at_call 24
         (with_reducible refine HC2.out.mono ?_)
         rintro e q3 ⟨rfl, hb3⟩
         have HB3 : Hid (Below V2.heap.size V2 q3) := Lib.hid (HB2.out.trans (hb3.mono HB2.out.size))
         have CS := Lib.hid (cs10 HD1.out D0.out HB3.out)
         have HC3 := Lib.hid (check_any raw.day raw.ans raw.app r0 m0 c0 k0 raw.hol raw.mts q3 (D0.out.hM.next HB3.out) D0.out.cap HAR.out.big)
         clear hb3)
      | (go_at_call 21
         (with_reducible refine HC3.out.mono ?_)
         rintro e q4 ⟨rfl, hb4⟩
         have HB4 : Hid (Below V2.heap.size V2 q4) := Lib.hid (HB3.out.trans (hb4.mono HB3.out.size))
         have CS := Lib.hid (cs10 HD1.out D0.out HB4.out)
         have HC4 := Lib.hid (checkR_any raw.day raw.ans raw.app r0 m0 c0 k0 raw.hol raw.mts q4 (D0.out.hM.next HB4.out) HAR.out.big)
         clear hb4)
      | (go_at_call 24
         (with_reducible refine HC4.out.mono ?_)
         rintro e q5 ⟨rfl, hb5⟩
         have HB5 : Hid (Below V2.heap.size V2 q5) := Lib.hid (HB4.out.trans (hb5.mono HB4.out.size))
         have CS := Lib.hid (cs10 HD1.out D0.out HB5.out)
         clear hb5))
  go_wp2_with fail
  go_ret
  exact ⟨by first | rfl | simp, B.out.trans (HB5.out.mono B.out.size)⟩

set_option maxRecDepth 100000 in
set_option maxHeartbeats 4000000 in
theorem docketCheck_q6 (raw : Dk) (r0 m0 : Option Addr) (c0 k0 : Nat) (x y : Int) (uo lo : Option Addr) (uc lc : Nat) (hs : List Int) (l : List Q4) (ai wh : Int) (w : World) (hA : DkArg w raw r0 c0 m0 k0) (hf : raw.hol.length ≤ 12 ∧ raw.mts.length ≤ 10) (hL : U16s w uo hs) (hr : ∀ i, 0 ≤ hs.getD i 0 ∧ hs.getD i 0 ≤ 65535) (hQ : Q4s w lo l) (x0 : 0 ≤ x) (x1 : x ≤ 255) (y0 : 0 ≤ y) (y1 : y ≤ 255) (hn : 0 < (builtD x y hs l).mts.length) (a0 : 0 ≤ ai) (a1 : ai ≤ 255) (wh0 : 0 ≤ wh) (wh1 : wh ≤ 255) (hq : wh % 12 = 6) :
    Calls Try.prog 6 #[.agg #[.int .i64 raw.day, .int .i64 raw.ans, .int .i64 raw.app, .slice r0 raw.hol.length c0, .slice m0 raw.mts.length k0], .agg #[.int .u8 x, .int .u8 y], .slice uo hs.length uc, .slice lo l.length lc, .int .u8 ai, .int .u8 wh] w fun e w' => e = .returned (.bool true) ∧ Below w.heap.size w w' := by
  obtain ⟨W, hW⟩ : ∃ W, (w.alloc (dkObj raw.day raw.ans raw.app r0 raw.hol.length c0 m0 raw.mts.length k0)).alloc (b2Obj x y) = W := ⟨_, rfl⟩
  obtain ⟨hbW, k1, k2⟩ := two_made hW
  have HWW := Lib.hid hW
  have B := Lib.hid hbW
  have D0 := Lib.hid (dv_arg hA hbW k1)
  have HAR := Lib.hid hA
  have HL := Lib.hid (hL.next hbW)
  have HQ := Lib.hid (hQ.next hbW)
  have K2 := Lib.hid k2
  have HF := Lib.hid hf
  have HGB := Lib.hid (builtD_good x y hs l)
  have HBG : Hid ((builtD x y hs l).mts.length ≤ 1000) := Lib.hid built_big
  have HBU := Lib.hid fun V h1 h2 => built_any x y uo lo uc lc hs l V h1 hr h2 x0 x1 y0 y1
  generalize builtD x y hs l = d at HGB HBG HBU hn
  clear hW hA k1 hL hQ hr hf hbW k2
  go_enter Try.func6, Try.ntmps6
  go_upto_region 1 with fail
  try dsimp only
  rw [HWW.out]
  obtain ⟨E0, hE0⟩ : ∃ E, w.heap.size = E := ⟨_, rfl⟩
  obtain ⟨EB, hEB⟩ : ∃ E, w.heap.size + 1 = E := ⟨_, rfl⟩
  rw [hEB] at K2
  try rw [hEB]
  rw [hE0] at D0
  try rw [hE0]
  have HE0 := Lib.hid hE0
  clear HWW hE0 hEB
  obtain ⟨x0, x1, x2, x3, x4⟩ := D0.out.cells
  have HC := Lib.hid (few_yes raw r0 m0 c0 k0 W HF.out.1 HF.out.2)
  go_wp2_with fail
  refine HC.out.mono ?_
  rintro e q1 ⟨rfl, hb1⟩
  clear x0 x1 x2 x3 x4
  replace B := Lib.hid (B.out.trans (hb1.mono B.out.size))
  replace D0 := Lib.hid (D0.out.next hb1)
  replace HL := Lib.hid (HL.out.next hb1)
  replace HQ := Lib.hid (HQ.out.next hb1)
  replace K2 := Lib.hid (keep_heap hb1 K2.out)
  clear HC hb1
  obtain ⟨p0, p1⟩ := two_cells K2.out
  have hE0q := D0.out.lt
  have HC := Lib.hid (HBU.out q1 HL.out HQ.out)
  go_wp2_with fail
  refine HC.out.mono ?_
  rintro e q9 ⟨r1, c1, m1, k1, rfl, hO1, hO2, hb9⟩
  clear p0 p1
  go_upto_region 4 with fail
  try dsimp only
  obtain ⟨V, hv⟩ : ∃ v, q9.alloc (dkObj d.day d.ans d.app r1 d.hol.length c1 m1 d.mts.length k1) = v := ⟨_, rfl⟩
  rw [hv]
  have hbn : Below q9.heap.size q9 V := by rw [← hv]; exact (Below.refl _ _).alloc (Nat.le_refl _) _
  have hbb : Below q1.heap.size q1 V := hb9.trans (hbn.mono hb9.size)
  have hws := B.out.size
  have DO : Hid (DvO w.heap.size V q9.heap.size d r1 c1 m1 k1) := Lib.hid (by rw [← hv]; exact ⟨heap_alloc_new q9 _, (hO1.mono hws).alloc _, (hO2.mono hws).alloc _, Nat.le_trans hws hb9.size⟩)
  replace B := Lib.hid (B.out.trans (hbb.mono B.out.size))
  replace D0 := Lib.hid (D0.out.next hbb)
  have hEl : E0 < q9.heap.size := Nat.lt_of_lt_of_le hE0q hb9.size
  obtain ⟨E1, hE⟩ : ∃ E, q9.heap.size = E := ⟨_, rfl⟩
  rw [hE] at DO hEl ⊢
  clear hv hbn hbb hE hO1 hO2 hb9 HC HL HQ K2 HBU hws
  obtain ⟨i, hi, hil⟩ := idx_of (a := ai) hn
  obtain ⟨m, hm⟩ : ∃ m, d.mts.getD i default = m := ⟨_, rfl⟩
  have HM := Lib.hid hm
  obtain ⟨hid, hst0, hst1, hdu0, hdu1⟩ := built_mt HGB.out hil hm
  obtain ⟨hd0, hd1⟩ := HGB.out.2
  obtain ⟨g, rfl⟩ : ∃ g, m1 = some ⟨g, 0, none⟩ := by
    rcases DO.out.h2.2 with ⟨e1, e2⟩ | ⟨g, cap, cur, e1, _⟩
    · omega
    · cases e1; exact ⟨g, rfl⟩
  have hmod : ai.tmod (d.mts.length : Int) = (i : Int) := by rw [Int.tmod_eq_emod_of_nonneg a0]; exact hi
  have hi0 : (0 : Int) ≤ (i : Int) := Int.natCast_nonneg _
  have hi1 : (i : Int) < (d.mts.length : Int) := by omega
  have hn1 : (0 : Int) < (d.mts.length : Int) := by omega
  have hn2 : ((d.mts.length : Int) == 0) = false := by rw [beq_eq_false_iff_ne]; omega
  have hn3 : ¬ (d.mts.length : Int) = 0 := by omega
  have hwa : IntKind.i64.wrap ai = ai := IntWalk.i64_in _ ⟨by omega, by omega⟩
  have HIL := Lib.hid hil
  have HNN := Lib.hid hn
  obtain ⟨x0, x1, x2, x3, x4⟩ := DO.out.dv.cells
  clear hm hid hi
  go_upto_region 5 with fail
  go_quiet (fail)
  go_upto_region 6 with fail
  obtain ⟨V1, hV1⟩ : ∃ V1, V.drewN nq = V1 := ⟨_, rfl⟩
  rw [hV1]
  have hb1 : Below V.heap.size V V1 := by rw [← hV1]; exact below_drewN (Below.refl _ _) _
  replace DO := Lib.hid (DO.out.next hb1)
  replace D0 := Lib.hid (D0.out.next hb1)
  replace B := Lib.hid (B.out.trans (hb1.mono B.out.size))
  clear hV1 hb1 x0 x1 x2 x3 x4 hmod hn1 hn2 hn3 hwa hn
  obtain ⟨x0, x1, x2, x3, x4⟩ := DO.out.dv.cells
  obtain ⟨f0, f1, f2, f3, f4⟩ := five_free DO.out.hp
  obtain ⟨⟨m0', m1', m2', m3', m4'⟩, hgl⟩ := owns_mt DO.out.h2 HIL.out HM.out
  obtain ⟨⟨n0', -, -, -, -⟩, -⟩ := owns_mt DO.out.h2 HNN.out rfl
  rw [Nat.zero_mul] at n0'
  obtain ⟨zi, hzi⟩ : ∃ zi, (d.mts.getD 0 default).id = zi := ⟨_, rfl⟩
  rw [hzi] at n0'
  clear hzi
  have e0 := DO.out.h2.frozenAt (i * 5)
  have e1 := DO.out.h2.frozenAt (i * 5 + 1)
  have e2 := DO.out.h2.frozenAt (i * 5 + 2)
  have e3 := DO.out.h2.frozenAt (i * 5 + 3)
  have e4 := DO.out.h2.frozenAt (i * 5 + 4)
  have hgw := (DO.out.h2.lt g rfl).1
  try simp only at m0' m1' m2' m3' m4'
  go_upto_region 27 with fail
  obtain ⟨V2, hV2⟩ : ∃ V2, V1.setCell ⟨g, i * 5 + 3, none⟩ (.int .i64 4) = V2 := ⟨_, rfl⟩
  rw [hV2]
  have hdo : DvO w.heap.size (V1.setCell ⟨g, i * 5 + 3, none⟩ (.int .i64 4)) E1 { d with mts := d.mts.set i ⟨m.id, m.st, m.due, 4, m.df⟩ } r1 c1 (some ⟨g, 0, none⟩) k1 := DO.out.setM (j := 3) HIL.out HM.out (by omega) rfl
  have hne : E0 ≠ g := fun e => by
    obtain ⟨cs, hcs⟩ := row_block DO.out.h2 rfl
    have h := D0.out.hp
    rw [e, hcs] at h
    simp at h
  have hbs := B.out.setCell (p := ⟨g, i * 5 + 3, none⟩) hgw (.int .i64 4)
  have hd0' := dv_set HAR.out D0.out hbs hne
  have hlen : ({ d with mts := d.mts.set i ⟨m.id, m.st, m.due, 4, m.df⟩ } : Dk).mts.length ≤ 9223372036854775807 := by simp only [List.length_set]; exact Nat.le_trans HBG.out (by decide)
  obtain ⟨d2, hd2⟩ : ∃ d2 : Dk, { d with mts := d.mts.set i ⟨m.id, m.st, m.due, 4, m.df⟩ } = d2 := ⟨_, rfl⟩
  rw [hV2] at hdo hbs hd0'
  rw [hd2] at hdo hlen
  replace DO := Lib.hid hdo
  replace D0 := Lib.hid hd0'
  replace B := Lib.hid hbs
  have HBG2 := Lib.hid hlen
  obtain ⟨m1, hm1⟩ : ∃ m1 : Option Addr, some ⟨g, 0, none⟩ = m1 := ⟨_, rfl⟩
  clear hV2 hd2 hdo hbs hd0' hlen x0 x1 x2 x3 x4 f0 f1 f2 f3 f4 m0' m1' m2' m3' m4' n0' e0 e1 e2 e3 e4 hst0 hst1 hdu0 hdu1 hd0 hd1 hm1 m1
  clear hne
  have HD1 := Lib.hid DO.out.dv
  obtain ⟨x0, x1, x2, x3, x4⟩ := HD1.out.cells
  obtain ⟨y0, y1, y2, y3, y4⟩ := D0.out.cells
  have HAW := Lib.hid (oawake_any V2.drew)
  go_wp2_with fail
  go_region_held3 (fun w' => w'.cell? ⟨E1, 0, none⟩ = some (.int .i64 d2.day) ∧ w'.cell? ⟨E1, 1, none⟩ = some (.int .i64 d2.ans) ∧ w'.cell? ⟨E1, 2, none⟩ = some (.int .i64 d2.app) ∧ w'.cell? ⟨E1, 3, none⟩ = some (.slice r1 d2.hol.length c1) ∧ w'.cell? ⟨E1, 4, none⟩ = some (.slice (some ⟨g, 0, none⟩) d2.mts.length k1) ∧
      w'.cell? ⟨E0, 0, none⟩ = some (.int .i64 raw.day) ∧ w'.cell? ⟨E0, 1, none⟩ = some (.int .i64 raw.ans) ∧ w'.cell? ⟨E0, 2, none⟩ = some (.int .i64 raw.app) ∧ w'.cell? ⟨E0, 3, none⟩ = some (.slice r0 raw.hol.length c0) ∧ w'.cell? ⟨E0, 4, none⟩ = some (.slice m0 raw.mts.length k0))
    (first | with_reducible exact ⟨x0, x1, x2, x3, x4, y0, y1, y2, y3, y4⟩ | with_reducible exact CS.out | go_keep)
    (first
      | (go_at_call 14
         (with_reducible refine HAW.out.mono ?_)
         rintro e q1 ⟨rfl, hb1⟩
         have HB1 : Hid (Below V2.heap.size V2 q1) := Lib.hid ((Below.refl _ _).drew.trans hb1)
         have CS := Lib.hid (cs10 HD1.out D0.out HB1.out)
         have HC1 := Lib.hid (check_any d2.day d2.ans d2.app r1 (some ⟨g, 0, none⟩) c1 k1 d2.hol d2.mts q1 (HD1.out.hM.next HB1.out) HD1.out.cap HBG2.out)
         clear hb1)
      | (go_at_call 21
         (with_reducible refine HC1.out.mono ?_)
         rintro e q2 ⟨rfl, hb2⟩
         have HB2 : Hid (Below V2.heap.size V2 q2) := Lib.hid (HB1.out.trans (hb2.mono HB1.out.size))
         have CS := Lib.hid (cs10 HD1.out D0.out HB2.out)
         have HC2 := Lib.hid (checkR_any d2.day d2.ans d2.app r1 (some ⟨g, 0, none⟩) c1 k1 d2.hol d2.mts q2 (HD1.out.hM.next HB2.out) HBG2.out)
         clear hb2)
      | (go_at_call 24
         (with_reducible refine HC2.out.mono ?_)
         rintro e q3 ⟨rfl, hb3⟩
         have HB3 : Hid (Below V2.heap.size V2 q3) := Lib.hid (HB2.out.trans (hb3.mono HB2.out.size))
         have CS := Lib.hid (cs10 HD1.out D0.out HB3.out)
         have HC3 := Lib.hid (check_any raw.day raw.ans raw.app r0 m0 c0 k0 raw.hol raw.mts q3 (D0.out.hM.next HB3.out) D0.out.cap HAR.out.big)
         clear hb3)
      | (go_at_call 21
         (with_reducible refine HC3.out.mono ?_)
         rintro e q4 ⟨rfl, hb4⟩
         have HB4 : Hid (Below V2.heap.size V2 q4) := Lib.hid (HB3.out.trans (hb4.mono HB3.out.size))
         have CS := Lib.hid (cs10 HD1.out D0.out HB4.out)
         have HC4 := Lib.hid (checkR_any raw.day raw.ans raw.app r0 m0 c0 k0 raw.hol raw.mts q4 (D0.out.hM.next HB4.out) HAR.out.big)
         clear hb4)
      | (go_at_call 24
         (with_reducible refine HC4.out.mono ?_)
         rintro e q5 ⟨rfl, hb5⟩
         have HB5 : Hid (Below V2.heap.size V2 q5) := Lib.hid (HB4.out.trans (hb5.mono HB4.out.size))
         have CS := Lib.hid (cs10 HD1.out D0.out HB5.out)
         clear hb5))
  go_wp2_with fail
  go_ret
  exact ⟨by first | rfl | simp, B.out.trans (HB5.out.mono B.out.size)⟩

set_option maxRecDepth 100000 in
set_option maxHeartbeats 4000000 in
theorem docketCheck_q7 (raw : Dk) (r0 m0 : Option Addr) (c0 k0 : Nat) (x y : Int) (uo lo : Option Addr) (uc lc : Nat) (hs : List Int) (l : List Q4) (ai wh : Int) (w : World) (hA : DkArg w raw r0 c0 m0 k0) (hf : raw.hol.length ≤ 12 ∧ raw.mts.length ≤ 10) (hL : U16s w uo hs) (hr : ∀ i, 0 ≤ hs.getD i 0 ∧ hs.getD i 0 ≤ 65535) (hQ : Q4s w lo l) (x0 : 0 ≤ x) (x1 : x ≤ 255) (y0 : 0 ≤ y) (y1 : y ≤ 255) (hn : 0 < (builtD x y hs l).mts.length) (a0 : 0 ≤ ai) (a1 : ai ≤ 255) (wh0 : 0 ≤ wh) (wh1 : wh ≤ 255) (hq : wh % 12 = 7) :
    Calls Try.prog 6 #[.agg #[.int .i64 raw.day, .int .i64 raw.ans, .int .i64 raw.app, .slice r0 raw.hol.length c0, .slice m0 raw.mts.length k0], .agg #[.int .u8 x, .int .u8 y], .slice uo hs.length uc, .slice lo l.length lc, .int .u8 ai, .int .u8 wh] w fun e w' => e = .returned (.bool true) ∧ Below w.heap.size w w' := by
  obtain ⟨W, hW⟩ : ∃ W, (w.alloc (dkObj raw.day raw.ans raw.app r0 raw.hol.length c0 m0 raw.mts.length k0)).alloc (b2Obj x y) = W := ⟨_, rfl⟩
  obtain ⟨hbW, k1, k2⟩ := two_made hW
  have HWW := Lib.hid hW
  have B := Lib.hid hbW
  have D0 := Lib.hid (dv_arg hA hbW k1)
  have HAR := Lib.hid hA
  have HL := Lib.hid (hL.next hbW)
  have HQ := Lib.hid (hQ.next hbW)
  have K2 := Lib.hid k2
  have HF := Lib.hid hf
  have HGB := Lib.hid (builtD_good x y hs l)
  have HBG : Hid ((builtD x y hs l).mts.length ≤ 1000) := Lib.hid built_big
  have HBU := Lib.hid fun V h1 h2 => built_any x y uo lo uc lc hs l V h1 hr h2 x0 x1 y0 y1
  generalize builtD x y hs l = d at HGB HBG HBU hn
  clear hW hA k1 hL hQ hr hf hbW k2
  go_enter Try.func6, Try.ntmps6
  go_upto_region 1 with fail
  try dsimp only
  rw [HWW.out]
  obtain ⟨E0, hE0⟩ : ∃ E, w.heap.size = E := ⟨_, rfl⟩
  obtain ⟨EB, hEB⟩ : ∃ E, w.heap.size + 1 = E := ⟨_, rfl⟩
  rw [hEB] at K2
  try rw [hEB]
  rw [hE0] at D0
  try rw [hE0]
  have HE0 := Lib.hid hE0
  clear HWW hE0 hEB
  obtain ⟨x0, x1, x2, x3, x4⟩ := D0.out.cells
  have HC := Lib.hid (few_yes raw r0 m0 c0 k0 W HF.out.1 HF.out.2)
  go_wp2_with fail
  refine HC.out.mono ?_
  rintro e q1 ⟨rfl, hb1⟩
  clear x0 x1 x2 x3 x4
  replace B := Lib.hid (B.out.trans (hb1.mono B.out.size))
  replace D0 := Lib.hid (D0.out.next hb1)
  replace HL := Lib.hid (HL.out.next hb1)
  replace HQ := Lib.hid (HQ.out.next hb1)
  replace K2 := Lib.hid (keep_heap hb1 K2.out)
  clear HC hb1
  obtain ⟨p0, p1⟩ := two_cells K2.out
  have hE0q := D0.out.lt
  have HC := Lib.hid (HBU.out q1 HL.out HQ.out)
  go_wp2_with fail
  refine HC.out.mono ?_
  rintro e q9 ⟨r1, c1, m1, k1, rfl, hO1, hO2, hb9⟩
  clear p0 p1
  go_upto_region 4 with fail
  try dsimp only
  obtain ⟨V, hv⟩ : ∃ v, q9.alloc (dkObj d.day d.ans d.app r1 d.hol.length c1 m1 d.mts.length k1) = v := ⟨_, rfl⟩
  rw [hv]
  have hbn : Below q9.heap.size q9 V := by rw [← hv]; exact (Below.refl _ _).alloc (Nat.le_refl _) _
  have hbb : Below q1.heap.size q1 V := hb9.trans (hbn.mono hb9.size)
  have hws := B.out.size
  have DO : Hid (DvO w.heap.size V q9.heap.size d r1 c1 m1 k1) := Lib.hid (by rw [← hv]; exact ⟨heap_alloc_new q9 _, (hO1.mono hws).alloc _, (hO2.mono hws).alloc _, Nat.le_trans hws hb9.size⟩)
  replace B := Lib.hid (B.out.trans (hbb.mono B.out.size))
  replace D0 := Lib.hid (D0.out.next hbb)
  have hEl : E0 < q9.heap.size := Nat.lt_of_lt_of_le hE0q hb9.size
  obtain ⟨E1, hE⟩ : ∃ E, q9.heap.size = E := ⟨_, rfl⟩
  rw [hE] at DO hEl ⊢
  clear hv hbn hbb hE hO1 hO2 hb9 HC HL HQ K2 HBU hws
  obtain ⟨i, hi, hil⟩ := idx_of (a := ai) hn
  obtain ⟨m, hm⟩ : ∃ m, d.mts.getD i default = m := ⟨_, rfl⟩
  have HM := Lib.hid hm
  obtain ⟨hid, hst0, hst1, hdu0, hdu1⟩ := built_mt HGB.out hil hm
  obtain ⟨hd0, hd1⟩ := HGB.out.2
  obtain ⟨g, rfl⟩ : ∃ g, m1 = some ⟨g, 0, none⟩ := by
    rcases DO.out.h2.2 with ⟨e1, e2⟩ | ⟨g, cap, cur, e1, _⟩
    · omega
    · cases e1; exact ⟨g, rfl⟩
  have hmod : ai.tmod (d.mts.length : Int) = (i : Int) := by rw [Int.tmod_eq_emod_of_nonneg a0]; exact hi
  have hi0 : (0 : Int) ≤ (i : Int) := Int.natCast_nonneg _
  have hi1 : (i : Int) < (d.mts.length : Int) := by omega
  have hn1 : (0 : Int) < (d.mts.length : Int) := by omega
  have hn2 : ((d.mts.length : Int) == 0) = false := by rw [beq_eq_false_iff_ne]; omega
  have hn3 : ¬ (d.mts.length : Int) = 0 := by omega
  have hwa : IntKind.i64.wrap ai = ai := IntWalk.i64_in _ ⟨by omega, by omega⟩
  have HIL := Lib.hid hil
  have HNN := Lib.hid hn
  obtain ⟨x0, x1, x2, x3, x4⟩ := DO.out.dv.cells
  clear hm hid hi
  go_upto_region 5 with fail
  go_quiet (fail)
  go_upto_region 6 with fail
  obtain ⟨V1, hV1⟩ : ∃ V1, V.drewN nq = V1 := ⟨_, rfl⟩
  rw [hV1]
  have hb1 : Below V.heap.size V V1 := by rw [← hV1]; exact below_drewN (Below.refl _ _) _
  replace DO := Lib.hid (DO.out.next hb1)
  replace D0 := Lib.hid (D0.out.next hb1)
  replace B := Lib.hid (B.out.trans (hb1.mono B.out.size))
  clear hV1 hb1 x0 x1 x2 x3 x4 hmod hn1 hn2 hn3 hwa hn
  obtain ⟨x0, x1, x2, x3, x4⟩ := DO.out.dv.cells
  obtain ⟨f0, f1, f2, f3, f4⟩ := five_free DO.out.hp
  obtain ⟨⟨m0', m1', m2', m3', m4'⟩, hgl⟩ := owns_mt DO.out.h2 HIL.out HM.out
  obtain ⟨⟨n0', -, -, -, -⟩, -⟩ := owns_mt DO.out.h2 HNN.out rfl
  rw [Nat.zero_mul] at n0'
  obtain ⟨zi, hzi⟩ : ∃ zi, (d.mts.getD 0 default).id = zi := ⟨_, rfl⟩
  rw [hzi] at n0'
  clear hzi
  have e0 := DO.out.h2.frozenAt (i * 5)
  have e1 := DO.out.h2.frozenAt (i * 5 + 1)
  have e2 := DO.out.h2.frozenAt (i * 5 + 2)
  have e3 := DO.out.h2.frozenAt (i * 5 + 3)
  have e4 := DO.out.h2.frozenAt (i * 5 + 4)
  have hgw := (DO.out.h2.lt g rfl).1
  try simp only at m0' m1' m2' m3' m4'
  go_upto_region 27 with fail
  obtain ⟨V2, hV2⟩ : ∃ V2, V1.setCell ⟨g, i * 5 + 3, none⟩ (.int .i64 1) = V2 := ⟨_, rfl⟩
  rw [hV2]
  have hdo : DvO w.heap.size (V1.setCell ⟨g, i * 5 + 3, none⟩ (.int .i64 1)) E1 { d with mts := d.mts.set i ⟨m.id, m.st, m.due, 1, m.df⟩ } r1 c1 (some ⟨g, 0, none⟩) k1 := DO.out.setM (j := 3) HIL.out HM.out (by omega) rfl
  have hne : E0 ≠ g := fun e => by
    obtain ⟨cs, hcs⟩ := row_block DO.out.h2 rfl
    have h := D0.out.hp
    rw [e, hcs] at h
    simp at h
  have hbs := B.out.setCell (p := ⟨g, i * 5 + 3, none⟩) hgw (.int .i64 1)
  have hd0' := dv_set HAR.out D0.out hbs hne
  have hlen : ({ d with mts := d.mts.set i ⟨m.id, m.st, m.due, 1, m.df⟩ } : Dk).mts.length ≤ 9223372036854775807 := by simp only [List.length_set]; exact Nat.le_trans HBG.out (by decide)
  obtain ⟨d2, hd2⟩ : ∃ d2 : Dk, { d with mts := d.mts.set i ⟨m.id, m.st, m.due, 1, m.df⟩ } = d2 := ⟨_, rfl⟩
  rw [hV2] at hdo hbs hd0'
  rw [hd2] at hdo hlen
  replace DO := Lib.hid hdo
  replace D0 := Lib.hid hd0'
  replace B := Lib.hid hbs
  have HBG2 := Lib.hid hlen
  obtain ⟨m1, hm1⟩ : ∃ m1 : Option Addr, some ⟨g, 0, none⟩ = m1 := ⟨_, rfl⟩
  clear hV2 hd2 hdo hbs hd0' hlen x0 x1 x2 x3 x4 f0 f1 f2 f3 f4 m0' m1' m2' m3' m4' n0' e0 e1 e2 e3 e4 hst0 hst1 hdu0 hdu1 hd0 hd1 hm1 m1
  clear hne
  have HD1 := Lib.hid DO.out.dv
  obtain ⟨x0, x1, x2, x3, x4⟩ := HD1.out.cells
  obtain ⟨y0, y1, y2, y3, y4⟩ := D0.out.cells
  have HAW := Lib.hid (oawake_any V2.drew)
  go_wp2_with fail
  go_region_held3 (fun w' => w'.cell? ⟨E1, 0, none⟩ = some (.int .i64 d2.day) ∧ w'.cell? ⟨E1, 1, none⟩ = some (.int .i64 d2.ans) ∧ w'.cell? ⟨E1, 2, none⟩ = some (.int .i64 d2.app) ∧ w'.cell? ⟨E1, 3, none⟩ = some (.slice r1 d2.hol.length c1) ∧ w'.cell? ⟨E1, 4, none⟩ = some (.slice (some ⟨g, 0, none⟩) d2.mts.length k1) ∧
      w'.cell? ⟨E0, 0, none⟩ = some (.int .i64 raw.day) ∧ w'.cell? ⟨E0, 1, none⟩ = some (.int .i64 raw.ans) ∧ w'.cell? ⟨E0, 2, none⟩ = some (.int .i64 raw.app) ∧ w'.cell? ⟨E0, 3, none⟩ = some (.slice r0 raw.hol.length c0) ∧ w'.cell? ⟨E0, 4, none⟩ = some (.slice m0 raw.mts.length k0))
    (first | with_reducible exact ⟨x0, x1, x2, x3, x4, y0, y1, y2, y3, y4⟩ | with_reducible exact CS.out | go_keep)
    (first
      | (go_at_call 14
         (with_reducible refine HAW.out.mono ?_)
         rintro e q1 ⟨rfl, hb1⟩
         have HB1 : Hid (Below V2.heap.size V2 q1) := Lib.hid ((Below.refl _ _).drew.trans hb1)
         have CS := Lib.hid (cs10 HD1.out D0.out HB1.out)
         have HC1 := Lib.hid (check_any d2.day d2.ans d2.app r1 (some ⟨g, 0, none⟩) c1 k1 d2.hol d2.mts q1 (HD1.out.hM.next HB1.out) HD1.out.cap HBG2.out)
         clear hb1)
      | (go_at_call 21
         (with_reducible refine HC1.out.mono ?_)
         rintro e q2 ⟨rfl, hb2⟩
         have HB2 : Hid (Below V2.heap.size V2 q2) := Lib.hid (HB1.out.trans (hb2.mono HB1.out.size))
         have CS := Lib.hid (cs10 HD1.out D0.out HB2.out)
         have HC2 := Lib.hid (checkR_any d2.day d2.ans d2.app r1 (some ⟨g, 0, none⟩) c1 k1 d2.hol d2.mts q2 (HD1.out.hM.next HB2.out) HBG2.out)
         clear hb2)
      | (go_at_call 24
         (with_reducible refine HC2.out.mono ?_)
         rintro e q3 ⟨rfl, hb3⟩
         have HB3 : Hid (Below V2.heap.size V2 q3) := Lib.hid (HB2.out.trans (hb3.mono HB2.out.size))
         have CS := Lib.hid (cs10 HD1.out D0.out HB3.out)
         have HC3 := Lib.hid (check_any raw.day raw.ans raw.app r0 m0 c0 k0 raw.hol raw.mts q3 (D0.out.hM.next HB3.out) D0.out.cap HAR.out.big)
         clear hb3)
      | (go_at_call 21
         (with_reducible refine HC3.out.mono ?_)
         rintro e q4 ⟨rfl, hb4⟩
         have HB4 : Hid (Below V2.heap.size V2 q4) := Lib.hid (HB3.out.trans (hb4.mono HB3.out.size))
         have CS := Lib.hid (cs10 HD1.out D0.out HB4.out)
         have HC4 := Lib.hid (checkR_any raw.day raw.ans raw.app r0 m0 c0 k0 raw.hol raw.mts q4 (D0.out.hM.next HB4.out) HAR.out.big)
         clear hb4)
      | (go_at_call 24
         (with_reducible refine HC4.out.mono ?_)
         rintro e q5 ⟨rfl, hb5⟩
         have HB5 : Hid (Below V2.heap.size V2 q5) := Lib.hid (HB4.out.trans (hb5.mono HB4.out.size))
         have CS := Lib.hid (cs10 HD1.out D0.out HB5.out)
         clear hb5))
  go_wp2_with fail
  go_ret
  exact ⟨by first | rfl | simp, B.out.trans (HB5.out.mono B.out.size)⟩

set_option maxRecDepth 100000 in
set_option maxHeartbeats 4000000 in
theorem docketCheck_q8 (raw : Dk) (r0 m0 : Option Addr) (c0 k0 : Nat) (x y : Int) (uo lo : Option Addr) (uc lc : Nat) (hs : List Int) (l : List Q4) (ai wh : Int) (w : World) (hA : DkArg w raw r0 c0 m0 k0) (hf : raw.hol.length ≤ 12 ∧ raw.mts.length ≤ 10) (hL : U16s w uo hs) (hr : ∀ i, 0 ≤ hs.getD i 0 ∧ hs.getD i 0 ≤ 65535) (hQ : Q4s w lo l) (x0 : 0 ≤ x) (x1 : x ≤ 255) (y0 : 0 ≤ y) (y1 : y ≤ 255) (hn : 0 < (builtD x y hs l).mts.length) (a0 : 0 ≤ ai) (a1 : ai ≤ 255) (wh0 : 0 ≤ wh) (wh1 : wh ≤ 255) (hq : wh % 12 = 8) :
    Calls Try.prog 6 #[.agg #[.int .i64 raw.day, .int .i64 raw.ans, .int .i64 raw.app, .slice r0 raw.hol.length c0, .slice m0 raw.mts.length k0], .agg #[.int .u8 x, .int .u8 y], .slice uo hs.length uc, .slice lo l.length lc, .int .u8 ai, .int .u8 wh] w fun e w' => e = .returned (.bool true) ∧ Below w.heap.size w w' := by
  obtain ⟨W, hW⟩ : ∃ W, (w.alloc (dkObj raw.day raw.ans raw.app r0 raw.hol.length c0 m0 raw.mts.length k0)).alloc (b2Obj x y) = W := ⟨_, rfl⟩
  obtain ⟨hbW, k1, k2⟩ := two_made hW
  have HWW := Lib.hid hW
  have B := Lib.hid hbW
  have D0 := Lib.hid (dv_arg hA hbW k1)
  have HAR := Lib.hid hA
  have HL := Lib.hid (hL.next hbW)
  have HQ := Lib.hid (hQ.next hbW)
  have K2 := Lib.hid k2
  have HF := Lib.hid hf
  have HGB := Lib.hid (builtD_good x y hs l)
  have HBG : Hid ((builtD x y hs l).mts.length ≤ 1000) := Lib.hid built_big
  have HBU := Lib.hid fun V h1 h2 => built_any x y uo lo uc lc hs l V h1 hr h2 x0 x1 y0 y1
  generalize builtD x y hs l = d at HGB HBG HBU hn
  clear hW hA k1 hL hQ hr hf hbW k2
  go_enter Try.func6, Try.ntmps6
  go_upto_region 1 with fail
  try dsimp only
  rw [HWW.out]
  obtain ⟨E0, hE0⟩ : ∃ E, w.heap.size = E := ⟨_, rfl⟩
  obtain ⟨EB, hEB⟩ : ∃ E, w.heap.size + 1 = E := ⟨_, rfl⟩
  rw [hEB] at K2
  try rw [hEB]
  rw [hE0] at D0
  try rw [hE0]
  have HE0 := Lib.hid hE0
  clear HWW hE0 hEB
  obtain ⟨x0, x1, x2, x3, x4⟩ := D0.out.cells
  have HC := Lib.hid (few_yes raw r0 m0 c0 k0 W HF.out.1 HF.out.2)
  go_wp2_with fail
  refine HC.out.mono ?_
  rintro e q1 ⟨rfl, hb1⟩
  clear x0 x1 x2 x3 x4
  replace B := Lib.hid (B.out.trans (hb1.mono B.out.size))
  replace D0 := Lib.hid (D0.out.next hb1)
  replace HL := Lib.hid (HL.out.next hb1)
  replace HQ := Lib.hid (HQ.out.next hb1)
  replace K2 := Lib.hid (keep_heap hb1 K2.out)
  clear HC hb1
  obtain ⟨p0, p1⟩ := two_cells K2.out
  have hE0q := D0.out.lt
  have HC := Lib.hid (HBU.out q1 HL.out HQ.out)
  go_wp2_with fail
  refine HC.out.mono ?_
  rintro e q9 ⟨r1, c1, m1, k1, rfl, hO1, hO2, hb9⟩
  clear p0 p1
  go_upto_region 4 with fail
  try dsimp only
  obtain ⟨V, hv⟩ : ∃ v, q9.alloc (dkObj d.day d.ans d.app r1 d.hol.length c1 m1 d.mts.length k1) = v := ⟨_, rfl⟩
  rw [hv]
  have hbn : Below q9.heap.size q9 V := by rw [← hv]; exact (Below.refl _ _).alloc (Nat.le_refl _) _
  have hbb : Below q1.heap.size q1 V := hb9.trans (hbn.mono hb9.size)
  have hws := B.out.size
  have DO : Hid (DvO w.heap.size V q9.heap.size d r1 c1 m1 k1) := Lib.hid (by rw [← hv]; exact ⟨heap_alloc_new q9 _, (hO1.mono hws).alloc _, (hO2.mono hws).alloc _, Nat.le_trans hws hb9.size⟩)
  replace B := Lib.hid (B.out.trans (hbb.mono B.out.size))
  replace D0 := Lib.hid (D0.out.next hbb)
  have hEl : E0 < q9.heap.size := Nat.lt_of_lt_of_le hE0q hb9.size
  obtain ⟨E1, hE⟩ : ∃ E, q9.heap.size = E := ⟨_, rfl⟩
  rw [hE] at DO hEl ⊢
  clear hv hbn hbb hE hO1 hO2 hb9 HC HL HQ K2 HBU hws
  obtain ⟨i, hi, hil⟩ := idx_of (a := ai) hn
  obtain ⟨m, hm⟩ : ∃ m, d.mts.getD i default = m := ⟨_, rfl⟩
  have HM := Lib.hid hm
  obtain ⟨hid, hst0, hst1, hdu0, hdu1⟩ := built_mt HGB.out hil hm
  obtain ⟨hd0, hd1⟩ := HGB.out.2
  obtain ⟨g, rfl⟩ : ∃ g, m1 = some ⟨g, 0, none⟩ := by
    rcases DO.out.h2.2 with ⟨e1, e2⟩ | ⟨g, cap, cur, e1, _⟩
    · omega
    · cases e1; exact ⟨g, rfl⟩
  have hmod : ai.tmod (d.mts.length : Int) = (i : Int) := by rw [Int.tmod_eq_emod_of_nonneg a0]; exact hi
  have hi0 : (0 : Int) ≤ (i : Int) := Int.natCast_nonneg _
  have hi1 : (i : Int) < (d.mts.length : Int) := by omega
  have hn1 : (0 : Int) < (d.mts.length : Int) := by omega
  have hn2 : ((d.mts.length : Int) == 0) = false := by rw [beq_eq_false_iff_ne]; omega
  have hn3 : ¬ (d.mts.length : Int) = 0 := by omega
  have hwa : IntKind.i64.wrap ai = ai := IntWalk.i64_in _ ⟨by omega, by omega⟩
  have HIL := Lib.hid hil
  have HNN := Lib.hid hn
  obtain ⟨x0, x1, x2, x3, x4⟩ := DO.out.dv.cells
  clear hm hid hi
  go_upto_region 5 with fail
  go_quiet (fail)
  go_upto_region 6 with fail
  obtain ⟨V1, hV1⟩ : ∃ V1, V.drewN nq = V1 := ⟨_, rfl⟩
  rw [hV1]
  have hb1 : Below V.heap.size V V1 := by rw [← hV1]; exact below_drewN (Below.refl _ _) _
  replace DO := Lib.hid (DO.out.next hb1)
  replace D0 := Lib.hid (D0.out.next hb1)
  replace B := Lib.hid (B.out.trans (hb1.mono B.out.size))
  clear hV1 hb1 x0 x1 x2 x3 x4 hmod hn1 hn2 hn3 hwa hn
  obtain ⟨x0, x1, x2, x3, x4⟩ := DO.out.dv.cells
  obtain ⟨f0, f1, f2, f3, f4⟩ := five_free DO.out.hp
  obtain ⟨⟨m0', m1', m2', m3', m4'⟩, hgl⟩ := owns_mt DO.out.h2 HIL.out HM.out
  obtain ⟨⟨n0', -, -, -, -⟩, -⟩ := owns_mt DO.out.h2 HNN.out rfl
  rw [Nat.zero_mul] at n0'
  obtain ⟨zi, hzi⟩ : ∃ zi, (d.mts.getD 0 default).id = zi := ⟨_, rfl⟩
  rw [hzi] at n0'
  clear hzi
  have e0 := DO.out.h2.frozenAt (i * 5)
  have e1 := DO.out.h2.frozenAt (i * 5 + 1)
  have e2 := DO.out.h2.frozenAt (i * 5 + 2)
  have e3 := DO.out.h2.frozenAt (i * 5 + 3)
  have e4 := DO.out.h2.frozenAt (i * 5 + 4)
  have hgw := (DO.out.h2.lt g rfl).1
  try simp only at m0' m1' m2' m3' m4'
  go_upto_region 27 with fail
  obtain ⟨V2, hV2⟩ : ∃ V2, V1.setCell ⟨g, i * 5 + 4, none⟩ (.bool (!m.df)) = V2 := ⟨_, rfl⟩
  rw [hV2]
  have hdo : DvO w.heap.size (V1.setCell ⟨g, i * 5 + 4, none⟩ (.bool (!m.df))) E1 { d with mts := d.mts.set i ⟨m.id, m.st, m.due, m.opt, !m.df⟩ } r1 c1 (some ⟨g, 0, none⟩) k1 := DO.out.setM (j := 4) HIL.out HM.out (by omega) rfl
  have hne : E0 ≠ g := fun e => by
    obtain ⟨cs, hcs⟩ := row_block DO.out.h2 rfl
    have h := D0.out.hp
    rw [e, hcs] at h
    simp at h
  have hbs := B.out.setCell (p := ⟨g, i * 5 + 4, none⟩) hgw (.bool (!m.df))
  have hd0' := dv_set HAR.out D0.out hbs hne
  have hlen : ({ d with mts := d.mts.set i ⟨m.id, m.st, m.due, m.opt, !m.df⟩ } : Dk).mts.length ≤ 9223372036854775807 := by simp only [List.length_set]; exact Nat.le_trans HBG.out (by decide)
  obtain ⟨d2, hd2⟩ : ∃ d2 : Dk, { d with mts := d.mts.set i ⟨m.id, m.st, m.due, m.opt, !m.df⟩ } = d2 := ⟨_, rfl⟩
  rw [hV2] at hdo hbs hd0'
  rw [hd2] at hdo hlen
  replace DO := Lib.hid hdo
  replace D0 := Lib.hid hd0'
  replace B := Lib.hid hbs
  have HBG2 := Lib.hid hlen
  obtain ⟨m1, hm1⟩ : ∃ m1 : Option Addr, some ⟨g, 0, none⟩ = m1 := ⟨_, rfl⟩
  clear hV2 hd2 hdo hbs hd0' hlen x0 x1 x2 x3 x4 f0 f1 f2 f3 f4 m0' m1' m2' m3' m4' n0' e0 e1 e2 e3 e4 hst0 hst1 hdu0 hdu1 hd0 hd1 hm1 m1
  clear hne
  have HD1 := Lib.hid DO.out.dv
  obtain ⟨x0, x1, x2, x3, x4⟩ := HD1.out.cells
  obtain ⟨y0, y1, y2, y3, y4⟩ := D0.out.cells
  have HAW := Lib.hid (oawake_any V2.drew)
  go_wp2_with fail
  go_region_held3 (fun w' => w'.cell? ⟨E1, 0, none⟩ = some (.int .i64 d2.day) ∧ w'.cell? ⟨E1, 1, none⟩ = some (.int .i64 d2.ans) ∧ w'.cell? ⟨E1, 2, none⟩ = some (.int .i64 d2.app) ∧ w'.cell? ⟨E1, 3, none⟩ = some (.slice r1 d2.hol.length c1) ∧ w'.cell? ⟨E1, 4, none⟩ = some (.slice (some ⟨g, 0, none⟩) d2.mts.length k1) ∧
      w'.cell? ⟨E0, 0, none⟩ = some (.int .i64 raw.day) ∧ w'.cell? ⟨E0, 1, none⟩ = some (.int .i64 raw.ans) ∧ w'.cell? ⟨E0, 2, none⟩ = some (.int .i64 raw.app) ∧ w'.cell? ⟨E0, 3, none⟩ = some (.slice r0 raw.hol.length c0) ∧ w'.cell? ⟨E0, 4, none⟩ = some (.slice m0 raw.mts.length k0))
    (first | with_reducible exact ⟨x0, x1, x2, x3, x4, y0, y1, y2, y3, y4⟩ | with_reducible exact CS.out | go_keep)
    (first
      | (go_at_call 14
         (with_reducible refine HAW.out.mono ?_)
         rintro e q1 ⟨rfl, hb1⟩
         have HB1 : Hid (Below V2.heap.size V2 q1) := Lib.hid ((Below.refl _ _).drew.trans hb1)
         have CS := Lib.hid (cs10 HD1.out D0.out HB1.out)
         have HC1 := Lib.hid (check_any d2.day d2.ans d2.app r1 (some ⟨g, 0, none⟩) c1 k1 d2.hol d2.mts q1 (HD1.out.hM.next HB1.out) HD1.out.cap HBG2.out)
         clear hb1)
      | (go_at_call 21
         (with_reducible refine HC1.out.mono ?_)
         rintro e q2 ⟨rfl, hb2⟩
         have HB2 : Hid (Below V2.heap.size V2 q2) := Lib.hid (HB1.out.trans (hb2.mono HB1.out.size))
         have CS := Lib.hid (cs10 HD1.out D0.out HB2.out)
         have HC2 := Lib.hid (checkR_any d2.day d2.ans d2.app r1 (some ⟨g, 0, none⟩) c1 k1 d2.hol d2.mts q2 (HD1.out.hM.next HB2.out) HBG2.out)
         clear hb2)
      | (go_at_call 24
         (with_reducible refine HC2.out.mono ?_)
         rintro e q3 ⟨rfl, hb3⟩
         have HB3 : Hid (Below V2.heap.size V2 q3) := Lib.hid (HB2.out.trans (hb3.mono HB2.out.size))
         have CS := Lib.hid (cs10 HD1.out D0.out HB3.out)
         have HC3 := Lib.hid (check_any raw.day raw.ans raw.app r0 m0 c0 k0 raw.hol raw.mts q3 (D0.out.hM.next HB3.out) D0.out.cap HAR.out.big)
         clear hb3)
      | (go_at_call 21
         (with_reducible refine HC3.out.mono ?_)
         rintro e q4 ⟨rfl, hb4⟩
         have HB4 : Hid (Below V2.heap.size V2 q4) := Lib.hid (HB3.out.trans (hb4.mono HB3.out.size))
         have CS := Lib.hid (cs10 HD1.out D0.out HB4.out)
         have HC4 := Lib.hid (checkR_any raw.day raw.ans raw.app r0 m0 c0 k0 raw.hol raw.mts q4 (D0.out.hM.next HB4.out) HAR.out.big)
         clear hb4)
      | (go_at_call 24
         (with_reducible refine HC4.out.mono ?_)
         rintro e q5 ⟨rfl, hb5⟩
         have HB5 : Hid (Below V2.heap.size V2 q5) := Lib.hid (HB4.out.trans (hb5.mono HB4.out.size))
         have CS := Lib.hid (cs10 HD1.out D0.out HB5.out)
         clear hb5))
  go_wp2_with fail
  go_ret
  exact ⟨by first | rfl | simp, B.out.trans (HB5.out.mono B.out.size)⟩

set_option maxRecDepth 100000 in
set_option maxHeartbeats 4000000 in
theorem docketCheck_q9 (raw : Dk) (r0 m0 : Option Addr) (c0 k0 : Nat) (x y : Int) (uo lo : Option Addr) (uc lc : Nat) (hs : List Int) (l : List Q4) (ai wh : Int) (w : World) (hA : DkArg w raw r0 c0 m0 k0) (hf : raw.hol.length ≤ 12 ∧ raw.mts.length ≤ 10) (hL : U16s w uo hs) (hr : ∀ i, 0 ≤ hs.getD i 0 ∧ hs.getD i 0 ≤ 65535) (hQ : Q4s w lo l) (x0 : 0 ≤ x) (x1 : x ≤ 255) (y0 : 0 ≤ y) (y1 : y ≤ 255) (hn : 0 < (builtD x y hs l).mts.length) (a0 : 0 ≤ ai) (a1 : ai ≤ 255) (wh0 : 0 ≤ wh) (wh1 : wh ≤ 255) (hq : wh % 12 = 9) :
    Calls Try.prog 6 #[.agg #[.int .i64 raw.day, .int .i64 raw.ans, .int .i64 raw.app, .slice r0 raw.hol.length c0, .slice m0 raw.mts.length k0], .agg #[.int .u8 x, .int .u8 y], .slice uo hs.length uc, .slice lo l.length lc, .int .u8 ai, .int .u8 wh] w fun e w' => e = .returned (.bool true) ∧ Below w.heap.size w w' := by
  obtain ⟨W, hW⟩ : ∃ W, (w.alloc (dkObj raw.day raw.ans raw.app r0 raw.hol.length c0 m0 raw.mts.length k0)).alloc (b2Obj x y) = W := ⟨_, rfl⟩
  obtain ⟨hbW, k1, k2⟩ := two_made hW
  have HWW := Lib.hid hW
  have B := Lib.hid hbW
  have D0 := Lib.hid (dv_arg hA hbW k1)
  have HAR := Lib.hid hA
  have HL := Lib.hid (hL.next hbW)
  have HQ := Lib.hid (hQ.next hbW)
  have K2 := Lib.hid k2
  have HF := Lib.hid hf
  have HGB := Lib.hid (builtD_good x y hs l)
  have HBG : Hid ((builtD x y hs l).mts.length ≤ 1000) := Lib.hid built_big
  have HBU := Lib.hid fun V h1 h2 => built_any x y uo lo uc lc hs l V h1 hr h2 x0 x1 y0 y1
  generalize builtD x y hs l = d at HGB HBG HBU hn
  clear hW hA k1 hL hQ hr hf hbW k2
  go_enter Try.func6, Try.ntmps6
  go_upto_region 1 with fail
  try dsimp only
  rw [HWW.out]
  obtain ⟨E0, hE0⟩ : ∃ E, w.heap.size = E := ⟨_, rfl⟩
  obtain ⟨EB, hEB⟩ : ∃ E, w.heap.size + 1 = E := ⟨_, rfl⟩
  rw [hEB] at K2
  try rw [hEB]
  rw [hE0] at D0
  try rw [hE0]
  have HE0 := Lib.hid hE0
  clear HWW hE0 hEB
  obtain ⟨x0, x1, x2, x3, x4⟩ := D0.out.cells
  have HC := Lib.hid (few_yes raw r0 m0 c0 k0 W HF.out.1 HF.out.2)
  go_wp2_with fail
  refine HC.out.mono ?_
  rintro e q1 ⟨rfl, hb1⟩
  clear x0 x1 x2 x3 x4
  replace B := Lib.hid (B.out.trans (hb1.mono B.out.size))
  replace D0 := Lib.hid (D0.out.next hb1)
  replace HL := Lib.hid (HL.out.next hb1)
  replace HQ := Lib.hid (HQ.out.next hb1)
  replace K2 := Lib.hid (keep_heap hb1 K2.out)
  clear HC hb1
  obtain ⟨p0, p1⟩ := two_cells K2.out
  have hE0q := D0.out.lt
  have HC := Lib.hid (HBU.out q1 HL.out HQ.out)
  go_wp2_with fail
  refine HC.out.mono ?_
  rintro e q9 ⟨r1, c1, m1, k1, rfl, hO1, hO2, hb9⟩
  clear p0 p1
  go_upto_region 4 with fail
  try dsimp only
  obtain ⟨V, hv⟩ : ∃ v, q9.alloc (dkObj d.day d.ans d.app r1 d.hol.length c1 m1 d.mts.length k1) = v := ⟨_, rfl⟩
  rw [hv]
  have hbn : Below q9.heap.size q9 V := by rw [← hv]; exact (Below.refl _ _).alloc (Nat.le_refl _) _
  have hbb : Below q1.heap.size q1 V := hb9.trans (hbn.mono hb9.size)
  have hws := B.out.size
  have DO : Hid (DvO w.heap.size V q9.heap.size d r1 c1 m1 k1) := Lib.hid (by rw [← hv]; exact ⟨heap_alloc_new q9 _, (hO1.mono hws).alloc _, (hO2.mono hws).alloc _, Nat.le_trans hws hb9.size⟩)
  replace B := Lib.hid (B.out.trans (hbb.mono B.out.size))
  replace D0 := Lib.hid (D0.out.next hbb)
  have hEl : E0 < q9.heap.size := Nat.lt_of_lt_of_le hE0q hb9.size
  obtain ⟨E1, hE⟩ : ∃ E, q9.heap.size = E := ⟨_, rfl⟩
  rw [hE] at DO hEl ⊢
  clear hv hbn hbb hE hO1 hO2 hb9 HC HL HQ K2 HBU hws
  obtain ⟨i, hi, hil⟩ := idx_of (a := ai) hn
  obtain ⟨m, hm⟩ : ∃ m, d.mts.getD i default = m := ⟨_, rfl⟩
  have HM := Lib.hid hm
  obtain ⟨hid, hst0, hst1, hdu0, hdu1⟩ := built_mt HGB.out hil hm
  obtain ⟨hd0, hd1⟩ := HGB.out.2
  obtain ⟨g, rfl⟩ : ∃ g, m1 = some ⟨g, 0, none⟩ := by
    rcases DO.out.h2.2 with ⟨e1, e2⟩ | ⟨g, cap, cur, e1, _⟩
    · omega
    · cases e1; exact ⟨g, rfl⟩
  have hmod : ai.tmod (d.mts.length : Int) = (i : Int) := by rw [Int.tmod_eq_emod_of_nonneg a0]; exact hi
  have hi0 : (0 : Int) ≤ (i : Int) := Int.natCast_nonneg _
  have hi1 : (i : Int) < (d.mts.length : Int) := by omega
  have hn1 : (0 : Int) < (d.mts.length : Int) := by omega
  have hn2 : ((d.mts.length : Int) == 0) = false := by rw [beq_eq_false_iff_ne]; omega
  have hn3 : ¬ (d.mts.length : Int) = 0 := by omega
  have hwa : IntKind.i64.wrap ai = ai := IntWalk.i64_in _ ⟨by omega, by omega⟩
  have HIL := Lib.hid hil
  have HNN := Lib.hid hn
  obtain ⟨x0, x1, x2, x3, x4⟩ := DO.out.dv.cells
  clear hm hid hi
  go_upto_region 5 with fail
  go_quiet (fail)
  go_upto_region 6 with fail
  obtain ⟨V1, hV1⟩ : ∃ V1, V.drewN nq = V1 := ⟨_, rfl⟩
  rw [hV1]
  have hb1 : Below V.heap.size V V1 := by rw [← hV1]; exact below_drewN (Below.refl _ _) _
  replace DO := Lib.hid (DO.out.next hb1)
  replace D0 := Lib.hid (D0.out.next hb1)
  replace B := Lib.hid (B.out.trans (hb1.mono B.out.size))
  clear hV1 hb1 x0 x1 x2 x3 x4 hmod hn1 hn2 hn3 hwa hn
  obtain ⟨x0, x1, x2, x3, x4⟩ := DO.out.dv.cells
  obtain ⟨f0, f1, f2, f3, f4⟩ := five_free DO.out.hp
  obtain ⟨⟨m0', m1', m2', m3', m4'⟩, hgl⟩ := owns_mt DO.out.h2 HIL.out HM.out
  obtain ⟨⟨n0', -, -, -, -⟩, -⟩ := owns_mt DO.out.h2 HNN.out rfl
  rw [Nat.zero_mul] at n0'
  obtain ⟨zi, hzi⟩ : ∃ zi, (d.mts.getD 0 default).id = zi := ⟨_, rfl⟩
  rw [hzi] at n0'
  clear hzi
  have e0 := DO.out.h2.frozenAt (i * 5)
  have e1 := DO.out.h2.frozenAt (i * 5 + 1)
  have e2 := DO.out.h2.frozenAt (i * 5 + 2)
  have e3 := DO.out.h2.frozenAt (i * 5 + 3)
  have e4 := DO.out.h2.frozenAt (i * 5 + 4)
  have hgw := (DO.out.h2.lt g rfl).1
  try simp only at m0' m1' m2' m3' m4'
  go_upto_region 27 with fail
  obtain ⟨V2, hV2⟩ : ∃ V2, V1.setCell ⟨E1, 1, none⟩ (.int .i64 0) = V2 := ⟨_, rfl⟩
  rw [hV2]
  have hdo : DvO w.heap.size (V1.setCell ⟨E1, 1, none⟩ (.int .i64 0)) E1 { d with ans := 0 } r1 c1 (some ⟨g, 0, none⟩) k1 := DO.out.setA
  have hne : E0 ≠ E1 := by omega
  have hbs := B.out.setCell (p := ⟨E1, 1, none⟩) DO.out.hB (.int .i64 0)
  have hd0' := dv_set HAR.out D0.out hbs hne
  have hlen : ({ d with ans := 0 } : Dk).mts.length ≤ 9223372036854775807 := Nat.le_trans HBG.out (by decide)
  obtain ⟨d2, hd2⟩ : ∃ d2 : Dk, { d with ans := 0 } = d2 := ⟨_, rfl⟩
  rw [hV2] at hdo hbs hd0'
  rw [hd2] at hdo hlen
  replace DO := Lib.hid hdo
  replace D0 := Lib.hid hd0'
  replace B := Lib.hid hbs
  have HBG2 := Lib.hid hlen
  obtain ⟨m1, hm1⟩ : ∃ m1 : Option Addr, some ⟨g, 0, none⟩ = m1 := ⟨_, rfl⟩
  clear hV2 hd2 hdo hbs hd0' hlen x0 x1 x2 x3 x4 f0 f1 f2 f3 f4 m0' m1' m2' m3' m4' n0' e0 e1 e2 e3 e4 hst0 hst1 hdu0 hdu1 hd0 hd1 hm1 m1
  clear hne
  have HD1 := Lib.hid DO.out.dv
  obtain ⟨x0, x1, x2, x3, x4⟩ := HD1.out.cells
  obtain ⟨y0, y1, y2, y3, y4⟩ := D0.out.cells
  have HAW := Lib.hid (oawake_any V2.drew)
  go_wp2_with fail
  go_region_held3 (fun w' => w'.cell? ⟨E1, 0, none⟩ = some (.int .i64 d2.day) ∧ w'.cell? ⟨E1, 1, none⟩ = some (.int .i64 d2.ans) ∧ w'.cell? ⟨E1, 2, none⟩ = some (.int .i64 d2.app) ∧ w'.cell? ⟨E1, 3, none⟩ = some (.slice r1 d2.hol.length c1) ∧ w'.cell? ⟨E1, 4, none⟩ = some (.slice (some ⟨g, 0, none⟩) d2.mts.length k1) ∧
      w'.cell? ⟨E0, 0, none⟩ = some (.int .i64 raw.day) ∧ w'.cell? ⟨E0, 1, none⟩ = some (.int .i64 raw.ans) ∧ w'.cell? ⟨E0, 2, none⟩ = some (.int .i64 raw.app) ∧ w'.cell? ⟨E0, 3, none⟩ = some (.slice r0 raw.hol.length c0) ∧ w'.cell? ⟨E0, 4, none⟩ = some (.slice m0 raw.mts.length k0))
    (first | with_reducible exact ⟨x0, x1, x2, x3, x4, y0, y1, y2, y3, y4⟩ | with_reducible exact CS.out | go_keep)
    (first
      | (go_at_call 14
         (with_reducible refine HAW.out.mono ?_)
         rintro e q1 ⟨rfl, hb1⟩
         have HB1 : Hid (Below V2.heap.size V2 q1) := Lib.hid ((Below.refl _ _).drew.trans hb1)
         have CS := Lib.hid (cs10 HD1.out D0.out HB1.out)
         have HC1 := Lib.hid (check_any d2.day d2.ans d2.app r1 (some ⟨g, 0, none⟩) c1 k1 d2.hol d2.mts q1 (HD1.out.hM.next HB1.out) HD1.out.cap HBG2.out)
         clear hb1)
      | (go_at_call 21
         (with_reducible refine HC1.out.mono ?_)
         rintro e q2 ⟨rfl, hb2⟩
         have HB2 : Hid (Below V2.heap.size V2 q2) := Lib.hid (HB1.out.trans (hb2.mono HB1.out.size))
         have CS := Lib.hid (cs10 HD1.out D0.out HB2.out)
         have HC2 := Lib.hid (checkR_any d2.day d2.ans d2.app r1 (some ⟨g, 0, none⟩) c1 k1 d2.hol d2.mts q2 (HD1.out.hM.next HB2.out) HBG2.out)
         clear hb2)
      | (go_at_call 24
         (with_reducible refine HC2.out.mono ?_)
         rintro e q3 ⟨rfl, hb3⟩
         have HB3 : Hid (Below V2.heap.size V2 q3) := Lib.hid (HB2.out.trans (hb3.mono HB2.out.size))
         have CS := Lib.hid (cs10 HD1.out D0.out HB3.out)
         have HC3 := Lib.hid (check_any raw.day raw.ans raw.app r0 m0 c0 k0 raw.hol raw.mts q3 (D0.out.hM.next HB3.out) D0.out.cap HAR.out.big)
         clear hb3)
      | (go_at_call 21
         (with_reducible refine HC3.out.mono ?_)
         rintro e q4 ⟨rfl, hb4⟩
         have HB4 : Hid (Below V2.heap.size V2 q4) := Lib.hid (HB3.out.trans (hb4.mono HB3.out.size))
         have CS := Lib.hid (cs10 HD1.out D0.out HB4.out)
         have HC4 := Lib.hid (checkR_any raw.day raw.ans raw.app r0 m0 c0 k0 raw.hol raw.mts q4 (D0.out.hM.next HB4.out) HAR.out.big)
         clear hb4)
      | (go_at_call 24
         (with_reducible refine HC4.out.mono ?_)
         rintro e q5 ⟨rfl, hb5⟩
         have HB5 : Hid (Below V2.heap.size V2 q5) := Lib.hid (HB4.out.trans (hb5.mono HB4.out.size))
         have CS := Lib.hid (cs10 HD1.out D0.out HB5.out)
         clear hb5))
  go_wp2_with fail
  go_ret
  exact ⟨by first | rfl | simp, B.out.trans (HB5.out.mono B.out.size)⟩

set_option maxRecDepth 100000 in
set_option maxHeartbeats 4000000 in
theorem docketCheck_q10 (raw : Dk) (r0 m0 : Option Addr) (c0 k0 : Nat) (x y : Int) (uo lo : Option Addr) (uc lc : Nat) (hs : List Int) (l : List Q4) (ai wh : Int) (w : World) (hA : DkArg w raw r0 c0 m0 k0) (hf : raw.hol.length ≤ 12 ∧ raw.mts.length ≤ 10) (hL : U16s w uo hs) (hr : ∀ i, 0 ≤ hs.getD i 0 ∧ hs.getD i 0 ≤ 65535) (hQ : Q4s w lo l) (x0 : 0 ≤ x) (x1 : x ≤ 255) (y0 : 0 ≤ y) (y1 : y ≤ 255) (hn : 0 < (builtD x y hs l).mts.length) (a0 : 0 ≤ ai) (a1 : ai ≤ 255) (wh0 : 0 ≤ wh) (wh1 : wh ≤ 255) (hq : wh % 12 = 10) :
    Calls Try.prog 6 #[.agg #[.int .i64 raw.day, .int .i64 raw.ans, .int .i64 raw.app, .slice r0 raw.hol.length c0, .slice m0 raw.mts.length k0], .agg #[.int .u8 x, .int .u8 y], .slice uo hs.length uc, .slice lo l.length lc, .int .u8 ai, .int .u8 wh] w fun e w' => e = .returned (.bool true) ∧ Below w.heap.size w w' := by
  obtain ⟨W, hW⟩ : ∃ W, (w.alloc (dkObj raw.day raw.ans raw.app r0 raw.hol.length c0 m0 raw.mts.length k0)).alloc (b2Obj x y) = W := ⟨_, rfl⟩
  obtain ⟨hbW, k1, k2⟩ := two_made hW
  have HWW := Lib.hid hW
  have B := Lib.hid hbW
  have D0 := Lib.hid (dv_arg hA hbW k1)
  have HAR := Lib.hid hA
  have HL := Lib.hid (hL.next hbW)
  have HQ := Lib.hid (hQ.next hbW)
  have K2 := Lib.hid k2
  have HF := Lib.hid hf
  have HGB := Lib.hid (builtD_good x y hs l)
  have HBG : Hid ((builtD x y hs l).mts.length ≤ 1000) := Lib.hid built_big
  have HBU := Lib.hid fun V h1 h2 => built_any x y uo lo uc lc hs l V h1 hr h2 x0 x1 y0 y1
  generalize builtD x y hs l = d at HGB HBG HBU hn
  clear hW hA k1 hL hQ hr hf hbW k2
  go_enter Try.func6, Try.ntmps6
  go_upto_region 1 with fail
  try dsimp only
  rw [HWW.out]
  obtain ⟨E0, hE0⟩ : ∃ E, w.heap.size = E := ⟨_, rfl⟩
  obtain ⟨EB, hEB⟩ : ∃ E, w.heap.size + 1 = E := ⟨_, rfl⟩
  rw [hEB] at K2
  try rw [hEB]
  rw [hE0] at D0
  try rw [hE0]
  have HE0 := Lib.hid hE0
  clear HWW hE0 hEB
  obtain ⟨x0, x1, x2, x3, x4⟩ := D0.out.cells
  have HC := Lib.hid (few_yes raw r0 m0 c0 k0 W HF.out.1 HF.out.2)
  go_wp2_with fail
  refine HC.out.mono ?_
  rintro e q1 ⟨rfl, hb1⟩
  clear x0 x1 x2 x3 x4
  replace B := Lib.hid (B.out.trans (hb1.mono B.out.size))
  replace D0 := Lib.hid (D0.out.next hb1)
  replace HL := Lib.hid (HL.out.next hb1)
  replace HQ := Lib.hid (HQ.out.next hb1)
  replace K2 := Lib.hid (keep_heap hb1 K2.out)
  clear HC hb1
  obtain ⟨p0, p1⟩ := two_cells K2.out
  have hE0q := D0.out.lt
  have HC := Lib.hid (HBU.out q1 HL.out HQ.out)
  go_wp2_with fail
  refine HC.out.mono ?_
  rintro e q9 ⟨r1, c1, m1, k1, rfl, hO1, hO2, hb9⟩
  clear p0 p1
  go_upto_region 4 with fail
  try dsimp only
  obtain ⟨V, hv⟩ : ∃ v, q9.alloc (dkObj d.day d.ans d.app r1 d.hol.length c1 m1 d.mts.length k1) = v := ⟨_, rfl⟩
  rw [hv]
  have hbn : Below q9.heap.size q9 V := by rw [← hv]; exact (Below.refl _ _).alloc (Nat.le_refl _) _
  have hbb : Below q1.heap.size q1 V := hb9.trans (hbn.mono hb9.size)
  have hws := B.out.size
  have DO : Hid (DvO w.heap.size V q9.heap.size d r1 c1 m1 k1) := Lib.hid (by rw [← hv]; exact ⟨heap_alloc_new q9 _, (hO1.mono hws).alloc _, (hO2.mono hws).alloc _, Nat.le_trans hws hb9.size⟩)
  replace B := Lib.hid (B.out.trans (hbb.mono B.out.size))
  replace D0 := Lib.hid (D0.out.next hbb)
  have hEl : E0 < q9.heap.size := Nat.lt_of_lt_of_le hE0q hb9.size
  obtain ⟨E1, hE⟩ : ∃ E, q9.heap.size = E := ⟨_, rfl⟩
  rw [hE] at DO hEl ⊢
  clear hv hbn hbb hE hO1 hO2 hb9 HC HL HQ K2 HBU hws
  obtain ⟨i, hi, hil⟩ := idx_of (a := ai) hn
  obtain ⟨m, hm⟩ : ∃ m, d.mts.getD i default = m := ⟨_, rfl⟩
  have HM := Lib.hid hm
  obtain ⟨hid, hst0, hst1, hdu0, hdu1⟩ := built_mt HGB.out hil hm
  obtain ⟨hd0, hd1⟩ := HGB.out.2
  obtain ⟨g, rfl⟩ : ∃ g, m1 = some ⟨g, 0, none⟩ := by
    rcases DO.out.h2.2 with ⟨e1, e2⟩ | ⟨g, cap, cur, e1, _⟩
    · omega
    · cases e1; exact ⟨g, rfl⟩
  have hmod : ai.tmod (d.mts.length : Int) = (i : Int) := by rw [Int.tmod_eq_emod_of_nonneg a0]; exact hi
  have hi0 : (0 : Int) ≤ (i : Int) := Int.natCast_nonneg _
  have hi1 : (i : Int) < (d.mts.length : Int) := by omega
  have hn1 : (0 : Int) < (d.mts.length : Int) := by omega
  have hn2 : ((d.mts.length : Int) == 0) = false := by rw [beq_eq_false_iff_ne]; omega
  have hn3 : ¬ (d.mts.length : Int) = 0 := by omega
  have hwa : IntKind.i64.wrap ai = ai := IntWalk.i64_in _ ⟨by omega, by omega⟩
  have HIL := Lib.hid hil
  have HNN := Lib.hid hn
  obtain ⟨x0, x1, x2, x3, x4⟩ := DO.out.dv.cells
  clear hm hid hi
  go_upto_region 5 with fail
  go_quiet (fail)
  go_upto_region 6 with fail
  obtain ⟨V1, hV1⟩ : ∃ V1, V.drewN nq = V1 := ⟨_, rfl⟩
  rw [hV1]
  have hb1 : Below V.heap.size V V1 := by rw [← hV1]; exact below_drewN (Below.refl _ _) _
  replace DO := Lib.hid (DO.out.next hb1)
  replace D0 := Lib.hid (D0.out.next hb1)
  replace B := Lib.hid (B.out.trans (hb1.mono B.out.size))
  clear hV1 hb1 x0 x1 x2 x3 x4 hmod hn1 hn2 hn3 hwa hn
  obtain ⟨x0, x1, x2, x3, x4⟩ := DO.out.dv.cells
  obtain ⟨f0, f1, f2, f3, f4⟩ := five_free DO.out.hp
  obtain ⟨⟨m0', m1', m2', m3', m4'⟩, hgl⟩ := owns_mt DO.out.h2 HIL.out HM.out
  obtain ⟨⟨n0', -, -, -, -⟩, -⟩ := owns_mt DO.out.h2 HNN.out rfl
  rw [Nat.zero_mul] at n0'
  obtain ⟨zi, hzi⟩ : ∃ zi, (d.mts.getD 0 default).id = zi := ⟨_, rfl⟩
  rw [hzi] at n0'
  clear hzi
  have e0 := DO.out.h2.frozenAt (i * 5)
  have e1 := DO.out.h2.frozenAt (i * 5 + 1)
  have e2 := DO.out.h2.frozenAt (i * 5 + 2)
  have e3 := DO.out.h2.frozenAt (i * 5 + 3)
  have e4 := DO.out.h2.frozenAt (i * 5 + 4)
  have hgw := (DO.out.h2.lt g rfl).1
  try simp only at m0' m1' m2' m3' m4'
  go_upto_region 27 with fail
  obtain ⟨V2, hV2⟩ : ∃ V2, V1 = V2 := ⟨_, rfl⟩
  rw [hV2]
  have hdo := DO.out
  have hbs := B.out
  have hd0' := D0.out
  have hlen : d.mts.length ≤ 9223372036854775807 := Nat.le_trans HBG.out (by decide)
  obtain ⟨d2, hd2⟩ : ∃ d2 : Dk, d = d2 := ⟨_, rfl⟩
  rw [hV2] at hdo hbs hd0'
  rw [hd2] at hdo hlen
  replace DO := Lib.hid hdo
  replace D0 := Lib.hid hd0'
  replace B := Lib.hid hbs
  have HBG2 := Lib.hid hlen
  obtain ⟨m1, hm1⟩ : ∃ m1 : Option Addr, some ⟨g, 0, none⟩ = m1 := ⟨_, rfl⟩
  clear hV2 hd2 hdo hbs hd0' hlen x0 x1 x2 x3 x4 f0 f1 f2 f3 f4 m0' m1' m2' m3' m4' n0' e0 e1 e2 e3 e4 hst0 hst1 hdu0 hdu1 hd0 hd1 hm1 m1
  have HD1 := Lib.hid DO.out.dv
  obtain ⟨x0, x1, x2, x3, x4⟩ := HD1.out.cells
  obtain ⟨y0, y1, y2, y3, y4⟩ := D0.out.cells
  have HAW := Lib.hid (oawake_any V2.drew)
  go_wp2_with fail
  go_region_held3 (fun w' => w'.cell? ⟨E1, 0, none⟩ = some (.int .i64 d2.day) ∧ w'.cell? ⟨E1, 1, none⟩ = some (.int .i64 d2.ans) ∧ w'.cell? ⟨E1, 2, none⟩ = some (.int .i64 d2.app) ∧ w'.cell? ⟨E1, 3, none⟩ = some (.slice r1 d2.hol.length c1) ∧ w'.cell? ⟨E1, 4, none⟩ = some (.slice (some ⟨g, 0, none⟩) d2.mts.length k1) ∧
      w'.cell? ⟨E0, 0, none⟩ = some (.int .i64 raw.day) ∧ w'.cell? ⟨E0, 1, none⟩ = some (.int .i64 raw.ans) ∧ w'.cell? ⟨E0, 2, none⟩ = some (.int .i64 raw.app) ∧ w'.cell? ⟨E0, 3, none⟩ = some (.slice r0 raw.hol.length c0) ∧ w'.cell? ⟨E0, 4, none⟩ = some (.slice m0 raw.mts.length k0))
    (first | with_reducible exact ⟨x0, x1, x2, x3, x4, y0, y1, y2, y3, y4⟩ | with_reducible exact CS.out | go_keep)
    (first
      | (go_at_call 14
         (with_reducible refine HAW.out.mono ?_)
         rintro e q1 ⟨rfl, hb1⟩
         have HB1 : Hid (Below V2.heap.size V2 q1) := Lib.hid ((Below.refl _ _).drew.trans hb1)
         have CS := Lib.hid (cs10 HD1.out D0.out HB1.out)
         have HC1 := Lib.hid (check_any d2.day d2.ans d2.app r1 (some ⟨g, 0, none⟩) c1 k1 d2.hol d2.mts q1 (HD1.out.hM.next HB1.out) HD1.out.cap HBG2.out)
         clear hb1)
      | (go_at_call 21
         (with_reducible refine HC1.out.mono ?_)
         rintro e q2 ⟨rfl, hb2⟩
         have HB2 : Hid (Below V2.heap.size V2 q2) := Lib.hid (HB1.out.trans (hb2.mono HB1.out.size))
         have CS := Lib.hid (cs10 HD1.out D0.out HB2.out)
         have HC2 := Lib.hid (checkR_any d2.day d2.ans d2.app r1 (some ⟨g, 0, none⟩) c1 k1 d2.hol d2.mts q2 (HD1.out.hM.next HB2.out) HBG2.out)
         clear hb2)
      | (go_at_call 24
         (with_reducible refine HC2.out.mono ?_)
         rintro e q3 ⟨rfl, hb3⟩
         have HB3 : Hid (Below V2.heap.size V2 q3) := Lib.hid (HB2.out.trans (hb3.mono HB2.out.size))
         have CS := Lib.hid (cs10 HD1.out D0.out HB3.out)
         have HC3 := Lib.hid (check_any raw.day raw.ans raw.app r0 m0 c0 k0 raw.hol raw.mts q3 (D0.out.hM.next HB3.out) D0.out.cap HAR.out.big)
         clear hb3)
      | (go_at_call 21
         (with_reducible refine HC3.out.mono ?_)
         rintro e q4 ⟨rfl, hb4⟩
         have HB4 : Hid (Below V2.heap.size V2 q4) := Lib.hid (HB3.out.trans (hb4.mono HB3.out.size))
         have CS := Lib.hid (cs10 HD1.out D0.out HB4.out)
         have HC4 := Lib.hid (checkR_any raw.day raw.ans raw.app r0 m0 c0 k0 raw.hol raw.mts q4 (D0.out.hM.next HB4.out) HAR.out.big)
         clear hb4)
      | (go_at_call 24
         (with_reducible refine HC4.out.mono ?_)
         rintro e q5 ⟨rfl, hb5⟩
         have HB5 : Hid (Below V2.heap.size V2 q5) := Lib.hid (HB4.out.trans (hb5.mono HB4.out.size))
         have CS := Lib.hid (cs10 HD1.out D0.out HB5.out)
         clear hb5))
  go_wp2_with fail
  go_ret
  exact ⟨by first | rfl | simp, B.out.trans (HB5.out.mono B.out.size)⟩

set_option maxRecDepth 100000 in
set_option maxHeartbeats 4000000 in
theorem docketCheck_q11 (raw : Dk) (r0 m0 : Option Addr) (c0 k0 : Nat) (x y : Int) (uo lo : Option Addr) (uc lc : Nat) (hs : List Int) (l : List Q4) (ai wh : Int) (w : World) (hA : DkArg w raw r0 c0 m0 k0) (hf : raw.hol.length ≤ 12 ∧ raw.mts.length ≤ 10) (hL : U16s w uo hs) (hr : ∀ i, 0 ≤ hs.getD i 0 ∧ hs.getD i 0 ≤ 65535) (hQ : Q4s w lo l) (x0 : 0 ≤ x) (x1 : x ≤ 255) (y0 : 0 ≤ y) (y1 : y ≤ 255) (hn : 0 < (builtD x y hs l).mts.length) (a0 : 0 ≤ ai) (a1 : ai ≤ 255) (wh0 : 0 ≤ wh) (wh1 : wh ≤ 255) (hq : wh % 12 = 11) :
    Calls Try.prog 6 #[.agg #[.int .i64 raw.day, .int .i64 raw.ans, .int .i64 raw.app, .slice r0 raw.hol.length c0, .slice m0 raw.mts.length k0], .agg #[.int .u8 x, .int .u8 y], .slice uo hs.length uc, .slice lo l.length lc, .int .u8 ai, .int .u8 wh] w fun e w' => e = .returned (.bool true) ∧ Below w.heap.size w w' := by
  obtain ⟨W, hW⟩ : ∃ W, (w.alloc (dkObj raw.day raw.ans raw.app r0 raw.hol.length c0 m0 raw.mts.length k0)).alloc (b2Obj x y) = W := ⟨_, rfl⟩
  obtain ⟨hbW, k1, k2⟩ := two_made hW
  have HWW := Lib.hid hW
  have B := Lib.hid hbW
  have D0 := Lib.hid (dv_arg hA hbW k1)
  have HAR := Lib.hid hA
  have HL := Lib.hid (hL.next hbW)
  have HQ := Lib.hid (hQ.next hbW)
  have K2 := Lib.hid k2
  have HF := Lib.hid hf
  have HGB := Lib.hid (builtD_good x y hs l)
  have HBG : Hid ((builtD x y hs l).mts.length ≤ 1000) := Lib.hid built_big
  have HBU := Lib.hid fun V h1 h2 => built_any x y uo lo uc lc hs l V h1 hr h2 x0 x1 y0 y1
  generalize builtD x y hs l = d at HGB HBG HBU hn
  clear hW hA k1 hL hQ hr hf hbW k2
  go_enter Try.func6, Try.ntmps6
  go_upto_region 1 with fail
  try dsimp only
  rw [HWW.out]
  obtain ⟨E0, hE0⟩ : ∃ E, w.heap.size = E := ⟨_, rfl⟩
  obtain ⟨EB, hEB⟩ : ∃ E, w.heap.size + 1 = E := ⟨_, rfl⟩
  rw [hEB] at K2
  try rw [hEB]
  rw [hE0] at D0
  try rw [hE0]
  have HE0 := Lib.hid hE0
  clear HWW hE0 hEB
  obtain ⟨x0, x1, x2, x3, x4⟩ := D0.out.cells
  have HC := Lib.hid (few_yes raw r0 m0 c0 k0 W HF.out.1 HF.out.2)
  go_wp2_with fail
  refine HC.out.mono ?_
  rintro e q1 ⟨rfl, hb1⟩
  clear x0 x1 x2 x3 x4
  replace B := Lib.hid (B.out.trans (hb1.mono B.out.size))
  replace D0 := Lib.hid (D0.out.next hb1)
  replace HL := Lib.hid (HL.out.next hb1)
  replace HQ := Lib.hid (HQ.out.next hb1)
  replace K2 := Lib.hid (keep_heap hb1 K2.out)
  clear HC hb1
  obtain ⟨p0, p1⟩ := two_cells K2.out
  have hE0q := D0.out.lt
  have HC := Lib.hid (HBU.out q1 HL.out HQ.out)
  go_wp2_with fail
  refine HC.out.mono ?_
  rintro e q9 ⟨r1, c1, m1, k1, rfl, hO1, hO2, hb9⟩
  clear p0 p1
  go_upto_region 4 with fail
  try dsimp only
  obtain ⟨V, hv⟩ : ∃ v, q9.alloc (dkObj d.day d.ans d.app r1 d.hol.length c1 m1 d.mts.length k1) = v := ⟨_, rfl⟩
  rw [hv]
  have hbn : Below q9.heap.size q9 V := by rw [← hv]; exact (Below.refl _ _).alloc (Nat.le_refl _) _
  have hbb : Below q1.heap.size q1 V := hb9.trans (hbn.mono hb9.size)
  have hws := B.out.size
  have DO : Hid (DvO w.heap.size V q9.heap.size d r1 c1 m1 k1) := Lib.hid (by rw [← hv]; exact ⟨heap_alloc_new q9 _, (hO1.mono hws).alloc _, (hO2.mono hws).alloc _, Nat.le_trans hws hb9.size⟩)
  replace B := Lib.hid (B.out.trans (hbb.mono B.out.size))
  replace D0 := Lib.hid (D0.out.next hbb)
  have hEl : E0 < q9.heap.size := Nat.lt_of_lt_of_le hE0q hb9.size
  obtain ⟨E1, hE⟩ : ∃ E, q9.heap.size = E := ⟨_, rfl⟩
  rw [hE] at DO hEl ⊢
  clear hv hbn hbb hE hO1 hO2 hb9 HC HL HQ K2 HBU hws
  obtain ⟨i, hi, hil⟩ := idx_of (a := ai) hn
  obtain ⟨m, hm⟩ : ∃ m, d.mts.getD i default = m := ⟨_, rfl⟩
  have HM := Lib.hid hm
  obtain ⟨hid, hst0, hst1, hdu0, hdu1⟩ := built_mt HGB.out hil hm
  obtain ⟨hd0, hd1⟩ := HGB.out.2
  obtain ⟨g, rfl⟩ : ∃ g, m1 = some ⟨g, 0, none⟩ := by
    rcases DO.out.h2.2 with ⟨e1, e2⟩ | ⟨g, cap, cur, e1, _⟩
    · omega
    · cases e1; exact ⟨g, rfl⟩
  have hmod : ai.tmod (d.mts.length : Int) = (i : Int) := by rw [Int.tmod_eq_emod_of_nonneg a0]; exact hi
  have hi0 : (0 : Int) ≤ (i : Int) := Int.natCast_nonneg _
  have hi1 : (i : Int) < (d.mts.length : Int) := by omega
  have hn1 : (0 : Int) < (d.mts.length : Int) := by omega
  have hn2 : ((d.mts.length : Int) == 0) = false := by rw [beq_eq_false_iff_ne]; omega
  have hn3 : ¬ (d.mts.length : Int) = 0 := by omega
  have hwa : IntKind.i64.wrap ai = ai := IntWalk.i64_in _ ⟨by omega, by omega⟩
  have HIL := Lib.hid hil
  have HNN := Lib.hid hn
  obtain ⟨x0, x1, x2, x3, x4⟩ := DO.out.dv.cells
  clear hm hid hi
  go_upto_region 5 with fail
  go_quiet (fail)
  go_upto_region 6 with fail
  obtain ⟨V1, hV1⟩ : ∃ V1, V.drewN nq = V1 := ⟨_, rfl⟩
  rw [hV1]
  have hb1 : Below V.heap.size V V1 := by rw [← hV1]; exact below_drewN (Below.refl _ _) _
  replace DO := Lib.hid (DO.out.next hb1)
  replace D0 := Lib.hid (D0.out.next hb1)
  replace B := Lib.hid (B.out.trans (hb1.mono B.out.size))
  clear hV1 hb1 x0 x1 x2 x3 x4 hmod hn1 hn2 hn3 hwa hn
  obtain ⟨x0, x1, x2, x3, x4⟩ := DO.out.dv.cells
  obtain ⟨f0, f1, f2, f3, f4⟩ := five_free DO.out.hp
  obtain ⟨⟨m0', m1', m2', m3', m4'⟩, hgl⟩ := owns_mt DO.out.h2 HIL.out HM.out
  obtain ⟨⟨n0', -, -, -, -⟩, -⟩ := owns_mt DO.out.h2 HNN.out rfl
  rw [Nat.zero_mul] at n0'
  obtain ⟨zi, hzi⟩ : ∃ zi, (d.mts.getD 0 default).id = zi := ⟨_, rfl⟩
  rw [hzi] at n0'
  clear hzi
  have e0 := DO.out.h2.frozenAt (i * 5)
  have e1 := DO.out.h2.frozenAt (i * 5 + 1)
  have e2 := DO.out.h2.frozenAt (i * 5 + 2)
  have e3 := DO.out.h2.frozenAt (i * 5 + 3)
  have e4 := DO.out.h2.frozenAt (i * 5 + 4)
  have hgw := (DO.out.h2.lt g rfl).1
  try simp only at m0' m1' m2' m3' m4'
  go_upto_region 27 with fail
  obtain ⟨V2, hV2⟩ : ∃ V2, V1 = V2 := ⟨_, rfl⟩
  rw [hV2]
  have hdo := DO.out
  have hbs := B.out
  have hd0' := D0.out
  have hlen : d.mts.length ≤ 9223372036854775807 := Nat.le_trans HBG.out (by decide)
  obtain ⟨d2, hd2⟩ : ∃ d2 : Dk, d = d2 := ⟨_, rfl⟩
  rw [hV2] at hdo hbs hd0'
  rw [hd2] at hdo hlen
  replace DO := Lib.hid hdo
  replace D0 := Lib.hid hd0'
  replace B := Lib.hid hbs
  have HBG2 := Lib.hid hlen
  obtain ⟨m1, hm1⟩ : ∃ m1 : Option Addr, some ⟨g, 0, none⟩ = m1 := ⟨_, rfl⟩
  clear hV2 hd2 hdo hbs hd0' hlen x0 x1 x2 x3 x4 f0 f1 f2 f3 f4 m0' m1' m2' m3' m4' n0' e0 e1 e2 e3 e4 hst0 hst1 hdu0 hdu1 hd0 hd1 hm1 m1
  have HD1 := Lib.hid DO.out.dv
  obtain ⟨x0, x1, x2, x3, x4⟩ := HD1.out.cells
  obtain ⟨y0, y1, y2, y3, y4⟩ := D0.out.cells
  have HAW := Lib.hid (oawake_any V2.drew)
  go_wp2_with fail
  go_region_held3 (fun w' => w'.cell? ⟨E1, 0, none⟩ = some (.int .i64 d2.day) ∧ w'.cell? ⟨E1, 1, none⟩ = some (.int .i64 d2.ans) ∧ w'.cell? ⟨E1, 2, none⟩ = some (.int .i64 d2.app) ∧ w'.cell? ⟨E1, 3, none⟩ = some (.slice r1 d2.hol.length c1) ∧ w'.cell? ⟨E1, 4, none⟩ = some (.slice (some ⟨g, 0, none⟩) d2.mts.length k1) ∧
      w'.cell? ⟨E0, 0, none⟩ = some (.int .i64 raw.day) ∧ w'.cell? ⟨E0, 1, none⟩ = some (.int .i64 raw.ans) ∧ w'.cell? ⟨E0, 2, none⟩ = some (.int .i64 raw.app) ∧ w'.cell? ⟨E0, 3, none⟩ = some (.slice r0 raw.hol.length c0) ∧ w'.cell? ⟨E0, 4, none⟩ = some (.slice m0 raw.mts.length k0))
    (first | with_reducible exact ⟨x0, x1, x2, x3, x4, y0, y1, y2, y3, y4⟩ | with_reducible exact CS.out | go_keep)
    (first
      | (go_at_call 14
         (with_reducible refine HAW.out.mono ?_)
         rintro e q1 ⟨rfl, hb1⟩
         have HB1 : Hid (Below V2.heap.size V2 q1) := Lib.hid ((Below.refl _ _).drew.trans hb1)
         have CS := Lib.hid (cs10 HD1.out D0.out HB1.out)
         have HC1 := Lib.hid (check_any d2.day d2.ans d2.app r1 (some ⟨g, 0, none⟩) c1 k1 d2.hol d2.mts q1 (HD1.out.hM.next HB1.out) HD1.out.cap HBG2.out)
         clear hb1)
      | (go_at_call 21
         (with_reducible refine HC1.out.mono ?_)
         rintro e q2 ⟨rfl, hb2⟩
         have HB2 : Hid (Below V2.heap.size V2 q2) := Lib.hid (HB1.out.trans (hb2.mono HB1.out.size))
         have CS := Lib.hid (cs10 HD1.out D0.out HB2.out)
         have HC2 := Lib.hid (checkR_any d2.day d2.ans d2.app r1 (some ⟨g, 0, none⟩) c1 k1 d2.hol d2.mts q2 (HD1.out.hM.next HB2.out) HBG2.out)
         clear hb2)
      | (go_at_call 24
         (with_reducible refine HC2.out.mono ?_)
         rintro e q3 ⟨rfl, hb3⟩
         have HB3 : Hid (Below V2.heap.size V2 q3) := Lib.hid (HB2.out.trans (hb3.mono HB2.out.size))
         have CS := Lib.hid (cs10 HD1.out D0.out HB3.out)
         have HC3 := Lib.hid (check_any raw.day raw.ans raw.app r0 m0 c0 k0 raw.hol raw.mts q3 (D0.out.hM.next HB3.out) D0.out.cap HAR.out.big)
         clear hb3)
      | (go_at_call 21
         (with_reducible refine HC3.out.mono ?_)
         rintro e q4 ⟨rfl, hb4⟩
         have HB4 : Hid (Below V2.heap.size V2 q4) := Lib.hid (HB3.out.trans (hb4.mono HB3.out.size))
         have CS := Lib.hid (cs10 HD1.out D0.out HB4.out)
         have HC4 := Lib.hid (checkR_any raw.day raw.ans raw.app r0 m0 c0 k0 raw.hol raw.mts q4 (D0.out.hM.next HB4.out) HAR.out.big)
         clear hb4)
      | (go_at_call 24
         (with_reducible refine HC4.out.mono ?_)
         rintro e q5 ⟨rfl, hb5⟩
         have HB5 : Hid (Below V2.heap.size V2 q5) := Lib.hid (HB4.out.trans (hb5.mono HB4.out.size))
         have CS := Lib.hid (cs10 HD1.out D0.out HB5.out)
         clear hb5))
  go_wp2_with fail
  go_ret
  exact ⟨by first | rfl | simp, B.out.trans (HB5.out.mono B.out.size)⟩
end Go.Proofs.Ytpddpdkdlodniaa
