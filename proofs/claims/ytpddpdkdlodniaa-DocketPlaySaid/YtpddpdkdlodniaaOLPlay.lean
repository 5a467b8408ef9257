/-
  DocketPlay returns true for every input, and turns nothing that was there.
-/
import Derived.Test.YtpddpdkdlodniaaOFew
import Derived.Deep.DeepCutAuto
namespace Go.Proofs.Ytpddpdkdlodniaa
open Go.RowKit

/-- What a statement 'a, r, n, e := Play(..)' leaves. -/
def PlayCut (X : World) (d : Dk) (rs : List Rl) (n c : Int) (s1 s2 s3 s4 : Value) (wx : World) : Prop :=
  ∃ E ro rc mo mc a b, s1 = .pointer (some ⟨E, 0, none⟩) ∧ s2 = .slice a rs.length b ∧ s3 = .int .i64 n ∧ s4 = .int .i64 c ∧ Dv wx E d ro rc mo mc ∧ Rls wx a rs ∧ X.heap.size ≤ E ∧ Below X.heap.size X wx
theorem pcut_late {X w3 : World} {B : Nat} {d : Dk} {rs : List Rl} {n c : Int} {ro mo : Option Addr} {rc mc : Nat} {rv : Value} (h1 : w3.ownsRow B 3 1 (.slice ro d.hol.length rc) d.hol.length (d.hol.map (Value.int .i64))) (h2 : w3.ownsRow B 50 5 (.slice mo d.mts.length mc) d.mts.length (d.mts.flatMap mtCells))
    (h3 : RlOwn B w3 rv rs) (hb : Below X.heap.size X w3) : PlayCut X d rs n c (.pointer (some ⟨w3.heap.size, 0, none⟩)) rv (.int .i64 n) (.int .i64 c) (w3.alloc (dkObj d.day d.ans d.app ro d.hol.length rc mo d.mts.length mc)) := by
  obtain ⟨a, b, rfl, hR⟩ := owns_rls h3
  exact ⟨w3.heap.size, ro, rc, mo, mc, a, b, rfl, rfl, rfl, rfl, Dv.made h1 h2, hR.next ((Below.refl _ _).alloc (Nat.le_refl _) _), hb.size, hb.alloc hb.size _⟩
theorem pcut_early {X w3 : World} {B Z : Nat} {d : Dk} {rs : List Rl} {n c : Int} {ro mo : Option Addr} {rc mc : Nat} {rv : Value} {a1 a2 a3 : Int} {o1 o2 : Option Addr} {n1 n2 k1 k2 : Nat} (h1 : w3.ownsRow B 3 1 (.slice ro d.hol.length rc) d.hol.length (d.hol.map (Value.int .i64))) (h2 : w3.ownsRow B 50 5 (.slice mo d.mts.length mc) d.mts.length (d.mts.flatMap mtCells))
    (h3 : RlOwn B w3 rv rs) (hz : w3.heap[Z]? = some (dkObj a1 a2 a3 o1 n1 k1 o2 n2 k2)) (hZ : X.heap.size ≤ Z) (hb : Below X.heap.size X w3) : PlayCut X d rs n c (.pointer (some ⟨Z, 0, none⟩)) rv (.int .i64 n) (.int .i64 c)
      (((((w3.setCell ⟨Z, 0, none⟩ (.int .i64 d.day)).setCell ⟨Z, 1, none⟩ (.int .i64 d.ans)).setCell ⟨Z, 2, none⟩ (.int .i64 d.app)).setCell ⟨Z, 3, none⟩ (.slice ro d.hol.length rc)).setCell ⟨Z, 4, none⟩ (.slice mo d.mts.length mc)) := by
  have h3' : RlOwn B (((((w3.setCell ⟨Z, 0, none⟩ (.int .i64 d.day)).setCell ⟨Z, 1, none⟩ (.int .i64 d.ans)).setCell ⟨Z, 2, none⟩ (.int .i64 d.app)).setCell ⟨Z, 3, none⟩ (.slice ro d.hol.length rc)).setCell ⟨Z, 4, none⟩ (.slice mo d.mts.length mc)) rv rs := owns_put5 h3 hz (by decide)
  obtain ⟨a, b, rfl, hR⟩ := owns_rls h3'
  obtain ⟨_, _, e1, hn1⟩ := owns_form h2
  cases e1
  exact ⟨Z, ro, rc, mo, mc, a, b, rfl, rfl, rfl, rfl, ⟨put5 hz, owns_ints (owns_put5 h1 hz (by decide)), owns_mts (owns_put5 h2 hz (by decide)), owns_nil h1, owns_nil h2, hn1⟩, hR, hZ, below_put5 hb hZ⟩
/-- A docket's variable whose slices the law owns, behind stores into another one. -/
structure DvP (B : Nat) (w : World) (b : Nat) (d : Dk) (ro : Option Addr) (rc : Nat) (mo : Option Addr) (mc : Nat) : Prop where
  hp : w.heap[b]? = some (dkObj d.day d.ans d.app ro d.hol.length rc mo d.mts.length mc)
  h1 : w.ownsRow B 3 1 (.slice ro d.hol.length rc) d.hol.length (d.hol.map (Value.int .i64))
  h2 : w.ownsRow B 50 5 (.slice mo d.mts.length mc) d.mts.length (d.mts.flatMap mtCells)
theorem DvP.dv {B : Nat} {w : World} {b : Nat} {d : Dk} {ro mo : Option Addr} {rc mc : Nat} (h : DvP B w b d ro rc mo mc) : Dv w b d ro rc mo mc := by
  obtain ⟨_, _, e1, hn1⟩ := owns_form h.h2
  cases e1
  exact ⟨h.hp, owns_ints h.h1, owns_mts h.h2, owns_nil h.h1, owns_nil h.h2, hn1⟩
theorem DvP.next {B : Nat} {w w2 : World} {b : Nat} {d : Dk} {ro mo : Option Addr} {rc mc : Nat} (h : DvP B w b d ro rc mo mc) (hb : Below w.heap.size w w2) : DvP B w2 b d ro rc mo mc :=
  ⟨keep_heap hb h.hp, owns_next h.h1 hb, owns_next h.h2 hb⟩
theorem DvP.put {B : Nat} {w : World} {b E : Nat} {d : Dk} {ro mo : Option Addr} {rc mc : Nat} {x y z u t x' y' z' u' t' : Value} (h : DvP B w b d ro rc mo mc) (hE : w.heap[E]? = some (.cells #[x, y, z, u, t] 30 (0, 0))) (hne : b ≠ E) :
    DvP B (((((w.setCell ⟨E, 0, none⟩ x').setCell ⟨E, 1, none⟩ y').setCell ⟨E, 2, none⟩ z').setCell ⟨E, 3, none⟩ u').setCell ⟨E, 4, none⟩ t') b d ro rc mo mc :=
  ⟨heap_put5 h.hp hne, owns_put5 h.h1 hE (by decide), owns_put5 h.h2 hE (by decide)⟩
theorem dvp_made {B B' : Nat} {w : World} {E : Nat} {d : Dk} {ro mo : Option Addr} {rc mc : Nat} {x y z u t : Value} (hE : w.heap[E]? = some (.cells #[x, y, z, u, t] 30 (0, 0))) (hB : B ≤ B')
    (h1 : w.ownsRow B' 3 1 (.slice ro d.hol.length rc) d.hol.length (d.hol.map (Value.int .i64))) (h2 : w.ownsRow B' 50 5 (.slice mo d.mts.length mc) d.mts.length (d.mts.flatMap mtCells)) :
    DvP B (((((w.setCell ⟨E, 0, none⟩ (.int .i64 d.day)).setCell ⟨E, 1, none⟩ (.int .i64 d.ans)).setCell ⟨E, 2, none⟩ (.int .i64 d.app)).setCell ⟨E, 3, none⟩ (.slice ro d.hol.length rc)).setCell ⟨E, 4, none⟩ (.slice mo d.mts.length mc)) E d ro rc mo mc :=
  ⟨put5 hE, owns_put5 (h1.mono hB) hE (by decide), owns_put5 (h2.mono hB) hE (by decide)⟩
theorem tm_behind {w : World} {T E : Nat} {P Q : Int} {v : Value} {x' y' z' u' t' : Value} (h : w.heap[T]? = some (tmObj P Q v)) (hne : T ≠ E) :
    (((((w.setCell ⟨E, 0, none⟩ x').setCell ⟨E, 1, none⟩ y').setCell ⟨E, 2, none⟩ z').setCell ⟨E, 3, none⟩ u').setCell ⟨E, 4, none⟩ t').cell? ⟨T, 0, none⟩ = some (.int .i64 P) ∧
    (((((w.setCell ⟨E, 0, none⟩ x').setCell ⟨E, 1, none⟩ y').setCell ⟨E, 2, none⟩ z').setCell ⟨E, 3, none⟩ u').setCell ⟨E, 4, none⟩ t').cell? ⟨T, 1, none⟩ = some (.int .i64 Q) ∧
    (((((w.setCell ⟨E, 0, none⟩ x').setCell ⟨E, 1, none⟩ y').setCell ⟨E, 2, none⟩ z').setCell ⟨E, 3, none⟩ u').setCell ⟨E, 4, none⟩ t').cell? ⟨T, 2, none⟩ = some v := by
  obtain ⟨a, b, c, -, -, -⟩ := three_cells (heap_put5 (x' := x') (y' := y') (z' := z') (u' := u') (t' := t') h hne)
  exact ⟨a, b, c⟩

theorem tm_cells {w : World} {T : Nat} {P Q : Int} {v : Value} (h : w.heap[T]? = some (tmObj P Q v)) : w.cell? ⟨T, 0, none⟩ = some (.int .i64 P) ∧ w.cell? ⟨T, 1, none⟩ = some (.int .i64 Q) ∧ w.cell? ⟨T, 2, none⟩ = some v := by
  obtain ⟨a, b, c, -, -, -⟩ := three_cells h
  exact ⟨a, b, c⟩

set_option maxRecDepth 100000 in
set_option maxHeartbeats 8000000 in
theorem docketPlay_walk (dy : Int) (x y : Int) (uo lo so : Option Addr) (uc lc sc : Nat) (hs : List Int) (l us : List Q4) (bad : Int) (w : World) (hL : U16s w uo hs) (hr : ∀ i, 0 ≤ hs.getD i 0 ∧ hs.getD i 0 ≤ 65535) (hQ : Q4s w lo l) (x0 : 0 ≤ x) (x1 : x ≤ 255) (y0 : 0 ≤ y) (y1 : y ≤ 255) (hQu : Q4s w so us) (dy0 : 0 ≤ dy) :
    Calls Try.prog 10 #[.int .u8 dy, .agg #[.int .u8 x, .int .u8 y], .slice uo hs.length uc, .slice lo l.length lc, .slice so us.length sc, .int .i64 bad] w fun e w' => e = .returned (.bool true) ∧ Below w.heap.size w w' := by
  obtain ⟨W, hW⟩ : ∃ W, w.alloc (b2Obj x y) = W := ⟨_, rfl⟩
  have hbW : Below w.heap.size w W := by rw [← hW]; go_grown
  have k2 : W.heap[w.heap.size]? = some (b2Obj x y) := by rw [← hW]; exact heap_alloc_new w _
  have HT := Lib.hid (terms2_any x y uo uc hs W (hL.next hbW) hr x0 x1 y0 y1)
  have HWW := Lib.hid hW
  have B := Lib.hid hbW
  have K2 := Lib.hid k2
  have HQ1 := Lib.hid (hQ.next hbW)
  have HQ2 := Lib.hid (hQu.next hbW)
  obtain ⟨P, hP⟩ : ∃ P, 1 + x % 8 = P := ⟨_, rfl⟩
  obtain ⟨Q, hQ9⟩ : ∃ P, 1 + y % 8 = P := ⟨_, rfl⟩
  obtain ⟨H, hH⟩ : ∃ H, holsF hs = H := ⟨_, rfl⟩
  rw [hP, hQ9, hH] at HT
  obtain ⟨fs, hfs⟩ : ∃ fs, filingsF l = fs := ⟨_, rfl⟩
  have hfl := filings_len l
  obtain ⟨gs, hgs⟩ : ∃ gs, mattersF' us = gs := ⟨_, rfl⟩
  have hgl := matters_len us
  have HFI := Lib.hid fun V h => filings_any lo lc l V h
  have HMA := Lib.hid fun V h => matters_any so sc us V h
  rw [hfs] at hfl HFI
  rw [hgs] at hgl HMA
  obtain ⟨dd, hdd⟩ : ∃ dd, dy % 4 = dd := ⟨_, rfl⟩
  have hmod : dy.tmod 4 = dd := by rw [Int.tmod_eq_emod_of_nonneg dy0]; exact hdd
  have hw4 : IntKind.i64.wrap dd = dd := IntWalk.i64_in _ ⟨by omega, by omega⟩
  obtain ⟨⟨d, rs, n, c⟩, hR1⟩ : ∃ r, playF dd P Q H fs = r := ⟨_, rfl⟩
  obtain ⟨⟨d2, rs2, n2, c2⟩, hR2⟩ : ∃ r, playF 0 P Q H gs = r := ⟨_, rfl⟩
  obtain ⟨⟨d3, rs3, n3, c3⟩, hR3⟩ : ∃ r, playF bad P Q H [] = r := ⟨_, rfl⟩
  have hs1 := play_short dd P Q H fs
  have hs2 := play_short 0 P Q H gs
  rw [hR1] at hs1
  rw [hR2] at hs2
  have HS1 : Hid (d.hol.length ≤ 1000000 ∧ d.mts.length ≤ 1000 ∧ rs.length ≤ 1000000) := Lib.hid ⟨Nat.le_trans hs1.1.2 (by decide), Nat.le_trans hs1.1.1 (by decide), Nat.le_trans hs1.2 (by omega)⟩
  have HS2 : Hid (d2.hol.length ≤ 1000000 ∧ d2.mts.length ≤ 1000 ∧ rs2.length ≤ 1000000) := Lib.hid ⟨Nat.le_trans hs2.1.2 (by decide), Nat.le_trans hs2.1.1 (by decide), Nat.le_trans hs2.2 (by omega)⟩
  have HFL := Lib.hid hfl
  have HGL := Lib.hid hgl
  have HR1 := Lib.hid hR1
  have HR2 := Lib.hid hR2
  have HR3 := Lib.hid hR3
  have HMO := Lib.hid hmod
  have HW4 := Lib.hid hw4
  clear hL hr hQ hQu hW hbW k2 hP hQ9 hH hfs hgs hfl hgl hdd hR1 hR2 hR3 hs1 hs2 x0 x1 y0 y1 hmod hw4
  go_enter Try.func10, Try.ntmps10
  go_upto_region 1 with fail
  try dsimp only
  rw [HWW.out]
  obtain ⟨p0, p1⟩ := two_cells K2.out
  go_wp2_with fail
  refine HT.out.mono ?_
  rintro e w3 ⟨ro, rc, rfl, hI3, hno, hb3⟩
  go_upto_region 2 with fail
  try dsimp only
  obtain ⟨v3, hv⟩ : ∃ v, w3.alloc (tmObj P Q (.slice ro H.length rc)) = v := ⟨_, rfl⟩
  rw [hv]
  have hbn : Below w3.heap.size w3 v3 := by rw [← hv]; exact (Below.refl _ _).alloc (Nat.le_refl _) _
  have hb33 : Below W.heap.size W v3 := hb3.trans (hbn.mono hb3.size)
  replace B := Lib.hid (B.out.trans (hb33.mono B.out.size))
  replace HQ1 := Lib.hid (HQ1.out.next hb33)
  replace HQ2 := Lib.hid (HQ2.out.next hb33)
  have HI := Lib.hid (hI3.next hbn)
  have HNO := Lib.hid hno
  have KT : Hid (v3.heap[w3.heap.size]? = some (tmObj P Q (.slice ro H.length rc))) := Lib.hid (by rw [← hv]; exact heap_alloc_new w3 _)
  have hTv : w3.heap.size < v3.heap.size := by rw [← hv]; simp
  obtain ⟨T, hT⟩ : ∃ T, w3.heap.size = T := ⟨_, rfl⟩
  rw [hT] at KT hTv ⊢
  have BV : Hid (Below v3.heap.size v3 v3) := Lib.hid (Below.refl _ _)
  clear hv hbn hb33 hI3 hno hb3 hT p0 p1 HT HWW K2
  have hmod := HMO.out
  have hw4 := HW4.out
  obtain ⟨X, hX⟩ : ∃ X, v3 = X := ⟨_, rfl⟩
  have BVX : Hid (Below v3.heap.size v3 X) := Lib.hid (by rw [← hX]; exact Below.refl _ _)
  have hXe : v3 = X := hX
  rw [hX]
  clear hX BV hXe
  have BV := BVX
  clear BVX
  obtain ⟨x0, x1, x2, -, -, -⟩ := three_cells (keep_heap BV.out KT.out)
  have hba : Below X.heap.size X (X.alloc dkZero).drew := ((Below.refl _ _).alloc (Nat.le_refl _) _).drew
  have HBA := Lib.hid hba
  have HF1 := Lib.hid (HFI.out X.drew (HQ1.out.next (BV.out.trans ((Below.refl X.heap.size X).drew.mono BV.out.size))))
  have HF2 := Lib.hid (HFI.out (X.alloc dkZero).drew (HQ1.out.next (BV.out.trans (hba.mono BV.out.size))))
  have hTX : T < X.heap.size := Nat.lt_of_lt_of_le hTv BV.out.size
  have hTn : ¬ T = X.heap.size := by omega
  clear hba
  go_upto_region 2 with fail
  go_cut [14, 15, 16, 17] (fun s1 s2 s3 s4 wx => PlayCut X d rs n c s1 s2 s3 s4 wx)
  case first =>
    go_region_held3 (fun w' => w'.cell? ⟨T, 0, none⟩ = some (.int .i64 P) ∧ w'.cell? ⟨T, 1, none⟩ = some (.int .i64 Q) ∧ w'.cell? ⟨T, 2, none⟩ = some (.slice ro H.length rc))
      (first | with_reducible exact ⟨x0, x1, x2⟩ | with_reducible exact HSS.out | with_reducible exact CS.out | go_keep)
      (first
        | (go_at_call 30
           (with_reducible refine HF1.out.mono ?_)
           rintro e w3 ⟨fo, fc, rfl, hF, hb3⟩
           have HB3 : Hid (Below X.heap.size X w3) := Lib.hid ((Below.refl _ _).drew.trans hb3)
           have HZ : Hid True := Lib.hid trivial
           have CS := Lib.hid (tm_cells (keep_heap (BV.out.trans (HB3.out.mono BV.out.size)) KT.out))
           have HP : Hid (Calls Try.prog 29 #[.int .i64 dd, .agg #[.int .i64 P, .int .i64 Q, .slice ro H.length rc], .slice fo fs.length fc] w3 (PlayPost w3.heap.size w3 (d, rs, n, c))) := Lib.hid (by rw [← HR1.out]; exact Play_any dd P Q ro fo rc fc H fs w3 (HI.out.next (BV.out.trans (HB3.out.mono BV.out.size))) (owns_fls hF) (Nat.le_trans HFL.out (by decide)))
           have HP2 : Hid (Calls Try.prog 29 #[.int .i64 dd, .agg #[.int .i64 P, .int .i64 Q, .slice ro H.length rc], .slice fo fs.length fc] (w3.alloc dkZero) (PlayPost (w3.alloc dkZero).heap.size (w3.alloc dkZero) (d, rs, n, c))) := Lib.hid (by rw [← HR1.out]; exact Play_any dd P Q ro fo rc fc H fs (w3.alloc dkZero) (HI.out.next (BV.out.trans ((HB3.out.alloc HB3.out.size _).mono BV.out.size))) ((owns_fls hF).next ((Below.refl _ _).alloc (Nat.le_refl _) _)) (Nat.le_trans HFL.out (by decide)))
           have hs3 : X.heap.size ≤ w3.heap.size := HB3.out.size
           have hT3 : ¬ T = w3.heap.size := by omega
           clear hF hb3)
        | (go_at_call 30
           (with_reducible refine HF2.out.mono ?_)
           rintro e w3 ⟨fo, fc, rfl, hF, hb3⟩
           have HB3 : Hid (Below X.heap.size X w3) := Lib.hid (HBA.out.trans (hb3.mono HBA.out.size))
           have HZ : Hid (w3.heap[X.heap.size]? = some dkZero) := Lib.hid (keep_heap hb3 (drew_heap (heap_alloc_new X dkZero)))
           have CS := Lib.hid (tm_cells (keep_heap (BV.out.trans (HB3.out.mono BV.out.size)) KT.out))
           have HP : Hid (Calls Try.prog 29 #[.int .i64 dd, .agg #[.int .i64 P, .int .i64 Q, .slice ro H.length rc], .slice fo fs.length fc] w3 (PlayPost w3.heap.size w3 (d, rs, n, c))) := Lib.hid (by rw [← HR1.out]; exact Play_any dd P Q ro fo rc fc H fs w3 (HI.out.next (BV.out.trans (HB3.out.mono BV.out.size))) (owns_fls hF) (Nat.le_trans HFL.out (by decide)))
           have hs3 : X.heap.size ≤ w3.heap.size := HB3.out.size
           clear hF hb3)
        | (go_at_call 29
           (with_reducible refine HP.out.mono ?_)
           rintro e w4 ⟨dv, rv, rfl, ⟨r7, c7, m7, k7, rfl, hO1, hO2⟩, hO3, hb4⟩
           have hb4' : Below X.heap.size X w4 := HB3.out.trans (hb4.mono HB3.out.size)
           have CS := Lib.hid (tm_cells (keep_heap (BV.out.trans (hb4'.mono BV.out.size)) KT.out))
           have hs4 : X.heap.size ≤ w4.heap.size := hb4'.size
           first
             | (have hz := keep_heap hb4 HZ.out
                have HFC := Lib.hid (pcut_early (X := X) (n := n) (c := c) hO1 hO2 hO3 hz (Nat.le_refl _) hb4')
                have HSS := Lib.hid (tm_behind (x' := .int .i64 d.day) (y' := .int .i64 d.ans) (z' := .int .i64 d.app) (u' := .slice r7 d.hol.length c7) (t' := .slice m7 d.mts.length k7) (keep_heap (BV.out.trans (hb4'.mono BV.out.size)) KT.out) hTn)
                obtain ⟨f0, f1, f2, f3, f4⟩ := five_free hz
                obtain ⟨z0, z1, z2, z3, z4⟩ := five_cells hz
                clear hz)
             | (have HFC := Lib.hid (pcut_late (X := X) (n := n) (c := c) hO1 hO2 hO3 hb4')
                have HSS := Lib.hid (tm_cells (alloc_heap (o' := dkObj d.day d.ans d.app r7 d.hol.length c7 m7 d.mts.length k7) (keep_heap (BV.out.trans (hb4'.mono BV.out.size)) KT.out))))
           clear hO1 hO2 hO3 hb4 hb4')
        | (go_at_call 29
           (with_reducible refine HP2.out.mono ?_)
           rintro e w4 ⟨dv, rv, rfl, ⟨r7, c7, m7, k7, rfl, hO1, hO2⟩, hO3, hb4⟩
           have hba3 : Below X.heap.size X (w3.alloc dkZero) := HB3.out.alloc HB3.out.size _
           have hb4' : Below X.heap.size X w4 := hba3.trans (hb4.mono hba3.size)
           have CS := Lib.hid (tm_cells (keep_heap (BV.out.trans (hb4'.mono BV.out.size)) KT.out))
           have hz := keep_heap hb4 (heap_alloc_new w3 dkZero)
           have HFC := Lib.hid (pcut_early (X := X) (n := n) (c := c) hO1 hO2 hO3 hz hs3 hb4')
           have HSS := Lib.hid (tm_behind (x' := .int .i64 d.day) (y' := .int .i64 d.ans) (z' := .int .i64 d.app) (u' := .slice r7 d.hol.length c7) (t' := .slice m7 d.mts.length k7) (keep_heap (BV.out.trans (hb4'.mono BV.out.size)) KT.out) hT3)
           obtain ⟨f0, f1, f2, f3, f4⟩ := five_free hz
           obtain ⟨z0, z1, z2, z3, z4⟩ := five_cells hz
           clear hO1 hO2 hO3 hb4 hb4' hz hba3))
    all_goals
      go_wp2_with fail
      go_meet
      exact HFC.out
  case rest =>
    obtain ⟨E4, r4, c4, m4, k4, a4, b4, rfl, rfl, rfl, rfl, hD, hRR, hE4, hbX⟩ := hcut
    have hE4v : v3.heap.size ≤ E4 := Nat.le_trans BV.out.size hE4
    replace BV := Lib.hid (BV.out.trans (hbX.mono BV.out.size))
    have D4 := Lib.hid hD
    have R4 := Lib.hid hRR
    clear hD hRR hbX hE4 x0 x1 x2 HF1 HF2 HBA hTX hTn
    obtain ⟨X, hX⟩ : ∃ X, wc = X := ⟨_, rfl⟩
    rw [hX] at BV D4 R4
    rw [hX]
    clear hX
    obtain ⟨x0, x1, x2, -, -, -⟩ := three_cells (keep_heap BV.out KT.out)
    have hba : Below X.heap.size X (X.alloc dkZero).drew := ((Below.refl _ _).alloc (Nat.le_refl _) _).drew
    have HBA := Lib.hid hba
    have HF1 := Lib.hid (HFI.out X.drew (HQ1.out.next (BV.out.trans ((Below.refl X.heap.size X).drew.mono BV.out.size))))
    have HF2 := Lib.hid (HFI.out (X.alloc dkZero).drew (HQ1.out.next (BV.out.trans (hba.mono BV.out.size))))
    have hTX : T < X.heap.size := Nat.lt_of_lt_of_le hTv BV.out.size
    have hTn : ¬ T = X.heap.size := by omega
    clear hba
    go_upto_region 3 with fail
    go_cut [18, 19, 20, 21] (fun s1 s2 s3 s4 wx => PlayCut X d rs n c s1 s2 s3 s4 wx)
    case first =>
      go_region_held3 (fun w' => w'.cell? ⟨T, 0, none⟩ = some (.int .i64 P) ∧ w'.cell? ⟨T, 1, none⟩ = some (.int .i64 Q) ∧ w'.cell? ⟨T, 2, none⟩ = some (.slice ro H.length rc))
        (first | with_reducible exact ⟨x0, x1, x2⟩ | with_reducible exact HSS.out | with_reducible exact CS.out | go_keep)
        (first
          | (go_at_call 30
             (with_reducible refine HF1.out.mono ?_)
             rintro e w3 ⟨fo, fc, rfl, hF, hb3⟩
             have HB3 : Hid (Below X.heap.size X w3) := Lib.hid ((Below.refl _ _).drew.trans hb3)
             have HZ : Hid True := Lib.hid trivial
             have CS := Lib.hid (tm_cells (keep_heap (BV.out.trans (HB3.out.mono BV.out.size)) KT.out))
             have HP : Hid (Calls Try.prog 31 #[.int .i64 dd, .agg #[.int .i64 P, .int .i64 Q, .slice ro H.length rc], .slice fo fs.length fc] w3 (PlayPost w3.heap.size w3 (d, rs, n, c))) := Lib.hid (by rw [← HR1.out]; exact PlayR_any dd P Q ro fo rc fc H fs w3 (HI.out.next (BV.out.trans (HB3.out.mono BV.out.size))) HNO.out (owns_fls hF) (Nat.le_trans HFL.out (by decide)))
             have HP2 : Hid (Calls Try.prog 31 #[.int .i64 dd, .agg #[.int .i64 P, .int .i64 Q, .slice ro H.length rc], .slice fo fs.length fc] (w3.alloc dkZero) (PlayPost (w3.alloc dkZero).heap.size (w3.alloc dkZero) (d, rs, n, c))) := Lib.hid (by rw [← HR1.out]; exact PlayR_any dd P Q ro fo rc fc H fs (w3.alloc dkZero) (HI.out.next (BV.out.trans ((HB3.out.alloc HB3.out.size _).mono BV.out.size))) HNO.out ((owns_fls hF).next ((Below.refl _ _).alloc (Nat.le_refl _) _)) (Nat.le_trans HFL.out (by decide)))
             have hs3 : X.heap.size ≤ w3.heap.size := HB3.out.size
             have hT3 : ¬ T = w3.heap.size := by omega
             clear hF hb3)
          | (go_at_call 30
             (with_reducible refine HF2.out.mono ?_)
             rintro e w3 ⟨fo, fc, rfl, hF, hb3⟩
             have HB3 : Hid (Below X.heap.size X w3) := Lib.hid (HBA.out.trans (hb3.mono HBA.out.size))
             have HZ : Hid (w3.heap[X.heap.size]? = some dkZero) := Lib.hid (keep_heap hb3 (drew_heap (heap_alloc_new X dkZero)))
             have CS := Lib.hid (tm_cells (keep_heap (BV.out.trans (HB3.out.mono BV.out.size)) KT.out))
             have HP : Hid (Calls Try.prog 31 #[.int .i64 dd, .agg #[.int .i64 P, .int .i64 Q, .slice ro H.length rc], .slice fo fs.length fc] w3 (PlayPost w3.heap.size w3 (d, rs, n, c))) := Lib.hid (by rw [← HR1.out]; exact PlayR_any dd P Q ro fo rc fc H fs w3 (HI.out.next (BV.out.trans (HB3.out.mono BV.out.size))) HNO.out (owns_fls hF) (Nat.le_trans HFL.out (by decide)))
             have hs3 : X.heap.size ≤ w3.heap.size := HB3.out.size
             clear hF hb3)
          | (go_at_call 31
             (with_reducible refine HP.out.mono ?_)
             rintro e w4 ⟨dv, rv, rfl, ⟨r7, c7, m7, k7, rfl, hO1, hO2⟩, hO3, hb4⟩
             have hb4' : Below X.heap.size X w4 := HB3.out.trans (hb4.mono HB3.out.size)
             have CS := Lib.hid (tm_cells (keep_heap (BV.out.trans (hb4'.mono BV.out.size)) KT.out))
             have hs4 : X.heap.size ≤ w4.heap.size := hb4'.size
             first
               | (have hz := keep_heap hb4 HZ.out
                  have HFC := Lib.hid (pcut_early (X := X) (n := n) (c := c) hO1 hO2 hO3 hz (Nat.le_refl _) hb4')
                  have HSS := Lib.hid (tm_behind (x' := .int .i64 d.day) (y' := .int .i64 d.ans) (z' := .int .i64 d.app) (u' := .slice r7 d.hol.length c7) (t' := .slice m7 d.mts.length k7) (keep_heap (BV.out.trans (hb4'.mono BV.out.size)) KT.out) hTn)
                  obtain ⟨f0, f1, f2, f3, f4⟩ := five_free hz
                  obtain ⟨z0, z1, z2, z3, z4⟩ := five_cells hz
                  clear hz)
               | (have HFC := Lib.hid (pcut_late (X := X) (n := n) (c := c) hO1 hO2 hO3 hb4')
                  have HSS := Lib.hid (tm_cells (alloc_heap (o' := dkObj d.day d.ans d.app r7 d.hol.length c7 m7 d.mts.length k7) (keep_heap (BV.out.trans (hb4'.mono BV.out.size)) KT.out))))
             clear hO1 hO2 hO3 hb4 hb4')
          | (go_at_call 31
             (with_reducible refine HP2.out.mono ?_)
             rintro e w4 ⟨dv, rv, rfl, ⟨r7, c7, m7, k7, rfl, hO1, hO2⟩, hO3, hb4⟩
             have hba3 : Below X.heap.size X (w3.alloc dkZero) := HB3.out.alloc HB3.out.size _
             have hb4' : Below X.heap.size X w4 := hba3.trans (hb4.mono hba3.size)
             have CS := Lib.hid (tm_cells (keep_heap (BV.out.trans (hb4'.mono BV.out.size)) KT.out))
             have hz := keep_heap hb4 (heap_alloc_new w3 dkZero)
             have HFC := Lib.hid (pcut_early (X := X) (n := n) (c := c) hO1 hO2 hO3 hz hs3 hb4')
             have HSS := Lib.hid (tm_behind (x' := .int .i64 d.day) (y' := .int .i64 d.ans) (z' := .int .i64 d.app) (u' := .slice r7 d.hol.length c7) (t' := .slice m7 d.mts.length k7) (keep_heap (BV.out.trans (hb4'.mono BV.out.size)) KT.out) hT3)
             obtain ⟨f0, f1, f2, f3, f4⟩ := five_free hz
             obtain ⟨z0, z1, z2, z3, z4⟩ := five_cells hz
             clear hO1 hO2 hO3 hb4 hb4' hz hba3))
      all_goals
        go_wp2_with fail
        go_meet
        exact HFC.out
    case rest =>
      obtain ⟨E5, r5, c5, m5, k5, a5, b5, rfl, rfl, rfl, rfl, hD, hRR, hE5, hbX⟩ := hcut
      have hE5v : v3.heap.size ≤ E5 := Nat.le_trans BV.out.size hE5
      have hne54 : E5 ≠ E4 := by have := D4.out.lt; omega
      have hne45 : E4 ≠ E5 := fun e => hne54 e.symm
      replace BV := Lib.hid (BV.out.trans (hbX.mono BV.out.size))
      replace D4 := Lib.hid (D4.out.next hbX)
      replace R4 := Lib.hid (R4.out.next hbX)
      have D5 := Lib.hid hD
      have R5 := Lib.hid hRR
      have hTE4 : ¬ T = E4 := by omega
      have hTE5 : ¬ T = E5 := by omega
      clear hD hRR hbX hE5 x0 x1 x2 HF1 HF2 HBA hTX hTn hmod hw4
      obtain ⟨x0, x1, x2, x3, x4⟩ := D4.out.cells
      obtain ⟨y0, y1, y2, y3, y4⟩ := D5.out.cells
      have HC := Lib.hid (sameDocket_any d.day d.ans d.app r4 r5 m4 m5 c4 c5 k4 k5 d.hol d.mts wc D4.out.hI D5.out.hI D4.out.hM D5.out.hM HS1.out.1 HS1.out.2.1)
      go_wp2_with fail
      refine HC.out.mono ?_
      rintro e q1 ⟨rfl, hb1⟩
      clear x0 x1 x2 x3 x4
      clear y0 y1 y2 y3 y4
      replace BV := Lib.hid (BV.out.trans (hb1.mono BV.out.size))
      replace D4 := Lib.hid (D4.out.next hb1)
      replace D5 := Lib.hid (D5.out.next hb1)
      replace R4 := Lib.hid (R4.out.next hb1)
      replace R5 := Lib.hid (R5.out.next hb1)
      clear HC hb1
      have HC := Lib.hid (sameRulings_any a4 a5 b4 b5 rs q1 R4.out R5.out HS1.out.2.2)
      go_wp2_with fail
      refine HC.out.mono ?_
      rintro e q2 ⟨rfl, hb2⟩
      replace BV := Lib.hid (BV.out.trans (hb2.mono BV.out.size))
      replace D4 := Lib.hid (D4.out.next hb2)
      replace D5 := Lib.hid (D5.out.next hb2)
      replace R4 := Lib.hid (R4.out.next hb2)
      replace R5 := Lib.hid (R5.out.next hb2)
      clear HC hb2
      go_upto_region 6 with fail
      obtain ⟨x0, x1, x2, -, -, -⟩ := three_cells (keep_heap BV.out KT.out)
      have HM1 := Lib.hid (HMA.out q2.drew (HQ2.out.next (BV.out.trans ((Below.refl q2.heap.size q2).drew.mono BV.out.size))))
      go_region_held3 (fun w' => w'.cell? ⟨T, 0, none⟩ = some (.int .i64 P) ∧ w'.cell? ⟨T, 1, none⟩ = some (.int .i64 Q) ∧ w'.cell? ⟨T, 2, none⟩ = some (.slice ro H.length rc))
        (first | with_reducible exact ⟨x0, x1, x2⟩ | with_reducible exact HSS.out | with_reducible exact CS.out | go_keep)
        (first
          | (go_at_call 19
             (with_reducible refine HM1.out.mono ?_)
             rintro e w3 ⟨fo, fc, rfl, hF, hb3⟩
             have HB3 : Hid (Below q2.heap.size q2 w3) := Lib.hid ((Below.refl _ _).drew.trans hb3)
             have CS := Lib.hid (tm_cells (keep_heap (BV.out.trans (HB3.out.mono BV.out.size)) KT.out))
             have HP : Hid (Calls Try.prog 29 #[.int .i64 0, .agg #[.int .i64 P, .int .i64 Q, .slice ro H.length rc], .slice fo gs.length fc] w3 (PlayPost w3.heap.size w3 (d2, rs2, n2, c2))) := Lib.hid (by rw [← HR2.out]; exact Play_any 0 P Q ro fo rc fc H gs w3 (HI.out.next (BV.out.trans (HB3.out.mono BV.out.size))) (owns_fls hF) (Nat.le_trans HGL.out (by decide)))
             clear hF hb3)
          | (go_at_call 29
             (with_reducible refine HP.out.mono ?_)
             rintro e w4 ⟨dv, rv6, rfl, ⟨r6, c6, m6, k6, rfl, hO1, hO2⟩, hO3, hb4⟩
             have hb4' : Below q2.heap.size q2 w4 := HB3.out.trans (hb4.mono HB3.out.size)
             have CS := Lib.hid (tm_cells (keep_heap (BV.out.trans (hb4'.mono BV.out.size)) KT.out))
             have hE := keep_heap hb4' D4.out.hp
             have HSS := Lib.hid (tm_behind (x' := .int .i64 d2.day) (y' := .int .i64 d2.ans) (z' := .int .i64 d2.app) (u' := .slice r6 d2.hol.length c6) (t' := .slice m6 d2.mts.length k6) (keep_heap (BV.out.trans (hb4'.mono BV.out.size)) KT.out) hTE4)
             have hvs : v3.heap.size ≤ w3.heap.size := Nat.le_trans BV.out.size HB3.out.size
             have HDP : Hid (DvP v3.heap.size (((((w4.setCell ⟨E4, 0, none⟩ (.int .i64 d2.day)).setCell ⟨E4, 1, none⟩ (.int .i64 d2.ans)).setCell ⟨E4, 2, none⟩ (.int .i64 d2.app)).setCell ⟨E4, 3, none⟩ (.slice r6 d2.hol.length c6)).setCell ⟨E4, 4, none⟩ (.slice m6 d2.mts.length k6)) E4 d2 r6 c6 m6 k6) := Lib.hid (dvp_made hE hvs hO1 hO2)
             have HRP : Hid (RlOwn v3.heap.size (((((w4.setCell ⟨E4, 0, none⟩ (.int .i64 d2.day)).setCell ⟨E4, 1, none⟩ (.int .i64 d2.ans)).setCell ⟨E4, 2, none⟩ (.int .i64 d2.app)).setCell ⟨E4, 3, none⟩ (.slice r6 d2.hol.length c6)).setCell ⟨E4, 4, none⟩ (.slice m6 d2.mts.length k6)) rv6 rs2) := Lib.hid (owns_put5 (x' := .int .i64 d2.day) (y' := .int .i64 d2.ans) (z' := .int .i64 d2.app) (u' := .slice r6 d2.hol.length c6) (t' := .slice m6 d2.mts.length k6) (World.ownsRow.mono hO3 hvs) hE (by decide))
             have HBP := Lib.hid (below_put5 (x' := .int .i64 d2.day) (y' := .int .i64 d2.ans) (z' := .int .i64 d2.app) (u' := .slice r6 d2.hol.length c6) (t' := .slice m6 d2.mts.length k6) (BV.out.trans (hb4'.mono BV.out.size)) hE4v)
             have HE5 := Lib.hid (heap_put5 (x' := .int .i64 d2.day) (y' := .int .i64 d2.ans) (z' := .int .i64 d2.app) (u' := .slice r6 d2.hol.length c6) (t' := .slice m6 d2.mts.length k6) (keep_heap hb4' D5.out.hp) hne54)
             obtain ⟨f0, f1, f2, f3, f4⟩ := five_free hE
             obtain ⟨z0, z1, z2, z3, z4⟩ := five_cells hE
             have hEw := (Array.getElem?_eq_some_iff.1 hE).1
             clear hO1 hO2 hO3 hb4 hb4' hE hvs))
      go_upto_region 7 with fail
      try dsimp only
      obtain ⟨V6, hV⟩ : ∃ V, (((((w4.setCell ⟨E4, 0, none⟩ (.int .i64 d2.day)).setCell ⟨E4, 1, none⟩ (.int .i64 d2.ans)).setCell ⟨E4, 2, none⟩ (.int .i64 d2.app)).setCell ⟨E4, 3, none⟩ (.slice r6 d2.hol.length c6)).setCell ⟨E4, 4, none⟩ (.slice m6 d2.mts.length k6)) = V := ⟨_, rfl⟩
      rw [hV] at HDP HRP HBP HE5
      rw [hV]
      clear hV CS HSS HP HB3 HM1 x0 x1 x2 f0 f1 f2 f3 f4 z0 z1 z2 z3 z4 hEw
      replace BV := HBP
      clear HBP
      have D6 := HDP
      have R6 := HRP
      clear HDP HRP D4 D5 R4 R5
      obtain ⟨x0, x1, x2, -, -, -⟩ := three_cells (keep_heap BV.out KT.out)
      have HM1 := Lib.hid (HMA.out V6.drew (HQ2.out.next (BV.out.trans ((Below.refl V6.heap.size V6).drew.mono BV.out.size))))
      go_region_held3 (fun w' => w'.cell? ⟨T, 0, none⟩ = some (.int .i64 P) ∧ w'.cell? ⟨T, 1, none⟩ = some (.int .i64 Q) ∧ w'.cell? ⟨T, 2, none⟩ = some (.slice ro H.length rc))
        (first | with_reducible exact ⟨x0, x1, x2⟩ | with_reducible exact HSS.out | with_reducible exact CS.out | go_keep)
        (first
          | (go_at_call 19
             (with_reducible refine HM1.out.mono ?_)
             rintro e w3 ⟨fo, fc, rfl, hF, hb3⟩
             have HB3 : Hid (Below V6.heap.size V6 w3) := Lib.hid ((Below.refl _ _).drew.trans hb3)
             have CS := Lib.hid (tm_cells (keep_heap (BV.out.trans (HB3.out.mono BV.out.size)) KT.out))
             have HP : Hid (Calls Try.prog 31 #[.int .i64 0, .agg #[.int .i64 P, .int .i64 Q, .slice ro H.length rc], .slice fo gs.length fc] w3 (PlayPost w3.heap.size w3 (d2, rs2, n2, c2))) := Lib.hid (by rw [← HR2.out]; exact PlayR_any 0 P Q ro fo rc fc H gs w3 (HI.out.next (BV.out.trans (HB3.out.mono BV.out.size))) HNO.out (owns_fls hF) (Nat.le_trans HGL.out (by decide)))
             clear hF hb3)
          | (go_at_call 31
             (with_reducible refine HP.out.mono ?_)
             rintro e w4 ⟨dv, rv7, rfl, ⟨r7, c7, m7, k7, rfl, hO1, hO2⟩, hO3, hb4⟩
             have hb4' : Below V6.heap.size V6 w4 := HB3.out.trans (hb4.mono HB3.out.size)
             have CS := Lib.hid (tm_cells (keep_heap (BV.out.trans (hb4'.mono BV.out.size)) KT.out))
             have hE := keep_heap hb4' HE5.out
             have HSS := Lib.hid (tm_behind (x' := .int .i64 d2.day) (y' := .int .i64 d2.ans) (z' := .int .i64 d2.app) (u' := .slice r7 d2.hol.length c7) (t' := .slice m7 d2.mts.length k7) (keep_heap (BV.out.trans (hb4'.mono BV.out.size)) KT.out) hTE5)
             have hvs : v3.heap.size ≤ w3.heap.size := Nat.le_trans BV.out.size HB3.out.size
             have HDP : Hid (DvP v3.heap.size (((((w4.setCell ⟨E5, 0, none⟩ (.int .i64 d2.day)).setCell ⟨E5, 1, none⟩ (.int .i64 d2.ans)).setCell ⟨E5, 2, none⟩ (.int .i64 d2.app)).setCell ⟨E5, 3, none⟩ (.slice r7 d2.hol.length c7)).setCell ⟨E5, 4, none⟩ (.slice m7 d2.mts.length k7)) E5 d2 r7 c7 m7 k7) := Lib.hid (dvp_made hE hvs hO1 hO2)
             have HRP : Hid (RlOwn v3.heap.size (((((w4.setCell ⟨E5, 0, none⟩ (.int .i64 d2.day)).setCell ⟨E5, 1, none⟩ (.int .i64 d2.ans)).setCell ⟨E5, 2, none⟩ (.int .i64 d2.app)).setCell ⟨E5, 3, none⟩ (.slice r7 d2.hol.length c7)).setCell ⟨E5, 4, none⟩ (.slice m7 d2.mts.length k7)) rv7 rs2) := Lib.hid (owns_put5 (x' := .int .i64 d2.day) (y' := .int .i64 d2.ans) (z' := .int .i64 d2.app) (u' := .slice r7 d2.hol.length c7) (t' := .slice m7 d2.mts.length k7) (World.ownsRow.mono hO3 hvs) hE (by decide))
             have HBP := Lib.hid (below_put5 (x' := .int .i64 d2.day) (y' := .int .i64 d2.ans) (z' := .int .i64 d2.app) (u' := .slice r7 d2.hol.length c7) (t' := .slice m7 d2.mts.length k7) (BV.out.trans (hb4'.mono BV.out.size)) hE5v)
             have DP6 := Lib.hid ((D6.out.next hb4').put (x' := .int .i64 d2.day) (y' := .int .i64 d2.ans) (z' := .int .i64 d2.app) (u' := .slice r7 d2.hol.length c7) (t' := .slice m7 d2.mts.length k7) hE hne45)
             have RP6 : Hid (RlOwn v3.heap.size (((((w4.setCell ⟨E5, 0, none⟩ (.int .i64 d2.day)).setCell ⟨E5, 1, none⟩ (.int .i64 d2.ans)).setCell ⟨E5, 2, none⟩ (.int .i64 d2.app)).setCell ⟨E5, 3, none⟩ (.slice r7 d2.hol.length c7)).setCell ⟨E5, 4, none⟩ (.slice m7 d2.mts.length k7)) rv6 rs2) := Lib.hid (owns_put5 (x' := .int .i64 d2.day) (y' := .int .i64 d2.ans) (z' := .int .i64 d2.app) (u' := .slice r7 d2.hol.length c7) (t' := .slice m7 d2.mts.length k7) (owns_next R6.out hb4') hE (by decide))
             obtain ⟨f0, f1, f2, f3, f4⟩ := five_free hE
             obtain ⟨z0, z1, z2, z3, z4⟩ := five_cells hE
             have hEw := (Array.getElem?_eq_some_iff.1 hE).1
             clear hO1 hO2 hO3 hb4 hb4' hE hvs))
      go_upto_region 8 with fail
      try dsimp only
      obtain ⟨V7, hV⟩ : ∃ V, (((((w4.setCell ⟨E5, 0, none⟩ (.int .i64 d2.day)).setCell ⟨E5, 1, none⟩ (.int .i64 d2.ans)).setCell ⟨E5, 2, none⟩ (.int .i64 d2.app)).setCell ⟨E5, 3, none⟩ (.slice r7 d2.hol.length c7)).setCell ⟨E5, 4, none⟩ (.slice m7 d2.mts.length k7)) = V := ⟨_, rfl⟩
      rw [hV] at HDP HRP HBP DP6 RP6
      rw [hV]
      clear hV CS HSS HP HB3 HM1 x0 x1 x2 f0 f1 f2 f3 f4 z0 z1 z2 z3 z4 hEw
      replace BV := HBP
      clear HBP
      have D6' := Lib.hid DP6.out.dv
      have D7 := Lib.hid HDP.out.dv
      clear D6 HE5
      have D6 := D6'
      obtain ⟨a6, b6, rfl, hR6⟩ := owns_rls RP6.out
      obtain ⟨a7, b7, rfl, hR7⟩ := owns_rls HRP.out
      clear R6
      have R6 := Lib.hid hR6
      have R7 := Lib.hid hR7
      clear hR6 hR7 DP6 RP6 HDP HRP D6'
      obtain ⟨x0, x1, x2, -, -, -⟩ := three_cells (keep_heap BV.out KT.out)
      have HC0 : Hid (Calls Try.prog 29 #[.int .i64 bad, .agg #[.int .i64 P, .int .i64 Q, .slice ro H.length rc], .slice none 0 0] V7 (PlayPost V7.heap.size V7 (d3, rs3, n3, c3))) := Lib.hid (by rw [← HR3.out]; exact Play_any bad P Q ro none rc 0 H [] V7 (HI.out.next BV.out) (.inl rfl) (by decide))
      have HC := Lib.hid (HC0.out)
      go_wp2_with fail
      refine HC.out.mono ?_
      rintro e q3 ⟨dv, rv, rfl, ⟨r8, c8, m8, k8, rfl, hO1, hO2⟩, hO3, hb3⟩
      obtain ⟨a8, b8, rfl, hR⟩ := owns_rls hO3
      go_upto_region 9 with fail
      try dsimp only
      obtain ⟨v3, hv⟩ : ∃ v, q3.alloc (dkObj d3.day d3.ans d3.app r8 d3.hol.length c8 m8 d3.mts.length k8) = v := ⟨_, rfl⟩
      rw [hv]
      have hbn : Below q3.heap.size q3 v3 := by rw [← hv]; exact (Below.refl _ _).alloc (Nat.le_refl _) _
      have hbb : Below V7.heap.size V7 v3 := hb3.trans (hbn.mono hb3.size)
      replace BV := Lib.hid (BV.out.trans (hbb.mono BV.out.size))
      replace D6 := Lib.hid (D6.out.next hbb)
      replace D7 := Lib.hid (D7.out.next hbb)
      replace R6 := Lib.hid (R6.out.next hbb)
      replace R7 := Lib.hid (R7.out.next hbb)
      have D8 : Hid (Dv v3 q3.heap.size d3 r8 c8 m8 k8) := Lib.hid (by rw [← hv]; exact Dv.made hO1 hO2)
      have R8 : Hid (Rls v3 a8 rs3) := Lib.hid (hR.next hbn)
      obtain ⟨E8, hE⟩ : ∃ E, q3.heap.size = E := ⟨_, rfl⟩
      rw [hE] at D8 ⊢
      clear hv hbn hbb hE hO1 hO2 hO3 hR HC hb3
      clear HC0 x0 x1 x2
      obtain ⟨x0, x1, x2, -, -, -⟩ := three_cells (keep_heap BV.out KT.out)
      have HC0 : Hid (Calls Try.prog 31 #[.int .i64 bad, .agg #[.int .i64 P, .int .i64 Q, .slice ro H.length rc], .slice none 0 0] v3 (PlayPost v3.heap.size v3 (d3, rs3, n3, c3))) := Lib.hid (by rw [← HR3.out]; exact PlayR_any bad P Q ro none rc 0 H [] v3 (HI.out.next BV.out) HNO.out (.inl rfl) (by decide))
      have HC := Lib.hid (HC0.out)
      go_wp2_with fail
      refine HC.out.mono ?_
      rintro e q4 ⟨dv, rv, rfl, ⟨r9, c9, m9, k9, rfl, hO1, hO2⟩, hO3, hb4⟩
      obtain ⟨a9, b9, rfl, hR⟩ := owns_rls hO3
      go_upto_region 10 with fail
      try dsimp only
      obtain ⟨v4, hv⟩ : ∃ v, q4.alloc (dkObj d3.day d3.ans d3.app r9 d3.hol.length c9 m9 d3.mts.length k9) = v := ⟨_, rfl⟩
      rw [hv]
      have hbn : Below q4.heap.size q4 v4 := by rw [← hv]; exact (Below.refl _ _).alloc (Nat.le_refl _) _
      have hbb : Below v3.heap.size v3 v4 := hb4.trans (hbn.mono hb4.size)
      replace BV := Lib.hid (BV.out.trans (hbb.mono BV.out.size))
      replace D6 := Lib.hid (D6.out.next hbb)
      replace D7 := Lib.hid (D7.out.next hbb)
      replace R6 := Lib.hid (R6.out.next hbb)
      replace R7 := Lib.hid (R7.out.next hbb)
      replace D8 := Lib.hid (D8.out.next hbb)
      replace R8 := Lib.hid (R8.out.next hbb)
      have D9 : Hid (Dv v4 q4.heap.size d3 r9 c9 m9 k9) := Lib.hid (by rw [← hv]; exact Dv.made hO1 hO2)
      have R9 : Hid (Rls v4 a9 rs3) := Lib.hid (hR.next hbn)
      obtain ⟨E9, hE⟩ : ∃ E, q4.heap.size = E := ⟨_, rfl⟩
      rw [hE] at D9 ⊢
      clear hv hbn hbb hE hO1 hO2 hO3 hR HC hb4
      clear HC0 x0 x1 x2
      have HC := Lib.hid (oawake_any v4)
      go_wp2_with fail
      refine HC.out.mono ?_
      rintro e q5 ⟨rfl, hb5⟩
      replace BV := Lib.hid (BV.out.trans (hb5.mono BV.out.size))
      replace D6 := Lib.hid (D6.out.next hb5)
      replace D7 := Lib.hid (D7.out.next hb5)
      replace R6 := Lib.hid (R6.out.next hb5)
      replace R7 := Lib.hid (R7.out.next hb5)
      replace D8 := Lib.hid (D8.out.next hb5)
      replace R8 := Lib.hid (R8.out.next hb5)
      replace D9 := Lib.hid (D9.out.next hb5)
      replace R9 := Lib.hid (R9.out.next hb5)
      clear HC hb5
      obtain ⟨x0, x1, x2, x3, x4⟩ := D6.out.cells
      obtain ⟨y0, y1, y2, y3, y4⟩ := D7.out.cells
      have HC := Lib.hid (sameDocket_any d2.day d2.ans d2.app r6 r7 m6 m7 c6 c7 k6 k7 d2.hol d2.mts q5 D6.out.hI D7.out.hI D6.out.hM D7.out.hM HS2.out.1 HS2.out.2.1)
      go_wp2_with fail
      refine HC.out.mono ?_
      rintro e q6 ⟨rfl, hb6⟩
      clear x0 x1 x2 x3 x4
      clear y0 y1 y2 y3 y4
      replace BV := Lib.hid (BV.out.trans (hb6.mono BV.out.size))
      replace D6 := Lib.hid (D6.out.next hb6)
      replace D7 := Lib.hid (D7.out.next hb6)
      replace R6 := Lib.hid (R6.out.next hb6)
      replace R7 := Lib.hid (R7.out.next hb6)
      replace D8 := Lib.hid (D8.out.next hb6)
      replace R8 := Lib.hid (R8.out.next hb6)
      replace D9 := Lib.hid (D9.out.next hb6)
      replace R9 := Lib.hid (R9.out.next hb6)
      clear HC hb6
      have HC := Lib.hid (sameRulings_any a6 a7 b6 b7 rs2 q6 R6.out R7.out HS2.out.2.2)
      go_wp2_with fail
      refine HC.out.mono ?_
      rintro e q7 ⟨rfl, hb7⟩
      replace BV := Lib.hid (BV.out.trans (hb7.mono BV.out.size))
      replace D6 := Lib.hid (D6.out.next hb7)
      replace D7 := Lib.hid (D7.out.next hb7)
      replace R6 := Lib.hid (R6.out.next hb7)
      replace R7 := Lib.hid (R7.out.next hb7)
      replace D8 := Lib.hid (D8.out.next hb7)
      replace R8 := Lib.hid (R8.out.next hb7)
      replace D9 := Lib.hid (D9.out.next hb7)
      replace R9 := Lib.hid (R9.out.next hb7)
      clear HC hb7
      go_wp2_with fail
      go_ret
      exact ⟨rfl, B.out.trans (BV.out.mono B.out.size)⟩
end Go.Proofs.Ytpddpdkdlodniaa
