/-
  DocketNew returns true for every input, and turns nothing that was there.
-/
import Derived.Test.YtpddpdkdlodniaaONewR
import Derived.Test.YtpddpdkdlodniaaOAwake
import Derived.Laws.OwnMore
namespace Go.Proofs.Ytpddpdkdlodniaa
open Go.RowKit

theorem make_ints (n : Nat) (hn : n ≤ 1000000) (W : World) : (Instr.makeSlice 25 (.int .i64 (n : Int)) (.int .i64 (n : Int))).run Try.prog W = .ok (.slice (some ⟨W.heap.size, 0, none⟩) n n) (W.alloc (.cells (madeCells #[.int .i64 0] n) 3)) := by
  obtain ⟨i0, hi, hz0, hz1, hz2⟩ := info_split Try.infoInt
  have := run_make (P := Try.prog) W 25 3 i0 (.int .i64 0) Try.underlying25 hi hz0 .i64 .i64 n n (by omega) (Int.le_refl _) (by rw [hz2]; omega) (by omega)
  simp only [Int.toNat_natCast, hz1, Nat.mul_one] at this
  exact this
theorem ints_made (w : World) (n : Nat) : Ints (w.alloc (.cells (madeCells #[.int .i64 0] n) 3)) (some ⟨w.heap.size, 0, none⟩) (List.replicate n 0) := by
  refine .inr ⟨w.heap.size, 0, rfl, by simp, fun i hi j hj => ?_⟩
  obtain rfl : j = 0 := by omega
  rw [cell_of_row _ _ _ _ _ _ (heap_alloc_new w _)]
  have hi' : i < n := by simpa using hi
  rw [← Array.getElem?_toList, toList_madeCells_one]
  simp [List.getD, hi']
theorem made990 (k : Nat) (hk : k < 20) : ∃ (H : List Int) (O : Array Value), H.length ≤ 1010 ∧ (∀ W : World, (Instr.makeSlice 25 (.int .i64 (990 + (k : Int))) (.int .i64 (990 + (k : Int)))).run Try.prog W = .ok (.slice (some ⟨W.heap.size, 0, none⟩) H.length H.length) (W.alloc (.cells O 3))) ∧
    ∀ W : World, Ints (W.alloc (.cells O 3)) (some ⟨W.heap.size, 0, none⟩) H := by
  refine ⟨List.replicate (990 + k) 0, madeCells #[.int .i64 0] (990 + k), by simp; omega, fun W => ?_, fun W => ints_made W _⟩
  have h := make_ints (990 + k) (by omega) W
  have e : ((990 + k : Nat) : Int) = 990 + (k : Int) := by omega
  rw [e] at h
  rw [h]
  simp
theorem new_small (day ans app : Int) (H : List Int) : (newF day ans app H).1.hol.length ≤ 1000 ∧ (newF day ans app H).1.mts.length = 0 := by
  unfold newF
  split
  · rename_i h
    exact ⟨(terms_zero.1 h).2.2.1, rfl⟩
  · exact ⟨by simp [zeroDk], rfl⟩
/-- What New and the document's New return, written out. -/
def NewVal (B : Nat) (W : World) (da an ap c : Int) (hl : List Int) (ml : List Mt) (e : Ending) (w' : World) : Prop :=
  ∃ ro rc mo mc, e = .returned (.tuple #[.agg #[.int .i64 da, .int .i64 an, .int .i64 ap, .slice ro hl.length rc, .slice mo ml.length mc], .int .i64 c]) ∧ Ints w' ro hl ∧ Mts w' mo ml ∧ Below B W w'
theorem new_val {f : Nat} {args : Array Value} {W : World} {r : Dk × Int} {da an ap c : Int} {hl : List Int} {ml : List Mt} (hr : r = (⟨da, an, ap, hl, ml⟩, c)) (h : Calls Try.prog f args W (NewPost W.heap.size W r)) : Calls Try.prog f args W (NewVal W.heap.size W da an ap c hl ml) := by
  subst hr
  refine h.mono ?_
  rintro e w' ⟨dv, rfl, ⟨ro, rc, mo, mc, rfl, h1, h2⟩, hb⟩
  exact ⟨ro, rc, mo, mc, rfl, owns_ints h1, owns_mts h2, hb⟩

set_option maxRecDepth 100000 in
set_option maxHeartbeats 2000000 in
theorem docketNew_end (day ans app a b n : Int) (ho : Option Addr) (hc m : Nat) (w : World) (hbig : (20 : Int) < (m : Int)) :
    Calls Try.prog 5 #[.int .i64 day, .agg #[.int .i64 ans, .int .i64 app, .slice ho m hc], .int .u8 a, .int .u8 b, .int .u16 n] w fun e w' => e = .returned (.bool true) ∧ Below w.heap.size w w' := by
  obtain ⟨W, hW⟩ : ∃ W, w.alloc (.cells #[.int .i64 ans, .int .i64 app, .slice ho m hc] 27) = W := ⟨_, rfl⟩
  have hbW : Below w.heap.size w W := by rw [← hW]; go_grown
  have HWW := Lib.hid hW
  clear hW
  go_enter Try.func5, Try.ntmps5
  go_wp2_with fail
  rw [HWW.out]
  refine (oawake_any W).mono ?_
  rintro e w2 ⟨rfl, hb2⟩
  go_wp2_with fail
  go_ret
  exact ⟨rfl, hbW.trans (hb2.mono hbW.size)⟩

set_option maxRecDepth 100000 in
set_option maxHeartbeats 4000000 in
theorem docketNew_walk (day ans app a b n : Int) (ho : Option Addr) (hc : Nat) (H : List Int) (w : World) (hI : Ints w ho H) (hn : ho = none → hc = 0) (hs : ¬ (20 : Int) < (H.length : Int)) (a0 : 0 ≤ a) (a1 : a ≤ 255) (b0 : 0 ≤ b) (b1 : b ≤ 255) (n0 : 0 ≤ n) :
    Calls Try.prog 5 #[.int .i64 day, .agg #[.int .i64 ans, .int .i64 app, .slice ho H.length hc], .int .u8 a, .int .u8 b, .int .u16 n] w fun e w' => e = .returned (.bool true) ∧ Below w.heap.size w w' := by
  obtain ⟨k, hk⟩ : ∃ k : Nat, n % 20 = k := ⟨(n % 20).toNat, by omega⟩
  have hk2 : k < 20 := by omega
  have hmod : n.tmod 20 = k := by rw [Int.tmod_eq_emod_of_nonneg n0]; exact hk
  obtain ⟨H2, O, hH2, hmk, hio⟩ := made990 k hk2
  obtain ⟨W, hW⟩ : ∃ W, ((w.alloc (.cells #[.int .i64 ans, .int .i64 app, .slice ho H.length hc] 27)).alloc (.cells O 3)).alloc (.cells #[.int .i64 a, .int .i64 b, .slice (some ⟨w.heap.size + 1, 0, none⟩) H2.length H2.length] 27) = W := ⟨_, rfl⟩
  have hbW : Below w.heap.size w W := by rw [← hW]; go_grown
  have k1 : W.heap[w.heap.size]? = some (.cells #[.int .i64 ans, .int .i64 app, .slice ho H.length hc] 27 (0, 0)) := by rw [← hW]; exact alloc_heap (alloc_heap (heap_alloc_new w _))
  have k2 : W.heap[w.heap.size + 2]? = some (.cells #[.int .i64 a, .int .i64 b, .slice (some ⟨w.heap.size + 1, 0, none⟩) H2.length H2.length] 27 (0, 0)) := by
    have := heap_alloc_new ((w.alloc (.cells #[.int .i64 ans, .int .i64 app, .slice ho H.length hc] 27)).alloc (.cells O 3)) (.cells #[.int .i64 a, .int .i64 b, .slice (some ⟨w.heap.size + 1, 0, none⟩) H2.length H2.length] 27)
    rw [World.size_alloc, World.size_alloc] at this
    rw [← hW]
    exact this
  have hi2 : Ints W (some ⟨w.heap.size + 1, 0, none⟩) H2 := by
    have := hio (w.alloc (.cells #[.int .i64 ans, .int .i64 app, .slice ho H.length hc] 27))
    rw [World.size_alloc] at this
    rw [← hW]
    exact this.next ((Below.refl _ _).alloc (Nat.le_refl _) _)
  obtain ⟨⟨⟨da, an, ap, hl, ml⟩, c⟩, hr⟩ : ∃ r, newF day ans app H = r := ⟨_, rfl⟩
  obtain ⟨⟨⟨db, bn, bp, gl, nl⟩, d⟩, hq⟩ : ∃ r, newF 5 a b H2 = r := ⟨_, rfl⟩
  have hs1 := new_small day ans app H
  have hs2 := new_small 5 a b H2
  rw [hr] at hs1
  rw [hq] at hs2
  obtain ⟨s1, s2⟩ := hs1
  obtain ⟨s3, s4⟩ := hs2
  dsimp only at s1 s2 s3 s4
  have HWW := Lib.hid hW
  have HBW := Lib.hid hbW
  have K1 := Lib.hid k1
  have K2 := Lib.hid k2
  have I1 := Lib.hid (hI.next hbW)
  have I2 := Lib.hid hi2
  have HN := Lib.hid hn
  have HR := Lib.hid hr
  have HQ := Lib.hid hq
  have S1 : Hid (hl.length ≤ 1000000) := Lib.hid (by omega)
  have S2 : Hid (ml.length ≤ 1000) := Lib.hid (by omega)
  have S3 : Hid (gl.length ≤ 1000000) := Lib.hid (by omega)
  have S4 : Hid (nl.length ≤ 1000) := Lib.hid (by omega)
  clear hW hbW k1 k2 hI hi2 hn hr hq s1 s2 s3 s4 hio hH2 hk
  go_enter Try.func5, Try.ntmps5
  go_upto_region 4 with fail
  try dsimp only
  rw [HWW.out]
  have B0 : Hid (Below w.heap.size w W) := HBW
  obtain ⟨x0, x1, x2, -, -, -⟩ := three_cells K1.out
  have HC := Lib.hid (new_val HR.out (New_any day ans app ho hc H W I1.out))
  go_wp2_with fail
  refine HC.out.mono ?_
  rintro e u1 ⟨r1, c1, m1, k1, rfl, hi1, hm1, hb1⟩
  go_upto_region 5 with fail
  try dsimp only
  generalize hw : u1.alloc (.cells #[.int .i64 da, .int .i64 an, .int .i64 ap, .slice r1 hl.length c1, .slice m1 ml.length k1] 30) = v1
  have hv : Below u1.heap.size u1 v1 := by rw [← hw]; exact (Below.refl _ _).alloc (Nat.le_refl _) _
  have D1 : Hid (v1.heap[u1.heap.size]? = some (dkObj da an ap r1 hl.length c1 m1 ml.length k1)) := Lib.hid (by rw [← hw]; exact heap_alloc_new u1 _)
  have hbv : Below W.heap.size W v1 := hb1.trans (hv.mono hb1.size)
  have B1 : Hid (Below w.heap.size w v1) := Lib.hid (B0.out.trans (hbv.mono B0.out.size))
  have P1 := Lib.hid (hi1.next hv)
  have Q1 := Lib.hid (hm1.next hv)
  replace K1 := Lib.hid (keep_heap hbv K1.out)
  replace K2 := Lib.hid (keep_heap hbv K2.out)
  replace I1 := Lib.hid (I1.out.next hbv)
  replace I2 := Lib.hid (I2.out.next hbv)
  clear hw hv hbv hi1 hm1 hb1 x0 x1 x2 HC
  obtain ⟨x0, x1, x2, -, -, -⟩ := three_cells K1.out
  have HC := Lib.hid (new_val HR.out (NewR_any day ans app ho hc H v1 I1.out HN.out))
  go_wp2_with fail
  refine HC.out.mono ?_
  rintro e u2 ⟨r2, c2, m2, k2, rfl, hi2, hm2, hb2⟩
  go_upto_region 6 with fail
  try dsimp only
  generalize hw : u2.alloc (.cells #[.int .i64 da, .int .i64 an, .int .i64 ap, .slice r2 hl.length c2, .slice m2 ml.length k2] 30) = v2
  have hv : Below u2.heap.size u2 v2 := by rw [← hw]; exact (Below.refl _ _).alloc (Nat.le_refl _) _
  have D2 : Hid (v2.heap[u2.heap.size]? = some (dkObj da an ap r2 hl.length c2 m2 ml.length k2)) := Lib.hid (by rw [← hw]; exact heap_alloc_new u2 _)
  have hbv : Below v1.heap.size v1 v2 := hb2.trans (hv.mono hb2.size)
  have B2 : Hid (Below w.heap.size w v2) := Lib.hid (B1.out.trans (hbv.mono B1.out.size))
  have P2 := Lib.hid (hi2.next hv)
  have Q2 := Lib.hid (hm2.next hv)
  replace D1 := Lib.hid (keep_heap hbv D1.out)
  replace P1 := Lib.hid (P1.out.next hbv)
  replace Q1 := Lib.hid (Q1.out.next hbv)
  replace K1 := Lib.hid (keep_heap hbv K1.out)
  replace K2 := Lib.hid (keep_heap hbv K2.out)
  replace I1 := Lib.hid (I1.out.next hbv)
  replace I2 := Lib.hid (I2.out.next hbv)
  clear hw hv hbv hi2 hm2 hb2 x0 x1 x2 HC
  obtain ⟨x0, x1, x2, -, -, -⟩ := three_cells K2.out
  have HC := Lib.hid (new_val HQ.out (New_any 5 a b (some ⟨w.heap.size + 1, 0, none⟩) H2.length H2 v2 I2.out))
  go_wp2_with fail
  refine HC.out.mono ?_
  rintro e u3 ⟨r3, c3, m3, k3, rfl, hi3, hm3, hb3⟩
  go_upto_region 7 with fail
  try dsimp only
  generalize hw : u3.alloc (.cells #[.int .i64 db, .int .i64 bn, .int .i64 bp, .slice r3 gl.length c3, .slice m3 nl.length k3] 30) = v3
  have hv : Below u3.heap.size u3 v3 := by rw [← hw]; exact (Below.refl _ _).alloc (Nat.le_refl _) _
  have D3 : Hid (v3.heap[u3.heap.size]? = some (dkObj db bn bp r3 gl.length c3 m3 nl.length k3)) := Lib.hid (by rw [← hw]; exact heap_alloc_new u3 _)
  have hbv : Below v2.heap.size v2 v3 := hb3.trans (hv.mono hb3.size)
  have B3 : Hid (Below w.heap.size w v3) := Lib.hid (B2.out.trans (hbv.mono B2.out.size))
  have P3 := Lib.hid (hi3.next hv)
  have Q3 := Lib.hid (hm3.next hv)
  replace D1 := Lib.hid (keep_heap hbv D1.out)
  replace P1 := Lib.hid (P1.out.next hbv)
  replace Q1 := Lib.hid (Q1.out.next hbv)
  replace D2 := Lib.hid (keep_heap hbv D2.out)
  replace P2 := Lib.hid (P2.out.next hbv)
  replace Q2 := Lib.hid (Q2.out.next hbv)
  replace K1 := Lib.hid (keep_heap hbv K1.out)
  replace K2 := Lib.hid (keep_heap hbv K2.out)
  replace I1 := Lib.hid (I1.out.next hbv)
  replace I2 := Lib.hid (I2.out.next hbv)
  clear hw hv hbv hi3 hm3 hb3 x0 x1 x2 HC
  obtain ⟨x0, x1, x2, -, -, -⟩ := three_cells K2.out
  have HC := Lib.hid (new_val HQ.out (NewR_any 5 a b (some ⟨w.heap.size + 1, 0, none⟩) H2.length H2 v3 I2.out (fun h => by cases h)))
  go_wp2_with fail
  refine HC.out.mono ?_
  rintro e u4 ⟨r4, c4, m4, k4, rfl, hi4, hm4, hb4⟩
  go_upto_region 8 with fail
  try dsimp only
  generalize hw : u4.alloc (.cells #[.int .i64 db, .int .i64 bn, .int .i64 bp, .slice r4 gl.length c4, .slice m4 nl.length k4] 30) = v4
  have hv : Below u4.heap.size u4 v4 := by rw [← hw]; exact (Below.refl _ _).alloc (Nat.le_refl _) _
  have D4 : Hid (v4.heap[u4.heap.size]? = some (dkObj db bn bp r4 gl.length c4 m4 nl.length k4)) := Lib.hid (by rw [← hw]; exact heap_alloc_new u4 _)
  have hbv : Below v3.heap.size v3 v4 := hb4.trans (hv.mono hb4.size)
  have B4 : Hid (Below w.heap.size w v4) := Lib.hid (B3.out.trans (hbv.mono B3.out.size))
  have P4 := Lib.hid (hi4.next hv)
  have Q4 := Lib.hid (hm4.next hv)
  replace D1 := Lib.hid (keep_heap hbv D1.out)
  replace P1 := Lib.hid (P1.out.next hbv)
  replace Q1 := Lib.hid (Q1.out.next hbv)
  replace D2 := Lib.hid (keep_heap hbv D2.out)
  replace P2 := Lib.hid (P2.out.next hbv)
  replace Q2 := Lib.hid (Q2.out.next hbv)
  replace D3 := Lib.hid (keep_heap hbv D3.out)
  replace P3 := Lib.hid (P3.out.next hbv)
  replace Q3 := Lib.hid (Q3.out.next hbv)
  replace K1 := Lib.hid (keep_heap hbv K1.out)
  replace K2 := Lib.hid (keep_heap hbv K2.out)
  replace I1 := Lib.hid (I1.out.next hbv)
  replace I2 := Lib.hid (I2.out.next hbv)
  clear hw hv hbv hi4 hm4 hb4 x0 x1 x2 HC
  go_wp2_with fail
  refine (oawake_any v4).mono ?_
  rintro e v5 ⟨rfl, hb5⟩
  replace D1 := Lib.hid (keep_heap hb5 D1.out)
  replace P1 := Lib.hid (P1.out.next hb5)
  replace Q1 := Lib.hid (Q1.out.next hb5)
  replace D2 := Lib.hid (keep_heap hb5 D2.out)
  replace P2 := Lib.hid (P2.out.next hb5)
  replace Q2 := Lib.hid (Q2.out.next hb5)
  replace D3 := Lib.hid (keep_heap hb5 D3.out)
  replace P3 := Lib.hid (P3.out.next hb5)
  replace Q3 := Lib.hid (Q3.out.next hb5)
  replace D4 := Lib.hid (keep_heap hb5 D4.out)
  replace P4 := Lib.hid (P4.out.next hb5)
  replace Q4 := Lib.hid (Q4.out.next hb5)
  obtain ⟨y0, y1, y2, y3, y4⟩ := five_cells D1.out
  obtain ⟨z0, z1, z2, z3, z4⟩ := five_cells D2.out
  have B5 := Lib.hid (B4.out.trans (hb5.mono B4.out.size))
  have HC := Lib.hid (sameDocket_any da an ap r1 r2 m1 m2 c1 c2 k1 k2 hl ml v5 P1.out P2.out Q1.out Q2.out S1.out S2.out)
  clear hb5
  go_wp2_with fail
  refine HC.out.mono ?_
  rintro e v6 ⟨rfl, hb6⟩
  clear y0 y1 y2 y3 y4 z0 z1 z2 z3 z4 HC
  replace D3 := Lib.hid (keep_heap hb6 D3.out)
  replace D4 := Lib.hid (keep_heap hb6 D4.out)
  replace P3 := Lib.hid (P3.out.next hb6)
  replace Q3 := Lib.hid (Q3.out.next hb6)
  replace P4 := Lib.hid (P4.out.next hb6)
  replace Q4 := Lib.hid (Q4.out.next hb6)
  obtain ⟨y0, y1, y2, y3, y4⟩ := five_cells D3.out
  obtain ⟨z0, z1, z2, z3, z4⟩ := five_cells D4.out
  have B6 := Lib.hid (B5.out.trans (hb6.mono B5.out.size))
  have HC := Lib.hid (sameDocket_any db bn bp r3 r4 m3 m4 c3 c4 k3 k4 gl nl v6 P3.out P4.out Q3.out Q4.out S3.out S4.out)
  clear hb6
  go_wp2_with fail
  refine HC.out.mono ?_
  rintro e v7 ⟨rfl, hb7⟩
  have B7 := Lib.hid (B6.out.trans (hb7.mono B6.out.size))
  clear hb7 HC y0 y1 y2 y3 y4 z0 z1 z2 z3 z4
  go_wp2_with fail
  go_ret
  exact ⟨rfl, B7.out⟩
end Go.Proofs.Ytpddpdkdlodniaa
