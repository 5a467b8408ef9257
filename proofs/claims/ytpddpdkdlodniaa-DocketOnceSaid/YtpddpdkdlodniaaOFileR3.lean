/-
  The document's File: filings that change a matter.
-/
import Derived.Test.YtpddpdkdlodniaaOFileR2
namespace Go.Proofs.Ytpddpdkdlodniaa
open Go.RowKit

theorem required_any (k r : Int) (h2 : 2 ≤ k) (h6 : k ≤ 6) (hr : r = k - 1) (w : World) : Calls Try.prog 48 #[.int .i64 k] w fun e w' => e = .returned (.int .i64 r) ∧ Below w.heap.size w w' := by
  have hk : k = 2 ∨ k = 3 ∨ k = 4 ∨ k = 5 ∨ k = 6 := by omega
  clear h2 h6
  rcases hk with rfl | rfl | rfl | rfl | rfl
  all_goals
    obtain rfl := hr
    go_enter Try.func48, Try.ntmps48
    go_wp2_with fail
    go_ret
    exact ⟨rfl, by go_grown⟩
/-- A matter that was appealed has no last day. -/
theorem lapsed_due {d : Dk} {day : Int} {i : Nat} {m : Mt} (hE : advE d day = 0) (hi : i < (d.mts.map (lapseF day)).length) (hm : (d.mts.map (lapseF day)).getD i default = m) (hst : m.st = 5) : m.due = 0 := by
  obtain ⟨-, -, h, -⟩ := adv_good hE
  have hmem : m ∈ (advD d day).mts := by
    rw [← hm]
    simp only [advD]
    rw [List.getD, List.getElem?_eq_getElem hi]
    exact List.getElem_mem hi
  obtain ⟨-, -, -, -, -, f, -, -⟩ := (sound_iff _ _).1 (h m hmem).2
  exact f (by omega) (by omega)
theorem change_st {o : Dk} {k fd fi fo : Int} {m : Mt} (h : ¬ m.st = k - 1) : (changeF o ⟨k, fd, fi, fo⟩ m).2 = 13 := by
  unfold changeF
  rw [if_pos h]

set_option maxRecDepth 100000 in
set_option maxHeartbeats 2000000 in
theorem fileR_chg2 (day ans app fd fi fo : Int) (ho mo : Option Addr) (hc mc : Nat) (H : List Int) (l : List Mt) (w : World) (hM : Mts w mo l) (hI : Ints w ho H) (hn : ho = none → hc = 0) (mn : mo = none → mc = 0) (hl : l.length ≤ 9223372036854775807) (hE : advE ⟨day, ans, app, H, l⟩ fd = 0) :
    Calls Try.prog 28 #[.agg #[.int .i64 day, .int .i64 ans, .int .i64 app, .slice ho H.length hc, .slice mo l.length mc], .agg #[.int .i64 2, .int .i64 fd, .int .i64 fi, .int .i64 fo]] w (AnsPost w.heap.size w (fileF ⟨day, ans, app, H, l⟩ ⟨2, fd, fi, fo⟩)) := by
  obtain ⟨W, hW⟩ : ∃ W, ((w.alloc (dkObj day ans app ho H.length hc mo l.length mc)).alloc (fiObj 2 fd fi fo)).alloc dkZero = W := ⟨_, rfl⟩
  obtain ⟨hbW, k2, k3, hsW⟩ := file_made hW
  obtain ⟨B2, hB2⟩ : ∃ B2, w.heap.size + 1 + 1 = B2 := ⟨_, rfl⟩
  rw [hB2] at k3
  have hwB : w.heap.size ≤ B2 := by omega
  have hwB1 : w.heap.size + 1 < B2 := by omega
  have HB2 := Lib.hid hB2
  have HADV := Lib.hid (AdvanceR_any day ans app fd ho mo hc mc H l W (hM.next hbW) (hI.next hbW) hn mn hl)
  have HBW := Lib.hid hbW
  have HS := Lib.hid hsW
  have K2 := Lib.hid k2
  have K3 := Lib.hid k3
  have HWW := Lib.hid hW
  obtain ⟨A, hA⟩ : ∃ A, fileF ⟨day, ans, app, H, l⟩ ⟨2, fd, fi, fo⟩ = A := ⟨_, rfl⟩
  rw [hA]
  have HAA := Lib.hid hA
  clear hI hM hn mn hbW hsW k2 k3 hW hA hB2
  have HE := Lib.hid hE
  have HADV := Lib.hid (HADV.out.mono fun e w' h => adv_post hE h)
  have hln := good_len hE
  simp only at hln
  have hl32 := hln.1
  have hH := hln.2
  clear hE hln
  go_enter Try.func28, Try.ntmps28
  go_wp2_with fail
  rw [HWW.out, HB2.out]
  refine HADV.out.mono ?_
  rintro e w3 ⟨ro, rc, mo', mc', v, L, hL, rfl, hO1, hO2, hO3, hb3⟩
  have hLl : L.length ≤ 32 := by rw [hL]; simpa using hl32
  have HLL := Lib.hid hL
  clear hL
  have hb3' := HBW.out.trans (hb3.mono HBW.out.size)
  have hsz : B2 < w3.heap.size := by have := hb3.size; have := HS.out; have := HB2.out; omega
  have hwW : w.heap.size ≤ W.heap.size := HBW.out.size
  go_upto_region 2 with fail
  generalize hw4 : w3.alloc (.cells #[.int .i64 fd, .int .i64 ans, .int .i64 app, .slice ro H.length rc, .slice mo' L.length mc'] 30) = w4
  have HK2 : Hid (w4.heap[w.heap.size + 1]? = some (fiObj 2 fd fi fo)) := Lib.hid (by rw [← hw4]; exact alloc_heap (keep_heap hb3 K2.out))
  have HK3 : Hid (w4.heap[B2]? = some dkZero) := Lib.hid (by rw [← hw4]; exact alloc_heap (keep_heap hb3 K3.out))
  have HKC : Hid (w4.heap[w3.heap.size]? = some (dkObj fd ans app ro H.length rc mo' L.length mc')) := Lib.hid (by rw [← hw4]; exact heap_alloc_new w3 _)
  have HO1 : Hid (w4.ownsRow w.heap.size 3 1 (.slice ro H.length rc) H.length (H.map (Value.int .i64))) := Lib.hid (by rw [← hw4]; exact (hO1.mono hwW).alloc _)
  have HO2 : Hid (w4.ownsRow w.heap.size 50 5 (.slice mo' L.length mc') L.length (L.flatMap mtCells)) := Lib.hid (by rw [← hw4]; exact (hO2.mono hwW).alloc _)
  have HO3 : Hid (RlOwn w.heap.size w4 v (advR ⟨day, ans, app, H, l⟩ fd)) := Lib.hid (by rw [← hw4]; exact World.ownsRow.alloc (World.ownsRow.mono hO3 hwW) _)
  have HB4 : Hid (Below w.heap.size w w4) := Lib.hid (by rw [← hw4]; exact hb3'.alloc hb3'.size _)
  have hs4 : w4.heap.size = w3.heap.size + 1 := by rw [← hw4]; simp
  have HS4 := Lib.hid hs4
  obtain ⟨C, hC⟩ : ∃ C, w3.heap.size = C := ⟨_, rfl⟩
  rw [hC] at HKC HS4 hsz ⊢
  have hwC : w.heap.size ≤ C := by omega
  clear hO1 hO2 hO3 hb3 hb3' HADV hw4 hs4 hC
  obtain ⟨p0, p1, p2, p3⟩ := four_cells HK2.out
  obtain ⟨x0, x1, x2, x3, x4⟩ := five_cells HKC.out
  have HF := Lib.hid (matterOf_any fd ans app fi ro mo' H.length rc mc' L w4 (owns_mts HO2.out) (by omega))
  by_cases hneg : findF L fi < 0
  · have hm1 : findF L fi = -1 := by have := find_ge L fi; omega
    rw [hm1] at HF
    have HNG := Lib.hid hneg
    clear hneg hm1
    go_wp2_with fail
    refine HF.out.mono ?_
    rintro e w5 ⟨rfl, hb5⟩
    have h2 := keep_heap hb5 HK3.out
    have hbb := HB4.out.trans (hb5.mono HB4.out.size)
    have p5 := put5 (x' := .int .i64 0) (y' := .int .i64 0) (z' := .int .i64 0) (u' := .slice none 0 0) (v' := .slice none 0 0) h2
    obtain ⟨z0, z1, z2, z3, z4⟩ := five_cells p5
    obtain ⟨y0, y1, y2, y3, y4⟩ := five_cells h2
    obtain ⟨f0, f1, f2, f3, f4⟩ := five_free h2
    have HZB := Lib.hid (below_put5 (x' := .int .i64 0) (y' := .int .i64 0) (z' := .int .i64 0) (u' := .slice none 0 0) (t' := .slice none 0 0) hbb hwB)
    clear p5
    clear h2 hbb hb5
    go_wp2_with fail
    refine bodyPost_ret (by simp [results, Try.results28, go_sem, z0, z1, z2, z3, z4]; rfl) rfl ?_
    have hE : A = noAns (11) := by rw [← HAA.out]; exact by rw [file_act HE.out, chg_none (by decide) (by decide) (by show findF (l.map (lapseF fd)) fi < 0; rw [← HLL.out]; exact HNG.out)]
    rw [hE]
    exact ans_none _ HZB.out
  obtain ⟨hil, hid⟩ := find_lt hneg
  obtain ⟨i, hi⟩ : ∃ i : Nat, findF L fi = (i : Int) := ⟨(findF L fi).toNat, by omega⟩
  rw [hi, Int.toNat_natCast] at hil
  rw [hi] at HF
  obtain ⟨m, hm⟩ : ∃ m, L.getD i default = m := ⟨_, rfl⟩
  have HFI := Lib.hid hi
  have HM := Lib.hid hm
  obtain ⟨g, rfl⟩ : ∃ g, mo' = some ⟨g, 0, none⟩ := by
    rcases HO2.out.2 with ⟨e1, e2⟩ | ⟨g, cap, cur, e1, _⟩
    · omega
    · cases e1; exact ⟨g, rfl⟩
  have hi0 : (0 : Int) ≤ (i : Int) := Int.natCast_nonneg _
  have hi1 : (i : Int) < (L.length : Int) := by omega
  have hi2 : ¬ (i : Int) < 0 := by omega
  clear hneg hid hi hm
  go_wp2_with fail
  refine HF.out.mono ?_
  rintro e w5 ⟨rfl, hb5⟩
  have HKC5 := Lib.hid (keep_heap hb5 HKC.out)
  have HK25 := Lib.hid (keep_heap hb5 HK2.out)
  have HK35 := Lib.hid (keep_heap hb5 HK3.out)
  have HO15 := Lib.hid (owns_next HO1.out hb5)
  have HO25 := Lib.hid (owns_next HO2.out hb5)
  have HO35 : Hid (RlOwn w.heap.size w5 v (advR ⟨day, ans, app, H, l⟩ fd)) := Lib.hid (owns_next HO3.out hb5)
  have HB5 := Lib.hid (HB4.out.trans (hb5.mono HB4.out.size))
  have HRQ := Lib.hid (required_any 2 1 (by decide) (by decide) rfl w5.drew)
  obtain ⟨p0, p1, p2, p3⟩ := four_cells HK25.out
  obtain ⟨x0, x1, x2, x3, x4⟩ := five_cells HKC5.out
  obtain ⟨m0, m1, m2, m3, m4⟩ := (owns_mt HO25.out hil HM.out).1
  try simp only at m0 m1 m2 m3 m4
  clear hb5
  go_wp2_with fail
  go_region_held3 (fun w' => w'.cell? ⟨C, 4, none⟩ = some (.slice (some ⟨g, 0, none⟩) L.length mc') ∧ w'.cell? ⟨w.heap.size + 1, 0, none⟩ = some (.int .i64 2) ∧ w'.cell? ⟨g, i * 5 + 1, none⟩ = some (.int .i64 m.st))
    (first | exact ⟨x4, p0, m1⟩ | exact ⟨y4, a0, n1⟩ | go_keep)
    (first
      | (go_at_call 48
         (with_reducible refine HRQ.out.mono ?_)
         rintro e wq ⟨rfl, hbq⟩
         have hb5q : Below w5.heap.size w5 wq := (Below.refl _ _).drew.trans hbq
         have HKCq := Lib.hid (keep_heap hb5q HKC5.out)
         have HK2q := Lib.hid (keep_heap hb5q HK25.out)
         have HK3q := Lib.hid (keep_heap hb5q HK35.out)
         have HO1q := Lib.hid (owns_next HO15.out hb5q)
         have HO2q := Lib.hid (owns_next HO25.out hb5q)
         have HO3q : Hid (RlOwn w.heap.size wq v (advR ⟨day, ans, app, H, l⟩ fd)) := Lib.hid (owns_next HO35.out hb5q)
         have HBq := Lib.hid (HB5.out.trans (hb5q.mono HB5.out.size))
         obtain ⟨y0, y1, y2, y3, y4⟩ := five_cells HKCq.out
         obtain ⟨a0, a1, a2, a3⟩ := four_cells HK2q.out
         obtain ⟨n0, n1, n2, n3, n4⟩ := (owns_mt HO2q.out hil HM.out).1
         clear hbq hb5q))
  clear x0 x1 x2 x3 x4 p0 p1 p2 p3 m0 m1 m2 m3 m4
  by_cases hst : m.st = 1
  case neg =>
    have hq : (m.st != 1) = true := by simpa using hst
    have HST := Lib.hid hst
    clear hst y0 y1 y2 y3 y4 n0 n1 n2 n3 n4
    go_upto_region 15 with fail
    have h2 := HK3q.out
    have hbb := HBq.out
    have hszq : B2 < wq.heap.size := (Array.getElem?_eq_some_iff.1 h2).1
    have p5 := put5 (x' := .int .i64 0) (y' := .int .i64 0) (z' := .int .i64 0) (u' := .slice none 0 0) (v' := .slice none 0 0) h2
    obtain ⟨z0, z1, z2, z3, z4⟩ := five_cells p5
    obtain ⟨y0, y1, y2, y3, y4⟩ := five_cells h2
    obtain ⟨f0, f1, f2, f3, f4⟩ := five_free h2
    have HZB := Lib.hid (below_put5 (x' := .int .i64 0) (y' := .int .i64 0) (z' := .int .i64 0) (u' := .slice none 0 0) (t' := .slice none 0 0) hbb hwB)
    clear p5
    clear h2 hbb
    go_wp2_with fail
    refine bodyPost_ret (by simp [results, Try.results28, go_sem, z0, z1, z2, z3, z4]; rfl) rfl ?_
    have hE : A = noAns (13) := by rw [← HAA.out]; exact by rw [file_act HE.out, chg_err (i := i) (c := 13) (by decide) (by decide) (by show findF (l.map (lapseF fd)) fi = _; rw [← HLL.out]; exact HFI.out) (by show (changeF ⟨fd, ans, app, H, l.map (lapseF fd)⟩ _ ((l.map (lapseF fd)).getD i default)).2 = _; rw [← HLL.out, HM.out]; exact change_st (by simpa using HST.out)) (by decide)]
    rw [hE]
    exact ans_none _ HZB.out
  have hq3 : (m.st != 1) = false := by simpa using hst
  have HIq : Hid (Ints wq.drew ro H) := Lib.hid ((owns_ints HO1q.out).next (Below.refl _ _).drew)
  have HCH := Lib.hid (changeR2_any w.heap.size g mc' i C L m fd fd fd fi fo ans app ro (some ⟨g, 0, none⟩) rc L.length mc' H L wq.drew HKCq.out HO2q.out HBq.out.size hil HM.out hst (HIq.out))
  obtain ⟨r, hr⟩ : ∃ r, changeF ⟨fd, ans, app, H, L⟩ ⟨2, fd, fi, fo⟩ m = r := ⟨_, rfl⟩
  rw [hr] at HCH
  have HR := Lib.hid hr
  clear hr hst
  go_wp2_with fail
  go_region_held3 (fun w' => w'.cell? ⟨C, 4, none⟩ = some (.slice (some ⟨g, 0, none⟩) L.length mc') ∧ w'.cell? ⟨w.heap.size + 1, 0, none⟩ = some (.int .i64 2) ∧ w'.cell? ⟨w.heap.size + 1, 1, none⟩ = some (.int .i64 fd) ∧ w'.cell? ⟨w.heap.size + 1, 2, none⟩ = some (.int .i64 fi) ∧ w'.cell? ⟨w.heap.size + 1, 3, none⟩ = some (.int .i64 fo))
    (first | exact ⟨y4, a0, a1, a2, a3⟩ | exact ⟨q4, s0, s1, s2, s3⟩ | go_keep)
    (first
      | (go_at_call 49
         refine HCH.out.mono ?_
         intro e w6 hpost
         obtain ⟨rfl, hbad, hgood⟩ := hpost
         have hcc : w6.heap[C]? = some (dkObj fd ans app ro H.length rc (some ⟨g, 0, none⟩) L.length mc') ∧ w6.heap[w.heap.size + 1]? = some (fiObj 2 fd fi fo) ∧ w6.heap[B2]? = some dkZero ∧ w6.ownsRow w.heap.size 3 1 (.slice ro H.length rc) H.length (H.map (Value.int .i64)) ∧ RlOwn w.heap.size w6 v (advR ⟨day, ans, app, H, l⟩ fd) ∧ Below w.heap.size w w6 ∧ C < w6.heap.size := chg_facts HO2q.out HKCq.out HK2q.out HK3q.out HO1q.out HO3q.out HBq.out hwC hbad hgood
         have HCC := Lib.hid hcc
         have HGD := Lib.hid hgood
         obtain ⟨q0, q1, q2, q3, q4⟩ := five_cells HCC.out.1
         obtain ⟨s0, s1, s2, s3⟩ := four_cells HCC.out.2.1
         clear hbad hgood hcc))
  clear y0 y1 y2 y3 y4 a0 a1 a2 a3 n0 n1 n2 n3 n4
  have hsz6 : B2 < w6.heap.size := by have := HCC.out.2.2.2.2.2.2; omega
  by_cases hrz : r.2 = 0
  · obtain ⟨m', hm'⟩ : ∃ m', r = (m', 0) := ⟨r.1, by rw [← hrz]⟩
    subst hm'
    have HO6 := Lib.hid (HGD.out rfl).1
    have h2 := HCC.out.2.2.1
    have hbb := HCC.out.2.2.2.2.2.1
    have r1 := HCC.out.2.2.2.1
    have r3 := HCC.out.2.2.2.2.1
    have r2 := HO6.out
    have p5 := put5 (x' := .int .i64 fd) (y' := .int .i64 ans) (z' := .int .i64 app) (u' := .slice ro H.length rc) (v' := .slice (some ⟨g, 0, none⟩) (L.length) mc') h2
    obtain ⟨z0, z1, z2, z3, z4⟩ := five_cells p5
    obtain ⟨y0, y1, y2, y3, y4⟩ := five_cells h2
    obtain ⟨f0, f1, f2, f3, f4⟩ := five_free h2
    have R1 := Lib.hid (owns_put5 (x' := .int .i64 fd) (y' := .int .i64 ans) (z' := .int .i64 app) (u' := .slice ro H.length rc) (t' := .slice (some ⟨g, 0, none⟩) (L.length) mc') r1 h2 (by decide))
    have R2 := Lib.hid (owns_put5 (x' := .int .i64 fd) (y' := .int .i64 ans) (z' := .int .i64 app) (u' := .slice ro H.length rc) (t' := .slice (some ⟨g, 0, none⟩) (L.length) mc') r2 h2 (by decide))
    have R3 := Lib.hid (owns_put5 (x' := .int .i64 fd) (y' := .int .i64 ans) (z' := .int .i64 app) (u' := .slice ro H.length rc) (t' := .slice (some ⟨g, 0, none⟩) (L.length) mc') r3 h2 (by decide))
    have R4 := Lib.hid (below_put5 (x' := .int .i64 fd) (y' := .int .i64 ans) (z' := .int .i64 app) (u' := .slice ro H.length rc) (t' := .slice (some ⟨g, 0, none⟩) (L.length) mc') hbb hwB)
    clear p5
    clear h2 hbb r1 r2 r3
    dsimp only
    go_wp2_with fail
    refine bodyPost_ret (by simp [results, Try.results28, go_sem, z0, z1, z2, z3, z4]; rfl) rfl ?_
    have hE : A = (⟨fd, ans, app, H, L.set i m'⟩, advR ⟨day, ans, app, H, l⟩ fd, 0) := by rw [← HAA.out]; exact by rw [file_act HE.out, chg_ok (i := i) (m := m') (by decide) (by decide) (by show findF (l.map (lapseF fd)) fi = _; rw [← HLL.out]; exact HFI.out) (by show changeF ⟨fd, ans, app, H, l.map (lapseF fd)⟩ _ ((l.map (lapseF fd)).getD i default) = _; rw [← HLL.out, HM.out]; exact HR.out)]; simp [advD, HLL.out]
    rw [hE]
    exact ans_file (by simp) R1.out R2.out R3.out R4.out
  · obtain ⟨m', c⟩ := r
    simp only at hrz
    have hq : (c != 0) = true := by simpa using hrz
    have HRZ := Lib.hid hrz
    have h2 := HCC.out.2.2.1
    have hbb := HCC.out.2.2.2.2.2.1
    have p5 := put5 (x' := .int .i64 0) (y' := .int .i64 0) (z' := .int .i64 0) (u' := .slice none 0 0) (v' := .slice none 0 0) h2
    obtain ⟨z0, z1, z2, z3, z4⟩ := five_cells p5
    obtain ⟨y0, y1, y2, y3, y4⟩ := five_cells h2
    obtain ⟨f0, f1, f2, f3, f4⟩ := five_free h2
    have HZB := Lib.hid (below_put5 (x' := .int .i64 0) (y' := .int .i64 0) (z' := .int .i64 0) (u' := .slice none 0 0) (t' := .slice none 0 0) hbb hwB)
    clear p5
    clear h2 hbb hrz
    dsimp only
    go_wp2_with fail
    refine bodyPost_ret (by simp [results, Try.results28, go_sem, z0, z1, z2, z3, z4]; rfl) rfl ?_
    have hE : A = noAns (c) := by rw [← HAA.out]; exact by rw [file_act HE.out, chg_err (i := i) (c := c) (by decide) (by decide) (by show findF (l.map (lapseF fd)) fi = _; rw [← HLL.out]; exact HFI.out) (by show (changeF ⟨fd, ans, app, H, l.map (lapseF fd)⟩ _ ((l.map (lapseF fd)).getD i default)).2 = _; rw [← HLL.out, HM.out, HR.out]) HRZ.out]
    rw [hE]
    exact ans_none _ HZB.out

set_option maxRecDepth 100000 in
set_option maxHeartbeats 2000000 in
theorem fileR_chg3 (day ans app fd fi fo : Int) (ho mo : Option Addr) (hc mc : Nat) (H : List Int) (l : List Mt) (w : World) (hM : Mts w mo l) (hI : Ints w ho H) (hn : ho = none → hc = 0) (mn : mo = none → mc = 0) (hl : l.length ≤ 9223372036854775807) (hE : advE ⟨day, ans, app, H, l⟩ fd = 0) :
    Calls Try.prog 28 #[.agg #[.int .i64 day, .int .i64 ans, .int .i64 app, .slice ho H.length hc, .slice mo l.length mc], .agg #[.int .i64 3, .int .i64 fd, .int .i64 fi, .int .i64 fo]] w (AnsPost w.heap.size w (fileF ⟨day, ans, app, H, l⟩ ⟨3, fd, fi, fo⟩)) := by
  obtain ⟨W, hW⟩ : ∃ W, ((w.alloc (dkObj day ans app ho H.length hc mo l.length mc)).alloc (fiObj 3 fd fi fo)).alloc dkZero = W := ⟨_, rfl⟩
  obtain ⟨hbW, k2, k3, hsW⟩ := file_made hW
  obtain ⟨B2, hB2⟩ : ∃ B2, w.heap.size + 1 + 1 = B2 := ⟨_, rfl⟩
  rw [hB2] at k3
  have hwB : w.heap.size ≤ B2 := by omega
  have hwB1 : w.heap.size + 1 < B2 := by omega
  have HB2 := Lib.hid hB2
  have HADV := Lib.hid (AdvanceR_any day ans app fd ho mo hc mc H l W (hM.next hbW) (hI.next hbW) hn mn hl)
  have HBW := Lib.hid hbW
  have HS := Lib.hid hsW
  have K2 := Lib.hid k2
  have K3 := Lib.hid k3
  have HWW := Lib.hid hW
  obtain ⟨A, hA⟩ : ∃ A, fileF ⟨day, ans, app, H, l⟩ ⟨3, fd, fi, fo⟩ = A := ⟨_, rfl⟩
  rw [hA]
  have HAA := Lib.hid hA
  clear hI hM hn mn hbW hsW k2 k3 hW hA hB2
  have HE := Lib.hid hE
  have HADV := Lib.hid (HADV.out.mono fun e w' h => adv_post hE h)
  have hln := good_len hE
  simp only at hln
  have hl32 := hln.1
  have hH := hln.2
  clear hE hln
  go_enter Try.func28, Try.ntmps28
  go_wp2_with fail
  rw [HWW.out, HB2.out]
  refine HADV.out.mono ?_
  rintro e w3 ⟨ro, rc, mo', mc', v, L, hL, rfl, hO1, hO2, hO3, hb3⟩
  have hLl : L.length ≤ 32 := by rw [hL]; simpa using hl32
  have HLL := Lib.hid hL
  clear hL
  have hb3' := HBW.out.trans (hb3.mono HBW.out.size)
  have hsz : B2 < w3.heap.size := by have := hb3.size; have := HS.out; have := HB2.out; omega
  have hwW : w.heap.size ≤ W.heap.size := HBW.out.size
  go_upto_region 2 with fail
  generalize hw4 : w3.alloc (.cells #[.int .i64 fd, .int .i64 ans, .int .i64 app, .slice ro H.length rc, .slice mo' L.length mc'] 30) = w4
  have HK2 : Hid (w4.heap[w.heap.size + 1]? = some (fiObj 3 fd fi fo)) := Lib.hid (by rw [← hw4]; exact alloc_heap (keep_heap hb3 K2.out))
  have HK3 : Hid (w4.heap[B2]? = some dkZero) := Lib.hid (by rw [← hw4]; exact alloc_heap (keep_heap hb3 K3.out))
  have HKC : Hid (w4.heap[w3.heap.size]? = some (dkObj fd ans app ro H.length rc mo' L.length mc')) := Lib.hid (by rw [← hw4]; exact heap_alloc_new w3 _)
  have HO1 : Hid (w4.ownsRow w.heap.size 3 1 (.slice ro H.length rc) H.length (H.map (Value.int .i64))) := Lib.hid (by rw [← hw4]; exact (hO1.mono hwW).alloc _)
  have HO2 : Hid (w4.ownsRow w.heap.size 50 5 (.slice mo' L.length mc') L.length (L.flatMap mtCells)) := Lib.hid (by rw [← hw4]; exact (hO2.mono hwW).alloc _)
  have HO3 : Hid (RlOwn w.heap.size w4 v (advR ⟨day, ans, app, H, l⟩ fd)) := Lib.hid (by rw [← hw4]; exact World.ownsRow.alloc (World.ownsRow.mono hO3 hwW) _)
  have HB4 : Hid (Below w.heap.size w w4) := Lib.hid (by rw [← hw4]; exact hb3'.alloc hb3'.size _)
  have hs4 : w4.heap.size = w3.heap.size + 1 := by rw [← hw4]; simp
  have HS4 := Lib.hid hs4
  obtain ⟨C, hC⟩ : ∃ C, w3.heap.size = C := ⟨_, rfl⟩
  rw [hC] at HKC HS4 hsz ⊢
  have hwC : w.heap.size ≤ C := by omega
  clear hO1 hO2 hO3 hb3 hb3' HADV hw4 hs4 hC
  obtain ⟨p0, p1, p2, p3⟩ := four_cells HK2.out
  obtain ⟨x0, x1, x2, x3, x4⟩ := five_cells HKC.out
  have HF := Lib.hid (matterOf_any fd ans app fi ro mo' H.length rc mc' L w4 (owns_mts HO2.out) (by omega))
  by_cases hneg : findF L fi < 0
  · have hm1 : findF L fi = -1 := by have := find_ge L fi; omega
    rw [hm1] at HF
    have HNG := Lib.hid hneg
    clear hneg hm1
    go_wp2_with fail
    refine HF.out.mono ?_
    rintro e w5 ⟨rfl, hb5⟩
    have h2 := keep_heap hb5 HK3.out
    have hbb := HB4.out.trans (hb5.mono HB4.out.size)
    have p5 := put5 (x' := .int .i64 0) (y' := .int .i64 0) (z' := .int .i64 0) (u' := .slice none 0 0) (v' := .slice none 0 0) h2
    obtain ⟨z0, z1, z2, z3, z4⟩ := five_cells p5
    obtain ⟨y0, y1, y2, y3, y4⟩ := five_cells h2
    obtain ⟨f0, f1, f2, f3, f4⟩ := five_free h2
    have HZB := Lib.hid (below_put5 (x' := .int .i64 0) (y' := .int .i64 0) (z' := .int .i64 0) (u' := .slice none 0 0) (t' := .slice none 0 0) hbb hwB)
    clear p5
    clear h2 hbb hb5
    go_wp2_with fail
    refine bodyPost_ret (by simp [results, Try.results28, go_sem, z0, z1, z2, z3, z4]; rfl) rfl ?_
    have hE : A = noAns (11) := by rw [← HAA.out]; exact by rw [file_act HE.out, chg_none (by decide) (by decide) (by show findF (l.map (lapseF fd)) fi < 0; rw [← HLL.out]; exact HNG.out)]
    rw [hE]
    exact ans_none _ HZB.out
  obtain ⟨hil, hid⟩ := find_lt hneg
  obtain ⟨i, hi⟩ : ∃ i : Nat, findF L fi = (i : Int) := ⟨(findF L fi).toNat, by omega⟩
  rw [hi, Int.toNat_natCast] at hil
  rw [hi] at HF
  obtain ⟨m, hm⟩ : ∃ m, L.getD i default = m := ⟨_, rfl⟩
  have HFI := Lib.hid hi
  have HM := Lib.hid hm
  obtain ⟨g, rfl⟩ : ∃ g, mo' = some ⟨g, 0, none⟩ := by
    rcases HO2.out.2 with ⟨e1, e2⟩ | ⟨g, cap, cur, e1, _⟩
    · omega
    · cases e1; exact ⟨g, rfl⟩
  have hi0 : (0 : Int) ≤ (i : Int) := Int.natCast_nonneg _
  have hi1 : (i : Int) < (L.length : Int) := by omega
  have hi2 : ¬ (i : Int) < 0 := by omega
  clear hneg hid hi hm
  go_wp2_with fail
  refine HF.out.mono ?_
  rintro e w5 ⟨rfl, hb5⟩
  have HKC5 := Lib.hid (keep_heap hb5 HKC.out)
  have HK25 := Lib.hid (keep_heap hb5 HK2.out)
  have HK35 := Lib.hid (keep_heap hb5 HK3.out)
  have HO15 := Lib.hid (owns_next HO1.out hb5)
  have HO25 := Lib.hid (owns_next HO2.out hb5)
  have HO35 : Hid (RlOwn w.heap.size w5 v (advR ⟨day, ans, app, H, l⟩ fd)) := Lib.hid (owns_next HO3.out hb5)
  have HB5 := Lib.hid (HB4.out.trans (hb5.mono HB4.out.size))
  have HRQ := Lib.hid (required_any 3 2 (by decide) (by decide) rfl w5.drew)
  obtain ⟨p0, p1, p2, p3⟩ := four_cells HK25.out
  obtain ⟨x0, x1, x2, x3, x4⟩ := five_cells HKC5.out
  obtain ⟨m0, m1, m2, m3, m4⟩ := (owns_mt HO25.out hil HM.out).1
  try simp only at m0 m1 m2 m3 m4
  clear hb5
  go_wp2_with fail
  go_region_held3 (fun w' => w'.cell? ⟨C, 4, none⟩ = some (.slice (some ⟨g, 0, none⟩) L.length mc') ∧ w'.cell? ⟨w.heap.size + 1, 0, none⟩ = some (.int .i64 3) ∧ w'.cell? ⟨g, i * 5 + 1, none⟩ = some (.int .i64 m.st))
    (first | exact ⟨x4, p0, m1⟩ | exact ⟨y4, a0, n1⟩ | go_keep)
    (first
      | (go_at_call 48
         (with_reducible refine HRQ.out.mono ?_)
         rintro e wq ⟨rfl, hbq⟩
         have hb5q : Below w5.heap.size w5 wq := (Below.refl _ _).drew.trans hbq
         have HKCq := Lib.hid (keep_heap hb5q HKC5.out)
         have HK2q := Lib.hid (keep_heap hb5q HK25.out)
         have HK3q := Lib.hid (keep_heap hb5q HK35.out)
         have HO1q := Lib.hid (owns_next HO15.out hb5q)
         have HO2q := Lib.hid (owns_next HO25.out hb5q)
         have HO3q : Hid (RlOwn w.heap.size wq v (advR ⟨day, ans, app, H, l⟩ fd)) := Lib.hid (owns_next HO35.out hb5q)
         have HBq := Lib.hid (HB5.out.trans (hb5q.mono HB5.out.size))
         obtain ⟨y0, y1, y2, y3, y4⟩ := five_cells HKCq.out
         obtain ⟨a0, a1, a2, a3⟩ := four_cells HK2q.out
         obtain ⟨n0, n1, n2, n3, n4⟩ := (owns_mt HO2q.out hil HM.out).1
         clear hbq hb5q))
  clear x0 x1 x2 x3 x4 p0 p1 p2 p3 m0 m1 m2 m3 m4
  by_cases hst : m.st = 2
  case neg =>
    have hq : (m.st != 2) = true := by simpa using hst
    have HST := Lib.hid hst
    clear hst y0 y1 y2 y3 y4 n0 n1 n2 n3 n4
    go_upto_region 15 with fail
    have h2 := HK3q.out
    have hbb := HBq.out
    have hszq : B2 < wq.heap.size := (Array.getElem?_eq_some_iff.1 h2).1
    have p5 := put5 (x' := .int .i64 0) (y' := .int .i64 0) (z' := .int .i64 0) (u' := .slice none 0 0) (v' := .slice none 0 0) h2
    obtain ⟨z0, z1, z2, z3, z4⟩ := five_cells p5
    obtain ⟨y0, y1, y2, y3, y4⟩ := five_cells h2
    obtain ⟨f0, f1, f2, f3, f4⟩ := five_free h2
    have HZB := Lib.hid (below_put5 (x' := .int .i64 0) (y' := .int .i64 0) (z' := .int .i64 0) (u' := .slice none 0 0) (t' := .slice none 0 0) hbb hwB)
    clear p5
    clear h2 hbb
    go_wp2_with fail
    refine bodyPost_ret (by simp [results, Try.results28, go_sem, z0, z1, z2, z3, z4]; rfl) rfl ?_
    have hE : A = noAns (13) := by rw [← HAA.out]; exact by rw [file_act HE.out, chg_err (i := i) (c := 13) (by decide) (by decide) (by show findF (l.map (lapseF fd)) fi = _; rw [← HLL.out]; exact HFI.out) (by show (changeF ⟨fd, ans, app, H, l.map (lapseF fd)⟩ _ ((l.map (lapseF fd)).getD i default)).2 = _; rw [← HLL.out, HM.out]; exact change_st (by simpa using HST.out)) (by decide)]
    rw [hE]
    exact ans_none _ HZB.out
  have hq3 : (m.st != 2) = false := by simpa using hst
  have HCH := Lib.hid (changeR3_any w.heap.size g mc' i C L m fd fd fd fi fo ans app ro (some ⟨g, 0, none⟩) rc L.length mc' H L wq.drew HKCq.out HO2q.out HBq.out.size hil HM.out hst)
  obtain ⟨r, hr⟩ : ∃ r, changeF ⟨fd, ans, app, H, L⟩ ⟨3, fd, fi, fo⟩ m = r := ⟨_, rfl⟩
  rw [hr] at HCH
  have HR := Lib.hid hr
  clear hr hst
  go_wp2_with fail
  go_region_held3 (fun w' => w'.cell? ⟨C, 4, none⟩ = some (.slice (some ⟨g, 0, none⟩) L.length mc') ∧ w'.cell? ⟨w.heap.size + 1, 0, none⟩ = some (.int .i64 3) ∧ w'.cell? ⟨w.heap.size + 1, 1, none⟩ = some (.int .i64 fd) ∧ w'.cell? ⟨w.heap.size + 1, 2, none⟩ = some (.int .i64 fi) ∧ w'.cell? ⟨w.heap.size + 1, 3, none⟩ = some (.int .i64 fo))
    (first | exact ⟨y4, a0, a1, a2, a3⟩ | exact ⟨q4, s0, s1, s2, s3⟩ | go_keep)
    (first
      | (go_at_call 49
         refine HCH.out.mono ?_
         intro e w6 hpost
         obtain ⟨rfl, hbad, hgood⟩ := hpost
         have hcc : w6.heap[C]? = some (dkObj fd ans app ro H.length rc (some ⟨g, 0, none⟩) L.length mc') ∧ w6.heap[w.heap.size + 1]? = some (fiObj 3 fd fi fo) ∧ w6.heap[B2]? = some dkZero ∧ w6.ownsRow w.heap.size 3 1 (.slice ro H.length rc) H.length (H.map (Value.int .i64)) ∧ RlOwn w.heap.size w6 v (advR ⟨day, ans, app, H, l⟩ fd) ∧ Below w.heap.size w w6 ∧ C < w6.heap.size := chg_facts HO2q.out HKCq.out HK2q.out HK3q.out HO1q.out HO3q.out HBq.out hwC hbad hgood
         have HCC := Lib.hid hcc
         have HGD := Lib.hid hgood
         obtain ⟨q0, q1, q2, q3, q4⟩ := five_cells HCC.out.1
         obtain ⟨s0, s1, s2, s3⟩ := four_cells HCC.out.2.1
         clear hbad hgood hcc))
  clear y0 y1 y2 y3 y4 a0 a1 a2 a3 n0 n1 n2 n3 n4
  have hsz6 : B2 < w6.heap.size := by have := HCC.out.2.2.2.2.2.2; omega
  by_cases hrz : r.2 = 0
  · obtain ⟨m', hm'⟩ : ∃ m', r = (m', 0) := ⟨r.1, by rw [← hrz]⟩
    subst hm'
    have HO6 := Lib.hid (HGD.out rfl).1
    have h2 := HCC.out.2.2.1
    have hbb := HCC.out.2.2.2.2.2.1
    have r1 := HCC.out.2.2.2.1
    have r3 := HCC.out.2.2.2.2.1
    have r2 := HO6.out
    have p5 := put5 (x' := .int .i64 fd) (y' := .int .i64 ans) (z' := .int .i64 app) (u' := .slice ro H.length rc) (v' := .slice (some ⟨g, 0, none⟩) (L.length) mc') h2
    obtain ⟨z0, z1, z2, z3, z4⟩ := five_cells p5
    obtain ⟨y0, y1, y2, y3, y4⟩ := five_cells h2
    obtain ⟨f0, f1, f2, f3, f4⟩ := five_free h2
    have R1 := Lib.hid (owns_put5 (x' := .int .i64 fd) (y' := .int .i64 ans) (z' := .int .i64 app) (u' := .slice ro H.length rc) (t' := .slice (some ⟨g, 0, none⟩) (L.length) mc') r1 h2 (by decide))
    have R2 := Lib.hid (owns_put5 (x' := .int .i64 fd) (y' := .int .i64 ans) (z' := .int .i64 app) (u' := .slice ro H.length rc) (t' := .slice (some ⟨g, 0, none⟩) (L.length) mc') r2 h2 (by decide))
    have R3 := Lib.hid (owns_put5 (x' := .int .i64 fd) (y' := .int .i64 ans) (z' := .int .i64 app) (u' := .slice ro H.length rc) (t' := .slice (some ⟨g, 0, none⟩) (L.length) mc') r3 h2 (by decide))
    have R4 := Lib.hid (below_put5 (x' := .int .i64 fd) (y' := .int .i64 ans) (z' := .int .i64 app) (u' := .slice ro H.length rc) (t' := .slice (some ⟨g, 0, none⟩) (L.length) mc') hbb hwB)
    clear p5
    clear h2 hbb r1 r2 r3
    dsimp only
    go_wp2_with fail
    refine bodyPost_ret (by simp [results, Try.results28, go_sem, z0, z1, z2, z3, z4]; rfl) rfl ?_
    have hE : A = (⟨fd, ans, app, H, L.set i m'⟩, advR ⟨day, ans, app, H, l⟩ fd, 0) := by rw [← HAA.out]; exact by rw [file_act HE.out, chg_ok (i := i) (m := m') (by decide) (by decide) (by show findF (l.map (lapseF fd)) fi = _; rw [← HLL.out]; exact HFI.out) (by show changeF ⟨fd, ans, app, H, l.map (lapseF fd)⟩ _ ((l.map (lapseF fd)).getD i default) = _; rw [← HLL.out, HM.out]; exact HR.out)]; simp [advD, HLL.out]
    rw [hE]
    exact ans_file (by simp) R1.out R2.out R3.out R4.out
  · obtain ⟨m', c⟩ := r
    simp only at hrz
    have hq : (c != 0) = true := by simpa using hrz
    have HRZ := Lib.hid hrz
    have h2 := HCC.out.2.2.1
    have hbb := HCC.out.2.2.2.2.2.1
    have p5 := put5 (x' := .int .i64 0) (y' := .int .i64 0) (z' := .int .i64 0) (u' := .slice none 0 0) (v' := .slice none 0 0) h2
    obtain ⟨z0, z1, z2, z3, z4⟩ := five_cells p5
    obtain ⟨y0, y1, y2, y3, y4⟩ := five_cells h2
    obtain ⟨f0, f1, f2, f3, f4⟩ := five_free h2
    have HZB := Lib.hid (below_put5 (x' := .int .i64 0) (y' := .int .i64 0) (z' := .int .i64 0) (u' := .slice none 0 0) (t' := .slice none 0 0) hbb hwB)
    clear p5
    clear h2 hbb hrz
    dsimp only
    go_wp2_with fail
    refine bodyPost_ret (by simp [results, Try.results28, go_sem, z0, z1, z2, z3, z4]; rfl) rfl ?_
    have hE : A = noAns (c) := by rw [← HAA.out]; exact by rw [file_act HE.out, chg_err (i := i) (c := c) (by decide) (by decide) (by show findF (l.map (lapseF fd)) fi = _; rw [← HLL.out]; exact HFI.out) (by show (changeF ⟨fd, ans, app, H, l.map (lapseF fd)⟩ _ ((l.map (lapseF fd)).getD i default)).2 = _; rw [← HLL.out, HM.out, HR.out]) HRZ.out]
    rw [hE]
    exact ans_none _ HZB.out

set_option maxRecDepth 100000 in
set_option maxHeartbeats 2000000 in
theorem fileR_chg4 (day ans app fd fi fo : Int) (ho mo : Option Addr) (hc mc : Nat) (H : List Int) (l : List Mt) (w : World) (hM : Mts w mo l) (hI : Ints w ho H) (hn : ho = none → hc = 0) (mn : mo = none → mc = 0) (hl : l.length ≤ 9223372036854775807) (hE : advE ⟨day, ans, app, H, l⟩ fd = 0) :
    Calls Try.prog 28 #[.agg #[.int .i64 day, .int .i64 ans, .int .i64 app, .slice ho H.length hc, .slice mo l.length mc], .agg #[.int .i64 4, .int .i64 fd, .int .i64 fi, .int .i64 fo]] w (AnsPost w.heap.size w (fileF ⟨day, ans, app, H, l⟩ ⟨4, fd, fi, fo⟩)) := by
  obtain ⟨W, hW⟩ : ∃ W, ((w.alloc (dkObj day ans app ho H.length hc mo l.length mc)).alloc (fiObj 4 fd fi fo)).alloc dkZero = W := ⟨_, rfl⟩
  obtain ⟨hbW, k2, k3, hsW⟩ := file_made hW
  obtain ⟨B2, hB2⟩ : ∃ B2, w.heap.size + 1 + 1 = B2 := ⟨_, rfl⟩
  rw [hB2] at k3
  have hwB : w.heap.size ≤ B2 := by omega
  have hwB1 : w.heap.size + 1 < B2 := by omega
  have HB2 := Lib.hid hB2
  have HADV := Lib.hid (AdvanceR_any day ans app fd ho mo hc mc H l W (hM.next hbW) (hI.next hbW) hn mn hl)
  have HBW := Lib.hid hbW
  have HS := Lib.hid hsW
  have K2 := Lib.hid k2
  have K3 := Lib.hid k3
  have HWW := Lib.hid hW
  obtain ⟨A, hA⟩ : ∃ A, fileF ⟨day, ans, app, H, l⟩ ⟨4, fd, fi, fo⟩ = A := ⟨_, rfl⟩
  rw [hA]
  have HAA := Lib.hid hA
  clear hI hM hn mn hbW hsW k2 k3 hW hA hB2
  have HE := Lib.hid hE
  have HADV := Lib.hid (HADV.out.mono fun e w' h => adv_post hE h)
  have hln := good_len hE
  simp only at hln
  have hl32 := hln.1
  have hH := hln.2
  clear hE hln
  go_enter Try.func28, Try.ntmps28
  go_wp2_with fail
  rw [HWW.out, HB2.out]
  refine HADV.out.mono ?_
  rintro e w3 ⟨ro, rc, mo', mc', v, L, hL, rfl, hO1, hO2, hO3, hb3⟩
  have hLl : L.length ≤ 32 := by rw [hL]; simpa using hl32
  have HLL := Lib.hid hL
  clear hL
  have hb3' := HBW.out.trans (hb3.mono HBW.out.size)
  have hsz : B2 < w3.heap.size := by have := hb3.size; have := HS.out; have := HB2.out; omega
  have hwW : w.heap.size ≤ W.heap.size := HBW.out.size
  go_upto_region 2 with fail
  generalize hw4 : w3.alloc (.cells #[.int .i64 fd, .int .i64 ans, .int .i64 app, .slice ro H.length rc, .slice mo' L.length mc'] 30) = w4
  have HK2 : Hid (w4.heap[w.heap.size + 1]? = some (fiObj 4 fd fi fo)) := Lib.hid (by rw [← hw4]; exact alloc_heap (keep_heap hb3 K2.out))
  have HK3 : Hid (w4.heap[B2]? = some dkZero) := Lib.hid (by rw [← hw4]; exact alloc_heap (keep_heap hb3 K3.out))
  have HKC : Hid (w4.heap[w3.heap.size]? = some (dkObj fd ans app ro H.length rc mo' L.length mc')) := Lib.hid (by rw [← hw4]; exact heap_alloc_new w3 _)
  have HO1 : Hid (w4.ownsRow w.heap.size 3 1 (.slice ro H.length rc) H.length (H.map (Value.int .i64))) := Lib.hid (by rw [← hw4]; exact (hO1.mono hwW).alloc _)
  have HO2 : Hid (w4.ownsRow w.heap.size 50 5 (.slice mo' L.length mc') L.length (L.flatMap mtCells)) := Lib.hid (by rw [← hw4]; exact (hO2.mono hwW).alloc _)
  have HO3 : Hid (RlOwn w.heap.size w4 v (advR ⟨day, ans, app, H, l⟩ fd)) := Lib.hid (by rw [← hw4]; exact World.ownsRow.alloc (World.ownsRow.mono hO3 hwW) _)
  have HB4 : Hid (Below w.heap.size w w4) := Lib.hid (by rw [← hw4]; exact hb3'.alloc hb3'.size _)
  have hs4 : w4.heap.size = w3.heap.size + 1 := by rw [← hw4]; simp
  have HS4 := Lib.hid hs4
  obtain ⟨C, hC⟩ : ∃ C, w3.heap.size = C := ⟨_, rfl⟩
  rw [hC] at HKC HS4 hsz ⊢
  have hwC : w.heap.size ≤ C := by omega
  clear hO1 hO2 hO3 hb3 hb3' HADV hw4 hs4 hC
  obtain ⟨p0, p1, p2, p3⟩ := four_cells HK2.out
  obtain ⟨x0, x1, x2, x3, x4⟩ := five_cells HKC.out
  have HF := Lib.hid (matterOf_any fd ans app fi ro mo' H.length rc mc' L w4 (owns_mts HO2.out) (by omega))
  by_cases hneg : findF L fi < 0
  · have hm1 : findF L fi = -1 := by have := find_ge L fi; omega
    rw [hm1] at HF
    have HNG := Lib.hid hneg
    clear hneg hm1
    go_wp2_with fail
    refine HF.out.mono ?_
    rintro e w5 ⟨rfl, hb5⟩
    have h2 := keep_heap hb5 HK3.out
    have hbb := HB4.out.trans (hb5.mono HB4.out.size)
    have p5 := put5 (x' := .int .i64 0) (y' := .int .i64 0) (z' := .int .i64 0) (u' := .slice none 0 0) (v' := .slice none 0 0) h2
    obtain ⟨z0, z1, z2, z3, z4⟩ := five_cells p5
    obtain ⟨y0, y1, y2, y3, y4⟩ := five_cells h2
    obtain ⟨f0, f1, f2, f3, f4⟩ := five_free h2
    have HZB := Lib.hid (below_put5 (x' := .int .i64 0) (y' := .int .i64 0) (z' := .int .i64 0) (u' := .slice none 0 0) (t' := .slice none 0 0) hbb hwB)
    clear p5
    clear h2 hbb hb5
    go_wp2_with fail
    refine bodyPost_ret (by simp [results, Try.results28, go_sem, z0, z1, z2, z3, z4]; rfl) rfl ?_
    have hE : A = noAns (11) := by rw [← HAA.out]; exact by rw [file_act HE.out, chg_none (by decide) (by decide) (by show findF (l.map (lapseF fd)) fi < 0; rw [← HLL.out]; exact HNG.out)]
    rw [hE]
    exact ans_none _ HZB.out
  obtain ⟨hil, hid⟩ := find_lt hneg
  obtain ⟨i, hi⟩ : ∃ i : Nat, findF L fi = (i : Int) := ⟨(findF L fi).toNat, by omega⟩
  rw [hi, Int.toNat_natCast] at hil
  rw [hi] at HF
  obtain ⟨m, hm⟩ : ∃ m, L.getD i default = m := ⟨_, rfl⟩
  have HFI := Lib.hid hi
  have HM := Lib.hid hm
  obtain ⟨g, rfl⟩ : ∃ g, mo' = some ⟨g, 0, none⟩ := by
    rcases HO2.out.2 with ⟨e1, e2⟩ | ⟨g, cap, cur, e1, _⟩
    · omega
    · cases e1; exact ⟨g, rfl⟩
  have hi0 : (0 : Int) ≤ (i : Int) := Int.natCast_nonneg _
  have hi1 : (i : Int) < (L.length : Int) := by omega
  have hi2 : ¬ (i : Int) < 0 := by omega
  clear hneg hid hi hm
  go_wp2_with fail
  refine HF.out.mono ?_
  rintro e w5 ⟨rfl, hb5⟩
  have HKC5 := Lib.hid (keep_heap hb5 HKC.out)
  have HK25 := Lib.hid (keep_heap hb5 HK2.out)
  have HK35 := Lib.hid (keep_heap hb5 HK3.out)
  have HO15 := Lib.hid (owns_next HO1.out hb5)
  have HO25 := Lib.hid (owns_next HO2.out hb5)
  have HO35 : Hid (RlOwn w.heap.size w5 v (advR ⟨day, ans, app, H, l⟩ fd)) := Lib.hid (owns_next HO3.out hb5)
  have HB5 := Lib.hid (HB4.out.trans (hb5.mono HB4.out.size))
  have HRQ := Lib.hid (required_any 4 3 (by decide) (by decide) rfl w5.drew)
  obtain ⟨p0, p1, p2, p3⟩ := four_cells HK25.out
  obtain ⟨x0, x1, x2, x3, x4⟩ := five_cells HKC5.out
  obtain ⟨m0, m1, m2, m3, m4⟩ := (owns_mt HO25.out hil HM.out).1
  try simp only at m0 m1 m2 m3 m4
  clear hb5
  go_wp2_with fail
  go_region_held3 (fun w' => w'.cell? ⟨C, 4, none⟩ = some (.slice (some ⟨g, 0, none⟩) L.length mc') ∧ w'.cell? ⟨w.heap.size + 1, 0, none⟩ = some (.int .i64 4) ∧ w'.cell? ⟨g, i * 5 + 1, none⟩ = some (.int .i64 m.st))
    (first | exact ⟨x4, p0, m1⟩ | exact ⟨y4, a0, n1⟩ | go_keep)
    (first
      | (go_at_call 48
         (with_reducible refine HRQ.out.mono ?_)
         rintro e wq ⟨rfl, hbq⟩
         have hb5q : Below w5.heap.size w5 wq := (Below.refl _ _).drew.trans hbq
         have HKCq := Lib.hid (keep_heap hb5q HKC5.out)
         have HK2q := Lib.hid (keep_heap hb5q HK25.out)
         have HK3q := Lib.hid (keep_heap hb5q HK35.out)
         have HO1q := Lib.hid (owns_next HO15.out hb5q)
         have HO2q := Lib.hid (owns_next HO25.out hb5q)
         have HO3q : Hid (RlOwn w.heap.size wq v (advR ⟨day, ans, app, H, l⟩ fd)) := Lib.hid (owns_next HO35.out hb5q)
         have HBq := Lib.hid (HB5.out.trans (hb5q.mono HB5.out.size))
         obtain ⟨y0, y1, y2, y3, y4⟩ := five_cells HKCq.out
         obtain ⟨a0, a1, a2, a3⟩ := four_cells HK2q.out
         obtain ⟨n0, n1, n2, n3, n4⟩ := (owns_mt HO2q.out hil HM.out).1
         clear hbq hb5q))
  clear x0 x1 x2 x3 x4 p0 p1 p2 p3 m0 m1 m2 m3 m4
  by_cases hst : m.st = 3
  case neg =>
    have hq : (m.st != 3) = true := by simpa using hst
    have HST := Lib.hid hst
    clear hst y0 y1 y2 y3 y4 n0 n1 n2 n3 n4
    go_upto_region 15 with fail
    have h2 := HK3q.out
    have hbb := HBq.out
    have hszq : B2 < wq.heap.size := (Array.getElem?_eq_some_iff.1 h2).1
    have p5 := put5 (x' := .int .i64 0) (y' := .int .i64 0) (z' := .int .i64 0) (u' := .slice none 0 0) (v' := .slice none 0 0) h2
    obtain ⟨z0, z1, z2, z3, z4⟩ := five_cells p5
    obtain ⟨y0, y1, y2, y3, y4⟩ := five_cells h2
    obtain ⟨f0, f1, f2, f3, f4⟩ := five_free h2
    have HZB := Lib.hid (below_put5 (x' := .int .i64 0) (y' := .int .i64 0) (z' := .int .i64 0) (u' := .slice none 0 0) (t' := .slice none 0 0) hbb hwB)
    clear p5
    clear h2 hbb
    go_wp2_with fail
    refine bodyPost_ret (by simp [results, Try.results28, go_sem, z0, z1, z2, z3, z4]; rfl) rfl ?_
    have hE : A = noAns (13) := by rw [← HAA.out]; exact by rw [file_act HE.out, chg_err (i := i) (c := 13) (by decide) (by decide) (by show findF (l.map (lapseF fd)) fi = _; rw [← HLL.out]; exact HFI.out) (by show (changeF ⟨fd, ans, app, H, l.map (lapseF fd)⟩ _ ((l.map (lapseF fd)).getD i default)).2 = _; rw [← HLL.out, HM.out]; exact change_st (by simpa using HST.out)) (by decide)]
    rw [hE]
    exact ans_none _ HZB.out
  have hq3 : (m.st != 3) = false := by simpa using hst
  have HIq : Hid (Ints wq.drew ro H) := Lib.hid ((owns_ints HO1q.out).next (Below.refl _ _).drew)
  have HCH := Lib.hid (changeR4_any w.heap.size g mc' i C L m fd fd fd fi fo ans app ro (some ⟨g, 0, none⟩) rc L.length mc' H L wq.drew HKCq.out HO2q.out HBq.out.size hil HM.out hst (HIq.out))
  obtain ⟨r, hr⟩ : ∃ r, changeF ⟨fd, ans, app, H, L⟩ ⟨4, fd, fi, fo⟩ m = r := ⟨_, rfl⟩
  rw [hr] at HCH
  have HR := Lib.hid hr
  clear hr hst
  go_wp2_with fail
  go_region_held3 (fun w' => w'.cell? ⟨C, 4, none⟩ = some (.slice (some ⟨g, 0, none⟩) L.length mc') ∧ w'.cell? ⟨w.heap.size + 1, 0, none⟩ = some (.int .i64 4) ∧ w'.cell? ⟨w.heap.size + 1, 1, none⟩ = some (.int .i64 fd) ∧ w'.cell? ⟨w.heap.size + 1, 2, none⟩ = some (.int .i64 fi) ∧ w'.cell? ⟨w.heap.size + 1, 3, none⟩ = some (.int .i64 fo))
    (first | exact ⟨y4, a0, a1, a2, a3⟩ | exact ⟨q4, s0, s1, s2, s3⟩ | go_keep)
    (first
      | (go_at_call 49
         refine HCH.out.mono ?_
         intro e w6 hpost
         obtain ⟨rfl, hbad, hgood⟩ := hpost
         have hcc : w6.heap[C]? = some (dkObj fd ans app ro H.length rc (some ⟨g, 0, none⟩) L.length mc') ∧ w6.heap[w.heap.size + 1]? = some (fiObj 4 fd fi fo) ∧ w6.heap[B2]? = some dkZero ∧ w6.ownsRow w.heap.size 3 1 (.slice ro H.length rc) H.length (H.map (Value.int .i64)) ∧ RlOwn w.heap.size w6 v (advR ⟨day, ans, app, H, l⟩ fd) ∧ Below w.heap.size w w6 ∧ C < w6.heap.size := chg_facts HO2q.out HKCq.out HK2q.out HK3q.out HO1q.out HO3q.out HBq.out hwC hbad hgood
         have HCC := Lib.hid hcc
         have HGD := Lib.hid hgood
         obtain ⟨q0, q1, q2, q3, q4⟩ := five_cells HCC.out.1
         obtain ⟨s0, s1, s2, s3⟩ := four_cells HCC.out.2.1
         clear hbad hgood hcc))
  clear y0 y1 y2 y3 y4 a0 a1 a2 a3 n0 n1 n2 n3 n4
  have hsz6 : B2 < w6.heap.size := by have := HCC.out.2.2.2.2.2.2; omega
  by_cases hrz : r.2 = 0
  · obtain ⟨m', hm'⟩ : ∃ m', r = (m', 0) := ⟨r.1, by rw [← hrz]⟩
    subst hm'
    have HO6 := Lib.hid (HGD.out rfl).1
    have h2 := HCC.out.2.2.1
    have hbb := HCC.out.2.2.2.2.2.1
    have r1 := HCC.out.2.2.2.1
    have r3 := HCC.out.2.2.2.2.1
    have r2 := HO6.out
    have p5 := put5 (x' := .int .i64 fd) (y' := .int .i64 ans) (z' := .int .i64 app) (u' := .slice ro H.length rc) (v' := .slice (some ⟨g, 0, none⟩) (L.length) mc') h2
    obtain ⟨z0, z1, z2, z3, z4⟩ := five_cells p5
    obtain ⟨y0, y1, y2, y3, y4⟩ := five_cells h2
    obtain ⟨f0, f1, f2, f3, f4⟩ := five_free h2
    have R1 := Lib.hid (owns_put5 (x' := .int .i64 fd) (y' := .int .i64 ans) (z' := .int .i64 app) (u' := .slice ro H.length rc) (t' := .slice (some ⟨g, 0, none⟩) (L.length) mc') r1 h2 (by decide))
    have R2 := Lib.hid (owns_put5 (x' := .int .i64 fd) (y' := .int .i64 ans) (z' := .int .i64 app) (u' := .slice ro H.length rc) (t' := .slice (some ⟨g, 0, none⟩) (L.length) mc') r2 h2 (by decide))
    have R3 := Lib.hid (owns_put5 (x' := .int .i64 fd) (y' := .int .i64 ans) (z' := .int .i64 app) (u' := .slice ro H.length rc) (t' := .slice (some ⟨g, 0, none⟩) (L.length) mc') r3 h2 (by decide))
    have R4 := Lib.hid (below_put5 (x' := .int .i64 fd) (y' := .int .i64 ans) (z' := .int .i64 app) (u' := .slice ro H.length rc) (t' := .slice (some ⟨g, 0, none⟩) (L.length) mc') hbb hwB)
    clear p5
    clear h2 hbb r1 r2 r3
    dsimp only
    go_wp2_with fail
    refine bodyPost_ret (by simp [results, Try.results28, go_sem, z0, z1, z2, z3, z4]; rfl) rfl ?_
    have hE : A = (⟨fd, ans, app, H, L.set i m'⟩, advR ⟨day, ans, app, H, l⟩ fd, 0) := by rw [← HAA.out]; exact by rw [file_act HE.out, chg_ok (i := i) (m := m') (by decide) (by decide) (by show findF (l.map (lapseF fd)) fi = _; rw [← HLL.out]; exact HFI.out) (by show changeF ⟨fd, ans, app, H, l.map (lapseF fd)⟩ _ ((l.map (lapseF fd)).getD i default) = _; rw [← HLL.out, HM.out]; exact HR.out)]; simp [advD, HLL.out]
    rw [hE]
    exact ans_file (by simp) R1.out R2.out R3.out R4.out
  · obtain ⟨m', c⟩ := r
    simp only at hrz
    have hq : (c != 0) = true := by simpa using hrz
    have HRZ := Lib.hid hrz
    have h2 := HCC.out.2.2.1
    have hbb := HCC.out.2.2.2.2.2.1
    have p5 := put5 (x' := .int .i64 0) (y' := .int .i64 0) (z' := .int .i64 0) (u' := .slice none 0 0) (v' := .slice none 0 0) h2
    obtain ⟨z0, z1, z2, z3, z4⟩ := five_cells p5
    obtain ⟨y0, y1, y2, y3, y4⟩ := five_cells h2
    obtain ⟨f0, f1, f2, f3, f4⟩ := five_free h2
    have HZB := Lib.hid (below_put5 (x' := .int .i64 0) (y' := .int .i64 0) (z' := .int .i64 0) (u' := .slice none 0 0) (t' := .slice none 0 0) hbb hwB)
    clear p5
    clear h2 hbb hrz
    dsimp only
    go_wp2_with fail
    refine bodyPost_ret (by simp [results, Try.results28, go_sem, z0, z1, z2, z3, z4]; rfl) rfl ?_
    have hE : A = noAns (c) := by rw [← HAA.out]; exact by rw [file_act HE.out, chg_err (i := i) (c := c) (by decide) (by decide) (by show findF (l.map (lapseF fd)) fi = _; rw [← HLL.out]; exact HFI.out) (by show (changeF ⟨fd, ans, app, H, l.map (lapseF fd)⟩ _ ((l.map (lapseF fd)).getD i default)).2 = _; rw [← HLL.out, HM.out, HR.out]) HRZ.out]
    rw [hE]
    exact ans_none _ HZB.out

set_option maxRecDepth 100000 in
set_option maxHeartbeats 2000000 in
theorem fileR_chg5 (day ans app fd fi fo : Int) (ho mo : Option Addr) (hc mc : Nat) (H : List Int) (l : List Mt) (w : World) (hM : Mts w mo l) (hI : Ints w ho H) (hn : ho = none → hc = 0) (mn : mo = none → mc = 0) (hl : l.length ≤ 9223372036854775807) (hE : advE ⟨day, ans, app, H, l⟩ fd = 0) :
    Calls Try.prog 28 #[.agg #[.int .i64 day, .int .i64 ans, .int .i64 app, .slice ho H.length hc, .slice mo l.length mc], .agg #[.int .i64 5, .int .i64 fd, .int .i64 fi, .int .i64 fo]] w (AnsPost w.heap.size w (fileF ⟨day, ans, app, H, l⟩ ⟨5, fd, fi, fo⟩)) := by
  obtain ⟨W, hW⟩ : ∃ W, ((w.alloc (dkObj day ans app ho H.length hc mo l.length mc)).alloc (fiObj 5 fd fi fo)).alloc dkZero = W := ⟨_, rfl⟩
  obtain ⟨hbW, k2, k3, hsW⟩ := file_made hW
  obtain ⟨B2, hB2⟩ : ∃ B2, w.heap.size + 1 + 1 = B2 := ⟨_, rfl⟩
  rw [hB2] at k3
  have hwB : w.heap.size ≤ B2 := by omega
  have hwB1 : w.heap.size + 1 < B2 := by omega
  have HB2 := Lib.hid hB2
  have HADV := Lib.hid (AdvanceR_any day ans app fd ho mo hc mc H l W (hM.next hbW) (hI.next hbW) hn mn hl)
  have HBW := Lib.hid hbW
  have HS := Lib.hid hsW
  have K2 := Lib.hid k2
  have K3 := Lib.hid k3
  have HWW := Lib.hid hW
  obtain ⟨A, hA⟩ : ∃ A, fileF ⟨day, ans, app, H, l⟩ ⟨5, fd, fi, fo⟩ = A := ⟨_, rfl⟩
  rw [hA]
  have HAA := Lib.hid hA
  clear hI hM hn mn hbW hsW k2 k3 hW hA hB2
  have HE := Lib.hid hE
  have HADV := Lib.hid (HADV.out.mono fun e w' h => adv_post hE h)
  have hln := good_len hE
  simp only at hln
  have hl32 := hln.1
  have hH := hln.2
  clear hE hln
  go_enter Try.func28, Try.ntmps28
  go_wp2_with fail
  rw [HWW.out, HB2.out]
  refine HADV.out.mono ?_
  rintro e w3 ⟨ro, rc, mo', mc', v, L, hL, rfl, hO1, hO2, hO3, hb3⟩
  have hLl : L.length ≤ 32 := by rw [hL]; simpa using hl32
  have HLL := Lib.hid hL
  clear hL
  have hb3' := HBW.out.trans (hb3.mono HBW.out.size)
  have hsz : B2 < w3.heap.size := by have := hb3.size; have := HS.out; have := HB2.out; omega
  have hwW : w.heap.size ≤ W.heap.size := HBW.out.size
  go_upto_region 2 with fail
  generalize hw4 : w3.alloc (.cells #[.int .i64 fd, .int .i64 ans, .int .i64 app, .slice ro H.length rc, .slice mo' L.length mc'] 30) = w4
  have HK2 : Hid (w4.heap[w.heap.size + 1]? = some (fiObj 5 fd fi fo)) := Lib.hid (by rw [← hw4]; exact alloc_heap (keep_heap hb3 K2.out))
  have HK3 : Hid (w4.heap[B2]? = some dkZero) := Lib.hid (by rw [← hw4]; exact alloc_heap (keep_heap hb3 K3.out))
  have HKC : Hid (w4.heap[w3.heap.size]? = some (dkObj fd ans app ro H.length rc mo' L.length mc')) := Lib.hid (by rw [← hw4]; exact heap_alloc_new w3 _)
  have HO1 : Hid (w4.ownsRow w.heap.size 3 1 (.slice ro H.length rc) H.length (H.map (Value.int .i64))) := Lib.hid (by rw [← hw4]; exact (hO1.mono hwW).alloc _)
  have HO2 : Hid (w4.ownsRow w.heap.size 50 5 (.slice mo' L.length mc') L.length (L.flatMap mtCells)) := Lib.hid (by rw [← hw4]; exact (hO2.mono hwW).alloc _)
  have HO3 : Hid (RlOwn w.heap.size w4 v (advR ⟨day, ans, app, H, l⟩ fd)) := Lib.hid (by rw [← hw4]; exact World.ownsRow.alloc (World.ownsRow.mono hO3 hwW) _)
  have HB4 : Hid (Below w.heap.size w w4) := Lib.hid (by rw [← hw4]; exact hb3'.alloc hb3'.size _)
  have hs4 : w4.heap.size = w3.heap.size + 1 := by rw [← hw4]; simp
  have HS4 := Lib.hid hs4
  obtain ⟨C, hC⟩ : ∃ C, w3.heap.size = C := ⟨_, rfl⟩
  rw [hC] at HKC HS4 hsz ⊢
  have hwC : w.heap.size ≤ C := by omega
  clear hO1 hO2 hO3 hb3 hb3' HADV hw4 hs4 hC
  obtain ⟨p0, p1, p2, p3⟩ := four_cells HK2.out
  obtain ⟨x0, x1, x2, x3, x4⟩ := five_cells HKC.out
  have HF := Lib.hid (matterOf_any fd ans app fi ro mo' H.length rc mc' L w4 (owns_mts HO2.out) (by omega))
  by_cases hneg : findF L fi < 0
  · have hm1 : findF L fi = -1 := by have := find_ge L fi; omega
    rw [hm1] at HF
    have HNG := Lib.hid hneg
    clear hneg hm1
    go_wp2_with fail
    refine HF.out.mono ?_
    rintro e w5 ⟨rfl, hb5⟩
    have h2 := keep_heap hb5 HK3.out
    have hbb := HB4.out.trans (hb5.mono HB4.out.size)
    have p5 := put5 (x' := .int .i64 0) (y' := .int .i64 0) (z' := .int .i64 0) (u' := .slice none 0 0) (v' := .slice none 0 0) h2
    obtain ⟨z0, z1, z2, z3, z4⟩ := five_cells p5
    obtain ⟨y0, y1, y2, y3, y4⟩ := five_cells h2
    obtain ⟨f0, f1, f2, f3, f4⟩ := five_free h2
    have HZB := Lib.hid (below_put5 (x' := .int .i64 0) (y' := .int .i64 0) (z' := .int .i64 0) (u' := .slice none 0 0) (t' := .slice none 0 0) hbb hwB)
    clear p5
    clear h2 hbb hb5
    go_wp2_with fail
    refine bodyPost_ret (by simp [results, Try.results28, go_sem, z0, z1, z2, z3, z4]; rfl) rfl ?_
    have hE : A = noAns (11) := by rw [← HAA.out]; exact by rw [file_act HE.out, chg_none (by decide) (by decide) (by show findF (l.map (lapseF fd)) fi < 0; rw [← HLL.out]; exact HNG.out)]
    rw [hE]
    exact ans_none _ HZB.out
  obtain ⟨hil, hid⟩ := find_lt hneg
  obtain ⟨i, hi⟩ : ∃ i : Nat, findF L fi = (i : Int) := ⟨(findF L fi).toNat, by omega⟩
  rw [hi, Int.toNat_natCast] at hil
  rw [hi] at HF
  obtain ⟨m, hm⟩ : ∃ m, L.getD i default = m := ⟨_, rfl⟩
  have HFI := Lib.hid hi
  have HM := Lib.hid hm
  obtain ⟨g, rfl⟩ : ∃ g, mo' = some ⟨g, 0, none⟩ := by
    rcases HO2.out.2 with ⟨e1, e2⟩ | ⟨g, cap, cur, e1, _⟩
    · omega
    · cases e1; exact ⟨g, rfl⟩
  have hi0 : (0 : Int) ≤ (i : Int) := Int.natCast_nonneg _
  have hi1 : (i : Int) < (L.length : Int) := by omega
  have hi2 : ¬ (i : Int) < 0 := by omega
  clear hneg hid hi hm
  go_wp2_with fail
  refine HF.out.mono ?_
  rintro e w5 ⟨rfl, hb5⟩
  have HKC5 := Lib.hid (keep_heap hb5 HKC.out)
  have HK25 := Lib.hid (keep_heap hb5 HK2.out)
  have HK35 := Lib.hid (keep_heap hb5 HK3.out)
  have HO15 := Lib.hid (owns_next HO1.out hb5)
  have HO25 := Lib.hid (owns_next HO2.out hb5)
  have HO35 : Hid (RlOwn w.heap.size w5 v (advR ⟨day, ans, app, H, l⟩ fd)) := Lib.hid (owns_next HO3.out hb5)
  have HB5 := Lib.hid (HB4.out.trans (hb5.mono HB4.out.size))
  have HRQ := Lib.hid (required_any 5 4 (by decide) (by decide) rfl w5.drew)
  obtain ⟨p0, p1, p2, p3⟩ := four_cells HK25.out
  obtain ⟨x0, x1, x2, x3, x4⟩ := five_cells HKC5.out
  obtain ⟨m0, m1, m2, m3, m4⟩ := (owns_mt HO25.out hil HM.out).1
  try simp only at m0 m1 m2 m3 m4
  clear hb5
  go_wp2_with fail
  go_region_held3 (fun w' => w'.cell? ⟨C, 4, none⟩ = some (.slice (some ⟨g, 0, none⟩) L.length mc') ∧ w'.cell? ⟨w.heap.size + 1, 0, none⟩ = some (.int .i64 5) ∧ w'.cell? ⟨g, i * 5 + 1, none⟩ = some (.int .i64 m.st))
    (first | exact ⟨x4, p0, m1⟩ | exact ⟨y4, a0, n1⟩ | go_keep)
    (first
      | (go_at_call 48
         (with_reducible refine HRQ.out.mono ?_)
         rintro e wq ⟨rfl, hbq⟩
         have hb5q : Below w5.heap.size w5 wq := (Below.refl _ _).drew.trans hbq
         have HKCq := Lib.hid (keep_heap hb5q HKC5.out)
         have HK2q := Lib.hid (keep_heap hb5q HK25.out)
         have HK3q := Lib.hid (keep_heap hb5q HK35.out)
         have HO1q := Lib.hid (owns_next HO15.out hb5q)
         have HO2q := Lib.hid (owns_next HO25.out hb5q)
         have HO3q : Hid (RlOwn w.heap.size wq v (advR ⟨day, ans, app, H, l⟩ fd)) := Lib.hid (owns_next HO35.out hb5q)
         have HBq := Lib.hid (HB5.out.trans (hb5q.mono HB5.out.size))
         obtain ⟨y0, y1, y2, y3, y4⟩ := five_cells HKCq.out
         obtain ⟨a0, a1, a2, a3⟩ := four_cells HK2q.out
         obtain ⟨n0, n1, n2, n3, n4⟩ := (owns_mt HO2q.out hil HM.out).1
         clear hbq hb5q))
  clear x0 x1 x2 x3 x4 p0 p1 p2 p3 m0 m1 m2 m3 m4
  by_cases hst : m.st = 4
  case neg =>
    have hq : (m.st != 4) = true := by simpa using hst
    have HST := Lib.hid hst
    clear hst y0 y1 y2 y3 y4 n0 n1 n2 n3 n4
    go_upto_region 15 with fail
    have h2 := HK3q.out
    have hbb := HBq.out
    have hszq : B2 < wq.heap.size := (Array.getElem?_eq_some_iff.1 h2).1
    have p5 := put5 (x' := .int .i64 0) (y' := .int .i64 0) (z' := .int .i64 0) (u' := .slice none 0 0) (v' := .slice none 0 0) h2
    obtain ⟨z0, z1, z2, z3, z4⟩ := five_cells p5
    obtain ⟨y0, y1, y2, y3, y4⟩ := five_cells h2
    obtain ⟨f0, f1, f2, f3, f4⟩ := five_free h2
    have HZB := Lib.hid (below_put5 (x' := .int .i64 0) (y' := .int .i64 0) (z' := .int .i64 0) (u' := .slice none 0 0) (t' := .slice none 0 0) hbb hwB)
    clear p5
    clear h2 hbb
    go_wp2_with fail
    refine bodyPost_ret (by simp [results, Try.results28, go_sem, z0, z1, z2, z3, z4]; rfl) rfl ?_
    have hE : A = noAns (13) := by rw [← HAA.out]; exact by rw [file_act HE.out, chg_err (i := i) (c := 13) (by decide) (by decide) (by show findF (l.map (lapseF fd)) fi = _; rw [← HLL.out]; exact HFI.out) (by show (changeF ⟨fd, ans, app, H, l.map (lapseF fd)⟩ _ ((l.map (lapseF fd)).getD i default)).2 = _; rw [← HLL.out, HM.out]; exact change_st (by simpa using HST.out)) (by decide)]
    rw [hE]
    exact ans_none _ HZB.out
  have hq3 : (m.st != 4) = false := by simpa using hst
  have HCH := Lib.hid (changeR5_any w.heap.size g mc' i C L m fd fd fd fi fo ans app ro (some ⟨g, 0, none⟩) rc L.length mc' H L wq.drew HKCq.out HO2q.out HBq.out.size hil HM.out hst)
  obtain ⟨r, hr⟩ : ∃ r, changeF ⟨fd, ans, app, H, L⟩ ⟨5, fd, fi, fo⟩ m = r := ⟨_, rfl⟩
  rw [hr] at HCH
  have HR := Lib.hid hr
  clear hr hst
  go_wp2_with fail
  go_region_held3 (fun w' => w'.cell? ⟨C, 4, none⟩ = some (.slice (some ⟨g, 0, none⟩) L.length mc') ∧ w'.cell? ⟨w.heap.size + 1, 0, none⟩ = some (.int .i64 5) ∧ w'.cell? ⟨w.heap.size + 1, 1, none⟩ = some (.int .i64 fd) ∧ w'.cell? ⟨w.heap.size + 1, 2, none⟩ = some (.int .i64 fi) ∧ w'.cell? ⟨w.heap.size + 1, 3, none⟩ = some (.int .i64 fo))
    (first | exact ⟨y4, a0, a1, a2, a3⟩ | exact ⟨q4, s0, s1, s2, s3⟩ | go_keep)
    (first
      | (go_at_call 49
         refine HCH.out.mono ?_
         intro e w6 hpost
         obtain ⟨rfl, hbad, hgood⟩ := hpost
         have hcc : w6.heap[C]? = some (dkObj fd ans app ro H.length rc (some ⟨g, 0, none⟩) L.length mc') ∧ w6.heap[w.heap.size + 1]? = some (fiObj 5 fd fi fo) ∧ w6.heap[B2]? = some dkZero ∧ w6.ownsRow w.heap.size 3 1 (.slice ro H.length rc) H.length (H.map (Value.int .i64)) ∧ RlOwn w.heap.size w6 v (advR ⟨day, ans, app, H, l⟩ fd) ∧ Below w.heap.size w w6 ∧ C < w6.heap.size := chg_facts HO2q.out HKCq.out HK2q.out HK3q.out HO1q.out HO3q.out HBq.out hwC hbad hgood
         have HCC := Lib.hid hcc
         have HGD := Lib.hid hgood
         obtain ⟨q0, q1, q2, q3, q4⟩ := five_cells HCC.out.1
         obtain ⟨s0, s1, s2, s3⟩ := four_cells HCC.out.2.1
         clear hbad hgood hcc))
  clear y0 y1 y2 y3 y4 a0 a1 a2 a3 n0 n1 n2 n3 n4
  have hsz6 : B2 < w6.heap.size := by have := HCC.out.2.2.2.2.2.2; omega
  by_cases hrz : r.2 = 0
  · obtain ⟨m', hm'⟩ : ∃ m', r = (m', 0) := ⟨r.1, by rw [← hrz]⟩
    subst hm'
    have HO6 := Lib.hid (HGD.out rfl).1
    have h2 := HCC.out.2.2.1
    have hbb := HCC.out.2.2.2.2.2.1
    have r1 := HCC.out.2.2.2.1
    have r3 := HCC.out.2.2.2.2.1
    have r2 := HO6.out
    have p5 := put5 (x' := .int .i64 fd) (y' := .int .i64 ans) (z' := .int .i64 app) (u' := .slice ro H.length rc) (v' := .slice (some ⟨g, 0, none⟩) (L.length) mc') h2
    obtain ⟨z0, z1, z2, z3, z4⟩ := five_cells p5
    obtain ⟨y0, y1, y2, y3, y4⟩ := five_cells h2
    obtain ⟨f0, f1, f2, f3, f4⟩ := five_free h2
    have R1 := Lib.hid (owns_put5 (x' := .int .i64 fd) (y' := .int .i64 ans) (z' := .int .i64 app) (u' := .slice ro H.length rc) (t' := .slice (some ⟨g, 0, none⟩) (L.length) mc') r1 h2 (by decide))
    have R2 := Lib.hid (owns_put5 (x' := .int .i64 fd) (y' := .int .i64 ans) (z' := .int .i64 app) (u' := .slice ro H.length rc) (t' := .slice (some ⟨g, 0, none⟩) (L.length) mc') r2 h2 (by decide))
    have R3 := Lib.hid (owns_put5 (x' := .int .i64 fd) (y' := .int .i64 ans) (z' := .int .i64 app) (u' := .slice ro H.length rc) (t' := .slice (some ⟨g, 0, none⟩) (L.length) mc') r3 h2 (by decide))
    have R4 := Lib.hid (below_put5 (x' := .int .i64 fd) (y' := .int .i64 ans) (z' := .int .i64 app) (u' := .slice ro H.length rc) (t' := .slice (some ⟨g, 0, none⟩) (L.length) mc') hbb hwB)
    clear p5
    clear h2 hbb r1 r2 r3
    dsimp only
    go_wp2_with fail
    refine bodyPost_ret (by simp [results, Try.results28, go_sem, z0, z1, z2, z3, z4]; rfl) rfl ?_
    have hE : A = (⟨fd, ans, app, H, L.set i m'⟩, advR ⟨day, ans, app, H, l⟩ fd, 0) := by rw [← HAA.out]; exact by rw [file_act HE.out, chg_ok (i := i) (m := m') (by decide) (by decide) (by show findF (l.map (lapseF fd)) fi = _; rw [← HLL.out]; exact HFI.out) (by show changeF ⟨fd, ans, app, H, l.map (lapseF fd)⟩ _ ((l.map (lapseF fd)).getD i default) = _; rw [← HLL.out, HM.out]; exact HR.out)]; simp [advD, HLL.out]
    rw [hE]
    exact ans_file (by simp) R1.out R2.out R3.out R4.out
  · obtain ⟨m', c⟩ := r
    simp only at hrz
    have hq : (c != 0) = true := by simpa using hrz
    have HRZ := Lib.hid hrz
    have h2 := HCC.out.2.2.1
    have hbb := HCC.out.2.2.2.2.2.1
    have p5 := put5 (x' := .int .i64 0) (y' := .int .i64 0) (z' := .int .i64 0) (u' := .slice none 0 0) (v' := .slice none 0 0) h2
    obtain ⟨z0, z1, z2, z3, z4⟩ := five_cells p5
    obtain ⟨y0, y1, y2, y3, y4⟩ := five_cells h2
    obtain ⟨f0, f1, f2, f3, f4⟩ := five_free h2
    have HZB := Lib.hid (below_put5 (x' := .int .i64 0) (y' := .int .i64 0) (z' := .int .i64 0) (u' := .slice none 0 0) (t' := .slice none 0 0) hbb hwB)
    clear p5
    clear h2 hbb hrz
    dsimp only
    go_wp2_with fail
    refine bodyPost_ret (by simp [results, Try.results28, go_sem, z0, z1, z2, z3, z4]; rfl) rfl ?_
    have hE : A = noAns (c) := by rw [← HAA.out]; exact by rw [file_act HE.out, chg_err (i := i) (c := c) (by decide) (by decide) (by show findF (l.map (lapseF fd)) fi = _; rw [← HLL.out]; exact HFI.out) (by show (changeF ⟨fd, ans, app, H, l.map (lapseF fd)⟩ _ ((l.map (lapseF fd)).getD i default)).2 = _; rw [← HLL.out, HM.out, HR.out]) HRZ.out]
    rw [hE]
    exact ans_none _ HZB.out

set_option maxRecDepth 100000 in
set_option maxHeartbeats 2000000 in
theorem fileR_chg6 (day ans app fd fi fo : Int) (ho mo : Option Addr) (hc mc : Nat) (H : List Int) (l : List Mt) (w : World) (hM : Mts w mo l) (hI : Ints w ho H) (hn : ho = none → hc = 0) (mn : mo = none → mc = 0) (hl : l.length ≤ 9223372036854775807) (hE : advE ⟨day, ans, app, H, l⟩ fd = 0) :
    Calls Try.prog 28 #[.agg #[.int .i64 day, .int .i64 ans, .int .i64 app, .slice ho H.length hc, .slice mo l.length mc], .agg #[.int .i64 6, .int .i64 fd, .int .i64 fi, .int .i64 fo]] w (AnsPost w.heap.size w (fileF ⟨day, ans, app, H, l⟩ ⟨6, fd, fi, fo⟩)) := by
  obtain ⟨W, hW⟩ : ∃ W, ((w.alloc (dkObj day ans app ho H.length hc mo l.length mc)).alloc (fiObj 6 fd fi fo)).alloc dkZero = W := ⟨_, rfl⟩
  obtain ⟨hbW, k2, k3, hsW⟩ := file_made hW
  obtain ⟨B2, hB2⟩ : ∃ B2, w.heap.size + 1 + 1 = B2 := ⟨_, rfl⟩
  rw [hB2] at k3
  have hwB : w.heap.size ≤ B2 := by omega
  have hwB1 : w.heap.size + 1 < B2 := by omega
  have HB2 := Lib.hid hB2
  have HADV := Lib.hid (AdvanceR_any day ans app fd ho mo hc mc H l W (hM.next hbW) (hI.next hbW) hn mn hl)
  have HBW := Lib.hid hbW
  have HS := Lib.hid hsW
  have K2 := Lib.hid k2
  have K3 := Lib.hid k3
  have HWW := Lib.hid hW
  obtain ⟨A, hA⟩ : ∃ A, fileF ⟨day, ans, app, H, l⟩ ⟨6, fd, fi, fo⟩ = A := ⟨_, rfl⟩
  rw [hA]
  have HAA := Lib.hid hA
  clear hI hM hn mn hbW hsW k2 k3 hW hA hB2
  have HE := Lib.hid hE
  have HADV := Lib.hid (HADV.out.mono fun e w' h => adv_post hE h)
  have hln := good_len hE
  simp only at hln
  have hl32 := hln.1
  have hH := hln.2
  clear hE hln
  obtain ⟨j0, hj, jz0, jz1, jz2⟩ := info_split Try.infoRuling
  go_enter Try.func28, Try.ntmps28
  go_wp2_with fail
  rw [HWW.out, HB2.out]
  refine HADV.out.mono ?_
  rintro e w3 ⟨ro, rc, mo', mc', v, L, hL, rfl, hO1, hO2, hO3, hb3⟩
  have hLl : L.length ≤ 32 := by rw [hL]; simpa using hl32
  have HLL := Lib.hid hL
  clear hL
  have hb3' := HBW.out.trans (hb3.mono HBW.out.size)
  have hsz : B2 < w3.heap.size := by have := hb3.size; have := HS.out; have := HB2.out; omega
  have hwW : w.heap.size ≤ W.heap.size := HBW.out.size
  go_upto_region 2 with fail
  generalize hw4 : w3.alloc (.cells #[.int .i64 fd, .int .i64 ans, .int .i64 app, .slice ro H.length rc, .slice mo' L.length mc'] 30) = w4
  have HK2 : Hid (w4.heap[w.heap.size + 1]? = some (fiObj 6 fd fi fo)) := Lib.hid (by rw [← hw4]; exact alloc_heap (keep_heap hb3 K2.out))
  have HK3 : Hid (w4.heap[B2]? = some dkZero) := Lib.hid (by rw [← hw4]; exact alloc_heap (keep_heap hb3 K3.out))
  have HKC : Hid (w4.heap[w3.heap.size]? = some (dkObj fd ans app ro H.length rc mo' L.length mc')) := Lib.hid (by rw [← hw4]; exact heap_alloc_new w3 _)
  have HO1 : Hid (w4.ownsRow w.heap.size 3 1 (.slice ro H.length rc) H.length (H.map (Value.int .i64))) := Lib.hid (by rw [← hw4]; exact (hO1.mono hwW).alloc _)
  have HO2 : Hid (w4.ownsRow w.heap.size 50 5 (.slice mo' L.length mc') L.length (L.flatMap mtCells)) := Lib.hid (by rw [← hw4]; exact (hO2.mono hwW).alloc _)
  have HO3 : Hid (RlOwn w.heap.size w4 v (advR ⟨day, ans, app, H, l⟩ fd)) := Lib.hid (by rw [← hw4]; exact World.ownsRow.alloc (World.ownsRow.mono hO3 hwW) _)
  have HB4 : Hid (Below w.heap.size w w4) := Lib.hid (by rw [← hw4]; exact hb3'.alloc hb3'.size _)
  have hs4 : w4.heap.size = w3.heap.size + 1 := by rw [← hw4]; simp
  have HS4 := Lib.hid hs4
  obtain ⟨C, hC⟩ : ∃ C, w3.heap.size = C := ⟨_, rfl⟩
  rw [hC] at HKC HS4 hsz ⊢
  have hwC : w.heap.size ≤ C := by omega
  clear hO1 hO2 hO3 hb3 hb3' HADV hw4 hs4 hC
  obtain ⟨p0, p1, p2, p3⟩ := four_cells HK2.out
  obtain ⟨x0, x1, x2, x3, x4⟩ := five_cells HKC.out
  have HF := Lib.hid (matterOf_any fd ans app fi ro mo' H.length rc mc' L w4 (owns_mts HO2.out) (by omega))
  by_cases hneg : findF L fi < 0
  · have hm1 : findF L fi = -1 := by have := find_ge L fi; omega
    rw [hm1] at HF
    have HNG := Lib.hid hneg
    clear hneg hm1
    go_wp2_with fail
    refine HF.out.mono ?_
    rintro e w5 ⟨rfl, hb5⟩
    have h2 := keep_heap hb5 HK3.out
    have hbb := HB4.out.trans (hb5.mono HB4.out.size)
    have p5 := put5 (x' := .int .i64 0) (y' := .int .i64 0) (z' := .int .i64 0) (u' := .slice none 0 0) (v' := .slice none 0 0) h2
    obtain ⟨z0, z1, z2, z3, z4⟩ := five_cells p5
    obtain ⟨y0, y1, y2, y3, y4⟩ := five_cells h2
    obtain ⟨f0, f1, f2, f3, f4⟩ := five_free h2
    have HZB := Lib.hid (below_put5 (x' := .int .i64 0) (y' := .int .i64 0) (z' := .int .i64 0) (u' := .slice none 0 0) (t' := .slice none 0 0) hbb hwB)
    clear p5
    clear h2 hbb hb5
    go_wp2_with fail
    refine bodyPost_ret (by simp [results, Try.results28, go_sem, z0, z1, z2, z3, z4]; rfl) rfl ?_
    have hE : A = noAns (11) := by rw [← HAA.out]; exact by rw [file_act HE.out, chg_none (by decide) (by decide) (by show findF (l.map (lapseF fd)) fi < 0; rw [← HLL.out]; exact HNG.out)]
    rw [hE]
    exact ans_none _ HZB.out
  obtain ⟨hil, hid⟩ := find_lt hneg
  obtain ⟨i, hi⟩ : ∃ i : Nat, findF L fi = (i : Int) := ⟨(findF L fi).toNat, by omega⟩
  rw [hi, Int.toNat_natCast] at hil
  rw [hi] at HF
  obtain ⟨m, hm⟩ : ∃ m, L.getD i default = m := ⟨_, rfl⟩
  have HFI := Lib.hid hi
  have HM := Lib.hid hm
  obtain ⟨g, rfl⟩ : ∃ g, mo' = some ⟨g, 0, none⟩ := by
    rcases HO2.out.2 with ⟨e1, e2⟩ | ⟨g, cap, cur, e1, _⟩
    · omega
    · cases e1; exact ⟨g, rfl⟩
  have hi0 : (0 : Int) ≤ (i : Int) := Int.natCast_nonneg _
  have hi1 : (i : Int) < (L.length : Int) := by omega
  have hi2 : ¬ (i : Int) < 0 := by omega
  clear hneg hid hi hm
  go_wp2_with fail
  refine HF.out.mono ?_
  rintro e w5 ⟨rfl, hb5⟩
  have HKC5 := Lib.hid (keep_heap hb5 HKC.out)
  have HK25 := Lib.hid (keep_heap hb5 HK2.out)
  have HK35 := Lib.hid (keep_heap hb5 HK3.out)
  have HO15 := Lib.hid (owns_next HO1.out hb5)
  have HO25 := Lib.hid (owns_next HO2.out hb5)
  have HO35 : Hid (RlOwn w.heap.size w5 v (advR ⟨day, ans, app, H, l⟩ fd)) := Lib.hid (owns_next HO3.out hb5)
  have HB5 := Lib.hid (HB4.out.trans (hb5.mono HB4.out.size))
  have HRQ := Lib.hid (required_any 6 5 (by decide) (by decide) rfl w5.drew)
  obtain ⟨p0, p1, p2, p3⟩ := four_cells HK25.out
  obtain ⟨x0, x1, x2, x3, x4⟩ := five_cells HKC5.out
  obtain ⟨m0, m1, m2, m3, m4⟩ := (owns_mt HO25.out hil HM.out).1
  try simp only at m0 m1 m2 m3 m4
  clear hb5
  go_wp2_with fail
  go_region_held3 (fun w' => w'.cell? ⟨C, 4, none⟩ = some (.slice (some ⟨g, 0, none⟩) L.length mc') ∧ w'.cell? ⟨w.heap.size + 1, 0, none⟩ = some (.int .i64 6) ∧ w'.cell? ⟨g, i * 5 + 1, none⟩ = some (.int .i64 m.st))
    (first | exact ⟨x4, p0, m1⟩ | exact ⟨y4, a0, n1⟩ | go_keep)
    (first
      | (go_at_call 48
         (with_reducible refine HRQ.out.mono ?_)
         rintro e wq ⟨rfl, hbq⟩
         have hb5q : Below w5.heap.size w5 wq := (Below.refl _ _).drew.trans hbq
         have HKCq := Lib.hid (keep_heap hb5q HKC5.out)
         have HK2q := Lib.hid (keep_heap hb5q HK25.out)
         have HK3q := Lib.hid (keep_heap hb5q HK35.out)
         have HO1q := Lib.hid (owns_next HO15.out hb5q)
         have HO2q := Lib.hid (owns_next HO25.out hb5q)
         have HO3q : Hid (RlOwn w.heap.size wq v (advR ⟨day, ans, app, H, l⟩ fd)) := Lib.hid (owns_next HO35.out hb5q)
         have HBq := Lib.hid (HB5.out.trans (hb5q.mono HB5.out.size))
         obtain ⟨y0, y1, y2, y3, y4⟩ := five_cells HKCq.out
         obtain ⟨a0, a1, a2, a3⟩ := four_cells HK2q.out
         obtain ⟨n0, n1, n2, n3, n4⟩ := (owns_mt HO2q.out hil HM.out).1
         clear hbq hb5q))
  clear x0 x1 x2 x3 x4 p0 p1 p2 p3 m0 m1 m2 m3 m4
  by_cases hst : m.st = 5
  case neg =>
    have hq : (m.st != 5) = true := by simpa using hst
    have HST := Lib.hid hst
    clear hst y0 y1 y2 y3 y4 n0 n1 n2 n3 n4
    go_upto_region 15 with fail
    have h2 := HK3q.out
    have hbb := HBq.out
    have hszq : B2 < wq.heap.size := (Array.getElem?_eq_some_iff.1 h2).1
    have p5 := put5 (x' := .int .i64 0) (y' := .int .i64 0) (z' := .int .i64 0) (u' := .slice none 0 0) (v' := .slice none 0 0) h2
    obtain ⟨z0, z1, z2, z3, z4⟩ := five_cells p5
    obtain ⟨y0, y1, y2, y3, y4⟩ := five_cells h2
    obtain ⟨f0, f1, f2, f3, f4⟩ := five_free h2
    have HZB := Lib.hid (below_put5 (x' := .int .i64 0) (y' := .int .i64 0) (z' := .int .i64 0) (u' := .slice none 0 0) (t' := .slice none 0 0) hbb hwB)
    clear p5
    clear h2 hbb
    go_wp2_with fail
    refine bodyPost_ret (by simp [results, Try.results28, go_sem, z0, z1, z2, z3, z4]; rfl) rfl ?_
    have hE : A = noAns (13) := by rw [← HAA.out]; exact by rw [file_act HE.out, chg_err (i := i) (c := 13) (by decide) (by decide) (by show findF (l.map (lapseF fd)) fi = _; rw [← HLL.out]; exact HFI.out) (by show (changeF ⟨fd, ans, app, H, l.map (lapseF fd)⟩ _ ((l.map (lapseF fd)).getD i default)).2 = _; rw [← HLL.out, HM.out]; exact change_st (by simpa using HST.out)) (by decide)]
    rw [hE]
    exact ans_none _ HZB.out
  have hq3 : (m.st != 5) = false := by simpa using hst
  have HCH := Lib.hid (changeR6_any w.heap.size g mc' i C L m fd fd fd fi fo ans app ro (some ⟨g, 0, none⟩) rc L.length mc' H L wq.drew HKCq.out HO2q.out HBq.out.size hil HM.out hst (lapsed_due HE.out (by rw [← HLL.out]; exact hil) (by rw [← HLL.out]; exact HM.out) hst))
  obtain ⟨r, hr⟩ : ∃ r, changeF ⟨fd, ans, app, H, L⟩ ⟨6, fd, fi, fo⟩ m = r := ⟨_, rfl⟩
  rw [hr] at HCH
  have HR := Lib.hid hr
  clear hr hst
  go_wp2_with fail
  go_region_held3 (fun w' => w'.cell? ⟨C, 4, none⟩ = some (.slice (some ⟨g, 0, none⟩) L.length mc') ∧ w'.cell? ⟨w.heap.size + 1, 0, none⟩ = some (.int .i64 6) ∧ w'.cell? ⟨w.heap.size + 1, 1, none⟩ = some (.int .i64 fd) ∧ w'.cell? ⟨w.heap.size + 1, 2, none⟩ = some (.int .i64 fi) ∧ w'.cell? ⟨w.heap.size + 1, 3, none⟩ = some (.int .i64 fo))
    (first | exact ⟨y4, a0, a1, a2, a3⟩ | exact ⟨q4, s0, s1, s2, s3⟩ | go_keep)
    (first
      | (go_at_call 49
         refine HCH.out.mono ?_
         intro e w6 hpost
         obtain ⟨rfl, hbad, hgood⟩ := hpost
         have hcc : w6.heap[C]? = some (dkObj fd ans app ro H.length rc (some ⟨g, 0, none⟩) L.length mc') ∧ w6.heap[w.heap.size + 1]? = some (fiObj 6 fd fi fo) ∧ w6.heap[B2]? = some dkZero ∧ w6.ownsRow w.heap.size 3 1 (.slice ro H.length rc) H.length (H.map (Value.int .i64)) ∧ RlOwn w.heap.size w6 v (advR ⟨day, ans, app, H, l⟩ fd) ∧ Below w.heap.size w w6 ∧ C < w6.heap.size := chg_facts HO2q.out HKCq.out HK2q.out HK3q.out HO1q.out HO3q.out HBq.out hwC hbad hgood
         have HCC := Lib.hid hcc
         have HGD := Lib.hid hgood
         obtain ⟨q0, q1, q2, q3, q4⟩ := five_cells HCC.out.1
         obtain ⟨s0, s1, s2, s3⟩ := four_cells HCC.out.2.1
         clear hbad hgood hcc))
  clear y0 y1 y2 y3 y4 a0 a1 a2 a3 n0 n1 n2 n3 n4
  have hsz6 : B2 < w6.heap.size := by have := HCC.out.2.2.2.2.2.2; omega
  by_cases hrz : r.2 = 0
  · obtain ⟨m', hm'⟩ : ∃ m', r = (m', 0) := ⟨r.1, by rw [← hrz]⟩
    subst hm'
    have HO6 := Lib.hid (HGD.out rfl).1
    have h2 := HCC.out.2.2.1
    have hbb := HCC.out.2.2.2.2.2.1
    have r1 := HCC.out.2.2.2.1
    have r3 := HCC.out.2.2.2.2.1
    have r2 := HO6.out
    have hLR := advR_le HE.out
    obtain ⟨nr, hnr⟩ : ∃ nr, (advR ⟨day, ans, app, H, l⟩ fd).length = nr := ⟨_, rfl⟩
    unfold RlOwn at r3
    rw [hnr] at r3 hLR
    have HNR := Lib.hid hnr
    have HO36 := Lib.hid r3
    have H26 := Lib.hid h2
    have HB6 := Lib.hid hbb
    have HO16 := Lib.hid r1
    clear h2 hbb r1 r2 r3 hnr
    dsimp only
    go_wp2_with (at_builtin
                 refine wpList_append_lies _ rfl (.tmp 69) (.tmp 77) 32 rfl w.heap.size 52 j0 (.agg #[.int .i64 0, .int .i64 0, .int .i64 0]) 3 24 Try.underlying32 hj jz0 jz1 jz2 rfl (by decide) _ nr _ rfl (HO36.out.alloc _) ⟨w6.heap.size, 0, none⟩ 1 1 [.int .i64 fi, .int .i64 fd, .int .i64 fo] rfl rfl (World.news_of_block (cs := #[.int .i64 fi, .int .i64 fd, .int .i64 fo]) (t := 52) (fr := (0, 0)) (heap_alloc_new w6 _)) (by simp [Value.oneCell']) (by omega) (by unfold maxLen; omega) (by omega) (by simp; omega) (w6.heap.size + 1) (by simp) ?_
                 intro gg cap7 w7 hown7 hg7 hat7 hlt7
                 have h2 := heap_grown (alloc_heap (o' := .cells #[.int .i64 fi, .int .i64 fd, .int .i64 fo] 52) H26.out) (HO36.out.alloc _) (by decide) hg7
                 have hC7 := heap_grown (alloc_heap (o' := .cells #[.int .i64 fi, .int .i64 fd, .int .i64 fo] 52) HCC.out.1) (HO36.out.alloc _) (by decide) hg7
                 have r1 := owns_grown (HO16.out.alloc _) (HO36.out.alloc _) (by decide) hg7
                 have r2 := owns_grown (HO6.out.alloc _) (HO36.out.alloc _) (by decide) hg7
                 have hbb : Below w.heap.size w w7 := (HB6.out.alloc HB6.out.size _).grown hg7 (by simp; omega) (fun j hj => (HO36.out.lt j hj).1)
                 obtain ⟨x0, x1, x2, x3, x4⟩ := five_cells hC7
                 have hsz7 : B2 < w7.heap.size := (Array.getElem?_eq_some_iff.1 h2).1
                 have p5 := put5 (x' := .int .i64 fd) (y' := .int .i64 ans) (z' := .int .i64 app) (u' := .slice ro H.length rc) (v' := .slice (some ⟨g, 0, none⟩) (L.length) mc') h2
                 obtain ⟨z0, z1, z2, z3, z4⟩ := five_cells p5
                 obtain ⟨y0, y1, y2, y3, y4⟩ := five_cells h2
                 obtain ⟨f0, f1, f2, f3, f4⟩ := five_free h2
                 have R1 := Lib.hid (owns_put5 (x' := .int .i64 fd) (y' := .int .i64 ans) (z' := .int .i64 app) (u' := .slice ro H.length rc) (t' := .slice (some ⟨g, 0, none⟩) (L.length) mc') r1 h2 (by decide))
                 have R2 := Lib.hid (owns_put5 (x' := .int .i64 fd) (y' := .int .i64 ans) (z' := .int .i64 app) (u' := .slice ro H.length rc) (t' := .slice (some ⟨g, 0, none⟩) (L.length) mc') r2 h2 (by decide))
                 have R3 := Lib.hid (owns_put5 (x' := .int .i64 fd) (y' := .int .i64 ans) (z' := .int .i64 app) (u' := .slice ro H.length rc) (t' := .slice (some ⟨g, 0, none⟩) (L.length) mc') hown7 h2 (by decide))
                 have R4 := Lib.hid (below_put5 (x' := .int .i64 fd) (y' := .int .i64 ans) (z' := .int .i64 app) (u' := .slice ro H.length rc) (t' := .slice (some ⟨g, 0, none⟩) (L.length) mc') hbb hwB)
                 clear p5
                 clear h2 hC7 r1 r2 hbb hown7 hg7 hat7 hlt7)
    refine bodyPost_ret (by simp [results, Try.results28, go_sem, z0, z1, z2, z3, z4]; rfl) rfl ?_
    have hE : A = (⟨fd, ans, app, H, L.set i m'⟩, advR ⟨day, ans, app, H, l⟩ fd ++ [⟨fi, fd, fo⟩], 0) := by rw [← HAA.out]; exact by rw [file_act HE.out, chg_ok (i := i) (m := m') (by decide) (by decide) (by show findF (l.map (lapseF fd)) fi = _; rw [← HLL.out]; exact HFI.out) (by show changeF ⟨fd, ans, app, H, l.map (lapseF fd)⟩ _ ((l.map (lapseF fd)).getD i default) = _; rw [← HLL.out, HM.out]; exact HR.out)]; simp [advD, HLL.out]
    rw [hE]
    refine ans_file (by simp) R1.out R2.out ?_ R4.out
    unfold RlOwn
    rw [List.length_append, HNR.out, List.flatMap_append]
    exact R3.out
  · obtain ⟨m', c⟩ := r
    simp only at hrz
    have hq : (c != 0) = true := by simpa using hrz
    have HRZ := Lib.hid hrz
    have h2 := HCC.out.2.2.1
    have hbb := HCC.out.2.2.2.2.2.1
    have p5 := put5 (x' := .int .i64 0) (y' := .int .i64 0) (z' := .int .i64 0) (u' := .slice none 0 0) (v' := .slice none 0 0) h2
    obtain ⟨z0, z1, z2, z3, z4⟩ := five_cells p5
    obtain ⟨y0, y1, y2, y3, y4⟩ := five_cells h2
    obtain ⟨f0, f1, f2, f3, f4⟩ := five_free h2
    have HZB := Lib.hid (below_put5 (x' := .int .i64 0) (y' := .int .i64 0) (z' := .int .i64 0) (u' := .slice none 0 0) (t' := .slice none 0 0) hbb hwB)
    clear p5
    clear h2 hbb hrz
    dsimp only
    go_wp2_with fail
    refine bodyPost_ret (by simp [results, Try.results28, go_sem, z0, z1, z2, z3, z4]; rfl) rfl ?_
    have hE : A = noAns (c) := by rw [← HAA.out]; exact by rw [file_act HE.out, chg_err (i := i) (c := c) (by decide) (by decide) (by show findF (l.map (lapseF fd)) fi = _; rw [← HLL.out]; exact HFI.out) (by show (changeF ⟨fd, ans, app, H, l.map (lapseF fd)⟩ _ ((l.map (lapseF fd)).getD i default)).2 = _; rw [← HLL.out, HM.out, HR.out]) HRZ.out]
    rw [hE]
    exact ans_none _ HZB.out
end Go.Proofs.Ytpddpdkdlodniaa
