/-
  File: the errors of Advance, filings of no kind, openings.
-/
import Derived.Test.YtpddpdkdlodniaaOFile0
namespace Go.Proofs.Ytpddpdkdlodniaa
open Go.RowKit

set_option maxRecDepth 100000 in
set_option maxHeartbeats 600000 in
theorem file_adverr (day ans app fk fd fi fo : Int) (ho mo : Option Addr) (hc mc : Nat) (H : List Int) (l : List Mt) (w : World) (hM : Mts w mo l) (hI : Ints w ho H) (hcap : l.length ≤ mc) (hl : l.length ≤ 9223372036854775807) (hE : ¬ advE ⟨day, ans, app, H, l⟩ fd = 0) :
    Calls Try.prog 20 #[.agg #[.int .i64 day, .int .i64 ans, .int .i64 app, .slice ho H.length hc, .slice mo l.length mc], .agg #[.int .i64 fk, .int .i64 fd, .int .i64 fi, .int .i64 fo]] w (AnsPost w.heap.size w (fileF ⟨day, ans, app, H, l⟩ ⟨fk, fd, fi, fo⟩)) := by
  obtain ⟨W, hW⟩ : ∃ W, ((w.alloc (dkObj day ans app ho H.length hc mo l.length mc)).alloc (fiObj fk fd fi fo)).alloc dkZero = W := ⟨_, rfl⟩
  obtain ⟨hbW, k2, k3, hsW⟩ := file_made hW
  obtain ⟨B2, hB2⟩ : ∃ B2, w.heap.size + 1 + 1 = B2 := ⟨_, rfl⟩
  rw [hB2] at k3
  have hwB : w.heap.size ≤ B2 := by omega
  have hwB1 : w.heap.size + 1 < B2 := by omega
  have HB2 := Lib.hid hB2
  have HADV := Lib.hid (Advance_any day ans app fd ho mo hc mc H l W (hM.next hbW) (hI.next hbW) hcap hl)
  have HBW := Lib.hid hbW
  have HS := Lib.hid hsW
  have K2 := Lib.hid k2
  have K3 := Lib.hid k3
  have HWW := Lib.hid hW
  obtain ⟨A, hA⟩ : ∃ A, fileF ⟨day, ans, app, H, l⟩ ⟨fk, fd, fi, fo⟩ = A := ⟨_, rfl⟩
  rw [hA]
  have HAA := Lib.hid hA
  clear hI hM hbW hsW k2 k3 hW hA hB2
  obtain ⟨c, hc'⟩ : ∃ c, advE ⟨day, ans, app, H, l⟩ fd = c := ⟨_, rfl⟩
  rw [hc'] at hE
  rw [adv_noans hc' hE] at HADV
  have HADV := Lib.hid (HADV.out.mono fun e w' h => adv_err_post h)
  have HC := Lib.hid hc'
  have HN := Lib.hid hE
  have hq : (c != 0) = true := by simpa using hE
  clear hc' hE
  go_enter Try.func20, Try.ntmps20
  go_wp2_with fail
  rw [HWW.out, HB2.out]
  refine HADV.out.mono ?_
  rintro e w3 ⟨ro, rc, mo', mc', v, rfl, hb3⟩
  have h2 := keep_heap hb3 K3.out
  have hb3' := HBW.out.trans (hb3.mono HBW.out.size)
  have hsz : B2 < w3.heap.size := (Array.getElem?_eq_some_iff.1 h2).1
  go_upto_region 2 with fail
  generalize hw4 : w3.alloc (.cells #[.int .i64 0, .int .i64 0, .int .i64 0, .slice ro 0 rc, .slice mo' 0 mc'] 30) = w4
  have h2a : w4.heap[B2]? = some dkZero := by rw [← hw4]; exact alloc_heap h2
  have hb4 : Below w.heap.size w w4 := by rw [← hw4]; exact hb3'.alloc hb3'.size _
  clear h2 hb3 hb3' HADV hw4
  have p5 := put5 (x' := .int .i64 0) (y' := .int .i64 0) (z' := .int .i64 0) (u' := .slice none 0 0) (v' := .slice none 0 0) h2a
  obtain ⟨z0, z1, z2, z3, z4⟩ := five_cells p5
  obtain ⟨y0, y1, y2, y3, y4⟩ := five_cells h2a
  obtain ⟨f0, f1, f2, f3, f4⟩ := five_free h2a
  have HZB := Lib.hid (below_put5 (x' := .int .i64 0) (y' := .int .i64 0) (z' := .int .i64 0) (u' := .slice none 0 0) (t' := .slice none 0 0) hb4 hwB)
  clear p5
  clear h2a hb4
  go_wp2_with fail
  refine bodyPost_ret (by simp [results, Try.results20, go_sem, z0, z1, z2, z3, z4]; rfl) rfl ?_
  have hE : A = noAns (c) := by rw [← HAA.out]; exact file_noadv HC.out HN.out
  rw [hE]
  exact ans_none _ HZB.out

set_option maxRecDepth 100000 in
set_option maxHeartbeats 600000 in
theorem file_bad (day ans app fk fd fi fo : Int) (ho mo : Option Addr) (hc mc : Nat) (H : List Int) (l : List Mt) (w : World) (hM : Mts w mo l) (hI : Ints w ho H) (hcap : l.length ≤ mc) (hl : l.length ≤ 9223372036854775807) (hE : advE ⟨day, ans, app, H, l⟩ fd = 0) (hk : fk < 1 ∨ 6 < fk) :
    Calls Try.prog 20 #[.agg #[.int .i64 day, .int .i64 ans, .int .i64 app, .slice ho H.length hc, .slice mo l.length mc], .agg #[.int .i64 fk, .int .i64 fd, .int .i64 fi, .int .i64 fo]] w (AnsPost w.heap.size w (fileF ⟨day, ans, app, H, l⟩ ⟨fk, fd, fi, fo⟩)) := by
  obtain ⟨W, hW⟩ : ∃ W, ((w.alloc (dkObj day ans app ho H.length hc mo l.length mc)).alloc (fiObj fk fd fi fo)).alloc dkZero = W := ⟨_, rfl⟩
  obtain ⟨hbW, k2, k3, hsW⟩ := file_made hW
  obtain ⟨B2, hB2⟩ : ∃ B2, w.heap.size + 1 + 1 = B2 := ⟨_, rfl⟩
  rw [hB2] at k3
  have hwB : w.heap.size ≤ B2 := by omega
  have hwB1 : w.heap.size + 1 < B2 := by omega
  have HB2 := Lib.hid hB2
  have HADV := Lib.hid (Advance_any day ans app fd ho mo hc mc H l W (hM.next hbW) (hI.next hbW) hcap hl)
  have HBW := Lib.hid hbW
  have HS := Lib.hid hsW
  have K2 := Lib.hid k2
  have K3 := Lib.hid k3
  have HWW := Lib.hid hW
  obtain ⟨A, hA⟩ : ∃ A, fileF ⟨day, ans, app, H, l⟩ ⟨fk, fd, fi, fo⟩ = A := ⟨_, rfl⟩
  rw [hA]
  have HAA := Lib.hid hA
  clear hI hM hbW hsW k2 k3 hW hA hB2
  have HE := Lib.hid hE
  have HADV := Lib.hid (HADV.out.mono fun e w' h => adv_post hE h)
  have hln := good_len hE
  simp only at hln
  have hl32 := hln.1
  have hH := hln.2
  clear hE hln
  have HK := Lib.hid hk
  have hside : fk < 1 ∨ (¬ fk < 1 ∧ 6 < fk) := by omega
  clear hk
  rcases hside with hk1 | ⟨hk1, hk2⟩
  all_goals
    go_enter Try.func20, Try.ntmps20
    go_wp2_with fail
    rw [HWW.out, HB2.out]
    refine HADV.out.mono ?_
    rintro e w3 ⟨ro, rc, mo', mc', v, L, hL, rfl, hO1, hO2, hO3, hb3⟩
    have hLl : L.length ≤ 32 := by rw [hL]; simpa using hl32
    have HLL := Lib.hid hL
    clear hL
    have hb3' := HBW.out.trans (hb3.mono HBW.out.size)
    have hsz : B2 < w3.heap.size := by have := hb3.size; have := HS.out; have := HB2.out; omega
    have hwW : w.heap.size ≤ W.heap.size := HBW.out.size
    go_upto_region 2 with fail
    generalize hw4 : w3.alloc (.cells #[.int .i64 fd, .int .i64 ans, .int .i64 app, .slice ro H.length rc, .slice mo' L.length mc'] 30) = w4
    have HK2 : Hid (w4.heap[w.heap.size + 1]? = some (fiObj fk fd fi fo)) := Lib.hid (by rw [← hw4]; exact alloc_heap (keep_heap hb3 K2.out))
    have HK3 : Hid (w4.heap[B2]? = some dkZero) := Lib.hid (by rw [← hw4]; exact alloc_heap (keep_heap hb3 K3.out))
    have HKC : Hid (w4.heap[w3.heap.size]? = some (dkObj fd ans app ro H.length rc mo' L.length mc')) := Lib.hid (by rw [← hw4]; exact heap_alloc_new w3 _)
    have HO1 : Hid (w4.ownsRow w.heap.size 3 1 (.slice ro H.length rc) H.length (H.map (Value.int .i64))) := Lib.hid (by rw [← hw4]; exact (hO1.mono hwW).alloc _)
    have HO2 : Hid (w4.ownsRow w.heap.size 50 5 (.slice mo' L.length mc') L.length (L.flatMap mtCells)) := Lib.hid (by rw [← hw4]; exact (hO2.mono hwW).alloc _)
    have HO3 : Hid (RlOwn w.heap.size w4 v (advR ⟨day, ans, app, H, l⟩ fd)) := Lib.hid (by rw [← hw4]; exact World.ownsRow.alloc (World.ownsRow.mono hO3 hwW) _)
    have HB4 : Hid (Below w.heap.size w w4) := Lib.hid (by rw [← hw4]; exact hb3'.alloc hb3'.size _)
    have hs4 : w4.heap.size = w3.heap.size + 1 := by rw [← hw4]; simp
    have HS4 := Lib.hid hs4
    obtain ⟨C, hC⟩ : ∃ C, w3.heap.size = C := ⟨_, rfl⟩
    rw [hC] at HKC HS4 hsz ⊢
    have hwC : w.heap.size ≤ C := by omega
    clear hO1 hO2 hO3 hb3 hb3' HADV hw4 hs4 hC
    obtain ⟨p0, p1, p2, p3⟩ := four_cells HK2.out
    have p5 := put5 (x' := .int .i64 0) (y' := .int .i64 0) (z' := .int .i64 0) (u' := .slice none 0 0) (v' := .slice none 0 0) HK3.out
    obtain ⟨z0, z1, z2, z3, z4⟩ := five_cells p5
    obtain ⟨y0, y1, y2, y3, y4⟩ := five_cells HK3.out
    obtain ⟨f0, f1, f2, f3, f4⟩ := five_free HK3.out
    have HZB := Lib.hid (below_put5 (x' := .int .i64 0) (y' := .int .i64 0) (z' := .int .i64 0) (u' := .slice none 0 0) (t' := .slice none 0 0) HB4.out hwB)
    clear p5
    go_wp2_with fail
    refine bodyPost_ret (by simp [results, Try.results20, go_sem, z0, z1, z2, z3, z4]; rfl) rfl ?_
    have hE : A = noAns (1) := by rw [← HAA.out]; exact by rw [file_act HE.out, actF, if_pos HK.out]
    rw [hE]
    exact ans_none _ HZB.out
end Go.Proofs.Ytpddpdkdlodniaa
