/-
  File: what it makes first; what it answers.
  File: the errors of Advance, filings of no kind, openings.
  File: openings.
-/
import Derived.Test.YtpddpdkdlodniaaOChange
import Derived.Laws.AppendOwnNone
import Derived.Deep.DeepCutAuto
namespace Go.Proofs.Ytpddpdkdlodniaa
open Go.RowKit

abbrev fiObj (fk fd fi fo : Int) : Obj := .cells #[.int .i64 fk, .int .i64 fd, .int .i64 fi, .int .i64 fo] 47
theorem file_made {w W : World} {day ans app fk fd fi fo : Int} {ho mo : Option Addr} {hn hc mn mc : Nat} (hW : ((w.alloc (dkObj day ans app ho hn hc mo mn mc)).alloc (fiObj fk fd fi fo)).alloc dkZero = W) :
    Below w.heap.size w W ∧ W.heap[w.heap.size + 1]? = some (fiObj fk fd fi fo) ∧ W.heap[w.heap.size + 1 + 1]? = some dkZero ∧ W.heap.size = w.heap.size + 3 := by
  refine ⟨by rw [← hW]; go_grown, ?_, ?_, by rw [← hW]; simp⟩
  · have := heap_alloc_new (w.alloc (dkObj day ans app ho hn hc mo mn mc)) (fiObj fk fd fi fo)
    rw [World.size_alloc] at this
    rw [← hW]
    exact alloc_heap this
  · have := heap_alloc_new ((w.alloc (dkObj day ans app ho hn hc mo mn mc)).alloc (fiObj fk fd fi fo)) dkZero
    rw [World.size_alloc, World.size_alloc] at this
    rw [← hW]
    exact this
theorem advF_ok {d : Dk} {day : Int} (h : advE d day = 0) : advF d day = (advD d day, advR d day, 0) := by unfold advF; rw [if_pos h]
theorem adv_post {B : Nat} {w w' : World} {day ans app day' : Int} {H : List Int} {l : List Mt} {e : Ending} (hE : advE ⟨day, ans, app, H, l⟩ day' = 0) (h : AnsPost B w (advF ⟨day, ans, app, H, l⟩ day') e w') :
    ∃ ro rc mo mc v L, L = l.map (lapseF day') ∧ e = .returned (.tuple #[.agg #[.int .i64 day', .int .i64 ans, .int .i64 app, .slice ro H.length rc, .slice mo (List.length L) mc], v, .int .i64 0]) ∧ w'.ownsRow B 3 1 (.slice ro H.length rc) H.length (H.map (Value.int .i64)) ∧
      w'.ownsRow B 50 5 (.slice mo L.length mc) L.length (L.flatMap mtCells) ∧ RlOwn B w' v (advR ⟨day, ans, app, H, l⟩ day') ∧ Below B w w' := by
  rw [advF_ok hE] at h
  obtain ⟨dv, rv, rfl, ⟨ro, rc, mo, mc, rfl, h1, h2⟩, h3, hb⟩ := h
  exact ⟨ro, rc, mo, mc, rv, _, rfl, rfl, h1, h2, h3, hb⟩
theorem adv_err_post {B : Nat} {w w' : World} {c : Int} {e : Ending} (h : AnsPost B w (noAns c) e w') :
    ∃ ro rc mo mc v, e = .returned (.tuple #[.agg #[.int .i64 0, .int .i64 0, .int .i64 0, .slice ro 0 rc, .slice mo 0 mc], v, .int .i64 c]) ∧ Below B w w' := by
  obtain ⟨dv, rv, rfl, ⟨ro, rc, mo, mc, rfl, h1, h2⟩, h3, hb⟩ := h
  exact ⟨ro, rc, mo, mc, rv, rfl, hb⟩
theorem file_noadv {d : Dk} {f : Fl} {e : Int} (h : advE d f.day = e) (he : ¬ e = 0) : fileF d f = noAns e := by
  unfold fileF
  rw [h, if_neg he]
theorem file_act {d : Dk} {f : Fl} (h : advE d f.day = 0) : fileF d f = actF (advD d f.day) (advR d f.day) f := by
  unfold fileF
  rw [if_pos h]
theorem good_len {d : Dk} {day : Int} (h : advE d day = 0) : d.mts.length ≤ 32 ∧ d.hol.length ≤ 1000 := by
  obtain ⟨hg, -⟩ := (adv_zero d day).1 h
  exact ⟨hg.2.1, (terms_zero.1 hg.1).2.2.1⟩
theorem advR_le {d : Dk} {day : Int} (h : advE d day = 0) : (advR d day).length ≤ 32 := by
  have := rules_len day d.mts
  have := (good_len h).1
  rw [advR_len]
  omega
/-- A docket, rulings: what a filing that goes through leaves. -/
theorem ans_file {B : Nat} {w w' : World} {day ans app : Int} {H : List Int} {L : List Mt} {R : List Rl} {ro mo : Option Addr} {rc mc n : Nat} {v : Value} (hn : L.length = n)
    (h1 : w'.ownsRow B 3 1 (.slice ro H.length rc) H.length (H.map (Value.int .i64))) (h2 : w'.ownsRow B 50 5 (.slice mo n mc) n (L.flatMap mtCells)) (h3 : RlOwn B w' v R) (hb : Below B w w') :
    AnsPost B w (⟨day, ans, app, H, L⟩, R, 0) (.returned (.tuple #[.agg #[.int .i64 day, .int .i64 ans, .int .i64 app, .slice ro H.length rc, .slice mo n mc], v, .int .i64 0])) w' := by
  subst hn
  exact ⟨_, _, rfl, ⟨ro, rc, mo, mc, rfl, h1, h2⟩, h3, hb⟩
end Go.Proofs.Ytpddpdkdlodniaa

namespace Go.Proofs.Ytpddpdkdlodniaa
open Go.RowKit

set_option maxRecDepth 100000 in
set_option maxHeartbeats 600000 in
theorem file_adverr (day ans app fk fd fi fo : Int) (ho mo : Option Addr) (hc mc : Nat) (H : List Int) (l : List Mt) (w : World) (hM : Mts w mo l) (hI : Ints w ho H) (hcap : l.length ≤ mc) (hl : l.length ≤ 9223372036854775807) (hE : ¬ advE ⟨day, ans, app, H, l⟩ fd = 0) :
    Calls Try.prog 20 #[.agg #[.int .i64 day, .int .i64 ans, .int .i64 app, .slice ho H.length hc, .slice mo l.length mc], .agg #[.int .i64 fk, .int .i64 fd, .int .i64 fi, .int .i64 fo]] w (AnsPost w.heap.size w (fileF ⟨day, ans, app, H, l⟩ ⟨fk, fd, fi, fo⟩)) := by
  obtain ⟨W, hW⟩ : ∃ W, ((w.alloc (dkObj day ans app ho H.length hc mo l.length mc)).alloc (fiObj fk fd fi fo)).alloc dkZero = W := ⟨_, rfl⟩
  obtain ⟨hbW, k2, k3, hsW⟩ := file_made hW
  obtain ⟨B2, hB2⟩ : ∃ B2, w.heap.size + 1 + 1 = B2 := ⟨_, rfl⟩
  rw [hB2] at k3
  have hwB : w.heap.size ≤ B2 := by omega
  have hwB1 : w.heap.size + 1 < B2 := by omega
  have HB2 := Lib.hid hB2
  have HADV := Lib.hid (Advance_any day ans app fd ho mo hc mc H l W (hM.next hbW) (hI.next hbW) hcap hl)
  have HBW := Lib.hid hbW
  have HS := Lib.hid hsW
  have K2 := Lib.hid k2
  have K3 := Lib.hid k3
  have HWW := Lib.hid hW
  obtain ⟨A, hA⟩ : ∃ A, fileF ⟨day, ans, app, H, l⟩ ⟨fk, fd, fi, fo⟩ = A := ⟨_, rfl⟩
  rw [hA]
  have HAA := Lib.hid hA
  clear hI hM hbW hsW k2 k3 hW hA hB2
  obtain ⟨c, hc'⟩ : ∃ c, advE ⟨day, ans, app, H, l⟩ fd = c := ⟨_, rfl⟩
  rw [hc'] at hE
  rw [adv_noans hc' hE] at HADV
  have HADV := Lib.hid (HADV.out.mono fun e w' h => adv_err_post h)
  have HC := Lib.hid hc'
  have HN := Lib.hid hE
  have hq : (c != 0) = true := by simpa using hE
  clear hc' hE
  go_enter Try.func20, Try.ntmps20
  go_wp2_with fail
  rw [HWW.out, HB2.out]
  refine HADV.out.mono ?_
  rintro e w3 ⟨ro, rc, mo', mc', v, rfl, hb3⟩
  have h2 := keep_heap hb3 K3.out
  have hb3' := HBW.out.trans (hb3.mono HBW.out.size)
  have hsz : B2 < w3.heap.size := (Array.getElem?_eq_some_iff.1 h2).1
  go_upto_region 2 with fail
  generalize hw4 : w3.alloc (.cells #[.int .i64 0, .int .i64 0, .int .i64 0, .slice ro 0 rc, .slice mo' 0 mc'] 30) = w4
  have h2a : w4.heap[B2]? = some dkZero := by rw [← hw4]; exact alloc_heap h2
  have hb4 : Below w.heap.size w w4 := by rw [← hw4]; exact hb3'.alloc hb3'.size _
  clear h2 hb3 hb3' HADV hw4
  have p5 := put5 (x' := .int .i64 0) (y' := .int .i64 0) (z' := .int .i64 0) (u' := .slice none 0 0) (v' := .slice none 0 0) h2a
  obtain ⟨z0, z1, z2, z3, z4⟩ := five_cells p5
  obtain ⟨y0, y1, y2, y3, y4⟩ := five_cells h2a
  obtain ⟨f0, f1, f2, f3, f4⟩ := five_free h2a
  have HZB := Lib.hid (below_put5 (x' := .int .i64 0) (y' := .int .i64 0) (z' := .int .i64 0) (u' := .slice none 0 0) (t' := .slice none 0 0) hb4 hwB)
  clear p5
  clear h2a hb4
  go_wp2_with fail
  refine bodyPost_ret (by simp [results, Try.results20, go_sem, z0, z1, z2, z3, z4]; rfl) rfl ?_
  have hE : A = noAns (c) := by rw [← HAA.out]; exact file_noadv HC.out HN.out
  rw [hE]
  exact ans_none _ HZB.out

set_option maxRecDepth 100000 in
set_option maxHeartbeats 600000 in
theorem file_bad (day ans app fk fd fi fo : Int) (ho mo : Option Addr) (hc mc : Nat) (H : List Int) (l : List Mt) (w : World) (hM : Mts w mo l) (hI : Ints w ho H) (hcap : l.length ≤ mc) (hl : l.length ≤ 9223372036854775807) (hE : advE ⟨day, ans, app, H, l⟩ fd = 0) (hk : fk < 1 ∨ 6 < fk) :
    Calls Try.prog 20 #[.agg #[.int .i64 day, .int .i64 ans, .int .i64 app, .slice ho H.length hc, .slice mo l.length mc], .agg #[.int .i64 fk, .int .i64 fd, .int .i64 fi, .int .i64 fo]] w (AnsPost w.heap.size w (fileF ⟨day, ans, app, H, l⟩ ⟨fk, fd, fi, fo⟩)) := by
  obtain ⟨W, hW⟩ : ∃ W, ((w.alloc (dkObj day ans app ho H.length hc mo l.length mc)).alloc (fiObj fk fd fi fo)).alloc dkZero = W := ⟨_, rfl⟩
  obtain ⟨hbW, k2, k3, hsW⟩ := file_made hW
  obtain ⟨B2, hB2⟩ : ∃ B2, w.heap.size + 1 + 1 = B2 := ⟨_, rfl⟩
  rw [hB2] at k3
  have hwB : w.heap.size ≤ B2 := by omega
  have hwB1 : w.heap.size + 1 < B2 := by omega
  have HB2 := Lib.hid hB2
  have HADV := Lib.hid (Advance_any day ans app fd ho mo hc mc H l W (hM.next hbW) (hI.next hbW) hcap hl)
  have HBW := Lib.hid hbW
  have HS := Lib.hid hsW
  have K2 := Lib.hid k2
  have K3 := Lib.hid k3
  have HWW := Lib.hid hW
  obtain ⟨A, hA⟩ : ∃ A, fileF ⟨day, ans, app, H, l⟩ ⟨fk, fd, fi, fo⟩ = A := ⟨_, rfl⟩
  rw [hA]
  have HAA := Lib.hid hA
  clear hI hM hbW hsW k2 k3 hW hA hB2
  have HE := Lib.hid hE
  have HADV := Lib.hid (HADV.out.mono fun e w' h => adv_post hE h)
  have hln := good_len hE
  simp only at hln
  have hl32 := hln.1
  have hH := hln.2
  clear hE hln
  have HK := Lib.hid hk
  have hside : fk < 1 ∨ (¬ fk < 1 ∧ 6 < fk) := by omega
  clear hk
  rcases hside with hk1 | ⟨hk1, hk2⟩
  all_goals
    go_enter Try.func20, Try.ntmps20
    go_wp2_with fail
    rw [HWW.out, HB2.out]
    refine HADV.out.mono ?_
    rintro e w3 ⟨ro, rc, mo', mc', v, L, hL, rfl, hO1, hO2, hO3, hb3⟩
    have hLl : L.length ≤ 32 := by rw [hL]; simpa using hl32
    have HLL := Lib.hid hL
    clear hL
    have hb3' := HBW.out.trans (hb3.mono HBW.out.size)
    have hsz : B2 < w3.heap.size := by have := hb3.size; have := HS.out; have := HB2.out; omega
    have hwW : w.heap.size ≤ W.heap.size := HBW.out.size
    go_upto_region 2 with fail
    generalize hw4 : w3.alloc (.cells #[.int .i64 fd, .int .i64 ans, .int .i64 app, .slice ro H.length rc, .slice mo' L.length mc'] 30) = w4
    have HK2 : Hid (w4.heap[w.heap.size + 1]? = some (fiObj fk fd fi fo)) := Lib.hid (by rw [← hw4]; exact alloc_heap (keep_heap hb3 K2.out))
    have HK3 : Hid (w4.heap[B2]? = some dkZero) := Lib.hid (by rw [← hw4]; exact alloc_heap (keep_heap hb3 K3.out))
    have HKC : Hid (w4.heap[w3.heap.size]? = some (dkObj fd ans app ro H.length rc mo' L.length mc')) := Lib.hid (by rw [← hw4]; exact heap_alloc_new w3 _)
    have HO1 : Hid (w4.ownsRow w.heap.size 3 1 (.slice ro H.length rc) H.length (H.map (Value.int .i64))) := Lib.hid (by rw [← hw4]; exact (hO1.mono hwW).alloc _)
    have HO2 : Hid (w4.ownsRow w.heap.size 50 5 (.slice mo' L.length mc') L.length (L.flatMap mtCells)) := Lib.hid (by rw [← hw4]; exact (hO2.mono hwW).alloc _)
    have HO3 : Hid (RlOwn w.heap.size w4 v (advR ⟨day, ans, app, H, l⟩ fd)) := Lib.hid (by rw [← hw4]; exact World.ownsRow.alloc (World.ownsRow.mono hO3 hwW) _)
    have HB4 : Hid (Below w.heap.size w w4) := Lib.hid (by rw [← hw4]; exact hb3'.alloc hb3'.size _)
    have hs4 : w4.heap.size = w3.heap.size + 1 := by rw [← hw4]; simp
    have HS4 := Lib.hid hs4
    obtain ⟨C, hC⟩ : ∃ C, w3.heap.size = C := ⟨_, rfl⟩
    rw [hC] at HKC HS4 hsz ⊢
    have hwC : w.heap.size ≤ C := by omega
    clear hO1 hO2 hO3 hb3 hb3' HADV hw4 hs4 hC
    obtain ⟨p0, p1, p2, p3⟩ := four_cells HK2.out
    have p5 := put5 (x' := .int .i64 0) (y' := .int .i64 0) (z' := .int .i64 0) (u' := .slice none 0 0) (v' := .slice none 0 0) HK3.out
    obtain ⟨z0, z1, z2, z3, z4⟩ := five_cells p5
    obtain ⟨y0, y1, y2, y3, y4⟩ := five_cells HK3.out
    obtain ⟨f0, f1, f2, f3, f4⟩ := five_free HK3.out
    have HZB := Lib.hid (below_put5 (x' := .int .i64 0) (y' := .int .i64 0) (z' := .int .i64 0) (u' := .slice none 0 0) (t' := .slice none 0 0) HB4.out hwB)
    clear p5
    go_wp2_with fail
    refine bodyPost_ret (by simp [results, Try.results20, go_sem, z0, z1, z2, z3, z4]; rfl) rfl ?_
    have hE : A = noAns (1) := by rw [← HAA.out]; exact by rw [file_act HE.out, actF, if_pos HK.out]
    rw [hE]
    exact ans_none _ HZB.out
end Go.Proofs.Ytpddpdkdlodniaa

namespace Go.Proofs.Ytpddpdkdlodniaa
open Go.RowKit

theorem Kept.heap {w w' : World} {P : Nat} {mo : Option Addr} {mn mc B b : Nat} {xs0 : List Value} {cs : Array Value} {T : TypeId} (h : Kept w w' P (.slice mo mn mc)) (hv : w.ownsRow B 50 5 (.slice mo mn mc) mn xs0) (hb : w.heap[b]? = some (.cells cs T (0, 0))) (hne : b ≠ P) (hT : T ≠ 50) : w'.heap[b]? = some (.cells cs T (0, 0)) := by
  rw [h b (Array.getElem?_eq_some_iff.1 hb).1 hne (row_ne hv hb hT)]
  exact hb
theorem open_act {o : Dk} {l : List Rl} {fd fi fo : Int} (h : openE o.mts fi = 0) : actF o l ⟨1, fd, fi, fo⟩ = ({ o with mts := o.mts ++ [openedF fi] }, l, 0) := by
  unfold actF
  rw [if_neg (by simp), if_pos rfl, if_pos h]
theorem open_noact {o : Dk} {l : List Rl} {fd fi fo : Int} (h : ¬ openE o.mts fi = 0) : actF o l ⟨1, fd, fi, fo⟩ = noAns (openE o.mts fi) := by
  unfold actF
  rw [if_neg (by simp), if_pos rfl, if_neg h]

set_option maxRecDepth 100000 in
set_option maxHeartbeats 600000 in
theorem file_open (day ans app fd fi fo : Int) (ho mo : Option Addr) (hc mc : Nat) (H : List Int) (l : List Mt) (w : World) (hM : Mts w mo l) (hI : Ints w ho H) (hcap : l.length ≤ mc) (hl : l.length ≤ 9223372036854775807) (hE : advE ⟨day, ans, app, H, l⟩ fd = 0) :
    Calls Try.prog 20 #[.agg #[.int .i64 day, .int .i64 ans, .int .i64 app, .slice ho H.length hc, .slice mo l.length mc], .agg #[.int .i64 1, .int .i64 fd, .int .i64 fi, .int .i64 fo]] w (AnsPost w.heap.size w (fileF ⟨day, ans, app, H, l⟩ ⟨1, fd, fi, fo⟩)) := by
  obtain ⟨W, hW⟩ : ∃ W, ((w.alloc (dkObj day ans app ho H.length hc mo l.length mc)).alloc (fiObj 1 fd fi fo)).alloc dkZero = W := ⟨_, rfl⟩
  obtain ⟨hbW, k2, k3, hsW⟩ := file_made hW
  obtain ⟨B2, hB2⟩ : ∃ B2, w.heap.size + 1 + 1 = B2 := ⟨_, rfl⟩
  rw [hB2] at k3
  have hwB : w.heap.size ≤ B2 := by omega
  have hwB1 : w.heap.size + 1 < B2 := by omega
  have HB2 := Lib.hid hB2
  have HADV := Lib.hid (Advance_any day ans app fd ho mo hc mc H l W (hM.next hbW) (hI.next hbW) hcap hl)
  have HBW := Lib.hid hbW
  have HS := Lib.hid hsW
  have K2 := Lib.hid k2
  have K3 := Lib.hid k3
  have HWW := Lib.hid hW
  obtain ⟨A, hA⟩ : ∃ A, fileF ⟨day, ans, app, H, l⟩ ⟨1, fd, fi, fo⟩ = A := ⟨_, rfl⟩
  rw [hA]
  have HAA := Lib.hid hA
  clear hI hM hbW hsW k2 k3 hW hA hB2
  have HE := Lib.hid hE
  have HADV := Lib.hid (HADV.out.mono fun e w' h => adv_post hE h)
  have hln := good_len hE
  simp only at hln
  have hl32 := hln.1
  have hH := hln.2
  clear hE hln
  go_enter Try.func20, Try.ntmps20
  go_wp2_with fail
  rw [HWW.out, HB2.out]
  refine HADV.out.mono ?_
  rintro e w3 ⟨ro, rc, mo', mc', v, L, hL, rfl, hO1, hO2, hO3, hb3⟩
  have hLl : L.length ≤ 32 := by rw [hL]; simpa using hl32
  have HLL := Lib.hid hL
  clear hL
  have hb3' := HBW.out.trans (hb3.mono HBW.out.size)
  have hsz : B2 < w3.heap.size := by have := hb3.size; have := HS.out; have := HB2.out; omega
  have hwW : w.heap.size ≤ W.heap.size := HBW.out.size
  go_upto_region 2 with fail
  generalize hw4 : w3.alloc (.cells #[.int .i64 fd, .int .i64 ans, .int .i64 app, .slice ro H.length rc, .slice mo' L.length mc'] 30) = w4
  have HK2 : Hid (w4.heap[w.heap.size + 1]? = some (fiObj 1 fd fi fo)) := Lib.hid (by rw [← hw4]; exact alloc_heap (keep_heap hb3 K2.out))
  have HK3 : Hid (w4.heap[B2]? = some dkZero) := Lib.hid (by rw [← hw4]; exact alloc_heap (keep_heap hb3 K3.out))
  have HKC : Hid (w4.heap[w3.heap.size]? = some (dkObj fd ans app ro H.length rc mo' L.length mc')) := Lib.hid (by rw [← hw4]; exact heap_alloc_new w3 _)
  have HO1 : Hid (w4.ownsRow w.heap.size 3 1 (.slice ro H.length rc) H.length (H.map (Value.int .i64))) := Lib.hid (by rw [← hw4]; exact (hO1.mono hwW).alloc _)
  have HO2 : Hid (w4.ownsRow w.heap.size 50 5 (.slice mo' L.length mc') L.length (L.flatMap mtCells)) := Lib.hid (by rw [← hw4]; exact (hO2.mono hwW).alloc _)
  have HO3 : Hid (RlOwn w.heap.size w4 v (advR ⟨day, ans, app, H, l⟩ fd)) := Lib.hid (by rw [← hw4]; exact World.ownsRow.alloc (World.ownsRow.mono hO3 hwW) _)
  have HB4 : Hid (Below w.heap.size w w4) := Lib.hid (by rw [← hw4]; exact hb3'.alloc hb3'.size _)
  have hs4 : w4.heap.size = w3.heap.size + 1 := by rw [← hw4]; simp
  have HS4 := Lib.hid hs4
  obtain ⟨C, hC⟩ : ∃ C, w3.heap.size = C := ⟨_, rfl⟩
  rw [hC] at HKC HS4 hsz ⊢
  have hwC : w.heap.size ≤ C := by omega
  clear hO1 hO2 hO3 hb3 hb3' HADV hw4 hs4 hC
  obtain ⟨p0, p1, p2, p3⟩ := four_cells HK2.out
  by_cases ho : openE L fi = 0
  · have HOP := Lib.hid (open_ok C w.heap.size fi fd ans app ro mo' H.length rc mc' L w4 HKC.out HO2.out hwC ho)
    have HOE := Lib.hid ho
    clear ho
    go_wp2_with fail
    refine HOP.out.mono ?_
    rintro e w5 ⟨mo2, mc2, rfl, hC5, hO5, hK5, hb5, hs5⟩
    have hneC : w.heap.size + 1 ≠ C := by have := HS4.out; omega
    have hneB : B2 ≠ C := by omega
    obtain ⟨p0, p1, p2, p3⟩ := four_cells (hK5.heap HO2.out HK2.out hneC (by decide))
    have h2 := hK5.heap HO2.out HK3.out hneB (by decide)
    obtain ⟨x0, x1, x2, x3, x4⟩ := five_cells hC5
    have r1 := hK5.row HKC.out HO2.out HO1.out (by decide) (by decide)
    have r3 := hK5.row HKC.out HO2.out HO3.out (by decide) (by decide)
    have hbb := HB4.out.trans hb5
    have p5 := put5 (x' := .int .i64 fd) (y' := .int .i64 ans) (z' := .int .i64 app) (u' := .slice ro H.length rc) (v' := .slice mo2 (L.length + 1) mc2) h2
    obtain ⟨z0, z1, z2, z3, z4⟩ := five_cells p5
    obtain ⟨y0, y1, y2, y3, y4⟩ := five_cells h2
    obtain ⟨f0, f1, f2, f3, f4⟩ := five_free h2
    have R1 := Lib.hid (owns_put5 (x' := .int .i64 fd) (y' := .int .i64 ans) (z' := .int .i64 app) (u' := .slice ro H.length rc) (t' := .slice mo2 (L.length + 1) mc2) r1 h2 (by decide))
    have R2 := Lib.hid (owns_put5 (x' := .int .i64 fd) (y' := .int .i64 ans) (z' := .int .i64 app) (u' := .slice ro H.length rc) (t' := .slice mo2 (L.length + 1) mc2) hO5 h2 (by decide))
    have R3 := Lib.hid (owns_put5 (x' := .int .i64 fd) (y' := .int .i64 ans) (z' := .int .i64 app) (u' := .slice ro H.length rc) (t' := .slice mo2 (L.length + 1) mc2) r3 h2 (by decide))
    have R4 := Lib.hid (below_put5 (x' := .int .i64 fd) (y' := .int .i64 ans) (z' := .int .i64 app) (u' := .slice ro H.length rc) (t' := .slice mo2 (L.length + 1) mc2) hbb hwB)
    clear p5
    clear hC5 hO5 hK5 hb5 h2 r1 r3 hbb
    go_wp2_with fail
    refine bodyPost_ret (by simp [results, Try.results20, go_sem, z0, z1, z2, z3, z4]; rfl) rfl ?_
    have hE : A = (⟨fd, ans, app, H, L ++ [openedF fi]⟩, advR ⟨day, ans, app, H, l⟩ fd, 0) := by rw [← HAA.out]; exact by rw [file_act HE.out, open_act (by show openE (l.map (lapseF fd)) fi = 0; rw [← HLL.out]; exact HOE.out)]; simp [advD, HLL.out]
    rw [hE]
    exact ans_file (by simp) R1.out R2.out R3.out R4.out
  · have HOP := Lib.hid (open_err C fi fd ans app ro mo' H.length rc mc' L w4 HKC.out (owns_mts HO2.out) hLl ho)
    have HOE := Lib.hid ho
    have hq : (openE L fi != 0) = true := by simpa using ho
    clear ho
    obtain ⟨c, hc'⟩ : ∃ c, openE L fi = c := ⟨_, rfl⟩
    rw [hc'] at HOP hq HOE
    have HCC := Lib.hid hc'
    clear hc'
    go_wp2_with fail
    refine HOP.out.mono ?_
    rintro e w5 ⟨rfl, hb5⟩
    have h2 := keep_heap hb5 HK3.out
    have hbb := HB4.out.trans (hb5.mono HB4.out.size)
    have p5 := put5 (x' := .int .i64 0) (y' := .int .i64 0) (z' := .int .i64 0) (u' := .slice none 0 0) (v' := .slice none 0 0) h2
    obtain ⟨z0, z1, z2, z3, z4⟩ := five_cells p5
    obtain ⟨y0, y1, y2, y3, y4⟩ := five_cells h2
    obtain ⟨f0, f1, f2, f3, f4⟩ := five_free h2
    have HZB := Lib.hid (below_put5 (x' := .int .i64 0) (y' := .int .i64 0) (z' := .int .i64 0) (u' := .slice none 0 0) (t' := .slice none 0 0) hbb hwB)
    clear p5
    clear h2 hbb hb5
    go_wp2_with fail
    refine bodyPost_ret (by simp [results, Try.results20, go_sem, z0, z1, z2, z3, z4]; rfl) rfl ?_
    have hE : A = noAns (c) := by rw [← HAA.out]; exact by rw [file_act HE.out, open_noact (by show ¬ openE (l.map (lapseF fd)) fi = 0; rw [← HLL.out, HCC.out]; exact HOE.out)]; show noAns (openE (l.map (lapseF fd)) fi) = noAns c; rw [← HLL.out, HCC.out]
    rw [hE]
    exact ans_none _ HZB.out
end Go.Proofs.Ytpddpdkdlodniaa
