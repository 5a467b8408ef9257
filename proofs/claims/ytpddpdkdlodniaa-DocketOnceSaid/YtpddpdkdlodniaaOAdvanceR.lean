/-
  Contract: the document's Advance.
-/
import Derived.Test.YtpddpdkdlodniaaOAdvance
import Derived.Test.YtpddpdkdlodniaaOCheckR
import Derived.Test.YtpddpdkdlodniaaOLapsed
namespace Go.Proofs.Ytpddpdkdlodniaa
open Go.RowKit

set_option maxRecDepth 100000 in
set_option maxHeartbeats 8000000 in
theorem AdvanceR_any (day ans app day' : Int) (ho mo : Option Addr) (hc mc : Nat) (H : List Int) (l : List Mt) (w : World) (hM : Mts w mo l) (hI : Ints w ho H) (hn : ho = none → hc = 0) (mn : mo = none → mc = 0) (hl : l.length ≤ 9223372036854775807) :
    Calls Try.prog 27 #[.agg #[.int .i64 day, .int .i64 ans, .int .i64 app, .slice ho H.length hc, .slice mo l.length mc], .int .i64 day'] w (AnsPost w.heap.size w (advF ⟨day, ans, app, H, l⟩ day')) := by
  obtain ⟨W, hW⟩ : ∃ W, (w.alloc (dkObj day ans app ho H.length hc mo l.length mc)).alloc dkZero = W := ⟨_, rfl⟩
  have hbW : Below w.heap.size w W := by rw [← hW]; go_grown
  have k1 : W.heap[w.heap.size]? = some (dkObj day ans app ho H.length hc mo l.length mc) := by rw [← hW]; exact alloc_heap (heap_alloc_new w _)
  have k2 : W.heap[w.heap.size + 1]? = some dkZero := by
    have := heap_alloc_new (w.alloc (dkObj day ans app ho H.length hc mo l.length mc)) dkZero
    rw [World.size_alloc] at this
    rw [← hW]
    exact this
  have hsW : W.heap.size = w.heap.size + 2 := by rw [← hW]; simp
  have HCK := Lib.hid (checkR_any day ans app ho mo hc mc H l W (hM.next hbW) (by omega))
  have HIW := Lib.hid (hI.next hbW)
  have HMW := Lib.hid (hM.next hbW)
  have HBW := Lib.hid hbW
  have HS := Lib.hid hsW
  have K1 := Lib.hid k1
  have K2 := Lib.hid k2
  have HWW := Lib.hid hW
  have hzero := adv_zero ⟨day, ans, app, H, l⟩ day'
  obtain ⟨A, hA⟩ : ∃ A, advF ⟨day, ans, app, H, l⟩ day' = A := ⟨_, rfl⟩
  rw [hA]
  have HAA := Lib.hid hA
  have HZR := Lib.hid hzero
  clear hI hM hbW hsW k1 k2 hW hA hzero
  by_cases hck : chkF ⟨day, ans, app, H, l⟩ = 0
  · rw [hck] at HCK
    have HCZ := Lib.hid hck
    clear hck
    have HDD : Hid (dayF day' = true ↔ 0 ≤ day' ∧ day' ≤ 1048576) := Lib.hid (by simp [dayF])
    have HDY := Lib.hid (day_any day')
    by_cases hd : dayF day' = true
    · rw [hd] at HDY
      have hr := HDD.out.1 hd
      clear hd
      have d1 : 0 ≤ day' := hr.1
      have d2 : day' ≤ 1048576 := hr.2
      clear hr
      by_cases hd3 : day' < day
      · go_enter Try.func27, Try.ntmps27
        go_wp2_with fail
        rw [HWW.out]
        refine HCK.out.mono ?_
        rintro e w3 ⟨rfl, hb3⟩
        have h1 := keep_heap hb3 K1.out
        have h2 := keep_heap hb3 K2.out
        obtain ⟨x0, x1, x2, x3, x4⟩ := five_cells h1
        obtain ⟨y0, y1, y2, y3, y4⟩ := five_cells h2
        obtain ⟨f0, f1, f2, f3, f4⟩ := five_free h2
        have hb3' := HBW.out.trans (hb3.mono HBW.out.size)
        have p5 := put5 (x' := .int .i64 0) (y' := .int .i64 0) (z' := .int .i64 0) (u' := .slice none 0 0) (v' := .slice none 0 0) h2
        obtain ⟨z0, z1, z2, z3, z4⟩ := five_cells p5
        have HB3 := Lib.hid (below_put5 (x' := .int .i64 0) (y' := .int .i64 0) (z' := .int .i64 0) (u' := .slice none 0 0) (t' := .slice none 0 0) hb3' (Nat.le_succ w.heap.size))
        clear h1 h2 hb3 hb3' p5
        go_wp2_with (go_at_call 44
                     go_must (refine (HDY.out _).mono ?_)
                     rintro e w5 ⟨rfl, rfl⟩)
        refine bodyPost_ret (by simp [results, Try.results27, go_sem, z0, z1, z2, z3, z4]; rfl) rfl ?_
        have hE : A = noAns 15 := by rw [← HAA.out]; exact adv_noans (by rw [advE, if_neg (by rw [HCZ.out]; simp), if_neg (by omega), if_pos (by simpa using hd3)]) (by decide)
        rw [hE]
        exact ans_none _ HB3.out
      have hok : Good ⟨day, ans, app, H, l⟩ := (chk_good _).1 HCZ.out
      have hE : advE ⟨day, ans, app, H, l⟩ day' = 0 := (adv_zero _ _).2 ⟨hok, by omega, by omega, by simp; omega⟩
      obtain ⟨ht, h32, hms, hap⟩ := hok
      have hH := (terms_zero.1 ht)
      have hdu : ∀ m ∈ l, runsF m = true → 0 ≤ m.due ∧ m.due ≤ 1048576 := fun m hm hr => by
        obtain ⟨-, hs⟩ := hms m hm
        obtain ⟨-, -, -, -, e5, -, -, -⟩ := (sound_iff _ _).1 hs
        have := e5 ((runs_iff m).1 hr)
        simp only at hH this
        omega
      have HEE := Lib.hid hE
      have HAV := Lib.hid fun (V : World) (hV : Below W.heap.size W V) => lapsed_any day ans app day' ho mo hc mc H l V (HMW.out.next hV) (HIW.out.next hV) hn mn (by simp only at h32; omega) (by simp only at hH; omega) hap hdu
      clear hE ht h32 hms hap hH hdu
      go_enter Try.func27, Try.ntmps27
      go_wp2_with fail
      rw [HWW.out]
      refine HCK.out.mono ?_
      rintro e w3 ⟨rfl, hb3⟩
      have h1 := keep_heap hb3 K1.out
      have h2 := keep_heap hb3 K2.out
      obtain ⟨x0, x1, x2, x3, x4⟩ := five_cells h1
      obtain ⟨y0, y1, y2, y3, y4⟩ := five_cells h2
      obtain ⟨f0, f1, f2, f3, f4⟩ := five_free h2
      have hb3' := HBW.out.trans (hb3.mono HBW.out.size)
      have HAV3 := Lib.hid (HAV.out w3 hb3)
      have H2 := Lib.hid h2
      have HB3 := Lib.hid hb3'
      clear h1 h2 hb3 hb3'
      go_wp2_with (go_at_call 44
                   go_must (refine (HDY.out _).mono ?_)
                   rintro e w5 ⟨rfl, rfl⟩)
      refine HAV3.out.mono ?_
      rintro e w4 ⟨ro, rc, mo', mc', v, rfl, hO1, hO2, hO3, hb4⟩
      have h2 := keep_heap hb4 H2.out
      obtain ⟨y0, y1, y2, y3, y4⟩ := five_cells h2
      obtain ⟨f0, f1, f2, f3, f4⟩ := five_free h2
      have hb4' := HB3.out.trans (hb4.mono HB3.out.size)
      have hw1 := (Array.getElem?_eq_some_iff.1 h2).1
      have p5 := put5 (x' := .int .i64 day') (y' := .int .i64 ans) (z' := .int .i64 app) (u' := .slice ro H.length rc) (v' := .slice mo' l.length mc') h2
      obtain ⟨z0, z1, z2, z3, z4⟩ := five_cells (alloc_heap (o' := (dkObj day' ans app ro H.length rc mo' l.length mc')) p5)
      have hsz := HB3.out.size
      have r1 := (owns_put5 (x' := .int .i64 day') (y' := .int .i64 ans) (z' := .int .i64 app) (u' := .slice ro H.length rc) (t' := .slice mo' l.length mc') (hO1.mono hsz) h2 (by decide)).alloc (dkObj day' ans app ro H.length rc mo' l.length mc')
      have r2 := (owns_put5 (x' := .int .i64 day') (y' := .int .i64 ans) (z' := .int .i64 app) (u' := .slice ro H.length rc) (t' := .slice mo' l.length mc') (hO2.mono hsz) h2 (by decide)).alloc (dkObj day' ans app ro H.length rc mo' l.length mc')
      have r3 := (owns_put5 (x' := .int .i64 day') (y' := .int .i64 ans) (z' := .int .i64 app) (u' := .slice ro H.length rc) (t' := .slice mo' l.length mc') (hO3.mono hsz) h2 (by decide)).alloc (dkObj day' ans app ro H.length rc mo' l.length mc')
      have r40 := below_put5 (x' := .int .i64 day') (y' := .int .i64 ans) (z' := .int .i64 app) (u' := .slice ro H.length rc) (t' := .slice mo' l.length mc') hb4' (Nat.le_succ w.heap.size)
      have r4 := r40.alloc r40.size (dkObj day' ans app ro H.length rc mo' l.length mc')
      have R1 := Lib.hid r1
      have R2 := Lib.hid r2
      have R3 := Lib.hid r3
      have R4 := Lib.hid r4
      clear hO1 hO2 hO3 hb4 hb4' h2 p5 r1 r2 r3 r40 r4 HAV3
      go_wp2_with fail
      refine bodyPost_ret (by simp [results, Try.results27, go_sem, z0, z1, z2, z3, z4]; rfl) rfl ?_
      have hE : A = (advD ⟨day, ans, app, H, l⟩ day', advR ⟨day, ans, app, H, l⟩ day', 0) := by rw [← HAA.out]; unfold advF; rw [if_pos HEE.out]
      rw [hE]
      exact ans_adv R1.out R2.out R3.out R4.out
    · have hdf : dayF day' = false := by simpa using hd
      rw [hdf] at HDY
      have hr : ¬ (0 ≤ day' ∧ day' ≤ 1048576) := fun h => hd (HDD.out.2 h)
      clear hd hdf
      go_enter Try.func27, Try.ntmps27
      go_wp2_with fail
      rw [HWW.out]
      refine HCK.out.mono ?_
      rintro e w3 ⟨rfl, hb3⟩
      have h1 := keep_heap hb3 K1.out
      have h2 := keep_heap hb3 K2.out
      obtain ⟨x0, x1, x2, x3, x4⟩ := five_cells h1
      obtain ⟨y0, y1, y2, y3, y4⟩ := five_cells h2
      obtain ⟨f0, f1, f2, f3, f4⟩ := five_free h2
      have hb3' := HBW.out.trans (hb3.mono HBW.out.size)
      have p5 := put5 (x' := .int .i64 0) (y' := .int .i64 0) (z' := .int .i64 0) (u' := .slice none 0 0) (v' := .slice none 0 0) h2
      obtain ⟨z0, z1, z2, z3, z4⟩ := five_cells p5
      have HB3 := Lib.hid (below_put5 (x' := .int .i64 0) (y' := .int .i64 0) (z' := .int .i64 0) (u' := .slice none 0 0) (t' := .slice none 0 0) hb3' (Nat.le_succ w.heap.size))
      clear h1 h2 hb3 hb3' p5
      go_wp2_with (go_at_call 44
                   go_must (refine (HDY.out _).mono ?_)
                   rintro e w5 ⟨rfl, rfl⟩)
      refine bodyPost_ret (by simp [results, Try.results27, go_sem, z0, z1, z2, z3, z4]; rfl) rfl ?_
      have hE : A = noAns 1 := by rw [← HAA.out]; exact adv_noans (by rw [advE, if_neg (by rw [HCZ.out]; simp), if_pos (by omega)]) (by decide)
      rw [hE]
      exact ans_none _ HB3.out
  · obtain ⟨c, hc⟩ : ∃ c, chkF ⟨day, ans, app, H, l⟩ = c := ⟨_, rfl⟩
    rw [hc] at HCK hck
    have hq : (c != 0) = true := by simpa using hck
    have HCZ := Lib.hid hc
    have HCN := Lib.hid hck
    clear hck hc
    go_enter Try.func27, Try.ntmps27
    go_wp2_with fail
    rw [HWW.out]
    refine HCK.out.mono ?_
    rintro e w3 ⟨rfl, hb3⟩
    have h1 := keep_heap hb3 K1.out
    have h2 := keep_heap hb3 K2.out
    obtain ⟨x0, x1, x2, x3, x4⟩ := five_cells h1
    obtain ⟨y0, y1, y2, y3, y4⟩ := five_cells h2
    obtain ⟨f0, f1, f2, f3, f4⟩ := five_free h2
    have hb3' := HBW.out.trans (hb3.mono HBW.out.size)
    have p5 := put5 (x' := .int .i64 0) (y' := .int .i64 0) (z' := .int .i64 0) (u' := .slice none 0 0) (v' := .slice none 0 0) h2
    obtain ⟨z0, z1, z2, z3, z4⟩ := five_cells p5
    have HB3 := Lib.hid (below_put5 (x' := .int .i64 0) (y' := .int .i64 0) (z' := .int .i64 0) (u' := .slice none 0 0) (t' := .slice none 0 0) hb3' (Nat.le_succ w.heap.size))
    clear h1 h2 hb3 hb3' p5
    go_wp2_with fail
    refine bodyPost_ret (by simp [results, Try.results27, go_sem, z0, z1, z2, z3, z4]; rfl) rfl ?_
    have hE : A = noAns c := by rw [← HAA.out]; exact adv_noans (by rw [advE, if_pos (by rw [HCZ.out]; exact HCN.out)]; exact HCZ.out) HCN.out
    rw [hE]
    exact ans_none _ HB3.out
end Go.Proofs.Ytpddpdkdlodniaa
