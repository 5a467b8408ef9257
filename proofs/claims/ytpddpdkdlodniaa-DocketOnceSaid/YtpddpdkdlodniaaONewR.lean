/-
  The document's NewDocket: the plain answer, with cells of its own.
-/
import Derived.Test.YtpddpdkdlodniaaOCopied
namespace Go.Proofs.Ytpddpdkdlodniaa
open Go.RowKit

set_option maxRecDepth 100000 in
set_option maxHeartbeats 2000000 in
theorem NewR_any (day ans app : Int) (ho : Option Addr) (hc : Nat) (H : List Int) (w : World) (hI : Ints w ho H) (hn : ho = none → hc = 0) :
    Calls Try.prog 22 #[.int .i64 day, .agg #[.int .i64 ans, .int .i64 app, .slice ho H.length hc]] w (NewPost w.heap.size w (newF day ans app H)) := by
  obtain ⟨i0, hi, hz0, hz1, hz2⟩ := info_split Try.infoInt
  obtain ⟨W, hW⟩ : ∃ W, (w.alloc (.cells #[.int .i64 ans, .int .i64 app, .slice ho H.length hc] 27)).alloc dkZero = W := ⟨_, rfl⟩
  have hbW : Below w.heap.size w W := by rw [← hW]; go_grown
  have k1 : W.heap[w.heap.size]? = some (.cells #[.int .i64 ans, .int .i64 app, .slice ho H.length hc] 27 (0, 0)) := by rw [← hW]; exact alloc_heap (heap_alloc_new w _)
  have k2 : W.heap[w.heap.size + 1]? = some dkZero := by
    have := heap_alloc_new (w.alloc (.cells #[.int .i64 ans, .int .i64 app, .slice ho H.length hc] 27)) dkZero
    rw [World.size_alloc] at this
    rw [← hW]
    exact this
  have hsW : W.heap.size = w.heap.size + 2 := by rw [← hW]; simp
  have HT := Lib.hid (checkTermsR_any day ans app ho H.length hc W)
  have HSR := Lib.hid ((src_ints hI hn).below hbW)
  have HBW := Lib.hid hbW
  have HS := Lib.hid hsW
  have K1 := Lib.hid k1
  have K2 := Lib.hid k2
  have HWW := Lib.hid hW
  obtain ⟨A, hA⟩ : ∃ A, newF day ans app H = A := ⟨_, rfl⟩
  rw [hA]
  have HAA := Lib.hid hA
  clear hI hn hbW hsW k1 k2 hW hA
  by_cases ht : termsF day ans app H.length = 0
  · rw [ht] at HT
    have HZ := Lib.hid ht
    have hH : H.length ≤ 1000 := (terms_zero.1 ht).2.2.1
    clear ht
    go_enter Try.func22, Try.ntmps22
    go_wp2_with fail
    rw [HWW.out]
    refine HT.out.mono ?_
    rintro e w3 ⟨rfl, hb3⟩
    have h1 := keep_heap hb3 K1.out
    have h2 := keep_heap hb3 K2.out
    obtain ⟨t0, t1, t2, -, -, -⟩ := three_cells h1
    have H1 := Lib.hid h1
    have H2 := Lib.hid h2
    have HB3 := Lib.hid (HBW.out.trans (hb3.mono HBW.out.size))
    have HS3 := Lib.hid (HSR.out.below hb3)
    have hsz := HB3.out.size
    have hsz1 : w.heap.size + 1 < w3.heap.size := (Array.getElem?_eq_some_iff.1 h2).1
    have hsz0 : w.heap.size < w3.heap.size := by omega
    obtain ⟨q0, q1, q2, -, -, -⟩ := three_cells (alloc_heap (o' := .cells #[] 3) h1)
    clear h1 h2 hb3
    go_wp2_with fail
    have HROW : Hid ((w3.alloc (.cells #[] 3)).drew.ownsRow w.heap.size 3 1 (.slice (some ⟨w3.heap.size, 0, none⟩) 0 0) 0 []) := Lib.hid (World.ownsRow_made w3 #[] 0 hsz (Nat.zero_le _) rfl).drew
    have hbe : Below w3.heap.size w3 (w3.alloc (.cells #[] 3)).drew := ((Below.refl _ _).alloc (Nat.le_refl _) _).drew
    have HSR2 := Lib.hid (HS3.out.below hbe)
    have HBE : Hid (Below w.heap.size w (w3.alloc (.cells #[] 3)).drew) := Lib.hid (HB3.out.trans (hbe.mono hsz))
    have HSZ2 : Hid (w.heap.size ≤ (w3.alloc (.cells #[] 3)).drew.heap.size) := Lib.hid (Nat.le_trans hsz hbe.size)
    have HMX : Hid (0 + H.length ≤ maxLen) := Lib.hid (by unfold maxLen; omega)
    have HBY : Hid ((0 + H.length) * 8 ≤ 140737488355328) := Lib.hid (by omega)
    have H2E := Lib.hid (drew_heap (alloc_heap (o' := .cells #[] 3) H2.out))
    have H1E := Lib.hid (drew_heap (alloc_heap (o' := .cells #[] 3) H1.out))
    clear hbe
    go_region_held3 (fun w' => w'.cell? ⟨w.heap.size, 0, none⟩ = some (.int .i64 ans) ∧ w'.cell? ⟨w.heap.size, 1, none⟩ = some (.int .i64 app) ∧ w'.cell? ⟨w.heap.size, 2, none⟩ = some (.slice ho H.length hc))
      (first | with_reducible exact ⟨t0, t1, t2⟩ | with_reducible exact ⟨q0, q1, q2⟩ | with_reducible exact ⟨r0, r1, r2⟩ | with_reducible exact ⟨s0, s1, s2⟩ | go_keep)
      (first
      | (refine step_append_src (w3.alloc (.cells #[] 3)).drew (by rfl) _ _ _ (by rfl) w.heap.size 3 i0 (.int .i64 0) 1 8 Try.underlying25 hi hz0 hz1 hz2 rfl Nat.one_pos _ 0 [] (by rfl) HROW.out _ H.length (H.map (Value.int .i64)) (by rfl) HSR2.out ints_one HMX.out HBY.out HSZ2.out ?_
         intro ao6 c6 w6 hown6 hg6
         have h26 := heap_grown H2E.out HROW.out (by decide) hg6
         have h16 := heap_grown H1E.out HROW.out (by decide) hg6
         obtain ⟨r0, r1, r2, -, -, -⟩ := three_cells h16
         obtain ⟨s0, s1, s2, -, -, -⟩ := three_cells (heap_put5 (b := w.heap.size + 1) (x' := .int .i64 day) (y' := .int .i64 ans) (z' := .int .i64 app) (u' := .slice ao6 H.length c6) (t' := .slice none 0 0) h16 (Nat.ne_of_lt (Nat.lt_succ_self _)))
         obtain ⟨y0, y1, y2, y3, y4⟩ := five_cells h26
         obtain ⟨f0, f1, f2, f3, f4⟩ := five_free h26
         rw [Nat.zero_add, List.nil_append] at hown6
         have H26 := Lib.hid h26
         have HB6 : Hid (Below w.heap.size w w6) := Lib.hid (HBE.out.grown hg6 HSZ2.out (fun j hj => (HROW.out.lt j hj).1))
         clear h26 h16 hg6))
    all_goals
      have p5 := put5 (x' := .int .i64 day) (y' := .int .i64 ans) (z' := .int .i64 app) (u' := .slice ao6 H.length c6) (v' := .slice none 0 0) H26.out
      obtain ⟨z0, z1, z2, z3, z4⟩ := five_cells p5
      have HO := Lib.hid (owns_put5 (x' := .int .i64 day) (y' := .int .i64 ans) (z' := .int .i64 app) (u' := .slice ao6 H.length c6) (t' := .slice none 0 0) hown6 H26.out (by decide))
      have HB := Lib.hid (below_put5 (x' := .int .i64 day) (y' := .int .i64 ans) (z' := .int .i64 app) (u' := .slice ao6 H.length c6) (t' := .slice none 0 0) HB6.out (Nat.le_succ w.heap.size))
      clear p5 hown6
      go_wp2_with fail
      refine bodyPost_ret (by simp [results, Try.results22, go_sem, z0, z1, z2, z3, z4]; rfl) rfl ?_
      have hE : A = (⟨day, ans, app, H, []⟩, 0) := by rw [← HAA.out]; unfold newF; rw [if_pos HZ.out]
      rw [hE]
      exact ⟨_, rfl, ⟨ao6, c6, none, 0, rfl, HO.out, World.ownsRow_nil _ _ _ _⟩, HB.out⟩
  · obtain ⟨c, hc'⟩ : ∃ c, termsF day ans app H.length = c := ⟨_, rfl⟩
    rw [hc'] at HT ht
    have hq : (c != 0) = true := by simpa using ht
    have HZ := Lib.hid hc'
    have HN := Lib.hid ht
    clear ht hc'
    go_enter Try.func22, Try.ntmps22
    go_wp2_with fail
    rw [HWW.out]
    refine HT.out.mono ?_
    rintro e w3 ⟨rfl, hb3⟩
    have h2 := keep_heap hb3 K2.out
    obtain ⟨y0, y1, y2, y3, y4⟩ := five_cells h2
    obtain ⟨f0, f1, f2, f3, f4⟩ := five_free h2
    have p5 := put5 (x' := .int .i64 0) (y' := .int .i64 0) (z' := .int .i64 0) (u' := .slice none 0 0) (v' := .slice none 0 0) h2
    obtain ⟨z0, z1, z2, z3, z4⟩ := five_cells p5
    have HB := Lib.hid (below_put5 (x' := .int .i64 0) (y' := .int .i64 0) (z' := .int .i64 0) (u' := .slice none 0 0) (t' := .slice none 0 0) (HBW.out.trans (hb3.mono HBW.out.size)) (Nat.le_succ w.heap.size))
    clear h2 p5 hb3
    go_wp2_with fail
    refine bodyPost_ret (by simp [results, Try.results22, go_sem, z0, z1, z2, z3, z4]; rfl) rfl ?_
    have hE : A = (zeroDk, c) := by rw [← HAA.out]; unfold newF; rw [if_neg (by rw [HZ.out]; exact HN.out), HZ.out]
    rw [hE]
    exact ⟨_, rfl, ⟨none, 0, none, 0, rfl, World.ownsRow_nil _ _ _ _, World.ownsRow_nil _ _ _ _⟩, HB.out⟩
end Go.Proofs.Ytpddpdkdlodniaa
