/-
  Contracts: File; New.
-/
import Derived.Test.YtpddpdkdlodniaaOFile3
import Derived.Test.YtpddpdkdlodniaaOAppend
namespace Go.Proofs.Ytpddpdkdlodniaa
open Go.RowKit

theorem File_any (day ans app : Int) (f : Fl) (ho mo : Option Addr) (hc mc : Nat) (H : List Int) (l : List Mt) (w : World) (hM : Mts w mo l) (hI : Ints w ho H) (hcap : l.length ≤ mc) (hl : l.length ≤ 9223372036854775807) :
    Calls Try.prog 20 #[.agg #[.int .i64 day, .int .i64 ans, .int .i64 app, .slice ho H.length hc, .slice mo l.length mc], .agg #[.int .i64 f.kind, .int .i64 f.day, .int .i64 f.id, .int .i64 f.opt]] w (AnsPost w.heap.size w (fileF ⟨day, ans, app, H, l⟩ f)) := by
  obtain ⟨fk, fd, fi, fo⟩ := f
  by_cases hE : advE ⟨day, ans, app, H, l⟩ fd = 0
  · by_cases hk : fk < 1 ∨ 6 < fk
    · exact file_bad day ans app fk fd fi fo ho mo hc mc H l w hM hI hcap hl hE hk
    · have hks : fk = 1 ∨ fk = 2 ∨ fk = 3 ∨ fk = 4 ∨ fk = 5 ∨ fk = 6 := by omega
      rcases hks with rfl | rfl | rfl | rfl | rfl | rfl
      · exact file_open day ans app fd fi fo ho mo hc mc H l w hM hI hcap hl hE
      · exact file_chg2 day ans app fd fi fo ho mo hc mc H l w hM hI hcap hl hE
      · exact file_chg3 day ans app fd fi fo ho mo hc mc H l w hM hI hcap hl hE
      · exact file_chg4 day ans app fd fi fo ho mo hc mc H l w hM hI hcap hl hE
      · exact file_chg5 day ans app fd fi fo ho mo hc mc H l w hM hI hcap hl hE
      · exact file_chg6 day ans app fd fi fo ho mo hc mc H l w hM hI hcap hl hE
  · exact file_adverr day ans app fk fd fi fo ho mo hc mc H l w hM hI hcap hl hE

/-- What New answers. -/
def NewPost (B : Nat) (w : World) (r : Dk × Int) (e : Ending) (w' : World) : Prop := ∃ dv, e = .returned (.tuple #[dv, .int .i64 r.2]) ∧ DkOwn B w' dv r.1 ∧ Below B w w'

set_option maxRecDepth 100000 in
set_option maxHeartbeats 2000000 in
theorem New_any (day ans app : Int) (ho : Option Addr) (hc : Nat) (H : List Int) (w : World) (hI : Ints w ho H) :
    Calls Try.prog 17 #[.int .i64 day, .agg #[.int .i64 ans, .int .i64 app, .slice ho H.length hc]] w (NewPost w.heap.size w (newF day ans app H)) := by
  obtain ⟨W, hW⟩ : ∃ W, (w.alloc (.cells #[.int .i64 ans, .int .i64 app, .slice ho H.length hc] 27)).alloc dkZero = W := ⟨_, rfl⟩
  have hbW : Below w.heap.size w W := by rw [← hW]; go_grown
  have k1 : W.heap[w.heap.size]? = some (.cells #[.int .i64 ans, .int .i64 app, .slice ho H.length hc] 27 (0, 0)) := by rw [← hW]; exact alloc_heap (heap_alloc_new w _)
  have k2 : W.heap[w.heap.size + 1]? = some dkZero := by
    have := heap_alloc_new (w.alloc (.cells #[.int .i64 ans, .int .i64 app, .slice ho H.length hc] 27)) dkZero
    rw [World.size_alloc] at this
    rw [← hW]
    exact this
  have hsW : W.heap.size = w.heap.size + 2 := by rw [← hW]; simp
  have HT := Lib.hid (checkTerms_any day ans app ho H.length hc W)
  have HIW := Lib.hid (hI.next hbW)
  have HBW := Lib.hid hbW
  have HS := Lib.hid hsW
  have K1 := Lib.hid k1
  have K2 := Lib.hid k2
  have HWW := Lib.hid hW
  obtain ⟨A, hA⟩ : ∃ A, newF day ans app H = A := ⟨_, rfl⟩
  rw [hA]
  have HAA := Lib.hid hA
  clear hI hbW hsW k1 k2 hW hA
  by_cases ht : termsF day ans app H.length = 0
  · rw [ht] at HT
    have HZ := Lib.hid ht
    have hH : H.length ≤ 1000 := (terms_zero.1 ht).2.2.1
    clear ht
    go_enter Try.func17, Try.ntmps17
    go_wp2_with fail
    rw [HWW.out]
    refine HT.out.mono ?_
    rintro e w3 ⟨rfl, hb3⟩
    obtain ⟨t0, t1, t2, -, -, -⟩ := three_cells (keep_heap hb3 K1.out)
    have H2 := Lib.hid (keep_heap hb3 K2.out)
    have HB3 := Lib.hid (HBW.out.trans (hb3.mono HBW.out.size))
    have HC := Lib.hid (copyTerms_any ans app ho hc H w3 (HIW.out.next hb3) (by omega))
    clear hb3
    go_wp2_with fail
    refine HC.out.mono ?_
    rintro e w4 ⟨ro, rc, rfl, hO, hb4⟩
    have h2 := keep_heap hb4 H2.out
    obtain ⟨y0, y1, y2, y3, y4⟩ := five_cells h2
    obtain ⟨f0, f1, f2, f3, f4⟩ := five_free h2
    have p5 := put5 (x' := .int .i64 day) (y' := .int .i64 ans) (z' := .int .i64 app) (u' := .slice ro H.length rc) (v' := .slice none 0 0) h2
    obtain ⟨z0, z1, z2, z3, z4⟩ := five_cells p5
    have HO := Lib.hid (owns_put5 (x' := .int .i64 day) (y' := .int .i64 ans) (z' := .int .i64 app) (u' := .slice ro H.length rc) (t' := .slice none 0 0) (hO.mono HB3.out.size) h2 (by decide))
    have HB := Lib.hid (below_put5 (x' := .int .i64 day) (y' := .int .i64 ans) (z' := .int .i64 app) (u' := .slice ro H.length rc) (t' := .slice none 0 0) (HB3.out.trans (hb4.mono HB3.out.size)) (Nat.le_succ w.heap.size))
    clear h2 p5 hO hb4
    go_wp2_with fail
    refine bodyPost_ret (by simp [results, Try.results17, go_sem, z0, z1, z2, z3, z4]; rfl) rfl ?_
    have hE : A = (⟨day, ans, app, H, []⟩, 0) := by rw [← HAA.out]; unfold newF; rw [if_pos HZ.out]
    rw [hE]
    exact ⟨_, rfl, ⟨ro, rc, none, 0, rfl, HO.out, World.ownsRow_nil _ _ _ _⟩, HB.out⟩
  · obtain ⟨c, hc'⟩ : ∃ c, termsF day ans app H.length = c := ⟨_, rfl⟩
    rw [hc'] at HT ht
    have hq : (c != 0) = true := by simpa using ht
    have HZ := Lib.hid hc'
    have HN := Lib.hid ht
    clear ht hc'
    go_enter Try.func17, Try.ntmps17
    go_wp2_with fail
    rw [HWW.out]
    refine HT.out.mono ?_
    rintro e w3 ⟨rfl, hb3⟩
    have h2 := keep_heap hb3 K2.out
    obtain ⟨y0, y1, y2, y3, y4⟩ := five_cells h2
    obtain ⟨f0, f1, f2, f3, f4⟩ := five_free h2
    have p5 := put5 (x' := .int .i64 0) (y' := .int .i64 0) (z' := .int .i64 0) (u' := .slice none 0 0) (v' := .slice none 0 0) h2
    obtain ⟨z0, z1, z2, z3, z4⟩ := five_cells p5
    have HB := Lib.hid (below_put5 (x' := .int .i64 0) (y' := .int .i64 0) (z' := .int .i64 0) (u' := .slice none 0 0) (t' := .slice none 0 0) (HBW.out.trans (hb3.mono HBW.out.size)) (Nat.le_succ w.heap.size))
    clear h2 p5 hb3
    go_wp2_with fail
    refine bodyPost_ret (by simp [results, Try.results17, go_sem, z0, z1, z2, z3, z4]; rfl) rfl ?_
    have hE : A = (zeroDk, c) := by rw [← HAA.out]; unfold newF; rw [if_neg (by rw [HZ.out]; exact HN.out), HZ.out]
    rw [hE]
    exact ⟨_, rfl, ⟨none, 0, none, 0, rfl, World.ownsRow_nil _ _ _ _, World.ownsRow_nil _ _ _ _⟩, HB.out⟩
end Go.Proofs.Ytpddpdkdlodniaa
