/-
  Contracts: File; New.
  Contract: Play.
  Contract: Play, walked.
-/
import Derived.Test.YtpddpdkdlodniaaOFile3
import Derived.Test.YtpddpdkdlodniaaOAppend
namespace Go.Proofs.Ytpddpdkdlodniaa
open Go.RowKit

theorem File_any (day ans app : Int) (f : Fl) (ho mo : Option Addr) (hc mc : Nat) (H : List Int) (l : List Mt) (w : World) (hM : Mts w mo l) (hI : Ints w ho H) (hcap : l.length ≤ mc) (hl : l.length ≤ 9223372036854775807) :
    Calls Try.prog 20 #[.agg #[.int .i64 day, .int .i64 ans, .int .i64 app, .slice ho H.length hc, .slice mo l.length mc], .agg #[.int .i64 f.kind, .int .i64 f.day, .int .i64 f.id, .int .i64 f.opt]] w (AnsPost w.heap.size w (fileF ⟨day, ans, app, H, l⟩ f)) := by
  obtain ⟨fk, fd, fi, fo⟩ := f
  by_cases hE : advE ⟨day, ans, app, H, l⟩ fd = 0
  · by_cases hk : fk < 1 ∨ 6 < fk
    · exact file_bad day ans app fk fd fi fo ho mo hc mc H l w hM hI hcap hl hE hk
    · have hks : fk = 1 ∨ fk = 2 ∨ fk = 3 ∨ fk = 4 ∨ fk = 5 ∨ fk = 6 := by omega
      rcases hks with rfl | rfl | rfl | rfl | rfl | rfl
      · exact file_open day ans app fd fi fo ho mo hc mc H l w hM hI hcap hl hE
      · exact file_chg2 day ans app fd fi fo ho mo hc mc H l w hM hI hcap hl hE
      · exact file_chg3 day ans app fd fi fo ho mo hc mc H l w hM hI hcap hl hE
      · exact file_chg4 day ans app fd fi fo ho mo hc mc H l w hM hI hcap hl hE
      · exact file_chg5 day ans app fd fi fo ho mo hc mc H l w hM hI hcap hl hE
      · exact file_chg6 day ans app fd fi fo ho mo hc mc H l w hM hI hcap hl hE
  · exact file_adverr day ans app fk fd fi fo ho mo hc mc H l w hM hI hcap hl hE

/-- What New answers. -/
def NewPost (B : Nat) (w : World) (r : Dk × Int) (e : Ending) (w' : World) : Prop := ∃ dv, e = .returned (.tuple #[dv, .int .i64 r.2]) ∧ DkOwn B w' dv r.1 ∧ Below B w w'

set_option maxRecDepth 100000 in
set_option maxHeartbeats 2000000 in
theorem New_any (day ans app : Int) (ho : Option Addr) (hc : Nat) (H : List Int) (w : World) (hI : Ints w ho H) :
    Calls Try.prog 17 #[.int .i64 day, .agg #[.int .i64 ans, .int .i64 app, .slice ho H.length hc]] w (NewPost w.heap.size w (newF day ans app H)) := by
  obtain ⟨W, hW⟩ : ∃ W, (w.alloc (.cells #[.int .i64 ans, .int .i64 app, .slice ho H.length hc] 27)).alloc dkZero = W := ⟨_, rfl⟩
  have hbW : Below w.heap.size w W := by rw [← hW]; go_grown
  have k1 : W.heap[w.heap.size]? = some (.cells #[.int .i64 ans, .int .i64 app, .slice ho H.length hc] 27 (0, 0)) := by rw [← hW]; exact alloc_heap (heap_alloc_new w _)
  have k2 : W.heap[w.heap.size + 1]? = some dkZero := by
    have := heap_alloc_new (w.alloc (.cells #[.int .i64 ans, .int .i64 app, .slice ho H.length hc] 27)) dkZero
    rw [World.size_alloc] at this
    rw [← hW]
    exact this
  have hsW : W.heap.size = w.heap.size + 2 := by rw [← hW]; simp
  have HT := Lib.hid (checkTerms_any day ans app ho H.length hc W)
  have HIW := Lib.hid (hI.next hbW)
  have HBW := Lib.hid hbW
  have HS := Lib.hid hsW
  have K1 := Lib.hid k1
  have K2 := Lib.hid k2
  have HWW := Lib.hid hW
  obtain ⟨A, hA⟩ : ∃ A, newF day ans app H = A := ⟨_, rfl⟩
  rw [hA]
  have HAA := Lib.hid hA
  clear hI hbW hsW k1 k2 hW hA
  by_cases ht : termsF day ans app H.length = 0
  · rw [ht] at HT
    have HZ := Lib.hid ht
    have hH : H.length ≤ 1000 := (terms_zero.1 ht).2.2.1
    clear ht
    go_enter Try.func17, Try.ntmps17
    go_wp2_with fail
    rw [HWW.out]
    refine HT.out.mono ?_
    rintro e w3 ⟨rfl, hb3⟩
    obtain ⟨t0, t1, t2, -, -, -⟩ := three_cells (keep_heap hb3 K1.out)
    have H2 := Lib.hid (keep_heap hb3 K2.out)
    have HB3 := Lib.hid (HBW.out.trans (hb3.mono HBW.out.size))
    have HC := Lib.hid (copyTerms_any ans app ho hc H w3 (HIW.out.next hb3) (by omega))
    clear hb3
    go_wp2_with fail
    refine HC.out.mono ?_
    rintro e w4 ⟨ro, rc, rfl, hO, hb4⟩
    have h2 := keep_heap hb4 H2.out
    obtain ⟨y0, y1, y2, y3, y4⟩ := five_cells h2
    obtain ⟨f0, f1, f2, f3, f4⟩ := five_free h2
    have p5 := put5 (x' := .int .i64 day) (y' := .int .i64 ans) (z' := .int .i64 app) (u' := .slice ro H.length rc) (v' := .slice none 0 0) h2
    obtain ⟨z0, z1, z2, z3, z4⟩ := five_cells p5
    have HO := Lib.hid (owns_put5 (x' := .int .i64 day) (y' := .int .i64 ans) (z' := .int .i64 app) (u' := .slice ro H.length rc) (t' := .slice none 0 0) (hO.mono HB3.out.size) h2 (by decide))
    have HB := Lib.hid (below_put5 (x' := .int .i64 day) (y' := .int .i64 ans) (z' := .int .i64 app) (u' := .slice ro H.length rc) (t' := .slice none 0 0) (HB3.out.trans (hb4.mono HB3.out.size)) (Nat.le_succ w.heap.size))
    clear h2 p5 hO hb4
    go_wp2_with fail
    refine bodyPost_ret (by simp [results, Try.results17, go_sem, z0, z1, z2, z3, z4]; rfl) rfl ?_
    have hE : A = (⟨day, ans, app, H, []⟩, 0) := by rw [← HAA.out]; unfold newF; rw [if_pos HZ.out]
    rw [hE]
    exact ⟨_, rfl, ⟨ro, rc, none, 0, rfl, HO.out, World.ownsRow_nil _ _ _ _⟩, HB.out⟩
  · obtain ⟨c, hc'⟩ : ∃ c, termsF day ans app H.length = c := ⟨_, rfl⟩
    rw [hc'] at HT ht
    have hq : (c != 0) = true := by simpa using ht
    have HZ := Lib.hid hc'
    have HN := Lib.hid ht
    clear ht hc'
    go_enter Try.func17, Try.ntmps17
    go_wp2_with fail
    rw [HWW.out]
    refine HT.out.mono ?_
    rintro e w3 ⟨rfl, hb3⟩
    have h2 := keep_heap hb3 K2.out
    obtain ⟨y0, y1, y2, y3, y4⟩ := five_cells h2
    obtain ⟨f0, f1, f2, f3, f4⟩ := five_free h2
    have p5 := put5 (x' := .int .i64 0) (y' := .int .i64 0) (z' := .int .i64 0) (u' := .slice none 0 0) (v' := .slice none 0 0) h2
    obtain ⟨z0, z1, z2, z3, z4⟩ := five_cells p5
    have HB := Lib.hid (below_put5 (x' := .int .i64 0) (y' := .int .i64 0) (z' := .int .i64 0) (u' := .slice none 0 0) (t' := .slice none 0 0) (HBW.out.trans (hb3.mono HBW.out.size)) (Nat.le_succ w.heap.size))
    clear h2 p5 hb3
    go_wp2_with fail
    refine bodyPost_ret (by simp [results, Try.results17, go_sem, z0, z1, z2, z3, z4]; rfl) rfl ?_
    have hE : A = (zeroDk, c) := by rw [← HAA.out]; unfold newF; rw [if_neg (by rw [HZ.out]; exact HN.out), HZ.out]
    rw [hE]
    exact ⟨_, rfl, ⟨none, 0, none, 0, rfl, World.ownsRow_nil _ _ _ _, World.ownsRow_nil _ _ _ _⟩, HB.out⟩
end Go.Proofs.Ytpddpdkdlodniaa

namespace Go.Proofs.Ytpddpdkdlodniaa
open Go.RowKit

/-- Filings lie at an address. -/
def FlAt (w : World) (b o : Nat) (f : Fl) : Prop := w.cell? ⟨b, o, none⟩ = some (.int .i64 f.kind) ∧ w.cell? ⟨b, o + 1, none⟩ = some (.int .i64 f.day) ∧ w.cell? ⟨b, o + 2, none⟩ = some (.int .i64 f.id) ∧ w.cell? ⟨b, o + 3, none⟩ = some (.int .i64 f.opt)
def Fls (w : World) (ao : Option Addr) (l : List Fl) : Prop := l = [] ∨ ∃ b off, ao = some ⟨b, off, none⟩ ∧ b < w.heap.size ∧ ∀ i, i < l.length → FlAt w b (off + i * 4) (l.getD i default)
theorem Fls.next {w w' : World} {ao : Option Addr} {l : List Fl} (h : Fls w ao l) (hb : Below w.heap.size w w') : Fls w' ao l := by
  rcases h with h | ⟨b, off, rfl, hlt, hc⟩
  · exact .inl h
  · refine .inr ⟨b, off, rfl, Nat.lt_of_lt_of_le hlt hb.size, fun i hi => ?_⟩
    obtain ⟨h0, h1, h2, h3⟩ := hc i hi
    exact ⟨(hb.cell (p := ⟨b, off + i * 4, none⟩) hlt).trans h0, (hb.cell (p := ⟨b, off + i * 4 + 1, none⟩) hlt).trans h1, (hb.cell (p := ⟨b, off + i * 4 + 2, none⟩) hlt).trans h2, (hb.cell (p := ⟨b, off + i * 4 + 3, none⟩) hlt).trans h3⟩
theorem Fls.cells {w : World} {ao : Option Addr} {l : List Fl} (h : Fls w ao l) (hl : 0 < l.length) : ∃ b off, ao = some ⟨b, off, none⟩ ∧ b < w.heap.size ∧ ∀ i, i < l.length → FlAt w b (off + i * 4) (l.getD i default) := by
  rcases h with h | h
  · rw [h] at hl; simp at hl
  · exact h

/-- A docket in a variable. -/
def DkIn (B D : Nat) (w : World) (d : Dk) : Prop := ∃ ro rc mo mc, w.heap[D]? = some (dkObj d.day d.ans d.app ro d.hol.length rc mo d.mts.length mc) ∧ w.ownsRow B 3 1 (.slice ro d.hol.length rc) d.hol.length (d.hol.map (Value.int .i64)) ∧
    w.ownsRow B 50 5 (.slice mo d.mts.length mc) d.mts.length (d.mts.flatMap mtCells)
/-- What the loop of Play keeps. -/
def PlayAt (w : World) (D : Nat) (d : Dk) (all : List Rl) (v : Value) (wr : World) : Prop := DkIn w.heap.size D wr d ∧ wr.heap[w.heap.size + 1]? = some dkZero ∧ RlOwn w.heap.size wr v all ∧ Below w.heap.size w wr
def PlayPost (B : Nat) (w : World) (r : Dk × List Rl × Int × Int) (e : Ending) (w' : World) : Prop := ∃ dv rv, e = .returned (.tuple #[dv, rv, .int .i64 r.2.2.1, .int .i64 r.2.2.2]) ∧ DkOwn B w' dv r.1 ∧ RlOwn B w' rv r.2.1 ∧ Below B w w'

theorem file_rl_len (d : Dk) (f : Fl) : (fileF d f).2.1.length ≤ 33 := by
  unfold fileF
  split
  · rename_i h
    have h1 := advR_le h
    unfold actF
    split
    · simp [noAns]
    · split
      · split
        · simp only; omega
        · simp [noAns]
      · split
        · simp [noAns]
        · simp only
          split
          · simp only
            split
            · rw [List.length_append]; simp only [List.length_cons, List.length_nil]; omega
            · omega
          · simp [noAns]
  · simp [noAns]
theorem play_step (fs : List Fl) (k : Nat) (d : Dk) (all : List Rl) (h : k < fs.length) :
    playGo (fs.drop k) d all k = if (fileF d (fs.getD k default)).2.2 = 0 then playGo (fs.drop (k + 1)) (fileF d (fs.getD k default)).1 (all ++ (fileF d (fs.getD k default)).2.1) ((k + 1 : Nat) : Int) else (zeroDk, [], k, (fileF d (fs.getD k default)).2.2) := by
  rw [List.drop_eq_getElem_cons h]
  have e : fs.getD k default = fs[k] := by simp [List.getD, h]
  rw [e]
  simp [playGo]
/-- The next docket, whichever of the last two operations came first. -/
theorem play_next1 {w w4 w5 : World} {D : Nat} {d d' : Dk} {all rs : List Rl} {v v2 : Value} {ro mo : Option Addr} {rc mc : Nat} (hat : PlayAt w D d all v w4) (hD : w.heap.size + 1 < D)
    (h1 : w4.ownsRow w.heap.size 3 1 (.slice ro d'.hol.length rc) d'.hol.length (d'.hol.map (Value.int .i64))) (h2 : w4.ownsRow w.heap.size 50 5 (.slice mo d'.mts.length mc) d'.mts.length (d'.mts.flatMap mtCells))
    (h3 : w5.ownsRow w.heap.size 52 3 v2 (all.length + rs.length) (all.flatMap rlCells ++ rs.flatMap rlCells)) (hg : w4.drew.grownBy w5 v.ownBlock) :
    PlayAt w D d' (all ++ rs) v2 (((((w5.setCell ⟨D, 0, none⟩ (.int .i64 d'.day)).setCell ⟨D, 1, none⟩ (.int .i64 d'.ans)).setCell ⟨D, 2, none⟩ (.int .i64 d'.app)).setCell ⟨D, 3, none⟩ (.slice ro d'.hol.length rc)).setCell ⟨D, 4, none⟩ (.slice mo d'.mts.length mc)) := by
  obtain ⟨⟨ro0, rc0, mo0, mc0, hd, -, -⟩, hz, hr, hb⟩ := hat
  have hr' : w4.drew.ownsRow w.heap.size 52 3 v all.length (all.flatMap rlCells) := hr
  have hd5 := heap_grown (drew_heap hd) hr' (by decide) hg
  have hz5 := heap_grown (drew_heap hz) hr' (by decide) hg
  have h15 := owns_grown h1.drew hr' (by decide) hg
  have h25 := owns_grown h2.drew hr' (by decide) hg
  have hb5 : Below w.heap.size w w5 := hb.drew.grown hg hb.size (fun j hj => (hr.lt j hj).1)
  refine ⟨⟨ro, rc, mo, mc, put5 hd5, owns_put5 h15 hd5 (by decide), owns_put5 h25 hd5 (by decide)⟩, heap_put5 hz5 (by omega), ?_, below_put5 hb5 (by omega)⟩
  unfold RlOwn
  rw [List.length_append, List.flatMap_append]
  exact owns_put5 h3 hd5 (by decide)
theorem play_next2 {w w4 w5 : World} {D : Nat} {d d' : Dk} {all rs : List Rl} {v v2 : Value} {ro mo : Option Addr} {rc mc : Nat} (hat : PlayAt w D d all v w4) (hD : w.heap.size + 1 < D)
    (h1 : w4.ownsRow w.heap.size 3 1 (.slice ro d'.hol.length rc) d'.hol.length (d'.hol.map (Value.int .i64))) (h2 : w4.ownsRow w.heap.size 50 5 (.slice mo d'.mts.length mc) d'.mts.length (d'.mts.flatMap mtCells))
    (h3 : w5.ownsRow w.heap.size 52 3 v2 (all.length + rs.length) (all.flatMap rlCells ++ rs.flatMap rlCells))
    (hg : (((((w4.drew.setCell ⟨D, 0, none⟩ (.int .i64 d'.day)).setCell ⟨D, 1, none⟩ (.int .i64 d'.ans)).setCell ⟨D, 2, none⟩ (.int .i64 d'.app)).setCell ⟨D, 3, none⟩ (.slice ro d'.hol.length rc)).setCell ⟨D, 4, none⟩ (.slice mo d'.mts.length mc)).grownBy w5 v.ownBlock) :
    PlayAt w D d' (all ++ rs) v2 w5 := by
  obtain ⟨⟨ro0, rc0, mo0, mc0, hd, -, -⟩, hz, hr, hb⟩ := hat
  have hr' : w4.drew.ownsRow w.heap.size 52 3 v all.length (all.flatMap rlCells) := hr
  have hrp := owns_put5 (x' := .int .i64 d'.day) (y' := .int .i64 d'.ans) (z' := .int .i64 d'.app) (u' := .slice ro d'.hol.length rc) (t' := .slice mo d'.mts.length mc) hr' (drew_heap hd) (by decide)
  have hd5 := heap_grown (put5 (drew_heap hd)) hrp (by decide) hg
  have hz5 := heap_grown (heap_put5 (drew_heap hz) (by omega)) hrp (by decide) hg
  have h15 := owns_grown (owns_put5 h1.drew (drew_heap hd) (by decide)) hrp (by decide) hg
  have h25 := owns_grown (owns_put5 h2.drew (drew_heap hd) (by decide)) hrp (by decide) hg
  have hbp := below_put5 (x' := .int .i64 d'.day) (y' := .int .i64 d'.ans) (z' := .int .i64 d'.app) (u' := .slice ro d'.hol.length rc) (t' := .slice mo d'.mts.length mc) hb.drew (b := D) (by omega)
  have hb5 : Below w.heap.size w w5 := hbp.grown hg hbp.size (fun j hj => (hr.lt j hj).1)
  refine ⟨⟨ro, rc, mo, mc, hd5, h15, h25⟩, hz5, ?_, hb5⟩
  unfold RlOwn
  rw [List.length_append, List.flatMap_append]
  exact h3
theorem PlayAt.next {w : World} {D : Nat} {d : Dk} {all : List Rl} {v : Value} {wr w2 : World} (h : PlayAt w D d all v wr) (hb : Below wr.heap.size wr w2) : PlayAt w D d all v w2 := by
  obtain ⟨⟨ro, rc, mo, mc, hd, h1, h2⟩, hz, hr, hbb⟩ := h
  exact ⟨⟨ro, rc, mo, mc, keep_heap hb hd, owns_next h1 hb, owns_next h2 hb⟩, keep_heap hb hz, owns_next hr hb, hbb.trans (hb.mono hbb.size)⟩
theorem rls_one {l : List Rl} : ∀ u ∈ l.flatMap rlCells, u.oneCell' = true := by
  intro u hu
  obtain ⟨x, _, hx⟩ := List.mem_flatMap.1 hu
  exact rl_one x u hx
end Go.Proofs.Ytpddpdkdlodniaa

namespace Go.Proofs.Ytpddpdkdlodniaa
open Go.RowKit

theorem owns_max {w : World} {base e size n : Nat} {v : Value} {xs : List Value} (h : w.ownsRow base e size v n xs) : n ≤ 9223372036854775807 := by
  rcases h.2 with ⟨_, rfl⟩ | ⟨g, cap, cur, _, _, _, hn, hc, _⟩
  · omega
  · unfold maxLen at hc
    omega
set_option maxRecDepth 100000 in
set_option maxHeartbeats 1000000 in
theorem Play_any (day ans app : Int) (ho lo : Option Addr) (hc lc : Nat) (H : List Int) (fs : List Fl) (w : World) (hI : Ints w ho H) (hF : Fls w lo fs) (hl : fs.length ≤ 1000) :
    Calls Try.prog 29 #[.int .i64 day, .agg #[.int .i64 ans, .int .i64 app, .slice ho H.length hc], .slice lo fs.length lc] w (PlayPost w.heap.size w (playF day ans app H fs)) := by
  obtain ⟨i0, hi, hz0, hz1, hz2⟩ := info_split Try.infoRuling
  obtain ⟨W, hW⟩ : ∃ W, (w.alloc (.cells #[.int .i64 ans, .int .i64 app, .slice ho H.length hc] 27)).alloc dkZero = W := ⟨_, rfl⟩
  have hbW : Below w.heap.size w W := by rw [← hW]; go_grown
  have k1 : W.heap[w.heap.size]? = some (.cells #[.int .i64 ans, .int .i64 app, .slice ho H.length hc] 27 (0, 0)) := by rw [← hW]; exact alloc_heap (heap_alloc_new w _)
  have k2 : W.heap[w.heap.size + 1]? = some dkZero := by
    have := heap_alloc_new (w.alloc (.cells #[.int .i64 ans, .int .i64 app, .slice ho H.length hc] 27)) dkZero
    rw [World.size_alloc] at this
    rw [← hW]
    exact this
  have hsW : W.heap.size = w.heap.size + 2 := by rw [← hW]; simp
  obtain ⟨r, hr⟩ : ∃ r, newF day ans app H = r := ⟨_, rfl⟩
  obtain ⟨R, hR⟩ : ∃ R, playF day ans app H fs = R := ⟨_, rfl⟩
  have hN := New_any day ans app ho hc H W (hI.next hbW)
  unfold playF at hR
  rw [hr] at hN hR
  have HN := Lib.hid hN
  have HFW := Lib.hid hF
  have HBW := Lib.hid hbW
  have HS := Lib.hid hsW
  have K2 := Lib.hid k2
  have HWW := Lib.hid hW
  rw [show playF day ans app H fs = R by unfold playF; rw [hr]; exact hR]
  clear hI hF hbW hsW k1 k2 hW hN hr
  obtain ⟨d0, c⟩ := r
  simp only at hR
  by_cases hc0 : c = 0
  · subst hc0
    rw [if_pos rfl] at hR
    have HR := Lib.hid hR
    clear hR
    go_enter Try.func29, Try.ntmps29
    go_wp2_with fail
    rw [HWW.out]
    refine HN.out.mono ?_
    rintro e w3 ⟨dv, rfl, ⟨ro, rc, mo, mc, rfl, hO1, hO2⟩, hb3⟩
    have hsz3 : w.heap.size + 2 ≤ w3.heap.size := by have := hb3.size; have := HS.out; omega
    have hwW : w.heap.size ≤ W.heap.size := HBW.out.size
    go_upto_region 2 with fail
    generalize hw4 : w3.alloc (.cells #[.int .i64 d0.day, .int .i64 d0.ans, .int .i64 d0.app, .slice ro d0.hol.length rc, .slice mo d0.mts.length mc] 30) = w4
    obtain ⟨D, hD⟩ : ∃ D, w3.heap.size = D := ⟨_, rfl⟩
    have hat : PlayAt w D d0 [] (.slice none 0 0) w4 := by
      rw [← hw4, ← hD]
      exact ⟨⟨ro, rc, mo, mc, heap_alloc_new w3 _, (hO1.mono hwW).alloc _, (hO2.mono hwW).alloc _⟩, alloc_heap (keep_heap hb3 K2.out), World.ownsRow_nil _ _ _ _, (HBW.out.trans (hb3.mono HBW.out.size)).alloc (by omega) _⟩
    have hs4 : w3.heap.size ≤ w4.heap.size := by rw [← hw4]; simp
    rw [hD] at hsz3 hs4 ⊢
    have hDB : w.heap.size + 1 < D := by omega
    have HAT := Lib.hid hat
    clear hO1 hO2 hb3 hw4 hD hat HN
    go_wp2_with fail
    go_loopw [12, 30] (fun v i wr => ∃ (k : Nat) (d : Dk) (all : List Rl), k ≤ fs.length ∧ i = .int .i64 k ∧ all.length ≤ 33 * k ∧ Hid (playGo (fs.drop k) d all k = R) ∧ PlayAt w D d all v wr) (fun _ i _ => fs.length - (intOf i).toNat)
    case atStart => exact ⟨0, d0, [], Nat.zero_le _, rfl, Nat.zero_le _, HR, HAT.out⟩
    case round =>
      clear HAT HR hs4
      obtain ⟨k, d, all, hk, rfl, hal, hgo, hat⟩ := hrel
      have HAT := Lib.hid hat
      obtain ⟨⟨ro1, rc1, mo1, mc1, hd1, hO1, hO2⟩, hz1', hr1, hb1⟩ := hat
      obtain ⟨x0, x1, x2, x3, x4⟩ := five_cells hd1
      obtain ⟨g0, g1, g2, g3, g4⟩ := five_free hd1
      have hDl := (Array.getElem?_eq_some_iff.1 hd1).1
      have hsr := hb1.size
      have hfl := HFW.out.next hb1
      by_cases hlt : k < fs.length
      · obtain ⟨bf, off, rfl, hbf, hc0⟩ := hfl.cells (by omega)
        obtain ⟨p0, p1, p2, p3⟩ := hc0 k hlt
        have hst := play_step fs k d all hlt
        rw [hgo.out] at hst
        have hrl := file_rl_len d (fs.getD k default)
        have hcap1 : d.mts.length ≤ mc1 := by
          obtain ⟨_, _, e1, hn1⟩ := owns_form hO2
          cases e1
          exact hn1
        have hmx := owns_max hO2
        have hFl : ∀ W', Mts W' mo1 d.mts → Ints W' ro1 d.hol → Calls Try.prog 20 #[.agg #[.int .i64 d.day, .int .i64 d.ans, .int .i64 d.app, .slice ro1 d.hol.length rc1, .slice mo1 d.mts.length mc1], .agg #[.int .i64 (fs.getD k default).kind, .int .i64 (fs.getD k default).day, .int .i64 (fs.getD k default).id, .int .i64 (fs.getD k default).opt]] W' (AnsPost W'.heap.size W' (fileF d (fs.getD k default))) :=
          fun W' h1 h2 => File_any d.day d.ans d.app (fs.getD k default) ro1 mo1 rc1 mc1 d.hol d.mts W' h1 h2 hcap1 hmx
        obtain ⟨f, hf⟩ : ∃ f, fs.getD k default = f := ⟨_, rfl⟩
        rw [hf] at p0 p1 p2 p3 hst hrl hFl
        obtain ⟨⟨d', rs, er⟩, ha⟩ : ∃ a, fileF d f = a := ⟨_, rfl⟩
        rw [ha] at hst hrl hFl
        simp only at hst hrl
        have hbx : Below wr.heap.size wr (wr.alloc (fiObj f.kind f.day f.id f.opt)) := (Below.refl _ _).alloc (Nat.le_refl _) _
        have HFI := Lib.hid (hFl (wr.alloc (fiObj f.kind f.day f.id f.opt)) ((owns_mts hO2).next hbx) ((owns_ints hO1).next hbx))
        have HBX := Lib.hid hbx
        have hk0 : (0 : Int) ≤ (k : Int) := Int.natCast_nonneg _
        have hk1 : (k : Int) < (fs.length : Int) := by omega
        have hz2' := hz1'
        have HZ1 := Lib.hid hz1'
        clear hc0 hf hgo ha hFl hbx hfl hd1 hO1 hO2 hz1' hz2' hr1 hb1 hcap1 hmx
        by_cases her : er = 0
        · subst her
          rw [if_pos rfl] at hst
          have HST := Lib.hid hst
          clear hst
          go_wp2_with fail
          refine HFI.out.mono ?_
          rintro e w3 ⟨dv, rv, rfl, ⟨ro2, rc2, mo2, mc2, rfl, hP1, hP2⟩, hP3, hb3⟩
          have hb31 : Below wr.heap.size wr w3 := HBX.out.trans (hb3.mono HBX.out.size)
          have hws : w.heap.size ≤ (wr.alloc (fiObj f.kind f.day f.id f.opt)).heap.size := by simp; omega
          go_upto_region 9 with fail
          generalize hw5 : w3.alloc (.cells #[.int .i64 d'.day, .int .i64 d'.ans, .int .i64 d'.app, .slice ro2 d'.hol.length rc2, .slice mo2 d'.mts.length mc2] 30) = w5
          obtain ⟨E, hE⟩ : ∃ E, w3.heap.size = E := ⟨_, rfl⟩
          have hb51 : Below wr.heap.size wr w5 := by rw [← hw5]; exact hb31.alloc hb31.size _
          have hAT5 := HAT.out.next hb51
          have HP1 : Hid (w5.ownsRow w.heap.size 3 1 (.slice ro2 d'.hol.length rc2) d'.hol.length (d'.hol.map (Value.int .i64))) := Lib.hid (by rw [← hw5]; exact (hP1.mono hws).alloc _)
          have HP2 : Hid (w5.ownsRow w.heap.size 50 5 (.slice mo2 d'.mts.length mc2) d'.mts.length (d'.mts.flatMap mtCells)) := Lib.hid (by rw [← hw5]; exact (hP2.mono hws).alloc _)
          have HP3 : Hid (w5.ownsRow w.heap.size 52 3 rv rs.length (rs.flatMap rlCells)) := Lib.hid (by rw [← hw5]; exact (World.ownsRow.mono hP3 hws).alloc _)
          have hE5 : w5.heap[E]? = some (dkObj d'.day d'.ans d'.app ro2 d'.hol.length rc2 mo2 d'.mts.length mc2) := by rw [← hw5, ← hE]; exact heap_alloc_new w3 _
          have HAT5 := Lib.hid hAT5
          have hs3 : wr.heap.size ≤ w3.heap.size := hb31.size
          rw [hE] at hs3 ⊢
          have hED : ¬ E = D := by omega
          have hDE : ¬ D = E := by omega
          obtain ⟨⟨ro3, rc3, mo3, mc3, hd5, -, -⟩, -, hr5, hb5⟩ := hAT5
          obtain ⟨x0, x1, x2, x3, x4⟩ := five_cells hd5
          obtain ⟨g0, g1, g2, g3, g4⟩ := five_free hd5
          obtain ⟨e0, e1, e2, e3, e4⟩ := five_cells hE5
          have HR5 := Lib.hid hr5
          have HD5 := Lib.hid hd5
          have HE5 := Lib.hid hE5
          have hDl5 := (Array.getElem?_eq_some_iff.1 hd5).1
          have hEl5 := (Array.getElem?_eq_some_iff.1 hE5).1
          have hsz5 := hb5.size
          clear hP1 hP2 hP3 hb3 hb31 hw5 hE hb51 hE5 hd5 hr5 hb5 HFI HBX p0 p1 p2 p3
          go_upto_region 11 with fail
          go_region_law (first
            | (refine step_append_rows w5.drew (by rfl) _ _ _ (by rfl) w.heap.size 52 i0 (.agg #[.int .i64 0, .int .i64 0, .int .i64 0]) 3 24 Try.underlying32 hi hz0 hz1 hz2 rfl (by omega) _ all.length _ (by rfl) HR5.out.drew _ w.heap.size rs.length _ (by rfl) HP3.out.drew rls_one (by unfold maxLen; omega) (by omega) hsz5 ?_
               intro ao6 c6 w6 hown6 hg6
               have hd6 := heap_grown (drew_heap HD5.out) HR5.out.drew (by decide) hg6
               obtain ⟨x0, x1, x2, x3, x4⟩ := five_cells hd6
               obtain ⟨g0, g1, g2, g3, g4⟩ := five_free hd6
               have he6 := heap_grown (drew_heap HE5.out) HR5.out.drew (by decide) hg6
               obtain ⟨e0, e1, e2, e3, e4⟩ := five_cells he6
               clear hd6 he6))
          all_goals
            have HN6 := Lib.hid (play_next1 HAT5.out hDB HP1.out HP2.out hown6 hg6)
            clear hown6 hg6
            go_wp2_with fail
            go_roundw
            case rel => exact ⟨k + 1, d', all ++ rs, hlt, by go_num, by rw [List.length_append]; omega, Lib.hid HST.out.symm, HN6.out⟩
            case measure => simp [intOf]; omega
        · rw [if_neg her] at hst
          have HST := Lib.hid hst
          have hq : (er != 0) = true := by simpa using her
          clear hst her
          go_wp2_with fail
          refine HFI.out.mono ?_
          rintro e w3 ⟨dv, rv, rfl, ⟨ro2, rc2, mo2, mc2, rfl, hP1, hP2⟩, hP3, hb3⟩
          have hb31 : Below wr.heap.size wr w3 := HBX.out.trans (hb3.mono HBX.out.size)
          go_upto_region 9 with fail
          generalize hw5 : w3.alloc (.cells #[.int .i64 d'.day, .int .i64 d'.ans, .int .i64 d'.app, .slice ro2 d'.hol.length rc2, .slice mo2 d'.mts.length mc2] 30) = w5
          have hb51 : Below wr.heap.size wr w5 := by rw [← hw5]; exact hb31.alloc hb31.size _
          have hAT5 := HAT.out.next hb51
          obtain ⟨-, hz5, -, hb5⟩ := hAT5
          have p5 := put5 (x' := .int .i64 0) (y' := .int .i64 0) (z' := .int .i64 0) (u' := .slice none 0 0) (v' := .slice none 0 0) hz5
          obtain ⟨z0, z1, z2, z3, z4⟩ := five_cells p5
          obtain ⟨y0, y1, y2, y3, y4⟩ := five_cells hz5
          obtain ⟨f0, f1, f2, f3, f4⟩ := five_free hz5
          have HZB := Lib.hid (below_put5 (x' := .int .i64 0) (y' := .int .i64 0) (z' := .int .i64 0) (u' := .slice none 0 0) (t' := .slice none 0 0) hb5 (Nat.le_succ w.heap.size))
          clear p5
          clear hz5 hb5 hP1 hP2 hP3 hb3 hb31 hw5 hb51 HFI HBX
          go_wp2_with fail
          refine bodyPost_ret (by simp [results, Try.results29, go_sem, z0, z1, z2, z3, z4]; rfl) rfl ?_
          rw [HST.out]
          exact ⟨_, _, rfl, ⟨none, 0, none, 0, rfl, World.ownsRow_nil _ _ _ _, World.ownsRow_nil _ _ _ _⟩, World.ownsRow_nil _ _ _ _, HZB.out⟩
      · obtain rfl : k = fs.length := by omega
        have hR := hgo.out
        rw [List.drop_length] at hR
        have HR := Lib.hid hR
        have p5 := put5 (x' := .int .i64 d.day) (y' := .int .i64 d.ans) (z' := .int .i64 d.app) (u' := .slice ro1 d.hol.length rc1) (v' := .slice mo1 d.mts.length mc1) hz1'
        obtain ⟨z0, z1, z2, z3, z4⟩ := five_cells p5
        obtain ⟨y0, y1, y2, y3, y4⟩ := five_cells hz1'
        obtain ⟨f0, f1, f2, f3, f4⟩ := five_free hz1'
        have R1 := Lib.hid (owns_put5 (x' := .int .i64 d.day) (y' := .int .i64 d.ans) (z' := .int .i64 d.app) (u' := .slice ro1 d.hol.length rc1) (t' := .slice mo1 d.mts.length mc1) hO1 hz1' (by decide))
        have R2 := Lib.hid (owns_put5 (x' := .int .i64 d.day) (y' := .int .i64 d.ans) (z' := .int .i64 d.app) (u' := .slice ro1 d.hol.length rc1) (t' := .slice mo1 d.mts.length mc1) hO2 hz1' (by decide))
        have R3 := Lib.hid (owns_put5 (x' := .int .i64 d.day) (y' := .int .i64 d.ans) (z' := .int .i64 d.app) (u' := .slice ro1 d.hol.length rc1) (t' := .slice mo1 d.mts.length mc1) hr1 hz1' (by decide))
        have R4 := Lib.hid (below_put5 (x' := .int .i64 d.day) (y' := .int .i64 d.ans) (z' := .int .i64 d.app) (u' := .slice ro1 d.hol.length rc1) (t' := .slice mo1 d.mts.length mc1) hb1 (Nat.le_succ w.heap.size))
        clear p5 hz1' hO1 hO2 hr1 hb1 hd1 hR hgo hfl
        go_wp2_with fail
        refine bodyPost_ret (by simp [results, Try.results29, go_sem, z0, z1, z2, z3, z4]; rfl) rfl ?_
        rw [← HR.out]
        exact ⟨_, _, rfl, ⟨ro1, rc1, mo1, mc1, rfl, R1.out, R2.out⟩, R3.out, R4.out⟩
  · rw [if_neg hc0] at hR
    have HR := Lib.hid hR
    have hq : (c != 0) = true := by simpa using hc0
    clear hR hc0
    go_enter Try.func29, Try.ntmps29
    go_wp2_with fail
    rw [HWW.out]
    refine HN.out.mono ?_
    rintro e w3 ⟨dv, rfl, ⟨ro, rc, mo, mc, rfl, hO1, hO2⟩, hb3⟩
    have hsz3 : w.heap.size + 2 ≤ w3.heap.size := by have := hb3.size; have := HS.out; omega
    go_upto_region 2 with fail
    generalize hw4 : w3.alloc (.cells #[.int .i64 d0.day, .int .i64 d0.ans, .int .i64 d0.app, .slice ro d0.hol.length rc, .slice mo d0.mts.length mc] 30) = w4
    have hz4 : w4.heap[w.heap.size + 1]? = some dkZero := by rw [← hw4]; exact alloc_heap (keep_heap hb3 K2.out)
    have hb4 : Below w.heap.size w w4 := by rw [← hw4]; exact (HBW.out.trans (hb3.mono HBW.out.size)).alloc (by omega) _
    have p5 := put5 (x' := .int .i64 0) (y' := .int .i64 0) (z' := .int .i64 0) (u' := .slice none 0 0) (v' := .slice none 0 0) hz4
    obtain ⟨z0, z1, z2, z3, z4⟩ := five_cells p5
    obtain ⟨y0, y1, y2, y3, y4⟩ := five_cells hz4
    obtain ⟨f0, f1, f2, f3, f4⟩ := five_free hz4
    have HZB := Lib.hid (below_put5 (x' := .int .i64 0) (y' := .int .i64 0) (z' := .int .i64 0) (u' := .slice none 0 0) (t' := .slice none 0 0) hb4 (Nat.le_succ w.heap.size))
    clear p5
    clear hz4 hb4 hw4 hO1 hO2 hb3 HN
    go_wp2_with fail
    refine bodyPost_ret (by simp [results, Try.results29, go_sem, z0, z1, z2, z3, z4]; rfl) rfl ?_
    rw [← HR.out]
    exact ⟨_, _, rfl, ⟨none, 0, none, 0, rfl, World.ownsRow_nil _ _ _ _, World.ownsRow_nil _ _ _ _⟩, World.ownsRow_nil _ _ _ _, HZB.out⟩
end Go.Proofs.Ytpddpdkdlodniaa
