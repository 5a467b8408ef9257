/-
  Contracts: the terms that the laws make out of numbers; the docket behind some filings.
-/
import Derived.Test.YtpddpdkdlodniaaOLaw1
import Derived.Deep.RegionLaw
namespace Go.Proofs.Ytpddpdkdlodniaa
open Go.RowKit

/-- A slice of 16-bit numbers. -/
def U16s (w : World) (ao : Option Addr) (l : List Int) : Prop := LiesAt w ao 1 l.length (fun i _ => .int .u16 (l.getD i 0))
theorem U16s.next {w w' : World} {ao : Option Addr} {l : List Int} (h : U16s w ao l) (hb : Below w.heap.size w w') : U16s w' ao l := LiesAt.below h hb (Nat.le_refl _)
/-- The holidays that are made of numbers. -/
def termsH (hs : List Int) (k : Nat) : List Int := (hs.take k).map (· % 60)
theorem termsH_succ {hs : List Int} {k : Nat} (h : k < hs.length) : termsH hs (k + 1) = termsH hs k ++ [hs.getD k 0 % 60] := by
  unfold termsH
  rw [List.take_succ_eq_append_getElem h, List.map_append]
  simp [List.getD, h]
theorem termsH_len {hs : List Int} {k : Nat} (h : k ≤ hs.length) : (termsH hs k).length = k := by simp [termsH]; omega
theorem keep_block {wr w4 : World} {base e size n b : Nat} {v : Value} {xs : List Value} {o : Obj} (hown : wr.ownsRow base e size v n xs) (hg : (wr.alloc o).drew.grownBy w4 v.ownBlock) (hb : b < base) (hlt : b < wr.heap.size) : w4.heap[b]? = wr.heap[b]? := by
  have h1 := hg.block b (by show b < (wr.alloc o).heap.size; simp; omega) (fun e => by have := (hown.lt b e.symm).1; omega)
  exact h1.trans (Below.heap_alloc wr o b hlt)
abbrev tmObj (a b : Int) (v : Value) : Obj := .cells #[.int .i64 a, .int .i64 b, v] 27
/-- What the loop of Terms keeps. -/
def TermRel (w : World) (a b : Int) (hs : List Int) (k : Nat) (v : Value) (wr : World) : Prop :=
  wr.ownsRow (w.heap.size + 3) 3 1 v k ((termsH hs k).map (Value.int .i64)) ∧ wr.heap[w.heap.size + 2]? = some (tmObj a b v) ∧ wr.heap[w.heap.size + 1]? = some (tmObj 0 0 (.slice none 0 0)) ∧ Below w.heap.size w wr
/-- What Terms leaves. -/
def TermPost (a b : Int) (H : List Int) (w : World) (e : Ending) (w' : World) : Prop := ∃ ro rc, e = .returned (.agg #[.int .i64 a, .int .i64 b, .slice ro H.length rc]) ∧ Ints w' ro H ∧ (ro = none → rc = 0) ∧ Below w.heap.size w w'
def holsF (hs : List Int) : List Int := termsH hs (min hs.length 6)
theorem hols_len (hs : List Int) : (holsF hs).length ≤ 6 := by
  unfold holsF
  rw [termsH_len (by omega)]
  omega

theorem term_post {B k c : Nat} {e : TypeId} {H gs : List Int} {a b : Int} {w w' : World} {ro : Option Addr} (ho : w'.ownsRow B e 1 (.slice ro k c) k (H.map (Value.int .i64))) (h : gs = H) (hl : H.length = k) (hb : Below w.heap.size w w') : TermPost a b gs w (.returned (.agg #[.int .i64 a, .int .i64 b, .slice ro k c])) w' := by
  subst h
  subst hl
  exact ⟨ro, c, rfl, owns_ints ho, owns_nil ho, hb⟩

set_option maxRecDepth 100000 in
set_option maxHeartbeats 2000000 in
theorem terms2_any (x y : Int) (ao : Option Addr) (cap : Nat) (hs : List Int) (w : World) (hL : U16s w ao hs) (hr : ∀ i, 0 ≤ hs.getD i 0 ∧ hs.getD i 0 ≤ 65535) (x0 : 0 ≤ x) (x1 : x ≤ 255) (y0 : 0 ≤ y) (y1 : y ≤ 255) :
    Calls Try.prog 18 #[.agg #[.int .u8 x, .int .u8 y], .slice ao hs.length cap] w (TermPost (1 + x % 8) (1 + y % 8) (holsF hs) w) := by
  obtain ⟨i0, hi, hz0, hz1, hz2⟩ := info_split Try.infoInt
  have HL := Lib.hid hL
  have HR := Lib.hid hr
  clear hL hr
  obtain ⟨W, hW⟩ : ∃ W, ((w.alloc (.cells #[.int .u8 x, .int .u8 y] 22)).alloc (tmObj 0 0 (.slice none 0 0))).alloc (tmObj (1 + x % 8) (1 + y % 8) (.slice none 0 0)) = W := ⟨_, rfl⟩
  have hbW : Below w.heap.size w W := by rw [← hW]; go_grown
  have k2 : W.heap[w.heap.size + 2]? = some (tmObj (1 + x % 8) (1 + y % 8) (.slice none 0 0)) := by
    have := heap_alloc_new ((w.alloc (.cells #[.int .u8 x, .int .u8 y] 22)).alloc (tmObj 0 0 (.slice none 0 0))) (tmObj (1 + x % 8) (1 + y % 8) (.slice none 0 0))
    rw [World.size_alloc, World.size_alloc] at this
    rw [← hW]
    exact this
  have k1 : W.heap[w.heap.size + 1]? = some (tmObj 0 0 (.slice none 0 0)) := by
    have := heap_alloc_new (w.alloc (.cells #[.int .u8 x, .int .u8 y] 22)) (tmObj 0 0 (.slice none 0 0))
    rw [World.size_alloc] at this
    rw [← hW]
    exact alloc_heap this
  have HREL : Hid (TermRel w (1 + x % 8) (1 + y % 8) hs 0 (.slice none 0 0) W) := Lib.hid ⟨World.ownsRow_nil _ _ _ _, k2, k1, hbW⟩
  have HWW := Lib.hid hW
  have m1 : 1 + x % 8 ≤ 8 := by omega
  have m2 : 1 + y % 8 ≤ 8 := by omega
  clear hW hbW k1 k2
  go_enter Try.func18, Try.ntmps18
  go_upto_region 2 with fail
  rw [HWW.out]
  obtain ⟨P, hP⟩ : ∃ P, 1 + x % 8 = P := ⟨_, rfl⟩
  obtain ⟨Q, hQ⟩ : ∃ Q, 1 + y % 8 = Q := ⟨_, rfl⟩
  rw [hP, hQ] at HREL
  try rw [hP]
  try rw [hQ]
  have HPE := Lib.hid hP
  have HQE := Lib.hid hQ
  clear HWW m1 m2 hP hQ
  go_wp2_with fail
  go_loopw [6] (fun i wr => ∃ (k : Nat) (v : Value), k ≤ hs.length ∧ k ≤ 6 ∧ i = .int .i64 k ∧ TermRel w P Q hs k v wr) (fun i _ => 6 - (intOf i).toNat)
  case atStart => exact ⟨0, .slice none 0 0, Nat.zero_le _, by omega, rfl, HREL.out⟩
  case round =>
    obtain ⟨k, v, hk, hk6, rfl, hown, ht, ho, hb⟩ := hrel
    have hbs : w.heap.size + 2 < wr.heap.size := (Array.getElem?_eq_some_iff.1 ht).1
    have f2 : wr.cell? ⟨w.heap.size + 2, 2, none⟩ = some v := by rw [cell_of_row _ _ _ _ _ _ ht]; rfl
    by_cases hlt : k < hs.length ∧ k < 6
    · obtain ⟨hlt, h6⟩ := hlt
      rcases HL.out.next hb with h0 | ⟨b, off, rfl, hbw, hc0⟩
      · omega
      have hc : wr.cell? ⟨b, off + k, none⟩ = some (.int .u16 (hs.getD k 0)) := by
        have := hc0 k hlt 0 (by omega)
        rwa [Nat.mul_one, Nat.add_zero] at this
      obtain ⟨z0, z1⟩ := HR.out k
      have hsu := termsH_succ hlt
      obtain ⟨z, hz⟩ : ∃ z, hs.getD k 0 = z := ⟨_, rfl⟩
      rw [hz] at hc z0 z1 hsu
      have hmod : z.tmod 60 = z % 60 := Int.tmod_eq_emod_of_nonneg z0
      have hb0 : 0 ≤ z % 60 := by omega
      have hb1 : z % 60 < 60 := by omega
      have hwz : IntKind.i64.wrap (z % 60) = z % 60 := IntWalk.i64_in _ ⟨by omega, by omega⟩
      have HSU := Lib.hid hsu
      have HO := Lib.hid hown
      have HT := Lib.hid ht
      have HB := Lib.hid hb
      have HH := Lib.hid ho
      have hk0 : (0 : Int) ≤ (k : Int) := Int.natCast_nonneg _
      have hk1 : (k : Int) < (hs.length : Int) := by omega
      clear hc0 hz hown ht hb ho hsu
      go_wp2_with fail
      go_region_law (
        refine step_append_lies _ (by rfl) _ _ _ (by rfl) (w.heap.size + 3) 3 i0 (.int .i64 0) 1 8 Try.underlying25 hi hz0 hz1 hz2 rfl (by omega) _ k _ (by rfl) ((HO.out.alloc _).drew)
          ⟨wr.heap.size, 0, none⟩ 1 1 [.int .i64 (z % 60)] (by rfl) (by rfl) (World.news_of_block (cs := #[.int .i64 (z % 60)]) (t := 3) (fr := (0, 0)) (heap_alloc_new wr _)) (by simp [Value.oneCell'])
          (by omega) (by unfold maxLen; omega) (by omega) (by simp; omega) (wr.heap.size + 1) (by simp) ?_
        intro gg cap4 w4 hown4 hg4 hat4 hlt4
        have k2 := (keep_block HO.out hg4 (b := w.heap.size + 2) (by omega) (by omega)).trans HT.out
        have k1 := (keep_block HO.out hg4 (b := w.heap.size + 1) (by omega) (by omega)).trans HH.out
        have g2 : w4.cell? ⟨w.heap.size + 2, 2, none⟩ = some v := by rw [cell_of_row _ _ _ _ _ _ k2]; rfl
        have g3 : w4.frozen? ⟨w.heap.size + 2, 2, none⟩ = false := frozen_of_row _ _ _ _ _ k2)
      all_goals
        go_wp2_with fail
        go_roundw
        case rel =>
          have hb4 : Below w.heap.size w w4 := ((HB.out.alloc HB.out.size _).drew).grown hg4 (by show w.heap.size ≤ (wr.alloc _).heap.size; simp; omega) (fun j hj => by have := (HO.out.lt j hj).1; omega)
          have hle : w.heap.size ≤ w.heap.size + 1 + 1 := by omega
          refine ⟨k + 1, .slice (some ⟨gg, 0, none⟩) (k + 1) cap4, hlt, h6, by go_num, ?_, heap_setCell_same w4 (w.heap.size + 2) 2 _ _ _ k2, (Below.heap_setCell w4 _ _ (w.heap.size + 1) (by show ¬ w.heap.size + 1 = w.heap.size + 2; omega)).trans k1, hb4.setCell hle _⟩
          rw [HSU.out, List.map_append]
          exact owns_set hown4 k2 (by decide)
        case measure => simp [intOf]; omega
    · have hside : ¬ k < hs.length ∨ k < hs.length ∧ ¬ k < 6 := by omega
      have hkm : min hs.length 6 = k := by omega
      obtain ⟨ro, rc, rfl, _⟩ := owns_form hown
      have hln := termsH_len (hs := hs) hk
      have e0 : wr.cell? ⟨w.heap.size + 2, 0, none⟩ = some (.int .i64 P) := by rw [cell_of_row _ _ _ _ _ _ ht]; rfl
      have e1 : wr.cell? ⟨w.heap.size + 2, 1, none⟩ = some (.int .i64 Q) := by rw [cell_of_row _ _ _ _ _ _ ht]; rfl
      obtain ⟨r0, r1, r2, q0, q1, q2⟩ := three_cells ho
      have p0 := heap_setCell_same wr (w.heap.size + 1) 0 _ _ (.int .i64 P) ho
      have p1 := heap_setCell_same _ (w.heap.size + 1) 1 _ _ (.int .i64 Q) p0
      have p2 := heap_setCell_same _ (w.heap.size + 1) 2 _ _ (.slice ro k rc) p1
      obtain ⟨s0, s1, s2, -, -, -⟩ := three_cells p2
      have hO3 := owns_set (i := 2) (u := .slice ro k rc) (owns_set (i := 1) (u := .int .i64 Q) (owns_set (i := 0) (u := .int .i64 P) hown ho (by decide)) p0 (by decide)) p1 (by decide)
      have hB3 := ((hb.setCell (p := ⟨w.heap.size + 1, 0, none⟩) (Nat.le_succ w.heap.size) (.int .i64 P)).setCell (p := ⟨w.heap.size + 1, 1, none⟩) (Nat.le_succ w.heap.size) (.int .i64 Q)).setCell (p := ⟨w.heap.size + 1, 2, none⟩) (Nat.le_succ w.heap.size) (.slice ro k rc)
      have HP := Lib.hid (term_post (gs := holsF hs) (a := P) (b := Q) hO3 (by unfold holsF; rw [hkm]) hln hB3)
      clear hown ht ho hb hkm hln p0 p1 p2 hO3 hB3 hlt
      rcases hside with hs1 | ⟨hs1, hs2⟩
      all_goals
        go_wp2_with fail
        refine bodyPost_ret (by simp [results, Try.results18, go_sem, s0, s1, s2]; rfl) rfl ?_
        rw [HPE.out, HQE.out]
        exact HP.out

/-- The docket that the laws begin with. -/
def builtD (x y : Int) (hs : List Int) (l : List Q4) : Dk := builtAt ⟨0, 1 + x % 8, 1 + y % 8, holsF hs, []⟩ (mattersF' l) (mattersF' l).length
theorem builtD_good (x y : Int) (hs : List Int) (l : List Q4) : GoodB (builtD x y hs l) :=
  goodB_at (goodB_new (by omega) (by omega) (hols_len hs)).2 (matters_day l) _ (Nat.le_refl _)
def BuiltPost (d : Dk) (w : World) (e : Ending) (w' : World) : Prop := ∃ ro rc mo mc, e = .returned (.agg #[.int .i64 d.day, .int .i64 d.ans, .int .i64 d.app, .slice ro d.hol.length rc, .slice mo d.mts.length mc]) ∧
  w'.ownsRow w.heap.size 3 1 (.slice ro d.hol.length rc) d.hol.length (d.hol.map (Value.int .i64)) ∧ w'.ownsRow w.heap.size 50 5 (.slice mo d.mts.length mc) d.mts.length (d.mts.flatMap mtCells) ∧ Below w.heap.size w w'

set_option maxRecDepth 100000 in
set_option maxHeartbeats 2000000 in
theorem built_any (x y : Int) (ao lo : Option Addr) (cap lc : Nat) (hs : List Int) (l : List Q4) (w : World) (hL : U16s w ao hs) (hr : ∀ i, 0 ≤ hs.getD i 0 ∧ hs.getD i 0 ≤ 65535) (hQ : Q4s w lo l) (x0 : 0 ≤ x) (x1 : x ≤ 255) (y0 : 0 ≤ y) (y1 : y ≤ 255) :
    Calls Try.prog 12 #[.agg #[.int .u8 x, .int .u8 y], .slice ao hs.length cap, .slice lo l.length lc] w (BuiltPost (builtD x y hs l) w) := by
  obtain ⟨W, hW⟩ : ∃ W, (w.alloc (.cells #[.int .u8 x, .int .u8 y] 22)).alloc dkZero = W := ⟨_, rfl⟩
  have hbW : Below w.heap.size w W := by rw [← hW]; go_grown
  have k1 : W.heap[w.heap.size + 1]? = some dkZero := by
    have := heap_alloc_new (w.alloc (.cells #[.int .u8 x, .int .u8 y] 22)) dkZero
    rw [World.size_alloc] at this
    rw [← hW]
    exact this
  have hsW : W.heap.size = w.heap.size + 2 := by rw [← hW]; simp
  obtain ⟨hn1, hn2⟩ := goodB_new (ans := 1 + x % 8) (app := 1 + y % 8) (H := holsF hs) (by omega) (by omega) (hols_len hs)
  have hsmall := matters_len l
  have HT := Lib.hid (terms2_any x y ao cap hs W (hL.next hbW) hr x0 x1 y0 y1)
  obtain ⟨R, hR⟩ : ∃ R, builtD x y hs l = R := ⟨_, rfl⟩
  rw [hR]
  unfold builtD at hR
  have hol6 := hols_len hs
  generalize 1 + x % 8 = P at hn1 hn2 HT hR
  generalize 1 + y % 8 = Q at hn1 hn2 HT hR
  generalize holsF hs = H at hn1 hn2 HT hR hol6
  have HQ1 := Lib.hid (hQ.next hbW)
  have HR := Lib.hid hR
  have HN := Lib.hid hn1
  have HWW := Lib.hid hW
  have HBW := Lib.hid hbW
  have K1 := Lib.hid k1
  have HS := Lib.hid hsW
  have HSM := Lib.hid hsmall
  clear hL hr hQ hW hbW k1 hsW hn1 hn2 hR hsmall
  go_enter Try.func12, Try.ntmps12
  go_wp2_with fail
  rw [HWW.out]
  refine HT.out.mono ?_
  rintro e w1 ⟨ro, rc, rfl, hI1, hno, hb1⟩
  have K2 := Lib.hid (keep_heap hb1 K1.out)
  have HQ2 := Lib.hid (HQ1.out.next hb1)
  have HB1 := Lib.hid (HBW.out.trans (hb1.mono HBW.out.size))
  have HC : Hid (Calls Try.prog 22 #[.int .i64 0, .agg #[.int .i64 P, .int .i64 Q, .slice ro H.length rc]] w1 (NewPost w1.heap.size w1 (⟨0, P, Q, H, []⟩, 0))) := Lib.hid (by
    have := NewR_any 0 P Q ro rc H w1 hI1 hno
    rw [HN.out] at this
    exact this)
  clear hI1 hno hb1
  go_wp2_with fail
  refine HC.out.mono ?_
  rintro e w2 ⟨dv, rfl, ⟨r2, c2, m2, k2, rfl, hO1, hO2⟩, hb2⟩
  go_upto_region 2 with fail
  try dsimp only
  obtain ⟨w3, hw3⟩ : ∃ w3, w2.alloc (.cells #[.int .i64 0, .int .i64 P, .int .i64 Q, .slice r2 H.length c2, .slice m2 0 k2] 30) = w3 := ⟨_, rfl⟩
  rw [hw3]
  obtain ⟨d0, hd0⟩ : ∃ d0 : Dk, (⟨0, P, Q, H, []⟩ : Dk) = d0 := ⟨_, rfl⟩
  have hws : w.heap.size ≤ w1.heap.size := HB1.out.size
  have hb23 : Below w2.heap.size w2 w3 := by rw [← hw3]; exact (Below.refl _ _).alloc (Nat.le_refl _) _
  have hb13 : Below w1.heap.size w1 w3 := hb2.trans (hb23.mono hb2.size)
  have hat : PlayAt w w2.heap.size d0 [] (.slice none 0 0) w3 := by
    rw [← hw3, ← hd0]
    exact ⟨⟨r2, c2, m2, k2, heap_alloc_new w2 _, (hO1.mono hws).alloc _, (hO2.mono hws).alloc _⟩, alloc_heap (keep_heap hb2 K2.out), World.ownsRow_nil _ _ _ _, (HB1.out.trans (hb2.mono hws)).alloc (Nat.le_trans hws hb2.size) _⟩
  have hDB : w.heap.size + 1 < w2.heap.size := by
    have h1 := (Array.getElem?_eq_some_iff.1 K2.out).1
    have h2 := hb2.size
    omega
  have HAT := Lib.hid hat
  have HRR := HR.out
  rw [hd0] at HRR
  have HQ3 := Lib.hid (HQ2.out.next hb13)
  obtain ⟨D, hD⟩ : ∃ D, w2.heap.size = D := ⟨_, rfl⟩
  rw [hD] at HAT hDB ⊢
  have HMA := Lib.hid (matters_any lo lc l w3 HQ3.out)
  obtain ⟨fs, hfs⟩ : ∃ fs, mattersF' l = fs := ⟨_, rfl⟩
  rw [hfs] at HMA HRR HSM
  have HR := Lib.hid HRR
  clear hw3 hd0 hb23 hb13 hat hD hfs HRR hO1 hO2 hb2 HC HQ1 HQ2 K1 HT HWW HBW HS
  go_wp2_with fail
  refine HMA.out.mono ?_
  rintro e w4 ⟨fo, fc, rfl, hF, hb4⟩
  have HAT4 := Lib.hid (HAT.out.next hb4)
  have HF := Lib.hid hF
  have hw3s : w.heap.size ≤ w3.heap.size := HAT.out.2.2.2.size
  have hDw3 : D < w3.heap.size := by obtain ⟨⟨_, _, _, _, hd, -⟩, -⟩ := HAT.out; exact (Array.getElem?_eq_some_iff.1 hd).1
  have hfl24 := HSM.out
  clear hb4 hF HAT HMA
  go_wp2_with fail
  go_loopw [10] (fun i wr => ∃ (k : Nat), k ≤ fs.length ∧ i = .int .i64 k ∧ PlayAt w D (builtAt d0 fs k) [] (.slice none 0 0) wr ∧ wr.ownsRow w3.heap.size 47 4 (.slice fo fs.length fc) fs.length (fs.flatMap flCells)) (fun i _ => fs.length - (intOf i).toNat)
  case atStart => exact ⟨0, Nat.zero_le _, rfl, HAT4.out, HF.out⟩
  case round =>
    clear HAT4
    obtain ⟨k, hk, rfl, hat, hb⟩ := hrel
    have HAT := Lib.hid hat
    by_cases hlt : k < fs.length
    · have hst := builtAt_succ d0 hlt
      have HBB := Lib.hid hb
      generalize builtAt d0 fs k = d at hat HAT hst
      obtain ⟨⟨ro1, rc1, mo1, mc1, hd1, hO1, hO2⟩, hz1', hr1, hb1⟩ := hat
      obtain ⟨x0, x1, x2, x3, x4⟩ := five_cells hd1
      obtain ⟨g0, g1, g2, g3, g4⟩ := five_free hd1
      have hDl := (Array.getElem?_eq_some_iff.1 hd1).1
      have hsr := hb1.size
      have hfl := owns_fls hb
      obtain ⟨bf, off, rfl, hbf, hc0⟩ := hfl.cells (by omega)
      obtain ⟨p0, p1, p2, p3⟩ := hc0 k hlt
      have hmx := owns_max hO2
      have hno := owns_nil hO1
      have hnm := owns_nil hO2
      have hFl : ∀ W', Below wr.heap.size wr W' → Calls Try.prog 28 #[.agg #[.int .i64 d.day, .int .i64 d.ans, .int .i64 d.app, .slice ro1 d.hol.length rc1, .slice mo1 d.mts.length mc1], .agg #[.int .i64 (fs.getD k default).kind, .int .i64 (fs.getD k default).day, .int .i64 (fs.getD k default).id, .int .i64 (fs.getD k default).opt]] W' (AnsPost W'.heap.size W' (fileF d (fs.getD k default))) :=
        fun W' hb => FileR_any d.day d.ans d.app (fs.getD k default) ro1 mo1 rc1 mc1 d.hol d.mts W' ((owns_mts hO2).next hb) ((owns_ints hO1).next hb) hno hnm hmx
      obtain ⟨f, hf⟩ : ∃ f, fs.getD k default = f := ⟨_, rfl⟩
      rw [hf] at p0 p1 p2 p3 hst hFl
      unfold builtStep at hst
      obtain ⟨⟨d', rs, er⟩, ha⟩ : ∃ a, fileF d f = a := ⟨_, rfl⟩
      rw [ha] at hst hFl
      simp only at hst
      have hba : Below wr.heap.size wr (wr.alloc dkZero).drew := ((Below.refl _ _).alloc (Nat.le_refl _) _).drew
      have HF1 := Lib.hid (hFl wr.drew (Below.refl _ _).drew)
      have HF2 := Lib.hid (hFl (wr.alloc dkZero).drew hba)
      have HBA := Lib.hid hba
      have hk0 : (0 : Int) ≤ (k : Int) := Int.natCast_nonneg _
      have hk1 : (k : Int) < (fs.length : Int) := by omega
      have HST := Lib.hid hst
      have HD1 := Lib.hid hd1
      have hDw : ¬ D = wr.heap.size := by omega
      have hbw2 : ¬ bf = wr.heap.size := by omega
      clear hc0 hf ha hFl hba hfl hd1 hO1 hO2 hz1' hr1 hb1 hmx hno hnm hst hb
      go_upto_region 6 with fail
      go_cut [11, 12, 13] (fun s1 s2 s3 wx => FileCut wr (d', rs, er) s1 s2 s3 wx)
      case first =>
        go_region_held3 (fun w' => w'.cell? ⟨D, 0, none⟩ = some (.int .i64 d.day) ∧ w'.cell? ⟨D, 1, none⟩ = some (.int .i64 d.ans) ∧ w'.cell? ⟨D, 2, none⟩ = some (.int .i64 d.app) ∧ w'.cell? ⟨D, 3, none⟩ = some (.slice ro1 d.hol.length rc1) ∧ w'.cell? ⟨D, 4, none⟩ = some (.slice mo1 d.mts.length mc1) ∧
            w'.cell? ⟨bf, off + k * 4, none⟩ = some (.int .i64 f.kind) ∧ w'.cell? ⟨bf, off + k * 4 + 1, none⟩ = some (.int .i64 f.day) ∧ w'.cell? ⟨bf, off + k * 4 + 2, none⟩ = some (.int .i64 f.id) ∧ w'.cell? ⟨bf, off + k * 4 + 3, none⟩ = some (.int .i64 f.opt))
          (first | with_reducible exact ⟨x0, x1, x2, x3, x4, p0, p1, p2, p3⟩ | with_reducible exact ⟨y0, y1, y2, y3, y4, q0, q1, q2, q3⟩ | with_reducible exact HSS.out | go_keep)
          (first
            | (go_at_call 28
               (with_reducible refine HF1.out.mono ?_)
               rintro e w3 ⟨dv, rv, rfl, ⟨ro2, rc2, mo2, mc2, rfl, hP1, hP2⟩, hP3, hb3⟩
               have hb31 : Below wr.heap.size wr w3 := (Below.refl _ _).drew.trans hb3
               have HFC : Hid (FileCut wr (d', rs, er) (.pointer (some ⟨w3.heap.size, 0, none⟩)) rv (.int .i64 er) (w3.alloc (dkObj d'.day d'.ans d'.app ro2 d'.hol.length rc2 mo2 d'.mts.length mc2))) := Lib.hid (fcut_late hP1 hP2 hP3 hb31)
               obtain ⟨y0, y1, y2, y3, y4⟩ := five_cells (keep_heap hb31 HD1.out)
               have q0 := (hb31.cell (p := ⟨bf, off + k * 4, none⟩) hbf).trans p0
               have q1 := (hb31.cell (p := ⟨bf, off + k * 4 + 1, none⟩) hbf).trans p1
               have q2 := (hb31.cell (p := ⟨bf, off + k * 4 + 2, none⟩) hbf).trans p2
               have q3 := (hb31.cell (p := ⟨bf, off + k * 4 + 3, none⟩) hbf).trans p3
               have hs31 := hb31.size
               clear hP1 hP2 hP3 hb3 hb31)
            | (go_at_call 28
               (with_reducible refine HF2.out.mono ?_)
               rintro e w3 ⟨dv, rv, rfl, ⟨ro2, rc2, mo2, mc2, rfl, hP1, hP2⟩, hP3, hb3⟩
               have hb31 : Below wr.heap.size wr w3 := HBA.out.trans (hb3.mono HBA.out.size)
               have hz3 : w3.heap[wr.heap.size]? = some dkZero := keep_heap hb3 (drew_heap (heap_alloc_new wr dkZero))
               have hsz : (wr.alloc dkZero).drew.heap.size = wr.heap.size + 1 := by show (wr.alloc dkZero).heap.size = _; simp
               rw [hsz] at hP1 hP2 hP3
               have HFC : Hid (FileCut wr (d', rs, er) (.pointer (some ⟨wr.heap.size, 0, none⟩)) rv (.int .i64 er) (((((w3.setCell ⟨wr.heap.size, 0, none⟩ (.int .i64 d'.day)).setCell ⟨wr.heap.size, 1, none⟩ (.int .i64 d'.ans)).setCell ⟨wr.heap.size, 2, none⟩ (.int .i64 d'.app)).setCell ⟨wr.heap.size, 3, none⟩ (.slice ro2 d'.hol.length rc2)).setCell ⟨wr.heap.size, 4, none⟩ (.slice mo2 d'.mts.length mc2))) := Lib.hid (fcut_early hP1 hP2 hP3 hz3 hb31)
               obtain ⟨y0, y1, y2, y3, y4⟩ := five_cells (keep_heap hb31 HD1.out)
               have q0 := (hb31.cell (p := ⟨bf, off + k * 4, none⟩) hbf).trans p0
               have q1 := (hb31.cell (p := ⟨bf, off + k * 4 + 1, none⟩) hbf).trans p1
               have q2 := (hb31.cell (p := ⟨bf, off + k * 4 + 2, none⟩) hbf).trans p2
               have q3 := (hb31.cell (p := ⟨bf, off + k * 4 + 3, none⟩) hbf).trans p3
               have hd5 := five_cells (heap_put5 (x' := .int .i64 d'.day) (y' := .int .i64 d'.ans) (z' := .int .i64 d'.app) (u' := .slice ro2 d'.hol.length rc2) (t' := .slice mo2 d'.mts.length mc2) (keep_heap hb31 HD1.out) hDw)
               have HSS := Lib.hid (and5 hd5 ((cell_put5 (x' := .int .i64 d'.day) (y' := .int .i64 d'.ans) (z' := .int .i64 d'.app) (u' := .slice ro2 d'.hol.length rc2) (t' := .slice mo2 d'.mts.length mc2) hbw2).trans q0) ((cell_put5 (x' := .int .i64 d'.day) (y' := .int .i64 d'.ans) (z' := .int .i64 d'.app) (u' := .slice ro2 d'.hol.length rc2) (t' := .slice mo2 d'.mts.length mc2) hbw2).trans q1) ((cell_put5 (x' := .int .i64 d'.day) (y' := .int .i64 d'.ans) (z' := .int .i64 d'.app) (u' := .slice ro2 d'.hol.length rc2) (t' := .slice mo2 d'.mts.length mc2) hbw2).trans q2) ((cell_put5 (x' := .int .i64 d'.day) (y' := .int .i64 d'.ans) (z' := .int .i64 d'.app) (u' := .slice ro2 d'.hol.length rc2) (t' := .slice mo2 d'.mts.length mc2) hbw2).trans q3))
               obtain ⟨z0, z1, z2, z3, z4⟩ := five_cells hz3
               obtain ⟨f0, f1, f2, f3, f4⟩ := five_free hz3
               have hs31 := hb31.size
               clear hP1 hP2 hP3 hb3 hb31 hz3 hsz hd5))
        all_goals
          go_wp2_with fail
          go_meet
          exact HFC.out
      case rest =>
        obtain ⟨E, ro2, rc2, mo2, mc2, rfl, rfl, hE5, hE, hP1, hP2, hP3, hb5⟩ := hcut
        simp only at hE5 hP1 hP2 hP3
        dsimp only
        have hst := HST.out
        have hAT5 := HAT.out.next hb5
        have hws := HAT.out.2.2.2.size
        have HP1 := Lib.hid (hP1.mono hws)
        have HP2 := Lib.hid (hP2.mono hws)
        have HAT5 := Lib.hid hAT5
        have HBB5 := Lib.hid (owns_next HBB.out hb5)
        have HE5 := Lib.hid hE5
        have hED : ¬ E = D := by omega
        have hDE : ¬ D = E := by omega
        clear x0 x1 x2 x3 x4 g0 g1 g2 g3 g4 p0 p1 p2 p3 HF1 HF2 HBA HD1 hDw hbw2 HAT HST HBB hDl hbf
        by_cases her : er = 0
        · subst her
          rw [if_pos rfl] at hst
          have HST := Lib.hid hst
          obtain ⟨⟨ro3, rc3, mo3, mc3, hd5, -, -⟩, -, hr5, hbb5⟩ := hAT5
          obtain ⟨g0, g1, g2, g3, g4⟩ := five_free hd5
          obtain ⟨x0, x1, x2, x3, x4⟩ := five_cells hd5
          obtain ⟨e0, e1, e2, e3, e4⟩ := five_cells hE5
          have hDl5 := (Array.getElem?_eq_some_iff.1 hd5).1
          have hEl5 := (Array.getElem?_eq_some_iff.1 hE5).1
          have HBP := Lib.hid (owns_put5 (x' := .int .i64 d'.day) (y' := .int .i64 d'.ans) (z' := .int .i64 d'.app) (u' := .slice ro2 d'.hol.length rc2) (t' := .slice mo2 d'.mts.length mc2) HBB5.out hd5 (by decide))
          clear hst hP1 hP2 hP3 hb5 hE5 hd5 hr5 hbb5
          go_wp2_with fail
          go_roundw
          case rel => exact ⟨k + 1, hlt, by go_num, by rw [HST.out]; exact HAT5.out.put hDB HP1.out HP2.out, HBP.out⟩
          case measure => simp [intOf]; omega
        · rw [if_neg her] at hst
          have HST := Lib.hid hst
          have hq : (er == 0) = false := by simpa using her
          clear hst hAT5 hP1 hP2 hP3 hb5 hE5 her
          go_wp2_with fail
          go_roundw
          case rel => exact ⟨k + 1, hlt, by go_num, by rw [HST.out]; exact HAT5.out, HBB5.out⟩
          case measure => simp [intOf]; omega
    · obtain rfl : k = fs.length := by omega
      have hRR := HR.out
      rw [hRR] at hat
      obtain ⟨⟨ro1, rc1, mo1, mc1, hd1, hO1, hO2⟩, hz1', hr1, hb1⟩ := hat
      obtain ⟨x0, x1, x2, x3, x4⟩ := five_cells hd1
      have p5 := put5 (x' := .int .i64 R.day) (y' := .int .i64 R.ans) (z' := .int .i64 R.app) (u' := .slice ro1 R.hol.length rc1) (v' := .slice mo1 R.mts.length mc1) hz1'
      obtain ⟨z0, z1, z2, z3, z4⟩ := five_cells p5
      obtain ⟨y0, y1, y2, y3, y4⟩ := five_cells hz1'
      obtain ⟨f0, f1, f2, f3, f4⟩ := five_free hz1'
      have R1 := Lib.hid (owns_put5 (x' := .int .i64 R.day) (y' := .int .i64 R.ans) (z' := .int .i64 R.app) (u' := .slice ro1 R.hol.length rc1) (t' := .slice mo1 R.mts.length mc1) hO1 hz1' (by decide))
      have R2 := Lib.hid (owns_put5 (x' := .int .i64 R.day) (y' := .int .i64 R.ans) (z' := .int .i64 R.app) (u' := .slice ro1 R.hol.length rc1) (t' := .slice mo1 R.mts.length mc1) hO2 hz1' (by decide))
      have R4 := Lib.hid (below_put5 (x' := .int .i64 R.day) (y' := .int .i64 R.ans) (z' := .int .i64 R.app) (u' := .slice ro1 R.hol.length rc1) (t' := .slice mo1 R.mts.length mc1) hb1 (Nat.le_succ w.heap.size))
      have hDl := (Array.getElem?_eq_some_iff.1 hd1).1
      have hzl := (Array.getElem?_eq_some_iff.1 hz1').1
      clear p5 hz1' hO1 hO2 hr1 hb1 hd1 hRR hb HAT
      go_wp2_with fail
      refine bodyPost_ret (by simp [results, Try.results12, go_sem, z0, z1, z2, z3, z4]; rfl) rfl ?_
      exact ⟨ro1, rc1, mo1, mc1, rfl, R1.out, R2.out, R4.out⟩
end Go.Proofs.Ytpddpdkdlodniaa
