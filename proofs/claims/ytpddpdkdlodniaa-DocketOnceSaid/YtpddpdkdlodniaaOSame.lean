/-
  Contract: the laws' sanity check.
  Contracts: the document's comparisons of dockets and of rulings, where they are alike.
-/
import Derived.Test.YtpddpdkdlodniaaOPlay2
import Derived.Test.YtpddpdkdlodniaaOEx
import Derived.BigQuiet
import Derived.WalkSmall
namespace Go.Proofs.Ytpddpdkdlodniaa
open Go.RowKit

theorem two_filings (w : World) : Fls (w.alloc (.cells #[.int .i64 1, .int .i64 0, .int .i64 3, .int .i64 0, .int .i64 2, .int .i64 0, .int .i64 3, .int .i64 0] 47)) (some ⟨w.heap.size, 0, none⟩) [⟨1, 0, 3, 0⟩, ⟨2, 0, 3, 0⟩] := by
  refine .inr ⟨w.heap.size, 0, rfl, by simp, fun i hi => ?_⟩
  have hc := fun o => cell_of_row _ w.heap.size o _ _ _ (heap_alloc_new w (.cells #[.int .i64 1, .int .i64 0, .int .i64 3, .int .i64 0, .int .i64 2, .int .i64 0, .int .i64 3, .int .i64 0] 47))
  match i, hi with
  | 0, _ => exact ⟨hc 0, hc 1, hc 2, hc 3⟩
  | 1, _ => exact ⟨hc 4, hc 5, hc 6, hc 7⟩

set_option maxRecDepth 100000 in
set_option maxHeartbeats 2000000 in
theorem oawake_any (w : World) : Calls Try.prog 14 #[] w fun e w' => e = .returned (.bool true) ∧ Below w.heap.size w w' := by
  obtain ⟨W, hW⟩ : ∃ W, w.alloc (.cells #[.int .i64 1, .int .i64 0, .int .i64 3, .int .i64 0, .int .i64 2, .int .i64 0, .int .i64 3, .int .i64 0] 47) = W := ⟨_, rfl⟩
  have hbW : Below w.heap.size w W := by rw [← hW]; go_grown
  have hp := Play_any 0 5 5 none (some ⟨w.heap.size, 0, none⟩) 0 2 [] [⟨1, 0, 3, 0⟩, ⟨2, 0, 3, 0⟩] W (.inl rfl) (by rw [← hW]; exact two_filings w) (by decide)
  rw [play_ex] at hp
  have HP := Lib.hid hp
  have HBW := Lib.hid hbW
  have HWW := Lib.hid hW
  clear hp hbW hW
  go_enter Try.func14, Try.ntmps14
  go_wp2_with fail
  rw [HWW.out]
  refine HP.out.mono ?_
  rintro e w3 ⟨dv, rv, rfl, ⟨ro, rc, mo, mc, rfl, hO1, hO2⟩, hO3, hb3⟩
  have hmc : 1 ≤ mc := by
    obtain ⟨_, _, e1, hn1⟩ := owns_form hO2
    cases e1
    exact hn1
  go_upto_region 2 with fail
  try dsimp only
  generalize hw4 : w3.alloc (.cells #[.int .i64 0, .int .i64 5, .int .i64 5, .slice ro 0 rc, .slice mo 1 mc] 30) = w4
  have HB4 : Hid (Below w.heap.size w w4) := Lib.hid (by rw [← hw4]; exact (HBW.out.trans (hb3.mono HBW.out.size)).alloc (HBW.out.trans (hb3.mono HBW.out.size)).size _)
  have h4 : w4.heap[w3.heap.size]? = some (dkObj 0 5 5 ro 0 rc mo 1 mc) := by rw [← hw4]; exact heap_alloc_new w3 _
  have HM4 : Hid (Mts w4 mo [⟨3, 2, 7, 0, false⟩]) := Lib.hid (by rw [← hw4]; exact (owns_mts hO2).next ((Below.refl _ _).alloc (Nat.le_refl _) _))
  have HI4 : Hid (Ints w4 ro []) := Lib.hid (.inl rfl)
  obtain ⟨x0, x1, x2, x3, x4⟩ := five_cells h4
  have H4 := Lib.hid h4
  have HD := Lib.hid (due_any 0 5 5 ro mo 0 rc mc [⟨3, 2, 7, 0, false⟩] w4 HM4.out (by decide))
  rw [due_ex] at HD
  clear hw4 h4 hO1 hO2 hO3 hb3 HP
  go_wp2_with fail
  refine HD.out.mono ?_
  rintro e w5 ⟨rfl, hb5⟩
  obtain ⟨x0, x1, x2, x3, x4⟩ := five_cells (keep_heap hb5 H4.out)
  have HB5 := Lib.hid (HB4.out.trans (hb5.mono HB4.out.size))
  have ha := Advance_any 0 5 5 8 ro mo rc mc [] [⟨3, 2, 7, 0, false⟩] w5 (HM4.out.next hb5) (.inl rfl) hmc (by decide)
  rw [adv_ex] at ha
  have HA := Lib.hid ha
  clear ha hb5 HD
  go_wp2_with fail
  refine HA.out.mono ?_
  rintro e w6 ⟨dv, rv, rfl, ⟨ro2, rc2, mo2, mc2, rfl, hP1, hP2⟩, hP3, hb6⟩
  have hb6' := HB5.out.trans (hb6.mono HB5.out.size)
  obtain ⟨g, cap, rfl⟩ : ∃ g cap, rv = .slice (some ⟨g, 0, none⟩) 1 cap := by
    rcases World.ownsRow.form hP3 (by decide) with h
    obtain ⟨_, _, e1, _⟩ := owns_form hP3
    rcases hP3.2 with ⟨e2, e3⟩ | ⟨g, cap, cur, e2, _⟩
    · cases e3
    · exact ⟨g, cap, e2⟩
  have hc0 := World.ownsRow.cellAt hP3 0 (by decide)
  have hc1 := World.ownsRow.cellAt hP3 1 (by decide)
  have hc2 := World.ownsRow.cellAt hP3 2 (by decide)
  simp [rlCells] at hc0 hc1 hc2
  have hgl : g < w6.heap.size := (hP3.lt g rfl).2
  go_upto_region 4 with fail
  try dsimp only
  generalize hw7 : w6.alloc (.cells #[.int .i64 8, .int .i64 5, .int .i64 5, .slice ro2 0 rc2, .slice mo2 1 mc2] 30) = w7
  have hb7 : Below w6.heap.size w6 w7 := by rw [← hw7]; exact (Below.refl _ _).alloc (Nat.le_refl _) _
  have d0 := (hb7.cell (p := ⟨g, 0, none⟩) hgl).trans hc0
  have d1 := (hb7.cell (p := ⟨g, 1, none⟩) hgl).trans hc1
  have d2 := (hb7.cell (p := ⟨g, 2, none⟩) hgl).trans hc2
  have HB7 := Lib.hid (hb6'.trans (hb7.mono hb6'.size))
  clear hw7 hb7 hc0 hc1 hc2 hP1 hP2 hP3 hb6 hb6' HA
  go_wp2_with fail
  go_ret
  exact ⟨rfl, HB7.out⟩
end Go.Proofs.Ytpddpdkdlodniaa

namespace Go.Proofs.Ytpddpdkdlodniaa
open Go.RowKit

theorem below_drewN {B : Nat} {w w' : World} (h : Below B w w') (n : Nat) : Below B w (w'.drewN n) := by
  induction n with
  | zero => exact h
  | succ n ih => exact ih.drew
/-- Rulings lie at an address. -/
def Rls (w : World) (ao : Option Addr) (l : List Rl) : Prop := l = [] ∨ ∃ b off, ao = some ⟨b, off, none⟩ ∧ b < w.heap.size ∧ ∀ i, i < l.length → w.cell? ⟨b, off + i * 3, none⟩ = some (.int .i64 (l.getD i default).id) ∧ w.cell? ⟨b, off + i * 3 + 1, none⟩ = some (.int .i64 (l.getD i default).day) ∧ w.cell? ⟨b, off + i * 3 + 2, none⟩ = some (.int .i64 (l.getD i default).opt)
theorem Rls.next {w w' : World} {ao : Option Addr} {l : List Rl} (h : Rls w ao l) (hb : Below w.heap.size w w') : Rls w' ao l := by
  rcases h with h | ⟨b, off, rfl, hlt, hc⟩
  · exact .inl h
  · refine .inr ⟨b, off, rfl, Nat.lt_of_lt_of_le hlt hb.size, fun i hi => ?_⟩
    obtain ⟨h0, h1, h2⟩ := hc i hi
    exact ⟨(hb.cell (p := ⟨b, off + i * 3, none⟩) hlt).trans h0, (hb.cell (p := ⟨b, off + i * 3 + 1, none⟩) hlt).trans h1, (hb.cell (p := ⟨b, off + i * 3 + 2, none⟩) hlt).trans h2⟩
theorem owns_rls {B : Nat} {w : World} {v : Value} {l : List Rl} (h : RlOwn B w v l) : ∃ ao c, v = .slice ao l.length c ∧ Rls w ao l := by
  obtain ⟨ao, c, rfl, _⟩ := owns_form h
  refine ⟨ao, c, rfl, ?_⟩
  rcases h.2 with ⟨h1, h2⟩ | ⟨g, cap', cur, h1, hg, hh, r⟩
  · exact .inl (List.length_eq_zero_iff.1 h2)
  · cases h1
    refine .inr ⟨g, 0, rfl, (Array.getElem?_eq_some_iff.1 hh).1, fun i hi => ?_⟩
    have hc : ∀ j, j < 3 → w.cell? ⟨g, 0 + i * 3 + j, none⟩ = (rlCells (l.getD i default))[j]? := fun j hj => by
      rw [Nat.zero_add, World.ownsRow.cellAt h (i * 3 + j) (by omega), flat_get rlCells 3 (fun _ => rfl) default l i j hi hj]
    exact ⟨hc 0 (by omega), hc 1 (by omega), hc 2 (by omega)⟩

set_option maxHeartbeats 1000000 in
theorem sameRulings_any (ao bo : Option Addr) (c c' : Nat) (l : List Rl) (w : World) (ha : Rls w ao l) (hb : Rls w bo l) (hn : l.length ≤ 1000000) :
    Calls Try.prog 16 #[.slice ao l.length c, .slice bo l.length c'] w fun e w' => e = .returned (.bool true) ∧ Below w.heap.size w w' := by
  have HA := Lib.hid ha
  have HB := Lib.hid hb
  clear ha hb
  go_enter Try.func16, Try.ntmps16
  go_wp2_with fail
  go_loopw [5] (fun i wr => ∃ k : Nat, k ≤ l.length ∧ i = .int .i64 k ∧ Below w.heap.size w wr) (fun i _ => l.length - (intOf i).toNat)
  case atStart => exact ⟨0, Nat.zero_le _, rfl, Below.refl _ _⟩
  case round =>
    obtain ⟨k, hk, rfl, hbl⟩ := hrel
    by_cases hlt : k < l.length
    · rcases HA.out.next hbl with h0 | ⟨b, off, rfl, hbw, hc⟩
      · rw [h0] at hlt; simp at hlt
      rcases HB.out.next hbl with h0 | ⟨b2, off2, rfl, hbw2, hd⟩
      · rw [h0] at hlt; simp at hlt
      obtain ⟨c0, c1, c2⟩ := hc k hlt
      obtain ⟨d0, d1, d2⟩ := hd k hlt
      obtain ⟨x, hx⟩ : ∃ x, l.getD k default = x := ⟨_, rfl⟩
      rw [hx] at c0 c1 c2 d0 d1 d2
      have HBL := Lib.hid hbl
      clear hx hc hd hbl
      have hk0 : (0 : Int) ≤ (k : Int) := Int.natCast_nonneg _
      have hk1 : (k : Int) < (l.length : Int) := by omega
      go_wp2_with fail
      go_quiet (fail)
      go_wp2_with fail
      go_roundw
      case rel => exact ⟨k + 1, hlt, by go_num, below_drewN HBL.out _⟩
      case measure => simp [intOf]; omega
    · go_wp2_with fail
      go_ret
      exact ⟨rfl, hbl⟩

set_option maxRecDepth 100000 in
set_option maxHeartbeats 2000000 in
theorem sameDocket_any (day ans app : Int) (ho1 ho2 mo1 mo2 : Option Addr) (hc1 hc2 mc1 mc2 : Nat) (H : List Int) (l : List Mt) (w : World) (hI1 : Ints w ho1 H) (hI2 : Ints w ho2 H) (hM1 : Mts w mo1 l) (hM2 : Mts w mo2 l) (hH : H.length ≤ 1000000) (hl : l.length ≤ 1000) :
    Calls Try.prog 15 #[.agg #[.int .i64 day, .int .i64 ans, .int .i64 app, .slice ho1 H.length hc1, .slice mo1 l.length mc1], .agg #[.int .i64 day, .int .i64 ans, .int .i64 app, .slice ho2 H.length hc2, .slice mo2 l.length mc2]] w fun e w' => e = .returned (.bool true) ∧ Below w.heap.size w w' := by
  obtain ⟨W, hW⟩ : ∃ W, (w.alloc (dkObj day ans app ho1 H.length hc1 mo1 l.length mc1)).alloc (dkObj day ans app ho2 H.length hc2 mo2 l.length mc2) = W := ⟨_, rfl⟩
  have hbW : Below w.heap.size w W := by rw [← hW]; go_grown
  have k1 : W.heap[w.heap.size]? = some (dkObj day ans app ho1 H.length hc1 mo1 l.length mc1) := by rw [← hW]; exact alloc_heap (heap_alloc_new w _)
  have k2 : W.heap[w.heap.size + 1]? = some (dkObj day ans app ho2 H.length hc2 mo2 l.length mc2) := by
    have := heap_alloc_new (w.alloc (dkObj day ans app ho1 H.length hc1 mo1 l.length mc1)) (dkObj day ans app ho2 H.length hc2 mo2 l.length mc2)
    rw [World.size_alloc] at this
    rw [← hW]
    exact this
  have HS := Lib.hid (sameInts_any ho1 ho2 hc1 hc2 H W (hI1.next hbW) (hI2.next hbW) hH)
  have HM1 := Lib.hid (hM1.next hbW)
  have HM2 := Lib.hid (hM2.next hbW)
  have HBW := Lib.hid hbW
  have K1 := Lib.hid k1
  have K2 := Lib.hid k2
  have HWW := Lib.hid hW
  clear hI1 hI2 hM1 hM2 hbW k1 k2 hW
  go_enter Try.func15, Try.ntmps15
  go_upto_region 1 with fail
  rw [HWW.out]
  obtain ⟨x0, x1, x2, x3, x4⟩ := five_cells K1.out
  obtain ⟨y0, y1, y2, y3, y4⟩ := five_cells K2.out
  go_wp2_with fail
  refine HS.out.mono ?_
  rintro e w3 ⟨rfl, hb3⟩
  have h1 := keep_heap hb3 K1.out
  have h2 := keep_heap hb3 K2.out
  obtain ⟨x0, x1, x2, x3, x4⟩ := five_cells h1
  obtain ⟨y0, y1, y2, y3, y4⟩ := five_cells h2
  have HB3 := Lib.hid hb3
  clear hb3 h1 h2
  go_wp2_with fail
  go_loopw [5] (fun i wr => ∃ k : Nat, k ≤ l.length ∧ i = .int .i64 k ∧ Below W.heap.size W wr) (fun i _ => l.length - (intOf i).toNat)
  case atStart => exact ⟨0, Nat.zero_le _, rfl, HB3.out⟩
  case round =>
    clear x0 x1 x2 x3 x4 y0 y1 y2 y3 y4
    obtain ⟨k, hk, rfl, hbl⟩ := hrel
    obtain ⟨x0, x1, x2, x3, x4⟩ := five_cells (keep_heap hbl K1.out)
    obtain ⟨y0, y1, y2, y3, y4⟩ := five_cells (keep_heap hbl K2.out)
    have HBL := Lib.hid hbl
    by_cases hlt : k < l.length
    · obtain ⟨b, off, rfl, hbw, hc⟩ := (HM1.out.next hbl).cells (by omega)
      obtain ⟨b2, off2, rfl, hbw2, hd⟩ := (HM2.out.next hbl).cells (by omega)
      obtain ⟨c0, c1, c2, c3, c4⟩ := hc k hlt
      obtain ⟨d0, d1, d2, d3, d4⟩ := hd k hlt
      obtain ⟨x, hx⟩ : ∃ x, l.getD k default = x := ⟨_, rfl⟩
      rw [hx] at c0 c1 c2 c3 c4 d0 d1 d2 d3 d4
      clear hx hc hd hbl
      have hk0 : (0 : Int) ≤ (k : Int) := Int.natCast_nonneg _
      have hk1 : (k : Int) < (l.length : Int) := by omega
      go_wp2_with fail
      go_quiet (fail)
      go_wp2_with fail
      go_roundw
      case rel => exact ⟨k + 1, hlt, by go_num, below_drewN HBL.out _⟩
      case measure => simp [intOf]; omega
    · clear hbl
      go_wp2_with fail
      go_ret
      exact ⟨rfl, HBW.out.trans (HBL.out.mono HBW.out.size)⟩
end Go.Proofs.Ytpddpdkdlodniaa
