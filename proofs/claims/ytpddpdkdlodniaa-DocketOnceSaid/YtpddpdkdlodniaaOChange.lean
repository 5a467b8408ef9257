/-
  Contract: a filing that is no opening, applied to a matter.
-/
import Derived.Test.YtpddpdkdlodniaaOOpen
import Derived.Test.YtpddpdkdlodniaaNKAddR
import Derived.Deep.RegionHeld3
namespace Go.Proofs.Ytpddpdkdlodniaa
open Go.RowKit

theorem addF_is {H : List Int} {day n d e : Int} (h : AddIs H day n d e) : addF H day n = (d, e) := by
  rcases h with ⟨h1, rfl, rfl⟩ | ⟨h1, h2, rfl, rfl⟩ | ⟨h1, h2, h3, h4, h5⟩
  · unfold addF
    rw [if_pos h1]
  · unfold addF
    rw [if_neg (by omega), if_pos ?_]
    rcases h2 with h2 | h2
    · simp [isDayF] at h2
      omega
    · omega
  · simp [isDayF] at h2
    exact addF_nth h1 h2.1 h2.2 h3 h4 h5

theorem flat_set1 (l : List Mt) (i j : Nat) (u : Value) (m' : Mt) (h : i < l.length) (hj : j < 5) (hm : (mtCells (l.getD i default)).set j u = mtCells m') : (l.flatMap mtCells).set (i * 5 + j) u = (l.set i m').flatMap mtCells := by
  have hA : ((l.take i).flatMap mtCells).length = i * 5 := by rw [flat_len mtCells 5 (fun _ => rfl)]; simp; omega
  rw [(set_split h m').2, List.flatMap_append, List.flatMap_cons, flat_split l i h, List.set_append_right _ _ (by omega), hA, show i * 5 + j - i * 5 = j by omega, ← hm, List.set_append_left _ _ (by simpa [mtCells] using hj)]
theorem owns_put1 {w : World} {base g cap n : Nat} {l : List Mt} {i : Nat} (h : w.ownsRow base 50 5 (.slice (some ⟨g, 0, none⟩) n cap) n (l.flatMap mtCells)) (hi : i < l.length) (j : Nat) (u : Value) (m' : Mt) (hj : j < 5) (hm : (mtCells (l.getD i default)).set j u = mtCells m') :
    (w.setCell ⟨g, i * 5 + j, none⟩ u).ownsRow base 50 5 (.slice (some ⟨g, 0, none⟩) n cap) n ((l.set i m').flatMap mtCells) := by
  have h1 := (h.stored (i * 5 + j) u).1
  rwa [flat_set1 l i j u m' hi hj hm] at h1
theorem getD_set (l : List Mt) (i : Nat) (m : Mt) (h : i < l.length) : (l.set i m).getD i default = m := by simp [List.getD, h]
/-- Two stores: the last day and the state. -/
theorem owns_ds {w : World} {base g cap n : Nat} {l : List Mt} {i : Nat} {m : Mt} (h : w.ownsRow base 50 5 (.slice (some ⟨g, 0, none⟩) n cap) n (l.flatMap mtCells)) (hi : i < l.length) (hm : l.getD i default = m) (due st : Int) :
    ((w.setCell ⟨g, i * 5 + 2, none⟩ (.int .i64 due)).setCell ⟨g, i * 5 + 1, none⟩ (.int .i64 st)).ownsRow base 50 5 (.slice (some ⟨g, 0, none⟩) n cap) n ((l.set i ⟨m.id, st, due, m.opt, m.df⟩).flatMap mtCells) := by
  have h1 := owns_put1 h hi 2 (.int .i64 due) ⟨m.id, m.st, due, m.opt, m.df⟩ (by omega) (by rw [hm]; rfl)
  have h2 := owns_put1 h1 (by simpa using hi) 1 (.int .i64 st) ⟨m.id, st, due, m.opt, m.df⟩ (by omega) (by rw [getD_set l i _ hi]; rfl)
  rwa [List.set_set] at h2
theorem owns_dso {w : World} {base g cap n : Nat} {l : List Mt} {i : Nat} {m : Mt} (h : w.ownsRow base 50 5 (.slice (some ⟨g, 0, none⟩) n cap) n (l.flatMap mtCells)) (hi : i < l.length) (hm : l.getD i default = m) (due st opt : Int) :
    (((w.setCell ⟨g, i * 5 + 2, none⟩ (.int .i64 due)).setCell ⟨g, i * 5 + 1, none⟩ (.int .i64 st)).setCell ⟨g, i * 5 + 3, none⟩ (.int .i64 opt)).ownsRow base 50 5 (.slice (some ⟨g, 0, none⟩) n cap) n ((l.set i ⟨m.id, st, due, opt, m.df⟩).flatMap mtCells) := by
  have h1 := owns_ds h hi hm due st
  have h2 := owns_put1 h1 (by simpa using hi) 3 (.int .i64 opt) ⟨m.id, st, due, opt, m.df⟩ (by omega) (by rw [getD_set l i _ hi]; rfl)
  rwa [List.set_set] at h2

/-- What a change leaves. -/
def ChangePost (B g cap : Nat) (l : List Mt) (i : Nat) (w : World) (r : Mt × Int) (e : Ending) (w' : World) : Prop :=
  e = .returned (.int .i64 r.2) ∧ (r.2 ≠ 0 → Below w.heap.size w w') ∧
    (r.2 = 0 → w'.ownsRow B 50 5 (.slice (some ⟨g, 0, none⟩) l.length cap) l.length ((l.set i r.1).flatMap mtCells) ∧ (∀ b, b < w.heap.size → b ≠ g → w'.heap[b]? = w.heap[b]?) ∧ Below B w w' ∧ w.heap.size ≤ w'.heap.size)
theorem change_bad {B g cap : Nat} {l : List Mt} {i : Nat} {w w' : World} {m : Mt} {x : Int} {r : Mt × Int} (hr : r = (m, x)) (hx : x ≠ 0) (hb : Below w.heap.size w w') : ChangePost B g cap l i w r (.returned (.int .i64 x)) w' := by
  rw [hr]
  exact ⟨rfl, fun _ => hb, fun h => absurd h hx⟩
theorem set_keeps {w : World} {g i : Nat} {u : Value} {b : Nat} (hne : b ≠ g) : (w.setCell ⟨g, i, none⟩ u).heap[b]? = w.heap[b]? := heap_setCell_other w ⟨g, i, none⟩ b u hne
theorem change_ds {B g cap : Nat} {l : List Mt} {i : Nat} {w w3 : World} {m : Mt} {st due : Int} {r : Mt × Int} (hr : r = (⟨m.id, st, due, m.opt, m.df⟩, 0)) (hi : i < l.length) (hm : l.getD i default = m) (ho : w.ownsRow B 50 5 (.slice (some ⟨g, 0, none⟩) l.length cap) l.length (l.flatMap mtCells)) (hb : Below w.heap.size w w3) (hB : B ≤ w.heap.size) :
    ChangePost B g cap l i w r (.returned (.int .i64 0)) ((w3.setCell ⟨g, i * 5 + 2, none⟩ (.int .i64 due)).setCell ⟨g, i * 5 + 1, none⟩ (.int .i64 st)) := by
  rw [hr]
  have hg := (ho.lt g rfl).1
  refine ⟨rfl, fun h => absurd rfl h, fun _ => ⟨owns_ds (owns_next ho hb) hi hm due st, fun b hb1 hne => ?_, ((hb.mono hB).setCell hg _).setCell hg _, by simpa using hb.size⟩⟩
  rw [set_keeps hne, set_keeps hne, hb.block b hb1]
theorem change_dso {B g cap : Nat} {l : List Mt} {i : Nat} {w w3 : World} {m : Mt} {st due opt : Int} {r : Mt × Int} (hr : r = (⟨m.id, st, due, opt, m.df⟩, 0)) (hi : i < l.length) (hm : l.getD i default = m) (ho : w.ownsRow B 50 5 (.slice (some ⟨g, 0, none⟩) l.length cap) l.length (l.flatMap mtCells)) (hb : Below w.heap.size w w3) (hB : B ≤ w.heap.size) :
    ChangePost B g cap l i w r (.returned (.int .i64 0)) (((w3.setCell ⟨g, i * 5 + 2, none⟩ (.int .i64 due)).setCell ⟨g, i * 5 + 1, none⟩ (.int .i64 st)).setCell ⟨g, i * 5 + 3, none⟩ (.int .i64 opt)) := by
  rw [hr]
  have hg := (ho.lt g rfl).1
  refine ⟨rfl, fun h => absurd rfl h, fun _ => ⟨owns_dso (owns_next ho hb) hi hm due st opt, fun b hb1 hne => ?_, (((hb.mono hB).setCell hg _).setCell hg _).setCell hg _, by simpa using hb.size⟩⟩
  rw [set_keeps hne, set_keeps hne, set_keeps hne, hb.block b hb1]
/-- The cells of a matter that the call owns. -/
theorem owns_mt {w : World} {B g cap n : Nat} {l : List Mt} {i : Nat} {m : Mt} (ho : w.ownsRow B 50 5 (.slice (some ⟨g, 0, none⟩) n cap) n (l.flatMap mtCells)) (hi : i < l.length) (hm : l.getD i default = m) : MtAt w g (i * 5) m ∧ g < w.heap.size := by
  rcases owns_mts ho with h0 | ⟨b, off, hbo, hbw, hc0⟩
  · rw [h0] at hi; simp at hi
  · simp at hbo
    obtain ⟨rfl, rfl⟩ := hbo
    have := hc0 i hi
    rw [hm, Nat.zero_add] at this
    exact ⟨this, hbw⟩

/-- What the walk knows behind its first three blocks. -/
structure Chg (w W : World) (g i : Nat) (m : Mt) (k fd fi fo ans app : Int) (ho : Option Addr) (hn hc : Nat) : Prop where
  b1 : W.heap[w.heap.size]? = some (.cells #[.int .i64 k, .int .i64 fd, .int .i64 fi, .int .i64 fo] 47 (0, 0))
  b2 : W.heap[w.heap.size + 1]? = some (.cells #[.int .i64 ans, .int .i64 app, .slice ho hn hc] 27 (0, 0))
  b3 : W.heap[w.heap.size + 2]? = some (.cells #[.int .i64 0, .int .i64 0, .int .i64 1, .int .i64 2, .int .i64 3, .int .i64 4, .int .i64 5] 104 (0, 0))
  mt : MtAt W g (i * 5) m
  fz : ∀ j, W.frozen? ⟨g, j, none⟩ = false
  be : Below w.heap.size w W
  sz : W.heap.size = w.heap.size + 3
theorem chg_made {w W : World} {g i : Nat} {m : Mt} {k fd fi fo ans app : Int} {ho : Option Addr} {hn hc : Nat} (hm : MtAt w g (i * 5) m) (hg : g < w.heap.size) (hf : ∀ j, w.frozen? ⟨g, j, none⟩ = false)
    (hW : ((w.alloc (.cells #[.int .i64 k, .int .i64 fd, .int .i64 fi, .int .i64 fo] 47)).alloc (.cells #[.int .i64 ans, .int .i64 app, .slice ho hn hc] 27)).alloc (.cells #[.int .i64 0, .int .i64 0, .int .i64 1, .int .i64 2, .int .i64 3, .int .i64 4, .int .i64 5] 104) = W) :
    Chg w W g i m k fd fi fo ans app ho hn hc := by
  have hb : Below w.heap.size w W := by rw [← hW]; go_grown
  refine ⟨?_, ?_, ?_, hm.same fun x => hb.cell (p := ⟨g, x, none⟩) hg, fun j => (hb.frozen (p := ⟨g, j, none⟩) hg).trans (hf j), hb, by rw [← hW]; simp⟩
  · rw [← hW]
    exact alloc_heap (alloc_heap (heap_alloc_new w _))
  · have := heap_alloc_new (w.alloc (.cells #[.int .i64 k, .int .i64 fd, .int .i64 fi, .int .i64 fo] 47)) (.cells #[.int .i64 ans, .int .i64 app, .slice ho hn hc] 27)
    rw [World.size_alloc] at this
    rw [← hW]
    exact alloc_heap this
  · have := heap_alloc_new ((w.alloc (.cells #[.int .i64 k, .int .i64 fd, .int .i64 fi, .int .i64 fo] 47)).alloc (.cells #[.int .i64 ans, .int .i64 app, .slice ho hn hc] 27)) (.cells #[.int .i64 0, .int .i64 0, .int .i64 1, .int .i64 2, .int .i64 3, .int .i64 4, .int .i64 5] 104)
    rw [World.size_alloc, World.size_alloc] at this
    rw [← hW]
    exact this
theorem four_cells {W : World} {b : Nat} {x y z u : Value} {T : TypeId} (h : W.heap[b]? = some (.cells #[x, y, z, u] T (0, 0))) :
    W.cell? ⟨b, 0, none⟩ = some x ∧ W.cell? ⟨b, 1, none⟩ = some y ∧ W.cell? ⟨b, 2, none⟩ = some z ∧ W.cell? ⟨b, 3, none⟩ = some u :=
  ⟨by rw [cell_of_row _ _ _ _ _ _ h]; rfl, by rw [cell_of_row _ _ _ _ _ _ h]; rfl, by rw [cell_of_row _ _ _ _ _ _ h]; rfl, by rw [cell_of_row _ _ _ _ _ _ h]; rfl⟩

set_option maxRecDepth 100000 in
set_option maxHeartbeats 4000000 in
theorem change2_any (B g cap i : Nat) (l : List Mt) (m : Mt) (dk fd fi fo : Int) (ans app : Int) (ho : Option Addr) (hc : Nat) (H : List Int) (ml : List Mt) (w : World) (hO : w.ownsRow B 50 5 (.slice (some ⟨g, 0, none⟩) l.length cap) l.length (l.flatMap mtCells)) (hB : B ≤ w.heap.size) (hi : i < l.length) (hm : l.getD i default = m) (hI : Ints w ho H) :
    Calls Try.prog 38 #[.pointer (some ⟨g, i * 5, none⟩), .agg #[.int .i64 2, .int .i64 fd, .int .i64 fi, .int .i64 fo], .agg #[.int .i64 ans, .int .i64 app, .slice ho H.length hc]] w (ChangePost B g cap l i w (changeF ⟨dk, ans, app, H, ml⟩ ⟨2, fd, fi, fo⟩ m)) := by
  obtain ⟨hmt, hgw⟩ := owns_mt hO hi hm
  obtain ⟨W, hW⟩ : ∃ W, ((w.alloc (.cells #[.int .i64 2, .int .i64 fd, .int .i64 fi, .int .i64 fo] 47)).alloc (.cells #[.int .i64 ans, .int .i64 app, .slice ho H.length hc] 27)).alloc (.cells #[.int .i64 0, .int .i64 0, .int .i64 1, .int .i64 2, .int .i64 3, .int .i64 4, .int .i64 5] 104) = W := ⟨_, rfl⟩
  have HCH := Lib.hid (chg_made (k := 2) (fd := fd) (fi := fi) (fo := fo) (ans := ans) (app := app) (ho := ho) (hn := H.length) (hc := hc) hmt hgw (fun j => hO.frozenAt j) hW)
  have HWW := Lib.hid hW
  have HO := Lib.hid hO
  have HM := Lib.hid hm
  clear hO hm hmt hW
  obtain ⟨r, hr⟩ : ∃ r, changeF ⟨dk, ans, app, H, ml⟩ ⟨2, fd, fi, fo⟩ m = r := ⟨_, rfl⟩
  rw [hr]
  have HR := Lib.hid hr
  clear hr
  have HI := Lib.hid hI
  clear hI
  by_cases hst : m.st = 1
  case neg =>
    have hq : (m.st != 1) = true := by simpa using hst
    have hq2 : (m.st == 1) = false := by simpa using hst
    have HST := Lib.hid hst
    clear hst
    go_enter Try.func38, Try.ntmps38
    go_wp2_with fail
    rw [HWW.out]
    obtain ⟨p0, p1, p2, p3⟩ := four_cells HCH.out.b1
    obtain ⟨t0, t1, t2, -, -, -⟩ := three_cells HCH.out.b2
    have a0 : W.cell? ⟨w.heap.size + 2, 2, none⟩ = some (.int .i64 1) := by rw [cell_of_row _ _ _ _ _ _ HCH.out.b3]; rfl
    obtain ⟨m0, m1, m2, m3, m4⟩ := HCH.out.mt
    have g1 := HCH.out.fz (i * 5 + 1)
    have g2 := HCH.out.fz (i * 5 + 2)
    have g3 := HCH.out.fz (i * 5 + 3)
    have hBE : Below w.heap.size w W.drew := HCH.out.be.drew
    try simp only at m0 m1 m2 m3 m4
    go_region_held3 (fun w' => w'.cell? ⟨g, i * 5 + 1, none⟩ = some (.int .i64 m.st) ∧ w'.cell? ⟨w.heap.size, 0, none⟩ = some (.int .i64 2) ∧ w'.cell? ⟨w.heap.size + 2, 2, none⟩ = some (.int .i64 1)) (go_keep) (fail)
    go_wp2_with fail
    go_ret
    exact change_bad (m := m) (by rw [← HR.out, changeF, if_pos (by simpa using HST.out)]) (by decide) hBE
  obtain ⟨mi, ms, md, mo, mf⟩ := m
  simp only at hst
  subst hst
  go_enter Try.func38, Try.ntmps38
  go_wp2_with fail
  rw [HWW.out]
  obtain ⟨p0, p1, p2, p3⟩ := four_cells HCH.out.b1
  obtain ⟨t0, t1, t2, -, -, -⟩ := three_cells HCH.out.b2
  have a0 : W.cell? ⟨w.heap.size + 2, 2, none⟩ = some (.int .i64 1) := by rw [cell_of_row _ _ _ _ _ _ HCH.out.b3]; rfl
  obtain ⟨m0, m1, m2, m3, m4⟩ := HCH.out.mt
  have g1 := HCH.out.fz (i * 5 + 1)
  have g2 := HCH.out.fz (i * 5 + 2)
  have g3 := HCH.out.fz (i * 5 + 3)
  have hBE : Below w.heap.size w W.drew := HCH.out.be.drew
  try simp only at m0 m1 m2 m3 m4
  go_region_held3 (fun w' => w'.cell? ⟨g, i * 5 + 1, none⟩ = some (.int .i64 1) ∧ w'.cell? ⟨w.heap.size, 0, none⟩ = some (.int .i64 2) ∧ w'.cell? ⟨w.heap.size + 2, 2, none⟩ = some (.int .i64 1)) (go_keep) (fail)
  go_wp2_with fail
  refine (add_any fd ans ho hc H W.drew (HI.out.next hBE)).mono ?_
  rintro e w3 ⟨due, er, rfl, hA, hb3⟩
  have HA := Lib.hid (addF_is hA)
  have hb4 : Below w.heap.size w w3 := hBE.trans (hb3.mono hBE.size)
  have HB4 := Lib.hid hb4
  obtain ⟨p0, p1, p2, p3⟩ := four_cells (keep_heap hb3 (drew_heap HCH.out.b1))
  have hgW : g < W.drew.heap.size := by show g < W.heap.size; have := HCH.out.sz; omega
  have m0 := (hb3.cell (p := ⟨g, i * 5, none⟩) hgW).trans m0
  have m1 := (hb3.cell (p := ⟨g, i * 5 + 1, none⟩) hgW).trans m1
  have m2 := (hb3.cell (p := ⟨g, i * 5 + 2, none⟩) hgW).trans m2
  have m3 := (hb3.cell (p := ⟨g, i * 5 + 3, none⟩) hgW).trans m3
  have m4 := (hb3.cell (p := ⟨g, i * 5 + 4, none⟩) hgW).trans m4
  have g1 := (hb3.frozen (p := ⟨g, i * 5 + 1, none⟩) hgW).trans g1
  have g2 := (hb3.frozen (p := ⟨g, i * 5 + 2, none⟩) hgW).trans g2
  have g3 := (hb3.frozen (p := ⟨g, i * 5 + 3, none⟩) hgW).trans g3
  clear hA hb3 hb4
  by_cases her : er = 0
  · subst her
    go_wp2_with fail
    go_ret
    exact change_ds (m := ⟨mi, 1, md, mo, mf⟩) (by rw [← HR.out, changeF, if_neg (by simp), if_neg (by simp), if_neg (by simp [dueOfF, HA.out])]; simp [dueOfF, HA.out]) hi HM.out HO.out HB4.out hB
  · have hq : (er != 0) = true := by simpa using her
    have HE := Lib.hid her
    clear her
    go_wp2_with fail
    go_ret
    exact change_bad (m := ⟨mi, 1, md, mo, mf⟩) (by rw [← HR.out, changeF, if_neg (by simp), if_neg (by simp), if_pos (by simp [dueOfF, HA.out]; exact HE.out)]; simp [dueOfF, HA.out]) HE.out HB4.out

set_option maxRecDepth 100000 in
set_option maxHeartbeats 4000000 in
theorem change3_any (B g cap i : Nat) (l : List Mt) (m : Mt) (dk fd fi fo : Int) (ans app : Int) (ho : Option Addr) (hc : Nat) (H : List Int) (ml : List Mt) (w : World) (hO : w.ownsRow B 50 5 (.slice (some ⟨g, 0, none⟩) l.length cap) l.length (l.flatMap mtCells)) (hB : B ≤ w.heap.size) (hi : i < l.length) (hm : l.getD i default = m) :
    Calls Try.prog 38 #[.pointer (some ⟨g, i * 5, none⟩), .agg #[.int .i64 3, .int .i64 fd, .int .i64 fi, .int .i64 fo], .agg #[.int .i64 ans, .int .i64 app, .slice ho H.length hc]] w (ChangePost B g cap l i w (changeF ⟨dk, ans, app, H, ml⟩ ⟨3, fd, fi, fo⟩ m)) := by
  obtain ⟨hmt, hgw⟩ := owns_mt hO hi hm
  obtain ⟨W, hW⟩ : ∃ W, ((w.alloc (.cells #[.int .i64 3, .int .i64 fd, .int .i64 fi, .int .i64 fo] 47)).alloc (.cells #[.int .i64 ans, .int .i64 app, .slice ho H.length hc] 27)).alloc (.cells #[.int .i64 0, .int .i64 0, .int .i64 1, .int .i64 2, .int .i64 3, .int .i64 4, .int .i64 5] 104) = W := ⟨_, rfl⟩
  have HCH := Lib.hid (chg_made (k := 3) (fd := fd) (fi := fi) (fo := fo) (ans := ans) (app := app) (ho := ho) (hn := H.length) (hc := hc) hmt hgw (fun j => hO.frozenAt j) hW)
  have HWW := Lib.hid hW
  have HO := Lib.hid hO
  have HM := Lib.hid hm
  clear hO hm hmt hW
  obtain ⟨r, hr⟩ : ∃ r, changeF ⟨dk, ans, app, H, ml⟩ ⟨3, fd, fi, fo⟩ m = r := ⟨_, rfl⟩
  rw [hr]
  have HR := Lib.hid hr
  clear hr
  by_cases hst : m.st = 2
  case neg =>
    have hq : (m.st != 2) = true := by simpa using hst
    have hq2 : (m.st == 2) = false := by simpa using hst
    have HST := Lib.hid hst
    clear hst
    go_enter Try.func38, Try.ntmps38
    go_wp2_with fail
    rw [HWW.out]
    obtain ⟨p0, p1, p2, p3⟩ := four_cells HCH.out.b1
    obtain ⟨t0, t1, t2, -, -, -⟩ := three_cells HCH.out.b2
    have a0 : W.cell? ⟨w.heap.size + 2, 3, none⟩ = some (.int .i64 2) := by rw [cell_of_row _ _ _ _ _ _ HCH.out.b3]; rfl
    obtain ⟨m0, m1, m2, m3, m4⟩ := HCH.out.mt
    have g1 := HCH.out.fz (i * 5 + 1)
    have g2 := HCH.out.fz (i * 5 + 2)
    have g3 := HCH.out.fz (i * 5 + 3)
    have hBE : Below w.heap.size w W.drew := HCH.out.be.drew
    try simp only at m0 m1 m2 m3 m4
    go_region_held3 (fun w' => w'.cell? ⟨g, i * 5 + 1, none⟩ = some (.int .i64 m.st) ∧ w'.cell? ⟨w.heap.size, 0, none⟩ = some (.int .i64 3) ∧ w'.cell? ⟨w.heap.size + 2, 3, none⟩ = some (.int .i64 2)) (go_keep) (fail)
    go_wp2_with fail
    go_ret
    exact change_bad (m := m) (by rw [← HR.out, changeF, if_pos (by simpa using HST.out)]) (by decide) hBE
  obtain ⟨mi, ms, md, mo, mf⟩ := m
  simp only at hst
  subst hst
  go_enter Try.func38, Try.ntmps38
  go_wp2_with fail
  rw [HWW.out]
  obtain ⟨p0, p1, p2, p3⟩ := four_cells HCH.out.b1
  obtain ⟨t0, t1, t2, -, -, -⟩ := three_cells HCH.out.b2
  have a0 : W.cell? ⟨w.heap.size + 2, 3, none⟩ = some (.int .i64 2) := by rw [cell_of_row _ _ _ _ _ _ HCH.out.b3]; rfl
  obtain ⟨m0, m1, m2, m3, m4⟩ := HCH.out.mt
  have g1 := HCH.out.fz (i * 5 + 1)
  have g2 := HCH.out.fz (i * 5 + 2)
  have g3 := HCH.out.fz (i * 5 + 3)
  have hBE : Below w.heap.size w W.drew := HCH.out.be.drew
  try simp only at m0 m1 m2 m3 m4
  go_region_held3 (fun w' => w'.cell? ⟨g, i * 5 + 1, none⟩ = some (.int .i64 2) ∧ w'.cell? ⟨w.heap.size, 0, none⟩ = some (.int .i64 3) ∧ w'.cell? ⟨w.heap.size + 2, 3, none⟩ = some (.int .i64 2)) (go_keep) (fail)
  go_wp2_with fail
  go_ret
  exact change_ds (m := ⟨mi, 2, md, mo, mf⟩) (by rw [← HR.out, changeF, if_neg (by simp), if_neg (by simp), if_neg (by simp [dueOfF])]; simp [dueOfF]) hi HM.out HO.out hBE hB

set_option maxRecDepth 100000 in
set_option maxHeartbeats 4000000 in
theorem change4_any (B g cap i : Nat) (l : List Mt) (m : Mt) (dk fd fi fo : Int) (ans app : Int) (ho : Option Addr) (hc : Nat) (H : List Int) (ml : List Mt) (w : World) (hO : w.ownsRow B 50 5 (.slice (some ⟨g, 0, none⟩) l.length cap) l.length (l.flatMap mtCells)) (hB : B ≤ w.heap.size) (hi : i < l.length) (hm : l.getD i default = m) (hI : Ints w ho H) :
    Calls Try.prog 38 #[.pointer (some ⟨g, i * 5, none⟩), .agg #[.int .i64 4, .int .i64 fd, .int .i64 fi, .int .i64 fo], .agg #[.int .i64 ans, .int .i64 app, .slice ho H.length hc]] w (ChangePost B g cap l i w (changeF ⟨dk, ans, app, H, ml⟩ ⟨4, fd, fi, fo⟩ m)) := by
  obtain ⟨hmt, hgw⟩ := owns_mt hO hi hm
  obtain ⟨W, hW⟩ : ∃ W, ((w.alloc (.cells #[.int .i64 4, .int .i64 fd, .int .i64 fi, .int .i64 fo] 47)).alloc (.cells #[.int .i64 ans, .int .i64 app, .slice ho H.length hc] 27)).alloc (.cells #[.int .i64 0, .int .i64 0, .int .i64 1, .int .i64 2, .int .i64 3, .int .i64 4, .int .i64 5] 104) = W := ⟨_, rfl⟩
  have HCH := Lib.hid (chg_made (k := 4) (fd := fd) (fi := fi) (fo := fo) (ans := ans) (app := app) (ho := ho) (hn := H.length) (hc := hc) hmt hgw (fun j => hO.frozenAt j) hW)
  have HWW := Lib.hid hW
  have HO := Lib.hid hO
  have HM := Lib.hid hm
  clear hO hm hmt hW
  obtain ⟨r, hr⟩ : ∃ r, changeF ⟨dk, ans, app, H, ml⟩ ⟨4, fd, fi, fo⟩ m = r := ⟨_, rfl⟩
  rw [hr]
  have HR := Lib.hid hr
  clear hr
  have HI := Lib.hid hI
  clear hI
  by_cases hst : m.st = 3
  case neg =>
    have hq : (m.st != 3) = true := by simpa using hst
    have hq2 : (m.st == 3) = false := by simpa using hst
    have HST := Lib.hid hst
    clear hst
    go_enter Try.func38, Try.ntmps38
    go_wp2_with fail
    rw [HWW.out]
    obtain ⟨p0, p1, p2, p3⟩ := four_cells HCH.out.b1
    obtain ⟨t0, t1, t2, -, -, -⟩ := three_cells HCH.out.b2
    have a0 : W.cell? ⟨w.heap.size + 2, 4, none⟩ = some (.int .i64 3) := by rw [cell_of_row _ _ _ _ _ _ HCH.out.b3]; rfl
    obtain ⟨m0, m1, m2, m3, m4⟩ := HCH.out.mt
    have g1 := HCH.out.fz (i * 5 + 1)
    have g2 := HCH.out.fz (i * 5 + 2)
    have g3 := HCH.out.fz (i * 5 + 3)
    have hBE : Below w.heap.size w W.drew := HCH.out.be.drew
    try simp only at m0 m1 m2 m3 m4
    go_region_held3 (fun w' => w'.cell? ⟨g, i * 5 + 1, none⟩ = some (.int .i64 m.st) ∧ w'.cell? ⟨w.heap.size, 0, none⟩ = some (.int .i64 4) ∧ w'.cell? ⟨w.heap.size + 2, 4, none⟩ = some (.int .i64 3)) (go_keep) (fail)
    go_wp2_with fail
    go_ret
    exact change_bad (m := m) (by rw [← HR.out, changeF, if_pos (by simpa using HST.out)]) (by decide) hBE
  obtain ⟨mi, ms, md, mo, mf⟩ := m
  simp only at hst
  subst hst
  by_cases ho1 : fo < 0
  · have HC := Lib.hid ho1
    go_enter Try.func38, Try.ntmps38
    go_wp2_with fail
    rw [HWW.out]
    obtain ⟨p0, p1, p2, p3⟩ := four_cells HCH.out.b1
    obtain ⟨t0, t1, t2, -, -, -⟩ := three_cells HCH.out.b2
    have a0 : W.cell? ⟨w.heap.size + 2, 4, none⟩ = some (.int .i64 3) := by rw [cell_of_row _ _ _ _ _ _ HCH.out.b3]; rfl
    obtain ⟨m0, m1, m2, m3, m4⟩ := HCH.out.mt
    have g1 := HCH.out.fz (i * 5 + 1)
    have g2 := HCH.out.fz (i * 5 + 2)
    have g3 := HCH.out.fz (i * 5 + 3)
    have hBE : Below w.heap.size w W.drew := HCH.out.be.drew
    try simp only at m0 m1 m2 m3 m4
    go_region_held3 (fun w' => w'.cell? ⟨g, i * 5 + 1, none⟩ = some (.int .i64 3) ∧ w'.cell? ⟨w.heap.size, 0, none⟩ = some (.int .i64 4) ∧ w'.cell? ⟨w.heap.size + 2, 4, none⟩ = some (.int .i64 3)) (go_keep) (fail)
    go_wp2_with fail
    go_ret
    exact change_bad (m := ⟨mi, 3, md, mo, mf⟩) (by rw [← HR.out, changeF, if_neg (by simp), if_pos ⟨by simp, .inl HC.out⟩]) (by decide) hBE
  by_cases ho2 : 4 ≤ fo
  · have HC := Lib.hid ho2
    go_enter Try.func38, Try.ntmps38
    go_wp2_with fail
    rw [HWW.out]
    obtain ⟨p0, p1, p2, p3⟩ := four_cells HCH.out.b1
    obtain ⟨t0, t1, t2, -, -, -⟩ := three_cells HCH.out.b2
    have a0 : W.cell? ⟨w.heap.size + 2, 4, none⟩ = some (.int .i64 3) := by rw [cell_of_row _ _ _ _ _ _ HCH.out.b3]; rfl
    obtain ⟨m0, m1, m2, m3, m4⟩ := HCH.out.mt
    have g1 := HCH.out.fz (i * 5 + 1)
    have g2 := HCH.out.fz (i * 5 + 2)
    have g3 := HCH.out.fz (i * 5 + 3)
    have hBE : Below w.heap.size w W.drew := HCH.out.be.drew
    try simp only at m0 m1 m2 m3 m4
    go_region_held3 (fun w' => w'.cell? ⟨g, i * 5 + 1, none⟩ = some (.int .i64 3) ∧ w'.cell? ⟨w.heap.size, 0, none⟩ = some (.int .i64 4) ∧ w'.cell? ⟨w.heap.size + 2, 4, none⟩ = some (.int .i64 3)) (go_keep) (fail)
    go_wp2_with fail
    go_ret
    exact change_bad (m := ⟨mi, 3, md, mo, mf⟩) (by rw [← HR.out, changeF, if_neg (by simp), if_pos ⟨by simp, .inr HC.out⟩]) (by decide) hBE
  have HC : Hid (¬ (fo < 0 ∨ 4 ≤ fo)) := Lib.hid (by omega)
  go_enter Try.func38, Try.ntmps38
  go_wp2_with fail
  rw [HWW.out]
  obtain ⟨p0, p1, p2, p3⟩ := four_cells HCH.out.b1
  obtain ⟨t0, t1, t2, -, -, -⟩ := three_cells HCH.out.b2
  have a0 : W.cell? ⟨w.heap.size + 2, 4, none⟩ = some (.int .i64 3) := by rw [cell_of_row _ _ _ _ _ _ HCH.out.b3]; rfl
  obtain ⟨m0, m1, m2, m3, m4⟩ := HCH.out.mt
  have g1 := HCH.out.fz (i * 5 + 1)
  have g2 := HCH.out.fz (i * 5 + 2)
  have g3 := HCH.out.fz (i * 5 + 3)
  have hBE : Below w.heap.size w W.drew := HCH.out.be.drew
  try simp only at m0 m1 m2 m3 m4
  go_region_held3 (fun w' => w'.cell? ⟨g, i * 5 + 1, none⟩ = some (.int .i64 3) ∧ w'.cell? ⟨w.heap.size, 0, none⟩ = some (.int .i64 4) ∧ w'.cell? ⟨w.heap.size + 2, 4, none⟩ = some (.int .i64 3)) (go_keep) (fail)
  go_wp2_with fail
  refine (add_any fd app ho hc H W.drew (HI.out.next hBE)).mono ?_
  rintro e w3 ⟨due, er, rfl, hA, hb3⟩
  have HA := Lib.hid (addF_is hA)
  have hb4 : Below w.heap.size w w3 := hBE.trans (hb3.mono hBE.size)
  have HB4 := Lib.hid hb4
  obtain ⟨p0, p1, p2, p3⟩ := four_cells (keep_heap hb3 (drew_heap HCH.out.b1))
  have hgW : g < W.drew.heap.size := by show g < W.heap.size; have := HCH.out.sz; omega
  have m0 := (hb3.cell (p := ⟨g, i * 5, none⟩) hgW).trans m0
  have m1 := (hb3.cell (p := ⟨g, i * 5 + 1, none⟩) hgW).trans m1
  have m2 := (hb3.cell (p := ⟨g, i * 5 + 2, none⟩) hgW).trans m2
  have m3 := (hb3.cell (p := ⟨g, i * 5 + 3, none⟩) hgW).trans m3
  have m4 := (hb3.cell (p := ⟨g, i * 5 + 4, none⟩) hgW).trans m4
  have g1 := (hb3.frozen (p := ⟨g, i * 5 + 1, none⟩) hgW).trans g1
  have g2 := (hb3.frozen (p := ⟨g, i * 5 + 2, none⟩) hgW).trans g2
  have g3 := (hb3.frozen (p := ⟨g, i * 5 + 3, none⟩) hgW).trans g3
  clear hA hb3 hb4
  by_cases her : er = 0
  · subst her
    go_wp2_with fail
    go_ret
    exact change_dso (m := ⟨mi, 3, md, mo, mf⟩) (by rw [← HR.out, changeF, if_neg (by simp), if_neg (fun h => HC.out h.2), if_neg (by simp [dueOfF, HA.out])]; simp [dueOfF, HA.out]) hi HM.out HO.out HB4.out hB
  · have hq : (er != 0) = true := by simpa using her
    have HE := Lib.hid her
    clear her
    go_wp2_with fail
    go_ret
    exact change_bad (m := ⟨mi, 3, md, mo, mf⟩) (by rw [← HR.out, changeF, if_neg (by simp), if_neg (fun h => HC.out h.2), if_pos (by simp [dueOfF, HA.out]; exact HE.out)]; simp [dueOfF, HA.out]) HE.out HB4.out

set_option maxRecDepth 100000 in
set_option maxHeartbeats 4000000 in
theorem change5_any (B g cap i : Nat) (l : List Mt) (m : Mt) (dk fd fi fo : Int) (ans app : Int) (ho : Option Addr) (hc : Nat) (H : List Int) (ml : List Mt) (w : World) (hO : w.ownsRow B 50 5 (.slice (some ⟨g, 0, none⟩) l.length cap) l.length (l.flatMap mtCells)) (hB : B ≤ w.heap.size) (hi : i < l.length) (hm : l.getD i default = m) :
    Calls Try.prog 38 #[.pointer (some ⟨g, i * 5, none⟩), .agg #[.int .i64 5, .int .i64 fd, .int .i64 fi, .int .i64 fo], .agg #[.int .i64 ans, .int .i64 app, .slice ho H.length hc]] w (ChangePost B g cap l i w (changeF ⟨dk, ans, app, H, ml⟩ ⟨5, fd, fi, fo⟩ m)) := by
  obtain ⟨hmt, hgw⟩ := owns_mt hO hi hm
  obtain ⟨W, hW⟩ : ∃ W, ((w.alloc (.cells #[.int .i64 5, .int .i64 fd, .int .i64 fi, .int .i64 fo] 47)).alloc (.cells #[.int .i64 ans, .int .i64 app, .slice ho H.length hc] 27)).alloc (.cells #[.int .i64 0, .int .i64 0, .int .i64 1, .int .i64 2, .int .i64 3, .int .i64 4, .int .i64 5] 104) = W := ⟨_, rfl⟩
  have HCH := Lib.hid (chg_made (k := 5) (fd := fd) (fi := fi) (fo := fo) (ans := ans) (app := app) (ho := ho) (hn := H.length) (hc := hc) hmt hgw (fun j => hO.frozenAt j) hW)
  have HWW := Lib.hid hW
  have HO := Lib.hid hO
  have HM := Lib.hid hm
  clear hO hm hmt hW
  obtain ⟨r, hr⟩ : ∃ r, changeF ⟨dk, ans, app, H, ml⟩ ⟨5, fd, fi, fo⟩ m = r := ⟨_, rfl⟩
  rw [hr]
  have HR := Lib.hid hr
  clear hr
  by_cases hst : m.st = 4
  case neg =>
    have hq : (m.st != 4) = true := by simpa using hst
    have hq2 : (m.st == 4) = false := by simpa using hst
    have HST := Lib.hid hst
    clear hst
    go_enter Try.func38, Try.ntmps38
    go_wp2_with fail
    rw [HWW.out]
    obtain ⟨p0, p1, p2, p3⟩ := four_cells HCH.out.b1
    obtain ⟨t0, t1, t2, -, -, -⟩ := three_cells HCH.out.b2
    have a0 : W.cell? ⟨w.heap.size + 2, 5, none⟩ = some (.int .i64 4) := by rw [cell_of_row _ _ _ _ _ _ HCH.out.b3]; rfl
    obtain ⟨m0, m1, m2, m3, m4⟩ := HCH.out.mt
    have g1 := HCH.out.fz (i * 5 + 1)
    have g2 := HCH.out.fz (i * 5 + 2)
    have g3 := HCH.out.fz (i * 5 + 3)
    have hBE : Below w.heap.size w W.drew := HCH.out.be.drew
    try simp only at m0 m1 m2 m3 m4
    go_region_held3 (fun w' => w'.cell? ⟨g, i * 5 + 1, none⟩ = some (.int .i64 m.st) ∧ w'.cell? ⟨w.heap.size, 0, none⟩ = some (.int .i64 5) ∧ w'.cell? ⟨w.heap.size + 2, 5, none⟩ = some (.int .i64 4)) (go_keep) (fail)
    go_wp2_with fail
    go_ret
    exact change_bad (m := m) (by rw [← HR.out, changeF, if_pos (by simpa using HST.out)]) (by decide) hBE
  obtain ⟨mi, ms, md, mo, mf⟩ := m
  simp only at hst
  subst hst
  go_enter Try.func38, Try.ntmps38
  go_wp2_with fail
  rw [HWW.out]
  obtain ⟨p0, p1, p2, p3⟩ := four_cells HCH.out.b1
  obtain ⟨t0, t1, t2, -, -, -⟩ := three_cells HCH.out.b2
  have a0 : W.cell? ⟨w.heap.size + 2, 5, none⟩ = some (.int .i64 4) := by rw [cell_of_row _ _ _ _ _ _ HCH.out.b3]; rfl
  obtain ⟨m0, m1, m2, m3, m4⟩ := HCH.out.mt
  have g1 := HCH.out.fz (i * 5 + 1)
  have g2 := HCH.out.fz (i * 5 + 2)
  have g3 := HCH.out.fz (i * 5 + 3)
  have hBE : Below w.heap.size w W.drew := HCH.out.be.drew
  try simp only at m0 m1 m2 m3 m4
  go_region_held3 (fun w' => w'.cell? ⟨g, i * 5 + 1, none⟩ = some (.int .i64 4) ∧ w'.cell? ⟨w.heap.size, 0, none⟩ = some (.int .i64 5) ∧ w'.cell? ⟨w.heap.size + 2, 5, none⟩ = some (.int .i64 4)) (go_keep) (fail)
  go_wp2_with fail
  go_ret
  exact change_ds (m := ⟨mi, 4, md, mo, mf⟩) (by rw [← HR.out, changeF, if_neg (by simp), if_neg (by simp), if_neg (by simp [dueOfF])]; simp [dueOfF]) hi HM.out HO.out hBE hB

set_option maxRecDepth 100000 in
set_option maxHeartbeats 4000000 in
theorem change6_any (B g cap i : Nat) (l : List Mt) (m : Mt) (dk fd fi fo : Int) (ans app : Int) (ho : Option Addr) (hc : Nat) (H : List Int) (ml : List Mt) (w : World) (hO : w.ownsRow B 50 5 (.slice (some ⟨g, 0, none⟩) l.length cap) l.length (l.flatMap mtCells)) (hB : B ≤ w.heap.size) (hi : i < l.length) (hm : l.getD i default = m) :
    Calls Try.prog 38 #[.pointer (some ⟨g, i * 5, none⟩), .agg #[.int .i64 6, .int .i64 fd, .int .i64 fi, .int .i64 fo], .agg #[.int .i64 ans, .int .i64 app, .slice ho H.length hc]] w (ChangePost B g cap l i w (changeF ⟨dk, ans, app, H, ml⟩ ⟨6, fd, fi, fo⟩ m)) := by
  obtain ⟨hmt, hgw⟩ := owns_mt hO hi hm
  obtain ⟨W, hW⟩ : ∃ W, ((w.alloc (.cells #[.int .i64 6, .int .i64 fd, .int .i64 fi, .int .i64 fo] 47)).alloc (.cells #[.int .i64 ans, .int .i64 app, .slice ho H.length hc] 27)).alloc (.cells #[.int .i64 0, .int .i64 0, .int .i64 1, .int .i64 2, .int .i64 3, .int .i64 4, .int .i64 5] 104) = W := ⟨_, rfl⟩
  have HCH := Lib.hid (chg_made (k := 6) (fd := fd) (fi := fi) (fo := fo) (ans := ans) (app := app) (ho := ho) (hn := H.length) (hc := hc) hmt hgw (fun j => hO.frozenAt j) hW)
  have HWW := Lib.hid hW
  have HO := Lib.hid hO
  have HM := Lib.hid hm
  clear hO hm hmt hW
  obtain ⟨r, hr⟩ : ∃ r, changeF ⟨dk, ans, app, H, ml⟩ ⟨6, fd, fi, fo⟩ m = r := ⟨_, rfl⟩
  rw [hr]
  have HR := Lib.hid hr
  clear hr
  by_cases hst : m.st = 5
  case neg =>
    have hq : (m.st != 5) = true := by simpa using hst
    have hq2 : (m.st == 5) = false := by simpa using hst
    have HST := Lib.hid hst
    clear hst
    go_enter Try.func38, Try.ntmps38
    go_wp2_with fail
    rw [HWW.out]
    obtain ⟨p0, p1, p2, p3⟩ := four_cells HCH.out.b1
    obtain ⟨t0, t1, t2, -, -, -⟩ := three_cells HCH.out.b2
    have a0 : W.cell? ⟨w.heap.size + 2, 6, none⟩ = some (.int .i64 5) := by rw [cell_of_row _ _ _ _ _ _ HCH.out.b3]; rfl
    obtain ⟨m0, m1, m2, m3, m4⟩ := HCH.out.mt
    have g1 := HCH.out.fz (i * 5 + 1)
    have g2 := HCH.out.fz (i * 5 + 2)
    have g3 := HCH.out.fz (i * 5 + 3)
    have hBE : Below w.heap.size w W.drew := HCH.out.be.drew
    try simp only at m0 m1 m2 m3 m4
    go_region_held3 (fun w' => w'.cell? ⟨g, i * 5 + 1, none⟩ = some (.int .i64 m.st) ∧ w'.cell? ⟨w.heap.size, 0, none⟩ = some (.int .i64 6) ∧ w'.cell? ⟨w.heap.size + 2, 6, none⟩ = some (.int .i64 5)) (go_keep) (fail)
    go_wp2_with fail
    go_ret
    exact change_bad (m := m) (by rw [← HR.out, changeF, if_pos (by simpa using HST.out)]) (by decide) hBE
  obtain ⟨mi, ms, md, mo, mf⟩ := m
  simp only at hst
  subst hst
  by_cases ho1 : fo < 0
  · have HC := Lib.hid ho1
    go_enter Try.func38, Try.ntmps38
    go_wp2_with fail
    rw [HWW.out]
    obtain ⟨p0, p1, p2, p3⟩ := four_cells HCH.out.b1
    obtain ⟨t0, t1, t2, -, -, -⟩ := three_cells HCH.out.b2
    have a0 : W.cell? ⟨w.heap.size + 2, 6, none⟩ = some (.int .i64 5) := by rw [cell_of_row _ _ _ _ _ _ HCH.out.b3]; rfl
    obtain ⟨m0, m1, m2, m3, m4⟩ := HCH.out.mt
    have g1 := HCH.out.fz (i * 5 + 1)
    have g2 := HCH.out.fz (i * 5 + 2)
    have g3 := HCH.out.fz (i * 5 + 3)
    have hBE : Below w.heap.size w W.drew := HCH.out.be.drew
    try simp only at m0 m1 m2 m3 m4
    go_region_held3 (fun w' => w'.cell? ⟨g, i * 5 + 1, none⟩ = some (.int .i64 5) ∧ w'.cell? ⟨w.heap.size, 0, none⟩ = some (.int .i64 6) ∧ w'.cell? ⟨w.heap.size + 2, 6, none⟩ = some (.int .i64 5)) (go_keep) (fail)
    go_wp2_with fail
    go_ret
    exact change_bad (m := ⟨mi, 5, md, mo, mf⟩) (by rw [← HR.out, changeF, if_neg (by simp), if_pos ⟨by simp, .inl HC.out⟩]) (by decide) hBE
  by_cases ho2 : 4 ≤ fo
  · have HC := Lib.hid ho2
    go_enter Try.func38, Try.ntmps38
    go_wp2_with fail
    rw [HWW.out]
    obtain ⟨p0, p1, p2, p3⟩ := four_cells HCH.out.b1
    obtain ⟨t0, t1, t2, -, -, -⟩ := three_cells HCH.out.b2
    have a0 : W.cell? ⟨w.heap.size + 2, 6, none⟩ = some (.int .i64 5) := by rw [cell_of_row _ _ _ _ _ _ HCH.out.b3]; rfl
    obtain ⟨m0, m1, m2, m3, m4⟩ := HCH.out.mt
    have g1 := HCH.out.fz (i * 5 + 1)
    have g2 := HCH.out.fz (i * 5 + 2)
    have g3 := HCH.out.fz (i * 5 + 3)
    have hBE : Below w.heap.size w W.drew := HCH.out.be.drew
    try simp only at m0 m1 m2 m3 m4
    go_region_held3 (fun w' => w'.cell? ⟨g, i * 5 + 1, none⟩ = some (.int .i64 5) ∧ w'.cell? ⟨w.heap.size, 0, none⟩ = some (.int .i64 6) ∧ w'.cell? ⟨w.heap.size + 2, 6, none⟩ = some (.int .i64 5)) (go_keep) (fail)
    go_wp2_with fail
    go_ret
    exact change_bad (m := ⟨mi, 5, md, mo, mf⟩) (by rw [← HR.out, changeF, if_neg (by simp), if_pos ⟨by simp, .inr HC.out⟩]) (by decide) hBE
  have HC : Hid (¬ (fo < 0 ∨ 4 ≤ fo)) := Lib.hid (by omega)
  go_enter Try.func38, Try.ntmps38
  go_wp2_with fail
  rw [HWW.out]
  obtain ⟨p0, p1, p2, p3⟩ := four_cells HCH.out.b1
  obtain ⟨t0, t1, t2, -, -, -⟩ := three_cells HCH.out.b2
  have a0 : W.cell? ⟨w.heap.size + 2, 6, none⟩ = some (.int .i64 5) := by rw [cell_of_row _ _ _ _ _ _ HCH.out.b3]; rfl
  obtain ⟨m0, m1, m2, m3, m4⟩ := HCH.out.mt
  have g1 := HCH.out.fz (i * 5 + 1)
  have g2 := HCH.out.fz (i * 5 + 2)
  have g3 := HCH.out.fz (i * 5 + 3)
  have hBE : Below w.heap.size w W.drew := HCH.out.be.drew
  try simp only at m0 m1 m2 m3 m4
  go_region_held3 (fun w' => w'.cell? ⟨g, i * 5 + 1, none⟩ = some (.int .i64 5) ∧ w'.cell? ⟨w.heap.size, 0, none⟩ = some (.int .i64 6) ∧ w'.cell? ⟨w.heap.size + 2, 6, none⟩ = some (.int .i64 5)) (go_keep) (fail)
  go_wp2_with fail
  go_ret
  exact change_dso (m := ⟨mi, 5, md, mo, mf⟩) (by rw [← HR.out, changeF, if_neg (by simp), if_neg (fun h => HC.out h.2), if_neg (by simp [dueOfF])]; simp [dueOfF]) hi HM.out HO.out hBE hB
end Go.Proofs.Ytpddpdkdlodniaa
