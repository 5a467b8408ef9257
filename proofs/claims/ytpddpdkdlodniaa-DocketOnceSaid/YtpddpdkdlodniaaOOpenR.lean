/-
  Contract: a filing that is no opening, applied to a matter by the document.
  Contract: the opening of a matter by the document.
-/
import Derived.Test.YtpddpdkdlodniaaOFile2
import Derived.Deep.QuietTactic
import Derived.BigQuiet
import Derived.WalkSmall
import Derived.Test.YtpddpdkdlodniaaOMatter
namespace Go.Proofs.Ytpddpdkdlodniaa
open Go.RowKit

theorem addR_fun (day n : Int) (ao : Option Addr) (cap : Nat) (H : List Int) (w : World) (hI : Ints w ao H) :
    Calls Try.prog 61 #[.int .i64 day, .int .i64 n, .slice ao H.length cap] w fun e w' => e = .returned (.tuple #[.int .i64 (addF H day n).1, .int .i64 (addF H day n).2]) ∧ w' = w := by
  refine (addR_any day n ao cap H w hI).mono ?_
  rintro e w' ⟨d, er, rfl, hA, rfl⟩
  rw [addF_is hA]
  exact ⟨rfl, rfl⟩
/-- The matter while it is changed. -/
def ChgSt (B g cap : Nat) (l : List Mt) (i : Nat) (w : World) (m : Mt) (w' : World) : Prop :=
  w'.ownsRow B 50 5 (.slice (some ⟨g, 0, none⟩) l.length cap) l.length ((l.set i m).flatMap mtCells) ∧ (∀ b, b < w.heap.size → b ≠ g → w'.heap[b]? = w.heap[b]?) ∧ Below B w w' ∧ w.heap.size ≤ w'.heap.size
section
variable {B g cap : Nat} {l : List Mt} {i : Nat} {w w' : World} {m m2 : Mt}
theorem ChgSt.start (ho : w.ownsRow B 50 5 (.slice (some ⟨g, 0, none⟩) l.length cap) l.length (l.flatMap mtCells)) (hm : l.getD i default = m) (hi : i < l.length) (hb : Below w.heap.size w w') (hB : B ≤ w.heap.size) : ChgSt B g cap l i w m w' := by
  have e : l.set i m = l := by
    rw [← hm]
    simp [List.getD, hi]
  refine ⟨by rw [e]; exact owns_next ho hb, fun b hb1 _ => hb.block b hb1, hb.mono hB, hb.size⟩
theorem ChgSt.put (h : ChgSt B g cap l i w m w') (hi : i < l.length) (j : Nat) (u : Value) (m2 : Mt) (hj : j < 5) (hm : (mtCells m).set j u = mtCells m2) : ChgSt B g cap l i w m2 (w'.setCell ⟨g, i * 5 + j, none⟩ u) := by
  obtain ⟨a, b, c, d⟩ := h
  have hg := (a.lt g rfl).1
  have hl : (l.set i m).length = l.length := List.length_set
  have a2 := owns_put1 a (i := i) (by rw [hl]; exact hi) j u m2 hj (by rw [getD_set l i m hi]; exact hm)
  rw [List.set_set] at a2
  exact ⟨a2, fun x hx hne => by rw [set_keeps hne]; exact b x hx hne, c.setCell hg _, by simpa using d⟩
theorem ChgSt.next {w2 : World} (h : ChgSt B g cap l i w m w') (hb : Below w'.heap.size w' w2) : ChgSt B g cap l i w m w2 :=
  ⟨owns_next h.1 hb, fun b h1 h2 => (hb.block b (Nat.lt_of_lt_of_le h1 h.2.2.2)).trans (h.2.1 b h1 h2), h.2.2.1.trans (hb.mono (Nat.le_of_lt (Nat.lt_of_le_of_lt (h.1.lt g rfl).1 (h.1.lt g rfl).2))), Nat.le_trans h.2.2.2 hb.size⟩
theorem ChgSt.post {r : Mt × Int} (h : ChgSt B g cap l i w m w') (hr : r = (m, 0)) : ChangePost B g cap l i w r (.returned (.int .i64 0)) w' := by
  subst hr
  exact ⟨rfl, fun e => absurd rfl e, fun _ => h⟩
end

set_option maxRecDepth 100000 in
set_option maxHeartbeats 4000000 in
theorem changeR2_any (B g cap i P : Nat) (l : List Mt) (m : Mt) (dk day fd fi fo ans app : Int) (ho mo : Option Addr) (hc mn mc : Nat) (H : List Int) (ml : List Mt) (w : World) (hP : w.heap[P]? = some (dkObj day ans app ho H.length hc mo mn mc)) (hO : w.ownsRow B 50 5 (.slice (some ⟨g, 0, none⟩) l.length cap) l.length (l.flatMap mtCells)) (hB : B ≤ w.heap.size) (hi : i < l.length) (hm : l.getD i default = m) (hst : m.st = 1) (hI : Ints w ho H) :
    Calls Try.prog 49 #[.pointer (some ⟨P, 0, none⟩), .pointer (some ⟨g, i * 5, none⟩), .agg #[.int .i64 2, .int .i64 fd, .int .i64 fi, .int .i64 fo]] w (ChangePost B g cap l i w (changeF ⟨dk, ans, app, H, ml⟩ ⟨2, fd, fi, fo⟩ m)) := by
  obtain ⟨hmt, hgw⟩ := owns_mt hO hi hm
  obtain ⟨W, hW⟩ : ∃ W, w.alloc (fiObj 2 fd fi fo) = W := ⟨_, rfl⟩
  have hbW : Below w.heap.size w W := by rw [← hW]; go_grown
  have k1 : W.heap[w.heap.size]? = some (fiObj 2 fd fi fo) := by rw [← hW]; exact heap_alloc_new w _
  have HMT := Lib.hid (hmt.same (w' := W) fun x => hbW.cell (p := ⟨g, x, none⟩) hgw)
  have HFZ : Hid (∀ j, W.frozen? ⟨g, j, none⟩ = false) := Lib.hid fun j => (hbW.frozen (p := ⟨g, j, none⟩) hgw).trans (hO.frozenAt j)
  have HS0 := Lib.hid (ChgSt.start hO hm hi hbW hB)
  have HPW := Lib.hid (keep_heap hbW hP)
  have K1 := Lib.hid k1
  have HWW := Lib.hid hW
  have HBW := Lib.hid hbW
  have HAD := Lib.hid fun n j => addR_fun fd n ho hc H (W.drewN j) (hI.next (below_drewN hbW j))
  clear hI
  obtain ⟨r, hr⟩ : ∃ r, changeF ⟨dk, ans, app, H, ml⟩ ⟨2, fd, fi, fo⟩ m = r := ⟨_, rfl⟩
  rw [hr]
  have HR := Lib.hid hr
  have HI := Lib.hid hi
  clear hr hm hmt hgw hW hbW k1 hP hO
  obtain ⟨mi, ms, md, mo', mf⟩ := m
  simp only at hst
  subst hst
  obtain ⟨⟨due, er⟩, hd⟩ : ∃ d, addF H fd ans = d := ⟨_, rfl⟩
  have HA := Lib.hid (HAD.out ans)
  rw [hd] at HA
  have HD := Lib.hid hd
  clear hd HAD
  by_cases her : er = 0
  · subst her
    go_enter Try.func49, Try.ntmps49
    go_upto_region 1 with fail
    rw [HWW.out]
    obtain ⟨p0, p1, p2, p3⟩ := four_cells K1.out
    obtain ⟨x0, x1, x2, x3, x4⟩ := five_cells HPW.out
    obtain ⟨m0, m1, m2, m3, m4⟩ := HMT.out
    have g1 := HFZ.out (i * 5 + 1)
    have g2 := HFZ.out (i * 5 + 2)
    have g3 := HFZ.out (i * 5 + 3)
    try simp only at m0 m1 m2 m3 m4
    go_upto_region 9 with fail
    go_quiet ((go_at_call 61; exact Calls.quiet_of_same (HA.out _)))
    go_wp2_with fail
    go_ret
    exact ((((HS0.out.next (below_drewN (Below.refl _ _) _)).put HI.out 2 (.int .i64 due) ⟨mi, 1, due, mo', mf⟩ (by omega) rfl).put HI.out 1 (.int .i64 2) ⟨mi, 2, due, mo', mf⟩ (by omega) rfl)).post (r := r) (by rw [← HR.out, changeF, if_neg (by simp), if_neg (by simp), if_neg (by simp [dueOfF, HD.out])]; simp [dueOfF, HD.out])
  · have hq : (er != 0) = true := by simpa using her
    have HE := Lib.hid her
    clear her
    go_enter Try.func49, Try.ntmps49
    go_upto_region 1 with fail
    rw [HWW.out]
    obtain ⟨p0, p1, p2, p3⟩ := four_cells K1.out
    obtain ⟨x0, x1, x2, x3, x4⟩ := five_cells HPW.out
    obtain ⟨m0, m1, m2, m3, m4⟩ := HMT.out
    have g1 := HFZ.out (i * 5 + 1)
    have g2 := HFZ.out (i * 5 + 2)
    have g3 := HFZ.out (i * 5 + 3)
    try simp only at m0 m1 m2 m3 m4
    go_upto_region 9 with fail
    go_quiet ((go_at_call 61; exact Calls.quiet_of_same (HA.out _)))
    go_wp2_with fail
    go_ret
    exact change_bad (m := ⟨mi, 1, md, mo', mf⟩) (by rw [← HR.out, changeF, if_neg (by simp), if_neg (by simp), if_pos (by simp [dueOfF, HD.out]; exact HE.out)]; simp [dueOfF, HD.out]) HE.out (below_drewN HBW.out _)

set_option maxRecDepth 100000 in
set_option maxHeartbeats 4000000 in
theorem changeR3_any (B g cap i P : Nat) (l : List Mt) (m : Mt) (dk day fd fi fo ans app : Int) (ho mo : Option Addr) (hc mn mc : Nat) (H : List Int) (ml : List Mt) (w : World) (hP : w.heap[P]? = some (dkObj day ans app ho H.length hc mo mn mc)) (hO : w.ownsRow B 50 5 (.slice (some ⟨g, 0, none⟩) l.length cap) l.length (l.flatMap mtCells)) (hB : B ≤ w.heap.size) (hi : i < l.length) (hm : l.getD i default = m) (hst : m.st = 2) :
    Calls Try.prog 49 #[.pointer (some ⟨P, 0, none⟩), .pointer (some ⟨g, i * 5, none⟩), .agg #[.int .i64 3, .int .i64 fd, .int .i64 fi, .int .i64 fo]] w (ChangePost B g cap l i w (changeF ⟨dk, ans, app, H, ml⟩ ⟨3, fd, fi, fo⟩ m)) := by
  obtain ⟨hmt, hgw⟩ := owns_mt hO hi hm
  obtain ⟨W, hW⟩ : ∃ W, w.alloc (fiObj 3 fd fi fo) = W := ⟨_, rfl⟩
  have hbW : Below w.heap.size w W := by rw [← hW]; go_grown
  have k1 : W.heap[w.heap.size]? = some (fiObj 3 fd fi fo) := by rw [← hW]; exact heap_alloc_new w _
  have HMT := Lib.hid (hmt.same (w' := W) fun x => hbW.cell (p := ⟨g, x, none⟩) hgw)
  have HFZ : Hid (∀ j, W.frozen? ⟨g, j, none⟩ = false) := Lib.hid fun j => (hbW.frozen (p := ⟨g, j, none⟩) hgw).trans (hO.frozenAt j)
  have HS0 := Lib.hid (ChgSt.start hO hm hi hbW hB)
  have HPW := Lib.hid (keep_heap hbW hP)
  have K1 := Lib.hid k1
  have HWW := Lib.hid hW
  have HBW := Lib.hid hbW
  obtain ⟨r, hr⟩ : ∃ r, changeF ⟨dk, ans, app, H, ml⟩ ⟨3, fd, fi, fo⟩ m = r := ⟨_, rfl⟩
  rw [hr]
  have HR := Lib.hid hr
  have HI := Lib.hid hi
  clear hr hm hmt hgw hW hbW k1 hP hO
  obtain ⟨mi, ms, md, mo', mf⟩ := m
  simp only at hst
  subst hst
  go_enter Try.func49, Try.ntmps49
  go_upto_region 1 with fail
  rw [HWW.out]
  obtain ⟨p0, p1, p2, p3⟩ := four_cells K1.out
  obtain ⟨x0, x1, x2, x3, x4⟩ := five_cells HPW.out
  obtain ⟨m0, m1, m2, m3, m4⟩ := HMT.out
  have g1 := HFZ.out (i * 5 + 1)
  have g2 := HFZ.out (i * 5 + 2)
  have g3 := HFZ.out (i * 5 + 3)
  try simp only at m0 m1 m2 m3 m4
  go_wp2_with fail
  go_ret
  exact (((HS0.out.put HI.out 1 (.int .i64 3) ⟨mi, 3, md, mo', mf⟩ (by omega) rfl).put HI.out 2 (.int .i64 0) ⟨mi, 3, 0, mo', mf⟩ (by omega) rfl)).post (r := r) (by rw [← HR.out, changeF, if_neg (by simp), if_neg (by simp), if_neg (by simp [dueOfF])]; simp [dueOfF])

set_option maxRecDepth 100000 in
set_option maxHeartbeats 4000000 in
theorem changeR4_any (B g cap i P : Nat) (l : List Mt) (m : Mt) (dk day fd fi fo ans app : Int) (ho mo : Option Addr) (hc mn mc : Nat) (H : List Int) (ml : List Mt) (w : World) (hP : w.heap[P]? = some (dkObj day ans app ho H.length hc mo mn mc)) (hO : w.ownsRow B 50 5 (.slice (some ⟨g, 0, none⟩) l.length cap) l.length (l.flatMap mtCells)) (hB : B ≤ w.heap.size) (hi : i < l.length) (hm : l.getD i default = m) (hst : m.st = 3) (hI : Ints w ho H) :
    Calls Try.prog 49 #[.pointer (some ⟨P, 0, none⟩), .pointer (some ⟨g, i * 5, none⟩), .agg #[.int .i64 4, .int .i64 fd, .int .i64 fi, .int .i64 fo]] w (ChangePost B g cap l i w (changeF ⟨dk, ans, app, H, ml⟩ ⟨4, fd, fi, fo⟩ m)) := by
  obtain ⟨hmt, hgw⟩ := owns_mt hO hi hm
  obtain ⟨W, hW⟩ : ∃ W, w.alloc (fiObj 4 fd fi fo) = W := ⟨_, rfl⟩
  have hbW : Below w.heap.size w W := by rw [← hW]; go_grown
  have k1 : W.heap[w.heap.size]? = some (fiObj 4 fd fi fo) := by rw [← hW]; exact heap_alloc_new w _
  have HMT := Lib.hid (hmt.same (w' := W) fun x => hbW.cell (p := ⟨g, x, none⟩) hgw)
  have HFZ : Hid (∀ j, W.frozen? ⟨g, j, none⟩ = false) := Lib.hid fun j => (hbW.frozen (p := ⟨g, j, none⟩) hgw).trans (hO.frozenAt j)
  have HS0 := Lib.hid (ChgSt.start hO hm hi hbW hB)
  have HPW := Lib.hid (keep_heap hbW hP)
  have K1 := Lib.hid k1
  have HWW := Lib.hid hW
  have HBW := Lib.hid hbW
  have HAD := Lib.hid fun n j => addR_fun fd n ho hc H (W.drewN j) (hI.next (below_drewN hbW j))
  clear hI
  obtain ⟨r, hr⟩ : ∃ r, changeF ⟨dk, ans, app, H, ml⟩ ⟨4, fd, fi, fo⟩ m = r := ⟨_, rfl⟩
  rw [hr]
  have HR := Lib.hid hr
  have HI := Lib.hid hi
  clear hr hm hmt hgw hW hbW k1 hP hO
  obtain ⟨mi, ms, md, mo', mf⟩ := m
  simp only at hst
  subst hst
  by_cases hop : 0 ≤ fo ∧ fo < 4
  case neg =>
    have HC : Hid (fo < 0 ∨ 4 ≤ fo) := Lib.hid (by omega)
    have HOP := Lib.hid fun W => option_no hop W
    clear hop
    go_enter Try.func49, Try.ntmps49
    go_upto_region 1 with fail
    rw [HWW.out]
    obtain ⟨p0, p1, p2, p3⟩ := four_cells K1.out
    obtain ⟨x0, x1, x2, x3, x4⟩ := five_cells HPW.out
    obtain ⟨m0, m1, m2, m3, m4⟩ := HMT.out
    have g1 := HFZ.out (i * 5 + 1)
    have g2 := HFZ.out (i * 5 + 2)
    have g3 := HFZ.out (i * 5 + 3)
    try simp only at m0 m1 m2 m3 m4
    go_wp2_with (go_at_call 59
                 go_must (refine (HOP.out _).mono ?_)
                 rintro e w3 ⟨rfl, rfl⟩)
    go_ret
    exact change_bad (m := ⟨mi, 3, md, mo', mf⟩) (by rw [← HR.out, changeF, if_neg (by simp), if_pos ⟨by simp, HC.out⟩]) (by decide) HBW.out
  have HC : Hid (¬ (fo < 0 ∨ 4 ≤ fo)) := Lib.hid (by omega)
  have HOP := Lib.hid fun W => option_yes hop W
  clear hop
  obtain ⟨⟨due, er⟩, hd⟩ : ∃ d, addF H fd app = d := ⟨_, rfl⟩
  have HA := Lib.hid (HAD.out app)
  rw [hd] at HA
  have HD := Lib.hid hd
  clear hd HAD
  by_cases her : er = 0
  · subst her
    go_enter Try.func49, Try.ntmps49
    go_upto_region 1 with fail
    rw [HWW.out]
    obtain ⟨p0, p1, p2, p3⟩ := four_cells K1.out
    obtain ⟨x0, x1, x2, x3, x4⟩ := five_cells HPW.out
    obtain ⟨m0, m1, m2, m3, m4⟩ := HMT.out
    have g1 := HFZ.out (i * 5 + 1)
    have g2 := HFZ.out (i * 5 + 2)
    have g3 := HFZ.out (i * 5 + 3)
    try simp only at m0 m1 m2 m3 m4
    go_upto_region 9 with ((go_at_call 59; go_must (refine (HOP.out _).mono ?_); rintro e w3 ⟨rfl, rfl⟩))
    go_quiet ((go_at_call 61; exact Calls.quiet_of_same (HA.out _)))
    go_wp2_with fail
    go_ret
    exact ((((((HS0.out.next (below_drewN (Below.refl _ _) _)).put HI.out 2 (.int .i64 due) ⟨mi, 3, due, mo', mf⟩ (by omega) rfl).put HI.out 1 (.int .i64 2) ⟨mi, 2, due, mo', mf⟩ (by omega) rfl).put HI.out 1 (.int .i64 4) ⟨mi, 4, due, mo', mf⟩ (by omega) rfl).put HI.out 3 (.int .i64 fo) ⟨mi, 4, due, fo, mf⟩ (by omega) rfl)).post (r := r) (by rw [← HR.out, changeF, if_neg (by simp), if_neg (fun h => HC.out h.2), if_neg (by simp [dueOfF, HD.out])]; simp [dueOfF, HD.out])
  · have hq : (er != 0) = true := by simpa using her
    have HE := Lib.hid her
    clear her
    go_enter Try.func49, Try.ntmps49
    go_upto_region 1 with fail
    rw [HWW.out]
    obtain ⟨p0, p1, p2, p3⟩ := four_cells K1.out
    obtain ⟨x0, x1, x2, x3, x4⟩ := five_cells HPW.out
    obtain ⟨m0, m1, m2, m3, m4⟩ := HMT.out
    have g1 := HFZ.out (i * 5 + 1)
    have g2 := HFZ.out (i * 5 + 2)
    have g3 := HFZ.out (i * 5 + 3)
    try simp only at m0 m1 m2 m3 m4
    go_upto_region 9 with ((go_at_call 59; go_must (refine (HOP.out _).mono ?_); rintro e w3 ⟨rfl, rfl⟩))
    go_quiet ((go_at_call 61; exact Calls.quiet_of_same (HA.out _)))
    go_wp2_with fail
    go_ret
    exact change_bad (m := ⟨mi, 3, md, mo', mf⟩) (by rw [← HR.out, changeF, if_neg (by simp), if_neg (fun h => HC.out h.2), if_pos (by simp [dueOfF, HD.out]; exact HE.out)]; simp [dueOfF, HD.out]) HE.out (below_drewN HBW.out _)

set_option maxRecDepth 100000 in
set_option maxHeartbeats 4000000 in
theorem changeR5_any (B g cap i P : Nat) (l : List Mt) (m : Mt) (dk day fd fi fo ans app : Int) (ho mo : Option Addr) (hc mn mc : Nat) (H : List Int) (ml : List Mt) (w : World) (hP : w.heap[P]? = some (dkObj day ans app ho H.length hc mo mn mc)) (hO : w.ownsRow B 50 5 (.slice (some ⟨g, 0, none⟩) l.length cap) l.length (l.flatMap mtCells)) (hB : B ≤ w.heap.size) (hi : i < l.length) (hm : l.getD i default = m) (hst : m.st = 4) :
    Calls Try.prog 49 #[.pointer (some ⟨P, 0, none⟩), .pointer (some ⟨g, i * 5, none⟩), .agg #[.int .i64 5, .int .i64 fd, .int .i64 fi, .int .i64 fo]] w (ChangePost B g cap l i w (changeF ⟨dk, ans, app, H, ml⟩ ⟨5, fd, fi, fo⟩ m)) := by
  obtain ⟨hmt, hgw⟩ := owns_mt hO hi hm
  obtain ⟨W, hW⟩ : ∃ W, w.alloc (fiObj 5 fd fi fo) = W := ⟨_, rfl⟩
  have hbW : Below w.heap.size w W := by rw [← hW]; go_grown
  have k1 : W.heap[w.heap.size]? = some (fiObj 5 fd fi fo) := by rw [← hW]; exact heap_alloc_new w _
  have HMT := Lib.hid (hmt.same (w' := W) fun x => hbW.cell (p := ⟨g, x, none⟩) hgw)
  have HFZ : Hid (∀ j, W.frozen? ⟨g, j, none⟩ = false) := Lib.hid fun j => (hbW.frozen (p := ⟨g, j, none⟩) hgw).trans (hO.frozenAt j)
  have HS0 := Lib.hid (ChgSt.start hO hm hi hbW hB)
  have HPW := Lib.hid (keep_heap hbW hP)
  have K1 := Lib.hid k1
  have HWW := Lib.hid hW
  have HBW := Lib.hid hbW
  obtain ⟨r, hr⟩ : ∃ r, changeF ⟨dk, ans, app, H, ml⟩ ⟨5, fd, fi, fo⟩ m = r := ⟨_, rfl⟩
  rw [hr]
  have HR := Lib.hid hr
  have HI := Lib.hid hi
  clear hr hm hmt hgw hW hbW k1 hP hO
  obtain ⟨mi, ms, md, mo', mf⟩ := m
  simp only at hst
  subst hst
  go_enter Try.func49, Try.ntmps49
  go_upto_region 1 with fail
  rw [HWW.out]
  obtain ⟨p0, p1, p2, p3⟩ := four_cells K1.out
  obtain ⟨x0, x1, x2, x3, x4⟩ := five_cells HPW.out
  obtain ⟨m0, m1, m2, m3, m4⟩ := HMT.out
  have g1 := HFZ.out (i * 5 + 1)
  have g2 := HFZ.out (i * 5 + 2)
  have g3 := HFZ.out (i * 5 + 3)
  try simp only at m0 m1 m2 m3 m4
  go_wp2_with fail
  go_ret
  exact (((HS0.out.put HI.out 1 (.int .i64 5) ⟨mi, 5, md, mo', mf⟩ (by omega) rfl).put HI.out 2 (.int .i64 0) ⟨mi, 5, 0, mo', mf⟩ (by omega) rfl)).post (r := r) (by rw [← HR.out, changeF, if_neg (by simp), if_neg (by simp), if_neg (by simp [dueOfF])]; simp [dueOfF])

set_option maxRecDepth 100000 in
set_option maxHeartbeats 4000000 in
theorem changeR6_any (B g cap i P : Nat) (l : List Mt) (m : Mt) (dk day fd fi fo ans app : Int) (ho mo : Option Addr) (hc mn mc : Nat) (H : List Int) (ml : List Mt) (w : World) (hP : w.heap[P]? = some (dkObj day ans app ho H.length hc mo mn mc)) (hO : w.ownsRow B 50 5 (.slice (some ⟨g, 0, none⟩) l.length cap) l.length (l.flatMap mtCells)) (hB : B ≤ w.heap.size) (hi : i < l.length) (hm : l.getD i default = m) (hst : m.st = 5) (hd : m.due = 0) :
    Calls Try.prog 49 #[.pointer (some ⟨P, 0, none⟩), .pointer (some ⟨g, i * 5, none⟩), .agg #[.int .i64 6, .int .i64 fd, .int .i64 fi, .int .i64 fo]] w (ChangePost B g cap l i w (changeF ⟨dk, ans, app, H, ml⟩ ⟨6, fd, fi, fo⟩ m)) := by
  obtain ⟨hmt, hgw⟩ := owns_mt hO hi hm
  obtain ⟨W, hW⟩ : ∃ W, w.alloc (fiObj 6 fd fi fo) = W := ⟨_, rfl⟩
  have hbW : Below w.heap.size w W := by rw [← hW]; go_grown
  have k1 : W.heap[w.heap.size]? = some (fiObj 6 fd fi fo) := by rw [← hW]; exact heap_alloc_new w _
  have HMT := Lib.hid (hmt.same (w' := W) fun x => hbW.cell (p := ⟨g, x, none⟩) hgw)
  have HFZ : Hid (∀ j, W.frozen? ⟨g, j, none⟩ = false) := Lib.hid fun j => (hbW.frozen (p := ⟨g, j, none⟩) hgw).trans (hO.frozenAt j)
  have HS0 := Lib.hid (ChgSt.start hO hm hi hbW hB)
  have HPW := Lib.hid (keep_heap hbW hP)
  have K1 := Lib.hid k1
  have HWW := Lib.hid hW
  have HBW := Lib.hid hbW
  obtain ⟨r, hr⟩ : ∃ r, changeF ⟨dk, ans, app, H, ml⟩ ⟨6, fd, fi, fo⟩ m = r := ⟨_, rfl⟩
  rw [hr]
  have HR := Lib.hid hr
  have HI := Lib.hid hi
  clear hr hm hmt hgw hW hbW k1 hP hO
  obtain ⟨mi, ms, md, mo', mf⟩ := m
  simp only at hst hd
  subst hst
  subst hd
  by_cases hop : 0 ≤ fo ∧ fo < 4
  case neg =>
    have HC : Hid (fo < 0 ∨ 4 ≤ fo) := Lib.hid (by omega)
    have HOP := Lib.hid fun W => option_no hop W
    clear hop
    go_enter Try.func49, Try.ntmps49
    go_upto_region 1 with fail
    rw [HWW.out]
    obtain ⟨p0, p1, p2, p3⟩ := four_cells K1.out
    obtain ⟨x0, x1, x2, x3, x4⟩ := five_cells HPW.out
    obtain ⟨m0, m1, m2, m3, m4⟩ := HMT.out
    have g1 := HFZ.out (i * 5 + 1)
    have g2 := HFZ.out (i * 5 + 2)
    have g3 := HFZ.out (i * 5 + 3)
    try simp only at m0 m1 m2 m3 m4
    go_wp2_with (go_at_call 59
                 go_must (refine (HOP.out _).mono ?_)
                 rintro e w3 ⟨rfl, rfl⟩)
    go_ret
    exact change_bad (m := ⟨mi, 5, 0, mo', mf⟩) (by rw [← HR.out, changeF, if_neg (by simp), if_pos ⟨by simp, HC.out⟩]) (by decide) HBW.out
  have HC : Hid (¬ (fo < 0 ∨ 4 ≤ fo)) := Lib.hid (by omega)
  have HOP := Lib.hid fun W => option_yes hop W
  clear hop
  go_enter Try.func49, Try.ntmps49
  go_upto_region 1 with fail
  rw [HWW.out]
  obtain ⟨p0, p1, p2, p3⟩ := four_cells K1.out
  obtain ⟨x0, x1, x2, x3, x4⟩ := five_cells HPW.out
  obtain ⟨m0, m1, m2, m3, m4⟩ := HMT.out
  have g1 := HFZ.out (i * 5 + 1)
  have g2 := HFZ.out (i * 5 + 2)
  have g3 := HFZ.out (i * 5 + 3)
  try simp only at m0 m1 m2 m3 m4
  go_wp2_with (go_at_call 59
               go_must (refine (HOP.out _).mono ?_)
               rintro e w3 ⟨rfl, rfl⟩)
  go_ret
  exact (((HS0.out.put HI.out 1 (.int .i64 6) ⟨mi, 6, 0, mo', mf⟩ (by omega) rfl).put HI.out 3 (.int .i64 fo) ⟨mi, 6, 0, fo, mf⟩ (by omega) rfl)).post (r := r) (by rw [← HR.out, changeF, if_neg (by simp), if_neg (fun h => HC.out h.2), if_neg (by simp [dueOfF])]; simp [dueOfF])
end Go.Proofs.Ytpddpdkdlodniaa

namespace Go.Proofs.Ytpddpdkdlodniaa
open Go.RowKit

set_option maxRecDepth 100000 in
set_option maxHeartbeats 4000000 in
theorem openR_err (P : Nat) (id day ans app : Int) (ro mo : Option Addr) (hn rc mc : Nat) (l : List Mt) (w : World) (hP : w.heap[P]? = some (dkObj day ans app ro hn rc mo l.length mc)) (hM : Mts w mo l) (hl : l.length ≤ 32) (he : ¬ openE l id = 0) :
    Calls Try.prog 46 #[.pointer (some ⟨P, 0, none⟩), .int .i64 id] w fun e w' => e = .returned (.int .i64 (openE l id)) ∧ Below w.heap.size w w' := by
  obtain ⟨x0, x1, x2, x3, x4⟩ := five_cells hP
  have hPl := (Array.getElem?_eq_some_iff.1 hP).1
  have HP := Lib.hid hP
  have HF := Lib.hid (matterOf_any day ans app id ro mo hn rc mc l w hM (by omega))
  clear hP hM
  rcases openE_cases l id with ⟨h1, h2⟩ | ⟨h1, h3, h2⟩ | ⟨h1, h3, h4, h2⟩ | ⟨_, _, _, h2⟩
  · rw [h2]
    clear he h2
    go_enter Try.func46, Try.ntmps46
    go_wp2_with fail
    go_ret
    exact ⟨rfl, Below.refl _ _⟩
  · rw [h2]
    have hpos := find_has h3
    clear he h2 h3
    generalize findF l id = r at HF hpos
    go_enter Try.func46, Try.ntmps46
    go_wp2_with fail
    refine HF.out.mono ?_
    rintro e w3 ⟨rfl, hb3⟩
    have HB := Lib.hid hb3
    clear hb3
    go_wp2_with fail
    go_ret
    exact ⟨rfl, HB.out⟩
  · rw [h2]
    rw [find_hasnt h3] at HF
    have h4i : (32 : Int) ≤ (l.length : Int) := by omega
    clear he h2 h3 h4
    go_enter Try.func46, Try.ntmps46
    go_wp2_with fail
    refine HF.out.mono ?_
    rintro e w3 ⟨rfl, hb3⟩
    obtain ⟨x0, x1, x2, x3, x4⟩ := five_cells (keep_heap hb3 HP.out)
    have HB := Lib.hid hb3
    clear hb3
    go_wp2_with fail
    go_ret
    exact ⟨rfl, HB.out⟩
  · exact absurd h2 he

set_option maxRecDepth 100000 in
set_option maxHeartbeats 4000000 in
theorem openR_ok (P B : Nat) (id day ans app : Int) (ro mo : Option Addr) (hn rc mc : Nat) (l : List Mt) (w : World) (hP : w.heap[P]? = some (dkObj day ans app ro hn rc mo l.length mc)) (hO : w.ownsRow B 50 5 (.slice mo l.length mc) l.length (l.flatMap mtCells)) (hBP : B ≤ P) (he : openE l id = 0) :
    Calls Try.prog 46 #[.pointer (some ⟨P, 0, none⟩), .int .i64 id] w fun e w' => ∃ mo' mc', e = .returned (.int .i64 0) ∧ w'.heap[P]? = some (dkObj day ans app ro hn rc mo' (l.length + 1) mc') ∧
      w'.ownsRow B 50 5 (.slice mo' (l.length + 1) mc') (l.length + 1) ((l ++ [openedF id]).flatMap mtCells) ∧ Kept w w' P (.slice mo l.length mc) ∧ Below B w w' ∧ w.heap.size ≤ w'.heap.size := by
  obtain ⟨i0, hi, hz0, hz1, hz2⟩ := info_split Try.infoMatter
  obtain ⟨x0, x1, x2, x3, x4⟩ := five_cells hP
  have hPl := (Array.getElem?_eq_some_iff.1 hP).1
  have HP := Lib.hid hP
  have HO := Lib.hid hO
  rcases openE_cases l id with ⟨h1, h2⟩ | ⟨h1, h3, h2⟩ | ⟨h1, h3, h4, h2⟩ | ⟨h1, h3, h4, h2⟩
  · omega
  · omega
  · omega
  have HF := Lib.hid (matterOf_any day ans app id ro mo hn rc mc l w (owns_mts hO) (by omega))
  rw [find_hasnt h3] at HF
  have h4i : ¬ (32 : Int) ≤ (l.length : Int) := by omega
  clear he h2 h3 hP hO
  go_enter Try.func46, Try.ntmps46
  go_wp2_with fail
  refine HF.out.mono ?_
  rintro e w3 ⟨rfl, hb3⟩
  have hP3 := keep_heap hb3 HP.out
  obtain ⟨x0, x1, x2, x3, x4⟩ := five_cells hP3
  have hO3 := owns_next HO.out hb3
  have HP3 := Lib.hid hP3
  have HO3 := Lib.hid hO3
  have HB3 := Lib.hid hb3
  have hs3 := hb3.size
  have hBs : B ≤ w3.heap.size := by omega
  have hbb : Below B w w3 := hb3.mono (by omega)
  have HBB := Lib.hid hbb
  clear hb3 hP3 hO3 hbb
  go_wp2_with (at_builtin
               refine wpList_append_lies _ rfl (.tmp 23) (.tmp 26) 28 rfl B 50 i0 (.agg #[.int .i64 0, .int .i64 0, .int .i64 0, .int .i64 0, .bool false]) 5 40 Try.underlying28 hi hz0 hz1 hz2 rfl (by decide) _ l.length _ rfl (HO3.out.alloc _) ⟨w3.heap.size, 0, none⟩ 1 1 [.int .i64 id, .int .i64 1, .int .i64 0, .int .i64 0, .bool false] rfl rfl (World.news_of_block (cs := #[.int .i64 id, .int .i64 1, .int .i64 0, .int .i64 0, .bool false]) (t := 50) (fr := (0, 0)) (heap_alloc_new w3 _)) (by simp [Value.oneCell']) (by omega) (by unfold maxLen; omega) (by omega) (by simp; omega) (w3.heap.size + 1) (by simp) ?_
               intro gg cap5 w5 hown5 hg5 hat5 hlt5
               have hP5 := heap_grown (alloc_heap (o' := .cells #[.int .i64 id, .int .i64 1, .int .i64 0, .int .i64 0, .bool false] 50) HP3.out) (HO3.out.alloc _) (by decide) hg5
               obtain ⟨x0, x1, x2, x3, x4⟩ := five_cells hP5
               obtain ⟨f0, f1, f2, f3, f4⟩ := five_free hP5
               have HP5 := Lib.hid hP5
               have HO5 := Lib.hid hown5
               have HG5 := Lib.hid hg5
               have HK : Hid (Kept w w5 P (.slice mo l.length mc)) := Lib.hid (fun b hb hne hnv => by
                 rw [hg5.block b (by simp; omega) hnv, Below.heap_alloc w3 _ b (by omega), HB3.out.block b hb])
               have HB5 : Hid (Below B w w5) := Lib.hid ((HBB.out.alloc hBs _).grown hg5 (by simp; omega) (fun j hj => (HO3.out.lt j hj).1))
               clear hP5 hown5 hg5 hat5 hlt5)
  go_ret
  have h6 := heap_setCell_same w5 P 4 _ 30 (.slice (some ⟨gg, 0, none⟩) (l.length + 1) cap5) HP5.out
  refine ⟨some ⟨gg, 0, none⟩, cap5, rfl, h6, ?_, fun b hb hne hnv => by rw [heap_setCell_other w5 ⟨P, 4, none⟩ b _ hne]; exact HK.out b hb hne hnv, HB5.out.setCell hBP _, ?_⟩
  · rw [List.flatMap_append]
    exact owns_set HO5.out HP5.out (by decide)
  · have := HG5.out.size
    simp at this ⊢
    omega
end Go.Proofs.Ytpddpdkdlodniaa
