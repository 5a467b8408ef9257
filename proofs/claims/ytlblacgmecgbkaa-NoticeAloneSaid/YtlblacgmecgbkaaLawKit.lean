/-
  Small words that the laws' walks share: boxes that stay, rows that were made, contracts as a quiet region wants them.
-/
import Derived.Test.YtlblacgmecgbkaaRows
import Derived.Test.YtlblacgmecgbkaaFrame
import Derived.Test.YtlblacgmecgbkaaAwake
import Derived.Test.YtlblacgmecgbkaaBuild
import Derived.Test.YtlblacgmecgbkaaLawLatest
import Derived.Test.YtlblacgmecgbkaaSame
import Derived.Test.YtlblacgmecgbkaaServeR
import Derived.Lib.QuietBelow
namespace Go.Proofs.Ytlblacgmecgbkaa
open Go.ChangeShapes Go.WideShapes Go.ChangeAt Go.RowKit Go.Sort

/-- A block whose first three cells are known. -/
def Box3 (W : World) (b : Nat) (x y z : Value) : Prop := W.cell? ⟨b, 0, none⟩ = some x ∧ W.cell? ⟨b, 1, none⟩ = some y ∧ W.cell? ⟨b, 2, none⟩ = some z ∧ b < W.heap.size
theorem Box3.below {W W' : World} {b B : Nat} {x y z : Value} (h : Box3 W b x y z) (hb : Below B W W') (hB : b < B) : Box3 W' b x y z :=
  ⟨(hb.cell hB).trans h.1, (hb.cell hB).trans h.2.1, (hb.cell hB).trans h.2.2.1, Nat.lt_of_lt_of_le h.2.2.2 hb.size⟩
theorem Box3.next {W W' : World} {b : Nat} {x y z : Value} (h : Box3 W b x y z) (hb : Below W.heap.size W W') : Box3 W' b x y z := h.below hb h.2.2.2
theorem Box3.alloc {W : World} {b : Nat} {x y z : Value} (h : Box3 W b x y z) (o : Obj) : Box3 (W.alloc o) b x y z := h.next ((Below.refl _ _).alloc (Nat.le_refl _) o)
theorem Box3.new (W : World) (x y z : Value) (t : TypeId) : Box3 (W.alloc (.cells #[x, y, z] t)) W.heap.size x y z := by
  refine ⟨?_, ?_, ?_, by simp⟩ <;> simp [go_sem]
theorem below_alloc (W : World) (o : Obj) : Below W.heap.size W (W.alloc o) := (Below.refl _ _).alloc (Nat.le_refl _) o
theorem below_grown_none {W W' : World} (h : W.grownBy W' none) : Below W.heap.size W W' := (Below.refl _ _).grown h (Nat.le_refl _) (fun j hj => by cases hj)
theorem LiesAt.next {w w' : World} {ao : Option Addr} {size len : Nat} {f : Nat → Nat → Value} (h : LiesAt w ao size len f) (hb : Below w.heap.size w w') : LiesAt w' ao size len f := h.below hb (Nat.le_refl _)
theorem LiesAt.regrown {w : World} {ao : Option Addr} {size len : Nat} {f : Nat → Nat → Value} (h : LiesAt w ao size len f) (d : Nat) (os : Array Obj) : LiesAt (grow (redrawn w d) os) ao size len f := h.next (below_regrown w d os)
theorem below_next {w w' w'' : World} (h : Below w.heap.size w w') (h' : Below w'.heap.size w' w'') : Below w.heap.size w w'' := h.trans (h'.mono h.size)

theorem check_n (ev tr pu : Int) (ao bo : Option Addr) (c c' n m : Nat) (l : List (Int × Int)) (w : World) (hn : l.length = n) (hl : LiesAt w ao 2 n (noticeCell l)) :
    Calls Try.prog 11 #[.agg #[.int .i64 ev, .int .i64 tr, .int .i64 pu], .slice ao n c, .slice bo m c'] w fun e w' =>
      e = .returned (.int .i64 (checkF ev tr pu l m)) ∧ Below w.heap.size w w' := by
  subst hn
  exact check_any ev tr pu ao bo c c' m l w hl
theorem checkR_n (ev tr pu : Int) (ao bo : Option Addr) (c c' n m : Nat) (l : List (Int × Int)) (w : World) (hn : l.length = n) (hl : LiesAt w ao 2 n (noticeCell l)) :
    Calls Try.prog 12 #[.agg #[.int .i64 ev, .int .i64 tr, .int .i64 pu], .slice ao n c, .slice bo m c'] w fun e w' =>
      e = .returned (.int .i64 (checkF ev tr pu l m)) ∧ Below w.heap.size w w' := by
  subst hn
  exact checkR_any ev tr pu ao bo c c' m l w hl

theorem madeCells_get (z : Array Value) (n j : Nat) (hj : j < n) (hz : 0 < z.size) : (madeCells z n).toList[j]? = some (z.getD (j % z.size) undef) := by
  have hlt : j % z.size < z.size := Nat.mod_lt _ hz
  simp only [madeCells, Array.toList_map, Array.toList_range, List.getElem?_map, List.getElem?_range hj, Option.map_some]
  simp [hlt]

theorem zero_notices (n : Nat) : ∀ i, i < n → ∀ j, j < 2 → (madeCells #[.int .i64 0, .int .i64 0] (n * 2)).toList[i * 2 + j]? = some (noticeCell (List.replicate n (0, 0)) i j) := by
  intro i hi j hj
  rw [madeCells_get _ _ _ (by omega) (by simp)]
  have e : (i * 2 + j) % 2 = j := by omega
  match j, hj with
  | 0, _ => simp [noticeCell, hi]
  | 1, _ => simp [noticeCell, hi, e]
/-- The services that Serve returns: none where there is an error. -/
def resF (ev tr pu : Int) (l : List (Int × Int)) (lost : List LossD) : List ServiceD := if checkF ev tr pu l lost.length = 0 then servesFrom ev tr pu lost 0 l else []

theorem resF_length (ev tr pu : Int) (l : List (Int × Int)) (lost : List LossD) : (resF ev tr pu l lost).length ≤ 32 := by
  unfold resF
  split
  · rename_i h
    rw [servesFrom_length]
    exact (checkF_zero h).2.1
  · simp

theorem serve_n (ev tr pu : Int) (ao bo : Option Addr) (c c' n m : Nat) (l : List (Int × Int)) (lost : List LossD) (w : World) (hn : l.length = n) (hm : lost.length = m) (hl : LiesAt w ao 2 n (noticeCell l)) (hlost : LiesAt w bo 3 m (lossCell lost)) (hfit : ∀ x ∈ lost, LossFits x) :
    Calls Try.prog 15 #[.agg #[.int .i64 ev, .int .i64 tr, .int .i64 pu], .slice ao n c, .slice bo m c'] w fun e w' =>
      ∃ ro rc, e = .returned (.tuple #[.slice ro (resF ev tr pu l lost).length rc, .int .i64 (checkF ev tr pu l lost.length)]) ∧ LiesAt w' ro 4 (resF ev tr pu l lost).length (serviceCell (resF ev tr pu l lost)) ∧ Below w.heap.size w w' := by
  subst hn
  subst hm
  unfold resF
  by_cases hx : checkF ev tr pu l lost.length = 0
  · rw [if_pos hx]
    refine (serve_ok ev tr pu ao bo c c' l lost w hl hlost hfit hx).mono fun e w' ⟨ro, rc, he, hr, hb⟩ => ⟨ro, rc, ?_, ?_, hb⟩
    · rw [servesFrom_length, hx]; exact he
    · rw [servesFrom_length]; exact hr
  · rw [if_neg hx]
    exact (serve_err ev tr pu ao bo c c' lost.length l w hl _ rfl hx).mono fun e w' ⟨he, hb⟩ => ⟨none, 0, he, .inl rfl, hb⟩

theorem serveR_n (ev tr pu : Int) (ao bo : Option Addr) (c c' n m : Nat) (l : List (Int × Int)) (lost : List LossD) (w : World) (hn : l.length = n) (hm : lost.length = m) (hl : LiesAt w ao 2 n (noticeCell l)) (hlost : LiesAt w bo 3 m (lossCell lost)) :
    Calls Try.prog 16 #[.agg #[.int .i64 ev, .int .i64 tr, .int .i64 pu], .slice ao n c, .slice bo m c'] w fun e w' =>
      ∃ ro rc, e = .returned (.tuple #[.slice ro (resF ev tr pu l lost).length rc, .int .i64 (checkF ev tr pu l lost.length)]) ∧ LiesAt w' ro 4 (resF ev tr pu l lost).length (serviceCell (resF ev tr pu l lost)) ∧ Below w.heap.size w w' := by
  subst hn
  subst hm
  unfold resF
  by_cases hx : checkF ev tr pu l lost.length = 0
  · rw [if_pos hx]
    refine (serveR_ok ev tr pu ao bo c c' l lost w hl hlost hx).mono fun e w' ⟨ro, rc, he, hr, hb⟩ => ⟨ro, rc, ?_, ?_, hb⟩
    · rw [servesFrom_length, hx]; exact he
    · rw [servesFrom_length]; exact hr
  · rw [if_neg hx]
    exact (serveR_err ev tr pu ao bo c c' lost.length l w hl _ rfl hx).mono fun e w' ⟨he, hb⟩ => ⟨none, 0, he, .inl rfl, hb⟩

theorem same_n (ao bo : Option Addr) (c c' : Nat) (ss : List ServiceD) (w : World) (ha : LiesAt w ao 4 ss.length (serviceCell ss)) (hb : LiesAt w bo 4 ss.length (serviceCell ss)) (hn : ss.length ≤ 32) :
    Calls Try.prog 17 #[.slice ao ss.length c, .slice bo ss.length c'] w fun e w' => e = .returned (.bool true) ∧ Below w.heap.size w w' :=
  same_any ao bo c c' ss.length ss w ha hb (by omega)

theorem noticesOf_length (zs : List Int) : (noticesOf zs).length ≤ 6 := by simp [noticesOf]; omega
theorem lossesOf_length (xs : List (Int × Int × Int)) : (lossesOf xs).length ≤ 20 := by simp [lossesOf]; omega
theorem lossesOf_fits (xs : List (Int × Int × Int)) : ∀ x ∈ lossesOf xs, LossFits x := by
  intro x hx
  obtain ⟨y, hy, rfl⟩ := List.mem_map.1 hx
  refine ⟨wf_small ?_ ?_, wf_small ?_ ?_⟩ <;> simp only [lossOf] <;> omega
theorem loss_oneCell (l : List LossD) : ∀ u ∈ l.flatMap lossFlat, u.oneCell' = true := by
  intro u hu
  obtain ⟨x, _, hx⟩ := List.mem_flatMap.1 hu
  simp [lossFlat] at hx
  rcases hx with rfl | rfl | rfl <;> rfl
theorem loss_flat_length (l : List LossD) : (l.flatMap lossFlat).length = l.length * 3 := by
  induction l with
  | nil => rfl
  | cons s ss ih => rw [List.flatMap_cons, List.length_append, ih]; simp [lossFlat]; omega
theorem loss_news {w : World} {ao : Option Addr} (l : List LossD) (h : LiesAt w ao 3 l.length (lossCell l)) : ∀ j u, (l.flatMap lossFlat)[j]? = some u → ∃ ad, ao = some ad ∧ w.cell? (ad.add j) = some u :=
  lies_flat lossFlat (fun _ => rfl) (by omega) (0, 0, false) l h (fun i hi j hj => by
    match j, hj with
    | 0, _ => rfl
    | 1, _ => rfl
    | 2, _ => rfl)
end Go.Proofs.Ytlblacgmecgbkaa
