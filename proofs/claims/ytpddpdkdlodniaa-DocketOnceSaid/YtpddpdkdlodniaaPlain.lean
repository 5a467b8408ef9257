/-
  Plain definitions and laws of the notices: no program is in sight here.
-/
import Derived.WalkKit
import Derived.Handy
namespace Go.Proofs.Ytpddpdkdlodniaa
open Go.RowKit

/-- Day + Every * (Tries - 1) + Publish, as the program computes it. -/
def latestF (ev tr pu da : Int) : Int := wrap64 (wrap64 (da + wrap64 (ev * wrap64 (tr - 1))) + pu)

/-- The numbers of a Post are in range. -/
def postOk (ev tr pu : Int) : Bool := decide (1 ≤ ev) && decide (ev ≤ 1000) && decide (1 ≤ tr) && decide (tr ≤ 16) && decide (0 ≤ pu) && decide (pu ≤ 1000)

/-- The error of the first notice that has one. -/
def noticesF : List (Int × Int) → Int
  | [] => 0
  | n :: l => if n.1 < 0 then 14 else if n.2 < 0 ∨ 1048576 < n.2 then 1 else noticesF l

/-- The error of notices and losses (only the number of losses matters). -/
def checkF (ev tr pu : Int) (l : List (Int × Int)) (losses : Nat) : Int :=
  if postOk ev tr pu then (if 32 < l.length ∨ 256 < losses then 2 else noticesF l) else 1

/-- A slice of 'len' elements of 'size' cells each lies at this address in this world: cell j of element i holds 'f i j'. -/
def LiesAt (w : World) (ao : Option Addr) (size len : Nat) (f : Nat → Nat → Value) : Prop :=
  len = 0 ∨ ∃ b off, ao = some ⟨b, off, none⟩ ∧ b < w.heap.size ∧ ∀ i, i < len → ∀ j, j < size → w.cell? ⟨b, off + i * size + j, none⟩ = some (f i j)

theorem LiesAt.below {w w' : World} {B : Nat} {ao : Option Addr} {size len : Nat} {f : Nat → Nat → Value} (h : LiesAt w ao size len f) (hb : Below B w w') (hB : w.heap.size ≤ B) : LiesAt w' ao size len f := by
  rcases h with h | ⟨b, off, rfl, hlt, hc⟩
  · exact .inl h
  · exact .inr ⟨b, off, rfl, Nat.lt_of_lt_of_le hlt hb.size, fun i hi j hj => by rw [hb.cell (p := ⟨b, off + i * size + j, none⟩) (by exact Nat.lt_of_lt_of_le hlt hB)]; exact hc i hi j hj⟩

theorem LiesAt.mono {w : World} {ao : Option Addr} {size len : Nat} {f g : Nat → Nat → Value} (h : LiesAt w ao size len f) (hfg : ∀ i, i < len → ∀ j, j < size → f i j = g i j) : LiesAt w ao size len g := by
  rcases h with h | ⟨b, off, rfl, hlt, hc⟩
  · exact .inl h
  · exact .inr ⟨b, off, rfl, hlt, fun i hi j hj => by rw [← hfg i hi j hj]; exact hc i hi j hj⟩

/-- The cells of a notice. -/
def noticeCell (l : List (Int × Int)) (i j : Nat) : Value := if j = 0 then .int .i64 (l.getD i (0, 0)).1 else .int .i64 (l.getD i (0, 0)).2

theorem noticesF_drop (l : List (Int × Int)) (k : Nat) (h : k < l.length) : noticesF (l.drop k) = if (l.getD k (0, 0)).1 < 0 then 14 else if (l.getD k (0, 0)).2 < 0 ∨ 1048576 < (l.getD k (0, 0)).2 then 1 else noticesF (l.drop (k + 1)) := by
  rw [List.drop_eq_getElem_cons h]
  simp [noticesF, List.getD, h]

/-- A loss as a triple: the notice, the try, whether it is the confirmation. -/
abbrev LossD := Int × Int × Bool
/-- The cells of a loss. -/
def lossCell (l : List LossD) (i j : Nat) : Value := if j = 0 then .int .i64 (l.getD i (0, 0, false)).1 else if j = 1 then .int .i64 (l.getD i (0, 0, false)).2.1 else .bool (l.getD i (0, 0, false)).2.2

/-- Is this copy or confirmation lost? -/
def goneF (l : List LossD) (x : LossD) : Bool := decide (x ∈ l)

/-- A service as a quadruple: the day, the copies sent, the copies received, whether a confirmation arrived. -/
abbrev ServiceD := Int × Int × Int × Bool
def serviceVal (s : ServiceD) : Value := .agg #[.int .i64 s.1, .int .i64 s.2.1, .int .i64 s.2.2.1, .bool s.2.2.2]

/-- The tries from number t on, n of them at most: 'day' is the day of the first copy received, 'rec' how many were received. -/
def serveGo (ev tr pu da no : Int) (l : List LossD) : Nat → Int → Int → Int → ServiceD
  | 0, t, _, rec => (latestF ev tr pu da, t, rec, false)
  | n + 1, t, day, rec =>
    if goneF l (no, t, false) then serveGo ev tr pu da no l n (t + 1) day rec
    else if goneF l (no, t, true) then serveGo ev tr pu da no l n (t + 1) (if rec = 0 then da + ev * t else day) (rec + 1)
    else (if rec = 0 then da + ev * t else day, t + 1, rec + 1, true)

/-- The service of one notice. -/
def serveF (ev tr pu : Int) (n : Int × Int) (no : Int) (l : List LossD) : ServiceD := serveGo ev tr pu n.2 no l tr.toNat 0 0 0

theorem serveGo_step (ev tr pu da no : Int) (l : List LossD) (k : Nat) (day rec : Int) (h : (k : Int) < tr) :
    serveGo ev tr pu da no l (tr.toNat - k) k day rec =
      if goneF l (no, (k : Int), false) then serveGo ev tr pu da no l (tr.toNat - (k + 1)) ((k + 1 : Nat) : Int) day rec
      else if goneF l (no, (k : Int), true) then serveGo ev tr pu da no l (tr.toNat - (k + 1)) ((k + 1 : Nat) : Int) (if rec = 0 then da + ev * k else day) (rec + 1)
      else (if rec = 0 then da + ev * k else day, (k : Int) + 1, rec + 1, true) := by
  obtain ⟨n, hn⟩ : ∃ n, tr.toNat - k = n + 1 := ⟨tr.toNat - k - 1, by omega⟩
  have e : tr.toNat - (k + 1) = n := by omega
  rw [hn, e, serveGo]
  simp

theorem serveGo_end (ev tr pu da no : Int) (l : List LossD) (k : Nat) (day rec : Int) (h : (k : Int) = tr) :
    serveGo ev tr pu da no l (tr.toNat - k) k day rec = (latestF ev tr pu da, (k : Int), rec, false) := by
  have e : tr.toNat - k = 0 := by omega
  rw [e, serveGo]

theorem mul_bd {ev k : Int} (h1 : 1 ≤ ev) (h2 : ev ≤ 1000) (h3 : 0 ≤ k) (h4 : k ≤ 16) : 0 ≤ ev * k ∧ ev * k ≤ 16000 := by
  have a := Int.mul_le_mul h2 h4 h3 (by omega)
  exact ⟨Int.mul_nonneg (by omega) h3, by omega⟩

end Go.Proofs.Ytpddpdkdlodniaa
