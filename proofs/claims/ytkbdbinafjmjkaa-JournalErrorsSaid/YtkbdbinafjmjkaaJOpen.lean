/-
  Contract: Open.
-/
import Derived.Test.YtkbdbinafjmjkaaJHold
namespace Go.Proofs.Ytkbdbinafjmjkaa
open Go.RowKit

/-- The frames that bytes begin with: their records, their length. -/
def scanF : Nat → List Int → List (List Int) × Nat
  | 0, _ => ([], 0)
  | f + 1, b => if b.length = 0 then ([], 0) else match firstF b with
    | none => ([], 0)
    | some x => (x.1 ++ (scanF f (b.drop x.2)).1, x.2 + (scanF f (b.drop x.2)).2)
/-- What Open answers, finds and leaves. -/
def openF (s : DS) : Int × List (List Int) × DS :=
  if (scanF (s.bs.length + 1) s.bs).2 < s.bs.length then
    if tornF (s.bs.drop (scanF (s.bs.length + 1) s.bs).2) = false then (44, [], s)
    else if (truncF s (scanF (s.bs.length + 1) s.bs).2).1 ≠ 0 then (42, [], (truncF s (scanF (s.bs.length + 1) s.bs).2).2)
    else if (scanF (s.bs.length + 1) s.bs).2 = 0 then (0, (scanF (s.bs.length + 1) s.bs).1, (truncF s (scanF (s.bs.length + 1) s.bs).2).2)
    else if (syncF (truncF s (scanF (s.bs.length + 1) s.bs).2).2).1 ≠ 0 then (42, [], (syncF (truncF s (scanF (s.bs.length + 1) s.bs).2).2).2)
    else (0, (scanF (s.bs.length + 1) s.bs).1, (syncF (truncF s (scanF (s.bs.length + 1) s.bs).2).2).2)
  else if (scanF (s.bs.length + 1) s.bs).2 = 0 then (0, (scanF (s.bs.length + 1) s.bs).1, s)
  else if (syncF s).1 ≠ 0 then (42, [], (syncF s).2)
  else (0, (scanF (s.bs.length + 1) s.bs).1, (syncF s).2)

theorem first_some {b : List Int} {x : List (List Int) × Nat} (hb : Bytes b) (h : firstF b = some x) : 8 ≤ x.2 ∧ x.2 ≤ b.length ∧ 1 ≤ x.1.length ∧ x.1.length ≤ 16 := by
  unfold firstF at h
  by_cases h1 : b.length < 8
  · rw [if_pos h1] at h; cases h
  rw [if_neg h1] at h
  by_cases h2 : 65569 < getF (b.take 4) ∨ b.length < 8 + (getF (b.take 4)).toNat
  · rw [if_pos h2] at h; cases h
  rw [if_neg h2] at h
  have hbb : Bytes ((b.drop 8).take (getF (b.take 4)).toNat) := fun x hx => hb x (List.mem_of_mem_drop (List.mem_of_mem_take hx))
  generalize (b.drop 8).take (getF (b.take 4)).toNat = body at h hbb
  by_cases h3 : (lengthsF body).2.2.2 = false ∨ (lengthsF body).2.2.1 = false ∨ (lengthsF body).2.1 ≠ getF (b.take 4) ∨ sumF (b.take 4 ++ body) ≠ getF ((b.drop 4).take 4)
  · rw [if_pos h3] at h; cases h
  rw [if_neg h3] at h
  cases h
  have hok : (lengthsF body).2.2.2 = true := by
    cases hh : (lengthsF body).2.2.2
    · exact absurd (.inl hh) h3
    · rfl
  have hwh : (lengthsF body).2.2.1 = true := by
    cases hh : (lengthsF body).2.2.1
    · exact absurd (.inr (.inl hh)) h3
    · rfl
  obtain ⟨t1, t2, _, _⟩ := lengths_total body hbb hok hwh
  have hcl : ∀ (at_ : Nat) (L : List Int), (cutsF body at_ L).length = L.length := by
    intro at_ L
    induction L generalizing at_ with
    | nil => rfl
    | cons a L ih => simp [cutsF, ih]
  refine ⟨by dsimp only; omega, by dsimp only; omega, ?_, ?_⟩
  · dsimp only; rw [hcl]; exact t1
  · dsimp only; rw [hcl]; exact t2

/-- What Open leaves. -/
def OpenTo (w : World) (base : Nat) (X : Nat → Prop) (p : Nat) (g : Option Nat) (out : Int × List (List Int) × DS) (e : Ending) (w' : World) : Prop :=
  ∃ g', Moved w w' (fun k => k = p ∨ g = some k) ∧ GTo g g' w.heap.size ∧
    ((out.1 ≠ 0 ∧ e = .returned (.tuple #[.pointer none, .int .i64 out.1]) ∧ DiskIs w' base p g' out.2.2) ∨
     (out.1 = 0 ∧ ∃ q v, w.heap.size ≤ q ∧ (∀ k, v.ownBlock = some k → w.heap.size ≤ k) ∧ e = .returned (.tuple #[.pointer (some ⟨q, 0, none⟩), .int .i64 0]) ∧ JIs w' base X q p g' out.2.2 v out.2.1 false))
end Go.Proofs.Ytkbdbinafjmjkaa
