/-
  Rows of records in memory; the first frame of some bytes, in plain words.
-/
import Derived.Test.YtkbdbinafjmjkaaJLens2
namespace Go.Proofs.Ytkbdbinafjmjkaa
open Go.RowKit

theorem getD_left (a b : List (List Int)) (i : Nat) (h : i < a.length) : (a ++ b).getD i [] = a.getD i [] := by simp [List.getD, List.getElem?_append_left h]
theorem getD_last (a : List (List Int)) (r : List Int) : (a ++ [r]).getD a.length [] = r := by simp [List.getD]
/-- Bytes that lie in a block of which N holds. -/
def BytN (w : World) (N : Nat → Prop) (ao : Option Addr) (r : List Int) : Prop := r = [] ∨ ∃ b off, ao = some ⟨b, off, none⟩ ∧ b < w.heap.size ∧ N b ∧ ∀ i, i < r.length → w.cell? ⟨b, off + i, none⟩ = some (.int .u8 (r.getD i 0))
/-- A row of records of the call's own, all its blocks such that N holds of them. -/
def RowN (w : World) (base : Nat) (N : Nat → Prop) (v : Value) (rs : List (List Int)) : Prop :=
  ∃ vs, w.ownsRow base 30 1 v rs.length vs ∧ (∀ k, v.ownBlock = some k → N k) ∧
    ∀ i, i < rs.length → ∃ po pc, vs[i]? = some (.slice po (rs.getD i []).length pc) ∧ BytN w (fun k => N k ∧ v.ownBlock ≠ some k) po (rs.getD i [])

section
variable {w w' : World} {N N' S : Nat → Prop} {base : Nat} {v : Value} {rs : List (List Int)} {r : List Int} {po : Option Addr}
theorem BytN.byt (h : BytN w N po r) : Byt w po r := by
  rcases h with h | ⟨b, off, rfl, h1, _, h2⟩
  · exact .inl h
  · exact .inr ⟨b, off, rfl, h1, h2⟩
theorem BytN.moved (h : BytN w N po r) (hm : Moved w w' S) (hn : ∀ b, b < w.heap.size → N b → ¬ S b ∧ N' b) : BytN w' N' po r := by
  rcases h with h | ⟨b, off, rfl, h1, h3, h2⟩
  · exact .inl h
  · obtain ⟨n1, n2⟩ := hn b h1 h3
    exact .inr ⟨b, off, rfl, Nat.lt_of_lt_of_le h1 hm.size, n2, fun i hi => hm.cell n1 (h2 i hi)⟩
theorem Byt.withN (h : Byt w po r) (hn : ∀ b off, po = some ⟨b, off, none⟩ → b < w.heap.size → N b) : BytN w N po r := by
  rcases h with h | ⟨b, off, rfl, h1, h2⟩
  · exact .inl h
  · exact .inr ⟨b, off, rfl, h1, hn b off rfl h1, h2⟩
theorem RowN.moved (h : RowN w base N v rs) (hm : Moved w w' S) (hn : ∀ b, b < w.heap.size → N b → ¬ S b ∧ N' b) : RowN w' base N' v rs := by
  obtain ⟨vs, h1, h2, h3⟩ := h
  refine ⟨vs, owns_moved h1 hm fun k hk => (hn k (h1.lt k hk).2 (h2 k hk)).1, fun k hk => (hn k (h1.lt k hk).2 (h2 k hk)).2, fun i hi => ?_⟩
  obtain ⟨po, pc, e1, e2⟩ := h3 i hi
  exact ⟨po, pc, e1, e2.moved hm fun b hb hN => ⟨(hn b hb hN.1).1, (hn b hb hN.1).2, hN.2⟩⟩
theorem RowN.next (h : RowN w base N v rs) (hb : Below w.heap.size w w') : RowN w' base N v rs :=
  h.moved (Moved.of_below hb fun _ => False) fun _ _ hN => ⟨fun h => h, hN⟩
theorem RowN.mono (h : RowN w base N v rs) (hn : ∀ b, b < w.heap.size → N b → N' b) : RowN w base N' v rs :=
  h.moved (Moved.of_below (Below.refl _ _) fun _ => False) fun b hb hN => ⟨fun h => h, hn b hb hN⟩
theorem RowN.nil (w : World) (base : Nat) (N : Nat → Prop) : RowN w base N (.slice none 0 0) [] :=
  ⟨[], World.ownsRow_nil _ _ _ _, (fun k hk => by cases hk), (fun i hi => by cases hi)⟩
theorem RowN.recs (h : RowN w base N v rs) : ∃ ao c, v = .slice ao rs.length c ∧ Recs w ao rs := by
  obtain ⟨vs, h1, h2, h3⟩ := h
  have h0 := h1
  rcases h1.2 with ⟨rfl, hn⟩ | ⟨g, cap, cur, rfl, hg, hh, hn, hcap, hsz, htake⟩
  · exact ⟨none, 0, by rw [hn], .inl (List.eq_nil_of_length_eq_zero hn)⟩
  · refine ⟨_, cap, rfl, .inr ⟨g, 0, rfl, (Array.getElem?_eq_some_iff.1 hh).1, fun i hi => ?_⟩⟩
    obtain ⟨po, pc, e1, e2⟩ := h3 i hi
    have hc := h0.cells (g := g) rfl i _ e1
    rw [addr_off] at hc
    exact ⟨po, pc, hc, e2.byt⟩
/-- A record is appended. -/
theorem RowN.push {vs : List Value} {v' : Value} {pc : Nat} (h1 : w.ownsRow base 30 1 v rs.length vs) (h2 : ∀ k, v.ownBlock = some k → N k)
    (h3 : ∀ i, i < rs.length → ∃ po pc, vs[i]? = some (.slice po (rs.getD i []).length pc) ∧ BytN w (fun k => N k ∧ v.ownBlock ≠ some k) po (rs.getD i []))
    (hr : BytN w (fun k => N k ∧ v.ownBlock ≠ some k) po r)
    (hown : w'.ownsRow base 30 1 v' (rs.length + 1) (vs ++ [.slice po r.length pc])) (hg : Moved w w' (fun k => v.ownBlock = some k))
    (hv : v'.ownBlock = v.ownBlock ∨ ∃ k, v'.ownBlock = some k ∧ w.heap.size ≤ k) (hN : ∀ b, N b → N' b) (hN2 : ∀ b, w.heap.size ≤ b → v'.ownBlock = some b → N' b) : RowN w' base N' v' (rs ++ [r]) := by
  have key : ∀ b, b < w.heap.size → (N b ∧ v.ownBlock ≠ some b) → ¬ (v.ownBlock = some b) ∧ (N' b ∧ v'.ownBlock ≠ some b) := fun b hb ⟨n1, n2⟩ => by
    refine ⟨n2, hN b n1, ?_⟩
    rcases hv with h | ⟨k, hk, hlt⟩
    · rw [h]; exact n2
    · rw [hk]; intro e; cases e; omega
  refine ⟨vs ++ [.slice po r.length pc], by simpa using hown, fun k hk => ?_, fun i hi => ?_⟩
  · rcases hv with h | ⟨j, hj, hlt⟩
    · exact hN k (h2 k (h ▸ hk))
    · rw [hj] at hk; cases hk; exact hN2 k hlt hj
  · have hl : vs.length = rs.length := by have := h1.1; omega
    by_cases hlt : i < rs.length
    · obtain ⟨po2, pc2, e1, e2⟩ := h3 i hlt
      refine ⟨po2, pc2, ?_, ?_⟩
      · rw [List.getElem?_append_left (by omega), e1, getD_left _ _ _ hlt]
      · rw [getD_left _ _ _ hlt]
        exact e2.moved hg key
    · have : i = rs.length := by simp at hi; omega
      subst this
      refine ⟨po, pc, ?_, ?_⟩
      · rw [List.getElem?_append_right (by omega), hl]; simp
      · rw [getD_last]
        exact hr.moved hg key
end

/-- The records of a body, from a place on. -/
def cutsF (body : List Int) : Nat → List Int → List (List Int)
  | _, [] => []
  | at_, k :: ks => (body.drop at_).take k.toNat :: cutsF body (at_ + k.toNat) ks
/-- The first frame of some bytes: its records and its length. -/
def firstF (b : List Int) : Option (List (List Int) × Nat) :=
  if b.length < 8 then none
  else if 65569 < getF (b.take 4) ∨ b.length < 8 + (getF (b.take 4)).toNat then none
  else if (lengthsF ((b.drop 8).take (getF (b.take 4)).toNat)).2.2.2 = false ∨ (lengthsF ((b.drop 8).take (getF (b.take 4)).toNat)).2.2.1 = false ∨ (lengthsF ((b.drop 8).take (getF (b.take 4)).toNat)).2.1 ≠ getF (b.take 4) ∨
      sumF (b.take 4 ++ (b.drop 8).take (getF (b.take 4)).toNat) ≠ getF ((b.drop 4).take 4) then none
  else some (cutsF ((b.drop 8).take (getF (b.take 4)).toNat) (1 + 2 * (lengthsF ((b.drop 8).take (getF (b.take 4)).toNat)).1.length) (lengthsF ((b.drop 8).take (getF (b.take 4)).toNat)).1, 8 + (getF (b.take 4)).toNat)

/-- What 'lengths' says of a body whose lengths are all there. -/
theorem lensGo_total (b : List Int) (f i : Nat) (l : List Int) (t : Int) (hl : ∀ x ∈ l, 0 ≤ x ∧ x ≤ 4096) (hb : Bytes b) (hok : (lensGo b f i l t).2.2.2 = true) (hwh : (lensGo b f i l t).2.2.1 = true) :
    (lensGo b f i l t).1.length = l.length + f ∧ (∀ x ∈ (lensGo b f i l t).1, 0 ≤ x ∧ x ≤ 4096) ∧ (lensGo b f i l t).2.1 + l.sum = t + (lensGo b f i l t).1.sum ∧ (f = 0 ∨ 1 + 2 * (i + f) ≤ b.length) := by
  induction f generalizing i l t with
  | zero => exact ⟨rfl, hl, rfl, .inl rfl⟩
  | succ f ih =>
    unfold lensGo at hok hwh ⊢
    by_cases h1 : b.length < 1 + 2 * i + 2
    · rw [if_pos h1] at hwh; cases hwh
    rw [if_neg h1] at hok hwh ⊢
    by_cases h2 : 4096 < getF [b.getD (1 + 2 * i) 0, b.getD (2 + 2 * i) 0]
    · rw [if_pos h2] at hok; cases hok
    rw [if_neg h2] at hok hwh ⊢
    have hz := getF_bd [b.getD (1 + 2 * i) 0, b.getD (2 + 2 * i) 0] (fun x hx => by
      simp only [List.mem_cons, List.not_mem_nil, or_false] at hx
      rcases hx with rfl | rfl
      · exact hb _ (getD_mem0 b _ (by omega))
      · exact hb _ (getD_mem0 b _ (by omega)))
    generalize getF [b.getD (1 + 2 * i) 0, b.getD (2 + 2 * i) 0] = z at *
    obtain ⟨e1, e2, e3, e4⟩ := ih (i + 1) (l ++ [z]) (t + z) (fun x hx => by
      rcases List.mem_append.1 hx with h | h
      · exact hl x h
      · simp at h; omega) hok hwh
    refine ⟨by rw [e1]; simp; omega, e2, ?_, .inr (by omega)⟩
    simp at e3
    omega
theorem lengths_total (b : List Int) (hb : Bytes b) (hok : (lengthsF b).2.2.2 = true) (hwh : (lengthsF b).2.2.1 = true) :
    1 ≤ (lengthsF b).1.length ∧ (lengthsF b).1.length ≤ 16 ∧ (∀ x ∈ (lengthsF b).1, 0 ≤ x ∧ x ≤ 4096) ∧ (lengthsF b).2.1 = 1 + 2 * ((lengthsF b).1.length : Int) + (lengthsF b).1.sum := by
  unfold lengthsF at *
  by_cases h1 : b.length = 0
  · rw [if_pos h1] at hwh; cases hwh
  rw [if_neg h1] at *
  by_cases h2 : b.getD 0 0 < 1 ∨ 16 < b.getD 0 0
  · rw [if_pos h2] at hok; cases hok
  rw [if_neg h2] at *
  obtain ⟨e1, e2, e3, e4⟩ := lensGo_total b (b.getD 0 0).toNat 0 [] (1 + 2 * b.getD 0 0) (by simp) hb hok hwh
  rw [List.length_nil, Nat.zero_add] at e1
  rw [List.sum_nil, Int.add_zero] at e3
  rw [e1]
  refine ⟨by omega, by omega, e2, by rw [e3]; omega⟩
end Go.Proofs.Ytkbdbinafjmjkaa
