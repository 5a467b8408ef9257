/-
  What the two Serve functions work with: lists of services in memory, the box of a post, the facts that a list without error has.
-/
import Derived.Test.YtgabecolmldbjaaNCheckR
import Derived.Test.YtgabecolmldbjaaNServe1
import Derived.Test.YtgabecolmldbjaaNServeR1
namespace Go.Proofs.Ytgabecolmldbjaa
open Go.RowKit

def serviceCells (s : ServiceD) : List Value := [.int .i64 s.1, .int .i64 s.2.1, .int .i64 s.2.2.1, .bool s.2.2.2]
def serviceCell (l : List ServiceD) (i j : Nat) : Value := (serviceCells (l.getD i (0, 0, 0, false))).getD j undef

/-- The services of notices, the first of which has the number 'no'. -/
def servesFrom (ev tr pu : Int) (lost : List LossD) : Nat → List (Int × Int) → List ServiceD
  | _, [] => []
  | no, n :: l => serveF ev tr pu n no lost :: servesFrom ev tr pu lost (no + 1) l

theorem servesFrom_length (ev tr pu : Int) (lost : List LossD) : ∀ (l : List (Int × Int)) (no : Nat), (servesFrom ev tr pu lost no l).length = l.length
  | [], _ => rfl
  | _ :: l, no => by simp [servesFrom, servesFrom_length ev tr pu lost l (no + 1)]

theorem servesFrom_get (ev tr pu : Int) (lost : List LossD) : ∀ (l : List (Int × Int)) (no k : Nat), k < l.length → (servesFrom ev tr pu lost no l)[k]? = some (serveF ev tr pu (l.getD k (0, 0)) (no + k : Nat) lost)
  | [], _, _, h => by simp at h
  | n :: l, no, 0, _ => by simp [servesFrom]
  | n :: l, no, k + 1, h => by
    have := servesFrom_get ev tr pu lost l (no + 1) k (by simpa using h)
    simp only [servesFrom, List.getElem?_cons_succ, this, List.getD_cons_succ]
    congr 3
    omega

theorem servesFrom_take (ev tr pu : Int) (lost : List LossD) (l : List (Int × Int)) (k : Nat) (h : k < l.length) :
    (servesFrom ev tr pu lost 0 l).take (k + 1) = (servesFrom ev tr pu lost 0 l).take k ++ [serveF ev tr pu (l.getD k (0, 0)) (k : Int) lost] := by
  have hg := servesFrom_get ev tr pu lost l 0 k h
  have hk : k < (servesFrom ev tr pu lost 0 l).length := by rw [servesFrom_length]; exact h
  rw [List.take_succ_eq_append_getElem hk]
  rw [List.getElem?_eq_getElem hk] at hg
  simp only [Nat.zero_add] at hg
  rw [Option.some.inj hg]

theorem serviceCells_flat (ss : List ServiceD) (i j : Nat) (hi : i < ss.length) (hj : j < 4) : (ss.flatMap serviceCells)[i * 4 + j]? = some (serviceCell ss i j) := by
  induction ss generalizing i with
  | nil => simp at hi
  | cons s ss ih =>
    rw [List.flatMap_cons]
    have hl : (serviceCells s).length = 4 := rfl
    cases i with
    | zero =>
      rw [List.getElem?_append_left (by omega)]
      match j, hj with
      | 0, _ => rfl
      | 1, _ => rfl
      | 2, _ => rfl
      | 3, _ => rfl
    | succ i =>
      rw [List.getElem?_append_right (by omega)]
      have := ih i (by simpa using hi)
      have e : (i + 1) * 4 + j - (serviceCells s).length = i * 4 + j := by omega
      rw [e, this]
      simp [serviceCell]

theorem serviceCells_length (ss : List ServiceD) : (ss.flatMap serviceCells).length = ss.length * 4 := by
  induction ss with
  | nil => rfl
  | cons s ss ih => rw [List.flatMap_cons, List.length_append, ih]; simp [serviceCells]; omega

theorem addr_add (b o n : Nat) : (⟨b, o, none⟩ : Addr).add n = ⟨b, o + n, none⟩ := by
  unfold Addr.add
  split <;> simp_all

/-- What the call owns lies at an address. -/
theorem liesAt_of_owns {w : World} {base e size : Nat} {v : Value} {n : Nat} {xs : List Value} {f : Nat → Nat → Value} (h : w.ownsRow base e size v n xs) (hf : ∀ i, i < n → ∀ j, j < size → xs[i * size + j]? = some (f i j)) :
    ∃ ao cap, v = .slice ao n cap ∧ LiesAt w ao size n f := by
  have h0 := h
  rcases h.2 with ⟨rfl, rfl⟩ | ⟨g, cap, cur, rfl, hg, hh, hn, hcap, hsz, htake⟩
  · exact ⟨_, _, rfl, .inl rfl⟩
  · refine ⟨_, _, rfl, .inr ⟨g, 0, rfl, (Array.getElem?_eq_some_iff.1 hh).1, fun i hi j hj => ?_⟩⟩
    have hc := h0.cells (g := g) rfl (i * size + j) _ (hf i hi j hj)
    rw [addr_add, Nat.zero_add] at hc
    rw [Nat.zero_add]
    exact hc

theorem checkF_zero {ev tr pu : Int} {l : List (Int × Int)} {m : Nat} (h : checkF ev tr pu l m = 0) : postOk ev tr pu = true ∧ l.length ≤ 32 ∧ m ≤ 256 ∧ noticesF l = 0 := by
  unfold checkF at h
  split at h
  · split at h
    · cases h
    · rename_i h1 h2
      exact ⟨h1, by omega, by omega, h⟩
  · cases h

theorem noticesF_zero : ∀ {l : List (Int × Int)}, noticesF l = 0 → ∀ k, k < l.length → 0 ≤ (l.getD k (0, 0)).1 ∧ 0 ≤ (l.getD k (0, 0)).2 ∧ (l.getD k (0, 0)).2 ≤ 1048576
  | [], _, _, h => by simp at h
  | n :: l, h, k, hk => by
    unfold noticesF at h
    split at h
    · cases h
    · split at h
      · cases h
      · cases k with
        | zero => simp only [List.getD_cons_zero]; omega
        | succ k => simpa using noticesF_zero h k (by simpa using hk)

/-- The three cells of the boxed post, in every world in which nothing below has turned. -/
theorem box_cells {w w' : World} {x y z : Value} {T : TypeId} (h : Below (w.heap.size + 1) (w.alloc (.cells #[x, y, z] T)) w') :
    w'.cell? ⟨w.heap.size, 0, none⟩ = some x ∧ w'.cell? ⟨w.heap.size, 1, none⟩ = some y ∧ w'.cell? ⟨w.heap.size, 2, none⟩ = some z ∧ w.heap.size + 1 ≤ w'.heap.size := by
  have hs := h.size
  simp only [World.size_alloc] at hs
  refine ⟨?_, ?_, ?_, hs⟩ <;> rw [h.cell (by simp), World.cell?_alloc_at _ _ _ _ rfl] <;> rfl

theorem below_box {w w' : World} {o : Obj} (h : Below (w.heap.size + 1) (w.alloc o) w') : Below w.heap.size w w' :=
  ((Below.refl w.heap.size w).alloc (Nat.le_refl _) o).trans (h.mono (Nat.le_succ _))

theorem owns_below {w w' : World} {base e size : Nat} {v : Value} {n : Nat} {xs : List Value} (h : w.ownsRow base e size v n xs) (hb : Below w.heap.size w w') : w'.ownsRow base e size v n xs := by
  refine ⟨h.1, ?_⟩
  rcases h.2 with h2 | ⟨g, cap, cur, hv, hg, hh, r⟩
  · exact .inl h2
  · exact .inr ⟨g, cap, cur, hv, hg, by rw [hb.block g (Array.getElem?_eq_some_iff.1 hh).1]; exact hh, r⟩

/-- What a round of Serve's second loop does to the map and to old memory. -/
theorem serve_step {W0 wr w3 w4 : World} {B mb e n size : Nat} {v : Value} {xs : List Value} {lost : List LossD} {o1 o2 : Obj} (hb : Below B W0 wr) (hB : B ≤ wr.heap.size) (hBm : B ≤ mb) (hm : LossMap wr mb lost)
    (hown : wr.ownsRow (mb + 1) e size v n xs) (hb3 : Below (wr.heap.size + 1) (wr.alloc o1) w3) (hg4 : (w3.alloc o2).grownBy w4 v.ownBlock) : LossMap w4 mb lost ∧ Below B W0 w4 := by
  have h3 : wr.heap.size + 1 ≤ w3.heap.size := by have := hb3.size; simpa using this
  have hmlt := hm.lt
  have hmb : ∀ j, v.ownBlock = some j → mb + 1 ≤ j := fun j hj => (hown.lt j hj).1
  constructor
  · have m1 : LossMap (wr.alloc o1) mb lost := hm.below ((Below.refl wr.heap.size wr).alloc (Nat.le_refl _) _) hmlt
    have m2 := m1.below hb3 (by omega)
    have m3 : LossMap (w3.alloc o2) mb lost := m2.below ((Below.refl w3.heap.size w3).alloc (Nat.le_refl _) _) (by omega)
    obtain ⟨es, clock, h1, h2⟩ := m3
    exact ⟨es, clock, (hg4.block mb (by simp; omega) (fun h => by have := hmb mb h.symm; omega)).trans h1, h2⟩
  · exact (((hb.alloc hB o1).trans (hb3.mono (by omega))).alloc (by omega) o2).grown hg4 (by simp; omega) (fun j hj => by have := hmb j hj; omega)

/-- The same in the reference's loop, which has no map. -/
theorem serveR_step {W0 wr w3 w4 : World} {B e n size : Nat} {v : Value} {xs : List Value} {o2 : Obj} (hb : Below B W0 wr) (hB : B ≤ wr.heap.size)
    (hown : wr.ownsRow B e size v n xs) (hb3 : Below wr.heap.size wr.drew w3) (hg4 : (w3.alloc o2).grownBy w4 v.ownBlock) : Below B W0 w4 := by
  have h3 : wr.heap.size ≤ w3.heap.size := hb3.size
  exact ((hb.drew.trans (hb3.mono hB)).alloc (by omega) o2).grown hg4 (by simp; omega) (fun j hj => (hown.lt j hj).1)

/-- A cell below is what it was, between two worlds of a chain. -/
theorem below_two {W0 wr w4 : World} {B : Nat} (h1 : Below B W0 wr) (h2 : Below B W0 w4) {p : Addr} (hp : p.block < B) {v : Value} (h : wr.cell? p = some v) : w4.cell? p = some v := by
  rw [h2.cell hp, ← h1.cell hp]
  exact h

end Go.Proofs.Ytgabecolmldbjaa
