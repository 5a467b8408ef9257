/-
  Words for memory: what a call may have turned, blocks that are known whole, slices of bytes. Of whatever program.
-/
import Derived.Test.YtkbdbinafjmjkaaDPlain
import Derived.Test.YtkbdbinafjmjkaaPlain
import Derived.Laws.OwnMore
import Derived.Laws.AppendOwnNone
import Derived.Maps.AppendAt
import Derived.Laws.BytesArg
import Derived.Deep.AppendLies
import Derived.Deep.Draws
import Derived.RegionTactic
import Derived.OwnWalk
import Derived.Lib.Hide
namespace Go.Proofs.Ytkbdbinafjmjkaa
open Go.RowKit

/-- From w to w' only new blocks and the blocks of S have turned. -/
structure Moved (w w' : World) (S : Nat → Prop) : Prop where
  os : w'.os = w.os
  tape : w'.tape = w.tape
  output : w'.output = w.output
  size : w.heap.size ≤ w'.heap.size
  block : ∀ k, k < w.heap.size → ¬ S k → w'.heap[k]? = w.heap[k]?

section
variable {w w' w'' : World} {S T : Nat → Prop}
theorem Moved.refl (w : World) (S : Nat → Prop) : Moved w w S := ⟨rfl, rfl, rfl, Nat.le_refl _, fun _ _ _ => rfl⟩
theorem Moved.mono (h : Moved w w' S) (hT : ∀ k, k < w.heap.size → S k → T k) : Moved w w' T := ⟨h.os, h.tape, h.output, h.size, fun k hk hn => h.block k hk fun hs => hn (hT k hk hs)⟩
theorem Moved.trans (h : Moved w w' S) (h' : Moved w' w'' T) (hT : ∀ k, k < w.heap.size → T k → S k) : Moved w w'' S :=
  ⟨h'.os.trans h.os, h'.tape.trans h.tape, h'.output.trans h.output, Nat.le_trans h.size h'.size, fun k hk hn => (h'.block k (Nat.lt_of_lt_of_le hk h.size) fun ht => hn (hT k hk ht)).trans (h.block k hk hn)⟩
theorem Moved.of_grown {row : Option Nat} (h : w.grownBy w' row) : Moved w w' (fun k => row = some k) := ⟨h.os, h.tape, h.output, h.size, fun k hk hn => h.block k hk fun e => hn e.symm⟩
theorem Moved.of_below (h : Below w.heap.size w w') (S : Nat → Prop) : Moved w w' S := ⟨h.os, h.tape, h.output, h.size, fun k hk _ => h.block k hk⟩
theorem Moved.below {B : Nat} (h : Moved w w' S) (hB : B ≤ w.heap.size) (hS : ∀ k, S k → B ≤ k) : Below B w w' :=
  ⟨h.os, h.tape, h.output, h.size, fun k hk => h.block k (by omega) fun hs => by have := hS k hs; omega⟩
theorem Moved.old {B : Nat} (h : Moved w w' (fun k => B ≤ k)) (hB : B ≤ w.heap.size) : Below B w w' := h.below hB fun _ hk => hk
theorem Moved.of_old {B : Nat} (h : Below B w w') : Moved w w' (fun k => B ≤ k) := ⟨h.os, h.tape, h.output, h.size, fun k _ hn => h.block k (by omega)⟩
theorem Moved.setCell (w : World) (b i : Nat) (u : Value) : Moved w (w.setCell ⟨b, i, none⟩ u) (fun k => k = b) :=
  ⟨rfl, rfl, rfl, by simp [World.setCell], fun k _ hn => Below.heap_setCell w _ u k hn⟩
theorem Moved.alloc (w : World) (o : Obj) (S : Nat → Prop) : Moved w (w.alloc o) S := ⟨rfl, rfl, rfl, by simp, fun k hk _ => Below.heap_alloc w o k hk⟩
theorem Moved.drew (w : World) (S : Nat → Prop) : Moved w w.drew S := ⟨rfl, rfl, rfl, Nat.le_refl _, fun _ _ _ => rfl⟩
theorem Moved.cell (h : Moved w w' S) {p : Addr} {v : Value} (hp : ¬ S p.block) (hc : w.cell? p = some v) : w'.cell? p = some v :=
  (World.cell?_of_block (h.block p.block (World.block_lt_of_cell? w p hc) hp)).trans hc
end

/-- Block b is just the cells cs of type t, none of them frozen. -/
def Box (w : World) (b : Nat) (t : TypeId) (cs : Array Value) : Prop := w.heap[b]? = some (.cells cs t (0, 0))

section
variable {w w' : World} {b : Nat} {t : TypeId} {cs : Array Value} {S : Nat → Prop}
theorem Box.lt (h : Box w b t cs) : b < w.heap.size := (Array.getElem?_eq_some_iff.1 h).1
theorem Box.cell (h : Box w b t cs) (i : Nat) : w.cell? ⟨b, i, none⟩ = cs[i]? := cell_of_row w b i cs t (0, 0) h
theorem Box.frozen (h : Box w b t cs) (i : Nat) : w.frozen? ⟨b, i, none⟩ = false := frozen_of_row w b i cs t h
theorem Box.new (w : World) (t : TypeId) (cs : Array Value) : Box (w.alloc (.cells cs t)) w.heap.size t cs := heap_alloc_new w _
theorem Box.set (h : Box w b t cs) (i : Nat) (u : Value) : Box (w.setCell ⟨b, i, none⟩ u) b t (cs.setIfInBounds i u) := heap_setCell_same w b i cs t u h
theorem Box.moved (h : Box w b t cs) (hm : Moved w w' S) (hb : ¬ S b) : Box w' b t cs := (hm.block b h.lt hb).trans h
theorem Box.next (h : Box w b t cs) (hm : Below w.heap.size w w') : Box w' b t cs := (hm.block b h.lt).trans h
theorem Box.below {B : Nat} (h : Box w b t cs) (hm : Below B w w') (hB : b < B) : Box w' b t cs := (hm.block b hB).trans h
theorem Box.ne {b' : Nat} {t' : TypeId} {cs' : Array Value} (h : Box w b t cs) (h' : Box w b' t' cs') (hne : t ≠ t') : b ≠ b' := by
  intro e
  subst e
  have h2 := h.symm.trans h'
  simp at h2
  exact hne h2.2
end

section
variable {w w' : World} {base : Nat} {e : TypeId} {size : Nat} {v : Value} {n : Nat} {xs : List Value} {S : Nat → Prop}
theorem owns_moved (h : w.ownsRow base e size v n xs) (hm : Moved w w' S) (hv : ∀ k, v.ownBlock = some k → ¬ S k) : w'.ownsRow base e size v n xs := by
  refine ⟨h.1, ?_⟩
  rcases h.2 with h2 | ⟨g, cap, cur, rfl, hg, hh, r⟩
  · exact .inl h2
  · exact .inr ⟨g, cap, cur, rfl, hg, (hm.block g (Array.getElem?_eq_some_iff.1 hh).1 (hv g rfl)).trans hh, r⟩
theorem owns_next (h : w.ownsRow base e size v n xs) (hb : Below w.heap.size w w') : w'.ownsRow base e size v n xs :=
  owns_moved h (Moved.of_below hb fun _ => False) fun _ _ hf => hf
theorem owns_ne_box {b : Nat} {t : TypeId} {cs : Array Value} (h : w.ownsRow base e size v n xs) (hb : Box w b t cs) (hne : e ≠ t) : v.ownBlock ≠ some b := by
  rcases h.2 with ⟨rfl, _⟩ | ⟨g, cap, cur, rfl, _, hh, _⟩
  · simp [Value.ownBlock]
  · intro he
    have : g = b := by simpa [Value.ownBlock] using he
    subst this
    exact Box.ne (t := e) hh hb hne rfl
theorem owns_base {base' : Nat} (h : w.ownsRow base e size v n xs) (hb : ∀ k, v.ownBlock = some k → base' ≤ k) : w.ownsRow base' e size v n xs := by
  refine ⟨h.1, ?_⟩
  rcases h.2 with h2 | ⟨g, cap, cur, rfl, hg, r⟩
  · exact .inl h2
  · exact .inr ⟨g, cap, cur, rfl, hb g rfl, r⟩
end

/-- The head of block g, nil if there is none. -/
def gad (g : Option Nat) : Option Addr := g.map fun b => ⟨b, 0, none⟩
theorem gad_own (g : Option Nat) (n c : Nat) : Value.ownBlock (.slice (gad g) n c) = g := by cases g <;> rfl
theorem owns_form {w : World} {base : Nat} {e : TypeId} {size : Nat} {v : Value} {n : Nat} {xs : List Value} (h : w.ownsRow base e size v n xs) : ∃ cap, v = .slice (gad v.ownBlock) n cap := by
  rcases h.2 with ⟨rfl, hn⟩ | ⟨g, cap, cur, rfl, _⟩
  · exact ⟨0, by rw [hn]; rfl⟩
  · exact ⟨cap, rfl⟩

/-- The bytes of a slice. -/
def Byt (w : World) (ao : Option Addr) (bs : List Int) : Prop := bs = [] ∨ ∃ b off, ao = some ⟨b, off, none⟩ ∧ b < w.heap.size ∧ ∀ i, i < bs.length → w.cell? ⟨b, off + i, none⟩ = some (.int .u8 (bs.getD i 0))

def bcells (bs : List Int) : List Value := bs.map (Value.int .u8)

section
variable {w w' : World} {ao : Option Addr} {bs : List Int} {S : Nat → Prop}
theorem bcells_length (bs : List Int) : (bcells bs).length = bs.length := by simp [bcells]
theorem bcells_get (bs : List Int) (i : Nat) (h : i < bs.length) : (bcells bs)[i]? = some (.int .u8 (bs.getD i 0)) := by simp [bcells, List.getD, h]
theorem bcells_one (bs : List Int) : ∀ u ∈ bcells bs, u.oneCell' = true := by
  intro u hu
  obtain ⟨x, _, rfl⟩ := List.mem_map.1 hu
  rfl
theorem Byt.nil (w : World) (ao : Option Addr) : Byt w ao [] := .inl rfl
theorem Byt.moved (h : Byt w ao bs) (hm : Moved w w' S) (hn : ∀ b off, ao = some ⟨b, off, none⟩ → ¬ S b) : Byt w' ao bs := by
  rcases h with h | ⟨b, off, rfl, hb, hc⟩
  · exact .inl h
  · exact .inr ⟨b, off, rfl, Nat.lt_of_lt_of_le hb hm.size, fun i hi => hm.cell (hn b off rfl) (hc i hi)⟩
theorem Byt.next (h : Byt w ao bs) (hb : Below w.heap.size w w') : Byt w' ao bs := h.moved (Moved.of_below hb fun _ => False) fun _ _ _ hf => hf
theorem Byt.below {B : Nat} (h : Byt w ao bs) (hb : Below B w w') (hB : ∀ b off, ao = some ⟨b, off, none⟩ → b < B) : Byt w' ao bs := by
  rcases h with h | ⟨b, off, rfl, hlt, hc⟩
  · exact .inl h
  · exact .inr ⟨b, off, rfl, Nat.lt_of_lt_of_le hlt hb.size, fun i hi => by rw [hb.cell (p := ⟨b, off + i, none⟩) (hB b off rfl)]; exact hc i hi⟩
theorem addr_off (b o n : Nat) : (⟨b, o, none⟩ : Addr).add n = ⟨b, o + n, none⟩ := by
  unfold Addr.add
  split <;> simp_all
theorem byt_of_owns {base : Nat} {e : TypeId} {v : Value} (h : w.ownsRow base e 1 v bs.length (bcells bs)) : ∃ cap, v = .slice (v.ownBlock.map fun g => ⟨g, 0, none⟩) bs.length cap ∧ bs.length ≤ cap ∧ cap ≤ maxLen ∧ Byt w (v.ownBlock.map fun g => ⟨g, 0, none⟩) bs := by
  have h0 := h
  rcases h.2 with ⟨rfl, hn⟩ | ⟨g, cap, cur, rfl, hg, hh, hn, hcap, hsz, htake⟩
  · exact ⟨0, by simp [Value.ownBlock, hn], by omega, by unfold maxLen; omega, .inl (List.eq_nil_of_length_eq_zero hn)⟩
  · refine ⟨cap, by simp [Value.ownBlock], hn, hcap, .inr ⟨g, 0, by simp [Value.ownBlock], (Array.getElem?_eq_some_iff.1 hh).1, fun i hi => ?_⟩⟩
    have hc := h0.cells (g := g) rfl i _ (bcells_get bs i hi)
    rw [addr_off] at hc
    exact hc
/-- The first bytes of a row. -/
theorem owns_take {base : Nat} {e : TypeId} {a : Option Addr} {n k cap : Nat} {xs : List Value} (h : w.ownsRow base e 1 (.slice a n cap) n xs) (hk : k ≤ n) : w.ownsRow base e 1 (.slice a k cap) k (xs.take k) := by
  refine ⟨by have := h.1; simp; omega, ?_⟩
  rcases h.2 with ⟨hv, hn⟩ | ⟨g, cap', cur, hv, hg, hh, hn, hcap, hsz, htake⟩
  · left
    injection hv with h1 h2 h3
    subst h1 h3
    have : k = 0 := by omega
    subst this
    exact ⟨rfl, rfl⟩
  · right
    injection hv with h1 h2 h3
    subst h1 h3
    refine ⟨g, cap, cur, rfl, hg, hh, by omega, hcap, hsz, ?_⟩
    rw [← htake, List.take_take]
    congr 1
    omega
/-- A slice of bytes as a string. -/
theorem byt_string {P : Program} (h : Byt w ao bs) (src e dst : TypeId) (hs : P.underlying src = some (.slice e)) (he : P.underlying e = some (.int .u8)) (hd : P.underlying dst = some .string) (cap : Nat) :
    (convert src dst (.slice ao bs.length cap)).run P w = .ok (.string (strOfNums bs)) w := by
  cases ao with
  | none =>
    rcases h with rfl | ⟨b, off, h, _⟩
    · exact run_convert_bytes_nil w src e hs he _ _ dst hd
    · cases h
  | some a =>
    rcases h with rfl | ⟨b, off, h, _, hc⟩
    · obtain ⟨b, o, sp⟩ := a
      rw [run_convert_bytes_string w src dst e _ _ cap hs he hd]
      have := run_bytesToString (P := P) w ⟨b, o, sp⟩ 0 cap [] (by simp [loadCells, loadCellsFrom])
      exact this
    · cases h
      exact run_convert_bytes_arg w src e hs he b off _ cap bs rfl hc dst hd
end

/-- Appending a slice of bytes, wherever it lies, nil or not, to a row of the call's own: the new row lies where the old one lay, or in a new block. -/
theorem run_append_byt {P : Program} (w : World) (base : Nat) (t ty e : TypeId) (i : TypeInfo) (z : Value) (ht : P.underlying t = some (.slice e)) (hi : P.info? e = some i) (hz : i.zero = some z)
    (hsize : i.size = 1) (hby : i.bytes = 1) (hzs : z.cells.size = 1)
    (v : Value) (n : Nat) (xs : List Value) (hown : w.ownsRow base e 1 v n xs)
    (ao : Option Addr) (c : Nat) (bs : List Int) (hb : Byt w ao bs) (h63 : n + bs.length ≤ 1000000000) (hbase : base ≤ w.heap.size) :
    ∃ v' w', (Builtin.append_ #[t, t] ty #[v, .slice ao bs.length c]).run P w = .ok v' w' ∧ w'.ownsRow base e 1 v' (n + bs.length) (xs ++ bcells bs) ∧ w.grownBy w' v.ownBlock ∧
      (v'.ownBlock = v.ownBlock ∨ ∃ k, v'.ownBlock = some k ∧ w.heap.size ≤ k) := by
  have hnil : ∀ v : Value, w.ownsRow base e 1 v n xs → (Builtin.append_ #[t, t] ty #[v, .slice none 0 c]).run P w = .ok v w := fun v hv => by
    rcases hv.2 with ⟨rfl, rfl⟩ | ⟨g, cap, cur, rfl, _, _, hnc, _⟩
    · simp [Builtin.append_, run_underlying ht, sizeOf, typeInfo, hi, Builtin.lenOf, Builtin.firstCells]
    · simp [Builtin.append_, run_underlying ht, sizeOf, typeInfo, hi, Builtin.lenOf, Builtin.firstCells, hnc, storeCells]
  cases ao with
  | none =>
    rcases hb with rfl | ⟨b, off, h, _⟩
    · exact ⟨v, w, hnil v hown, by simpa [bcells] using hown, World.grownBy.refl w _, .inl rfl⟩
    · cases h
  | some ad =>
    have hcells : ∀ j u, (bcells bs)[j]? = some u → w.cell? (ad.add j) = some u := fun j u hu => by
      have hj : j < bs.length := by
        have := (List.getElem?_eq_some_iff.1 hu).1
        rwa [bcells_length] at this
      rcases hb with rfl | ⟨b, off, h, _, hc⟩
      · simp at hj
      · cases h
        rw [bcells_get bs j hj] at hu
        rw [addr_off, hc j hj, hu]
    obtain ⟨v', w', hr, h2, h3, _, h5⟩ := run_append_own_at (P := P) w base t ty e i z 1 1 ht hi hz hsize hby hzs (by omega) v n xs hown ad bs.length c (bcells bs) (by rw [bcells_length, Nat.mul_one]) hcells (bcells_one bs) (by unfold maxLen; omega) (by omega) hbase
    exact ⟨v', w', hr, h2, h3, h5.imp id fun h => ⟨_, h, Nat.le_refl _⟩⟩

section
variable {P : Program} (w : World)
theorem wp_append_byt {o : Oper} {a : Act} {K : Act → World → Prop} {Q : Exit → Act → World → Prop} (s x : Operand) (t : TypeId)
    (ho : o.op = .call { callee := .builtin .append, args := #[s, x], argTypes := #[t, t] })
    (base : Nat) (e : TypeId) (i : TypeInfo) (z : Value) (ht : P.underlying t = some (.slice e)) (hi : P.info? e = some i) (hz : i.zero = some z) (hsize : i.size = 1) (hby : i.bytes = 1) (hzs : z.cells.size = 1)
    (v : Value) (n : Nat) (xs : List Value) (hs : a.eval s = v) (hown : w.ownsRow base e 1 v n xs)
    (ao : Option Addr) (m c : Nat) (bs : List Int) (hm : bs.length = m) (hx : a.eval x = .slice ao m c) (hb : Byt w ao bs) (h63 : n + m ≤ 1000000000) (hbase : base ≤ w.heap.size)
    (h : ∀ g' c' w', w'.ownsRow base e 1 (.slice (gad g') (n + m) c') (n + m) (xs ++ bcells bs) → w.grownBy w' v.ownBlock → (g' = v.ownBlock ∨ ∃ k, g' = some k ∧ w.heap.size ≤ k) → K (a.put o.dst (.slice (gad g') (n + m) c')) w') : o.wp P a w K Q := by
  subst hm
  obtain ⟨v', w', hrun, h2, h3, h4⟩ := run_append_byt (P := P) w base t o.type e i z ht hi hz hsize hby hzs v n xs hown ao c bs hb h63 hbase
  obtain ⟨g', hg'⟩ : ∃ g', v'.ownBlock = g' := ⟨_, rfl⟩
  obtain ⟨c', hc'⟩ := owns_form h2
  rw [hg'] at h4 hc'
  subst hc'
  unfold Oper.wp execOp
  simp only [ho, resolve, invoke, builtin, Sem.run_bind, Sem.run_pure, Result.andThen_ok, List.map_toArray, List.map_cons, List.map_nil, hs, hx, hrun]
  exact h g' c' w' h2 h3 h4

theorem wpList_append_byt {ops : Array Oper} {rest : List Oper} {o : Oper} {a : Act} {Q : Exit → Act → World → Prop} (hgd : o.guard = none) (s x : Operand) (t : TypeId)
    (ho : o.op = .call { callee := .builtin .append, args := #[s, x], argTypes := #[t, t] })
    (base : Nat) (e : TypeId) (i : TypeInfo) (z : Value) (ht : P.underlying t = some (.slice e)) (hi : P.info? e = some i) (hz : i.zero = some z) (hsize : i.size = 1) (hby : i.bytes = 1) (hzs : z.cells.size = 1)
    (v : Value) (n : Nat) (xs : List Value) (hs : a.eval s = v) (hown : w.ownsRow base e 1 v n xs)
    (ao : Option Addr) (m c : Nat) (bs : List Int) (hm : bs.length = m) (hx : a.eval x = .slice ao m c) (hb : Byt w ao bs) (h63 : n + m ≤ 1000000000) (hbase : base ≤ w.heap.size)
    (h : ∀ g' c' w', w'.ownsRow base e 1 (.slice (gad g') (n + m) c') (n + m) (xs ++ bcells bs) → w.grownBy w' v.ownBlock → (g' = v.ownBlock ∨ ∃ k, g' = some k ∧ w.heap.size ≤ k) → wpList P ops Q rest (a.put o.dst (.slice (gad g') (n + m) c')) w') : wpList P ops Q (o :: rest) a w :=
  wpList_plain hgd fun _ hK => wp_append_byt w s x t ho base e i z ht hi hz hsize hby hzs v n xs hs hown ao m c bs hm hx hb h63 hbase fun g' c' w' h2 h3 h4 => hK _ _ (h g' c' w' h2 h3 h4)

theorem step_append_byt {ops : Array Oper} {o : Oper} {a : Act} {K : Act → World → Prop} {Q : Exit → Act → World → Prop} {E : Prop} (hgd : o.guard = none) (s x : Operand) (t : TypeId)
    (ho : o.op = .call { callee := .builtin .append, args := #[s, x], argTypes := #[t, t] })
    (base : Nat) (e : TypeId) (i : TypeInfo) (z : Value) (ht : P.underlying t = some (.slice e)) (hi : P.info? e = some i) (hz : i.zero = some z) (hsize : i.size = 1) (hby : i.bytes = 1) (hzs : z.cells.size = 1)
    (v : Value) (n : Nat) (xs : List Value) (hs : a.eval s = v) (hown : w.ownsRow base e 1 v n xs)
    (ao : Option Addr) (m c : Nat) (bs : List Int) (hm : bs.length = m) (hx : a.eval x = .slice ao m c) (hb : Byt w ao bs) (h63 : n + m ≤ 1000000000) (hbase : base ≤ w.heap.size)
    (h : ∀ g' c' w', w'.ownsRow base e 1 (.slice (gad g') (n + m) c') (n + m) (xs ++ bcells bs) → w.grownBy w' v.ownBlock → (g' = v.ownBlock ∨ ∃ k, g' = some k ∧ w.heap.size ≤ k) → K (a.put o.dst (.slice (gad g') (n + m) c')) w') :
    if Region.wanted o (yielded ops a.tmps) = true then Oper.wp P o a w K Q else E := by
  have hw : Region.wanted o (yielded ops a.tmps) = true := by simp [Region.wanted, hgd]
  rw [if_pos hw]
  exact wp_append_byt w s x t ho base e i z ht hi hz hsize hby hzs v n xs hs hown ao m c bs hm hx hb h63 hbase h
end
end Go.Proofs.Ytkbdbinafjmjkaa
