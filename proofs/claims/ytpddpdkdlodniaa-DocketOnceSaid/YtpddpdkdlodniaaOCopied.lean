/-
  A law: a list that came in, appended to one that the call owns; the document's New.
  The document's copied: a docket with cells of its own.
-/
import Derived.Test.YtpddpdkdlodniaaOSame
namespace Go.Proofs.Ytpddpdkdlodniaa
open Go.RowKit

/-- What may be appended: nothing, or cells that lie at an address. -/
def Src (w : World) (size : Nat) (v : Value) (m : Nat) (ys : List Value) : Prop :=
  (v = .slice none 0 0 ∧ m = 0 ∧ ys = []) ∨ ∃ ad c, v = .slice (some ad) m c ∧ ys.length = m * size ∧ ∀ j u, ys[j]? = some u → w.cell? (ad.add j) = some u
theorem addr_lit (b o n : Nat) : (⟨b, o, none⟩ : Addr).add n = ⟨b, o + n, none⟩ := by
  unfold Addr.add
  split <;> simp_all
theorem src_ints {w : World} {ao : Option Addr} {c : Nat} {l : List Int} (h : Ints w ao l) (hn : ao = none → c = 0) : Src w 1 (.slice ao l.length c) l.length (l.map (Value.int .i64)) := by
  by_cases h0 : l.length = 0
  · obtain rfl : l = [] := List.length_eq_zero_iff.1 h0
    cases ao with
    | none => exact .inl ⟨by rw [hn rfl]; rfl, rfl, rfl⟩
    | some a => exact .inr ⟨a, c, rfl, rfl, fun j u hu => by simp at hu⟩
  · obtain ⟨b, off, rfl, hb, hc⟩ := h.cells (by omega)
    refine .inr ⟨_, c, rfl, by simp, fun j u hu => ?_⟩
    have hj := (List.getElem?_eq_some_iff.1 hu).1
    simp at hj
    rw [addr_lit, hc j hj]
    simp [List.getElem?_map, List.getElem?_eq_getElem hj] at hu
    rw [← hu]
    simp [List.getD, hj]
theorem src_mts {w : World} {ao : Option Addr} {c : Nat} {l : List Mt} (h : Mts w ao l) (hn : ao = none → c = 0) : Src w 5 (.slice ao l.length c) l.length (l.flatMap mtCells) := by
  by_cases h0 : l.length = 0
  · obtain rfl : l = [] := List.length_eq_zero_iff.1 h0
    cases ao with
    | none => exact .inl ⟨by rw [hn rfl]; rfl, rfl, rfl⟩
    | some a => exact .inr ⟨a, c, rfl, rfl, fun j u hu => by simp at hu⟩
  · obtain ⟨b, off, rfl, hb, hc⟩ := h.cells (by omega)
    refine .inr ⟨_, c, rfl, flat_len mtCells 5 (fun _ => rfl) l, fun j u hu => ?_⟩
    rw [addr_lit]
    exact mts_cell hc j u hu
theorem Src.below {w w' : World} {size : Nat} {v : Value} {m : Nat} {ys : List Value} (h : Src w size v m ys) (hb : Below w.heap.size w w') : Src w' size v m ys := by
  rcases h with h | ⟨ad, c, hv, hl, hc⟩
  · exact .inl h
  · exact .inr ⟨ad, c, hv, hl, fun j u hu => (hb.cell (p := ad.add j) (World.block_lt_of_cell? w _ (hc j u hu))).trans (hc j u hu)⟩

section
variable {P : Program} (w : World)
theorem wp_append_src {o : Oper} {a : Act} {K : Act → World → Prop} {Q : Exit → Act → World → Prop} (s x : Operand) (t : TypeId)
    (ho : o.op = .call { callee := .builtin .append, args := #[s, x], argTypes := #[t, t] })
    (base : Nat) (e : TypeId) (i : TypeInfo) (z : Value) (size bytes : Nat) (ht : P.underlying t = some (.slice e)) (hi : P.info? e = some i) (hz : i.zero = some z) (hsize : i.size = size) (hby : i.bytes = bytes) (hzs : z.cells.size = size) (hsz : 0 < size)
    (v : Value) (n : Nat) (xs : List Value) (hs : a.eval s = v) (hown : w.ownsRow base e size v n xs) (v2 : Value) (m : Nat) (ys : List Value) (hx : a.eval x = v2) (hsrc : Src w size v2 m ys) (h1 : ∀ u ∈ ys, u.oneCell' = true) (h63 : n + m ≤ maxLen) (hbytes : (n + m) * bytes ≤ 140737488355328) (hbase : base ≤ w.heap.size)
    (h : ∀ ao c w', w'.ownsRow base e size (.slice ao (n + m) c) (n + m) (xs ++ ys) → w.grownBy w' v.ownBlock → K (a.put o.dst (.slice ao (n + m) c)) w') : o.wp P a w K Q := by
  have key : ∃ ao c w', (Builtin.append_ #[t, t] o.type #[v, v2]).run P w = .ok (.slice ao (n + m) c) w' ∧ w'.ownsRow base e size (.slice ao (n + m) c) (n + m) (xs ++ ys) ∧ w.grownBy w' v.ownBlock := by
    rcases hsrc with ⟨rfl, rfl, rfl⟩ | ⟨ad, c, rfl, hl, hc⟩
    · obtain ⟨ao, c, rfl, _⟩ := owns_form hown
      exact ⟨ao, c, w, run_append_owned_none (P := P) w base t o.type e i size ht hi _ n xs hown, by simpa using hown, ⟨rfl, rfl, rfl, Nat.le_refl _, fun _ _ _ => rfl⟩⟩
    · obtain ⟨v', w', hr, h2, h3, _⟩ := run_append_own (P := P) w base t o.type e i z size bytes ht hi hz hsize hby hzs hsz v n xs hown ad m c ys hl hc h1 h63 hbytes hbase
      obtain ⟨ao, c, rfl, _⟩ := owns_form h2
      exact ⟨ao, c, w', hr, h2, h3⟩
  obtain ⟨ao, c, w', hrun, h2, h3⟩ := key
  unfold Oper.wp execOp
  simp only [ho, resolve, invoke, builtin, Sem.run_bind, Sem.run_pure, Result.andThen_ok, List.map_toArray, List.map_cons, List.map_nil, hs, hx, hrun]
  exact h ao c w' h2 h3
theorem step_append_src {ops : Array Oper} {o : Oper} {a : Act} {K : Act → World → Prop} {Q : Exit → Act → World → Prop} {E : Prop} (hgd : o.guard = none) (s x : Operand) (t : TypeId)
    (ho : o.op = .call { callee := .builtin .append, args := #[s, x], argTypes := #[t, t] })
    (base : Nat) (e : TypeId) (i : TypeInfo) (z : Value) (size bytes : Nat) (ht : P.underlying t = some (.slice e)) (hi : P.info? e = some i) (hz : i.zero = some z) (hsize : i.size = size) (hby : i.bytes = bytes) (hzs : z.cells.size = size) (hsz : 0 < size)
    (v : Value) (n : Nat) (xs : List Value) (hs : a.eval s = v) (hown : w.ownsRow base e size v n xs) (v2 : Value) (m : Nat) (ys : List Value) (hx : a.eval x = v2) (hsrc : Src w size v2 m ys) (h1 : ∀ u ∈ ys, u.oneCell' = true) (h63 : n + m ≤ maxLen) (hbytes : (n + m) * bytes ≤ 140737488355328) (hbase : base ≤ w.heap.size)
    (h : ∀ ao c w', w'.ownsRow base e size (.slice ao (n + m) c) (n + m) (xs ++ ys) → w.grownBy w' v.ownBlock → K (a.put o.dst (.slice ao (n + m) c)) w') :
    if Region.wanted o (yielded ops a.tmps) = true then Oper.wp P o a w K Q else E := by
  have hw : Region.wanted o (yielded ops a.tmps) = true := by simp [Region.wanted, hgd]
  rw [if_pos hw]
  exact wp_append_src w s x t ho base e i z size bytes ht hi hz hsize hby hzs hsz v n xs hs hown v2 m ys hx hsrc h1 h63 hbytes hbase h
end
theorem ints_one {l : List Int} : ∀ u ∈ l.map (Value.int .i64), u.oneCell' = true := by
  intro u hu
  obtain ⟨x, _, rfl⟩ := List.mem_map.1 hu
  rfl

end Go.Proofs.Ytpddpdkdlodniaa

namespace Go.Proofs.Ytpddpdkdlodniaa
open Go.RowKit

theorem step_append_ord {P : Program} (w : World) {ops : Array Oper} {o : Oper} {a : Act} {K : Act → World → Prop} {Q : Exit → Act → World → Prop} {E : Prop} (hgd : o.guard = none) (s x : Operand) (t : TypeId)
    (ho : o.op = .call { callee := .builtin .append, args := #[s, x], argTypes := #[t, t] })
    (base : Nat) (e : TypeId) (i : TypeInfo) (z : Value) (size bytes : Nat) (ht : P.underlying t = some (.slice e)) (hi : P.info? e = some i) (hz : i.zero = some z) (hsize : i.size = size) (hby : i.bytes = bytes) (hzs : z.cells.size = size) (hsz : 0 < size)
    (v : Value) (n : Nat) (xs : List Value) (hown : w.ownsRow base e size v n xs) (v2 : Value) (m : Nat) (ys : List Value) (hsrc : Src w size v2 m ys) (hbase : base ≤ w.heap.size) (hs : a.eval s = v) (hx : a.eval x = v2) (h1 : ∀ u ∈ ys, u.oneCell' = true) (h63 : n + m ≤ maxLen) (hbytes : (n + m) * bytes ≤ 140737488355328)
    (h : ∀ ao c w', w'.ownsRow base e size (.slice ao (n + m) c) (n + m) (xs ++ ys) → w.grownBy w' v.ownBlock → K (a.put o.dst (.slice ao (n + m) c)) w') :
    if Region.wanted o (yielded ops a.tmps) = true then Oper.wp P o a w K Q else E :=
  step_append_src w hgd s x t ho base e i z size bytes ht hi hz hsize hby hzs hsz v n xs hs hown v2 m ys hx hsrc h1 h63 hbytes hbase h

/-- What the region of copied keeps: the docket's block, the result's, the two copies as far as they are. -/
structure CP (w X : World) (o : Obj) (a : Value) (n : Nat) (xs : List Value) (m : Value) (k : Nat) (ys : List Value) : Prop where
  d1 : X.heap[w.heap.size]? = some o
  d2 : X.heap[w.heap.size + 1]? = some dkZero
  ra : X.ownsRow w.heap.size 3 1 a n xs
  rm : X.ownsRow w.heap.size 50 5 m k ys
  bl : Below w.heap.size w X
section
variable {w X X' : World} {day ans app : Int} {ho mo : Option Addr} {hn mn hc mc : Nat} {a m a' m' : Value} {n k n' k' : Nat} {xs ys xs' ys' : List Value}
theorem CP.drew {o : Obj} (h : CP w X o a n xs m k ys) : CP w X.drew o a n xs m k ys := ⟨h.d1, h.d2, h.ra.drew, h.rm.drew, h.bl.drew⟩
theorem CP.makeA {o : Obj} (h : CP w X o a n xs m k ys) : CP w (X.alloc (.cells #[] 3)) o (.slice (some ⟨X.heap.size, 0, none⟩) 0 0) 0 [] m k ys :=
  ⟨alloc_heap h.d1, alloc_heap h.d2, World.ownsRow_made X #[] 0 h.bl.size (Nat.zero_le _) rfl, h.rm.alloc _, h.bl.alloc h.bl.size _⟩
theorem CP.makeM {o : Obj} (h : CP w X o a n xs m k ys) : CP w (X.alloc (.cells #[] 50)) o a n xs (.slice (some ⟨X.heap.size, 0, none⟩) 0 0) 0 [] :=
  ⟨alloc_heap h.d1, alloc_heap h.d2, h.ra.alloc _, World.ownsRow_made X #[] 0 h.bl.size (Nat.zero_le _) rfl, h.bl.alloc h.bl.size _⟩
theorem CP.makeAM {o : Obj} (h : CP w X o a n xs m k ys) : CP w ((X.alloc (.cells #[] 3)).alloc (.cells #[] 50)) o (.slice (some ⟨X.heap.size, 0, none⟩) 0 0) 0 [] (.slice (some ⟨X.heap.size + 1, 0, none⟩) 0 0) 0 [] := by
  have := h.makeA.makeM
  rw [World.size_alloc] at this
  exact this
theorem CP.makeMA {o : Obj} (h : CP w X o a n xs m k ys) : CP w ((X.alloc (.cells #[] 50)).alloc (.cells #[] 3)) o (.slice (some ⟨X.heap.size + 1, 0, none⟩) 0 0) 0 [] (.slice (some ⟨X.heap.size, 0, none⟩) 0 0) 0 [] := by
  have := h.makeM.makeA
  rw [World.size_alloc] at this
  exact this
theorem CP.grownA (h : CP w X (dkObj day ans app ho hn hc mo mn mc) a n xs m k ys) (hg : X.grownBy X' a.ownBlock) (hr : X'.ownsRow w.heap.size 3 1 a' n' xs') : CP w X' (dkObj day ans app ho hn hc mo mn mc) a' n' xs' m k ys :=
  ⟨heap_grown h.d1 h.ra (by decide) hg, heap_grown h.d2 h.ra (by decide) hg, hr, owns_grown h.rm h.ra (by decide) hg, h.bl.grown hg h.bl.size (fun j hj => (h.ra.lt j hj).1)⟩
theorem CP.grownM (h : CP w X (dkObj day ans app ho hn hc mo mn mc) a n xs m k ys) (hg : X.grownBy X' m.ownBlock) (hr : X'.ownsRow w.heap.size 50 5 m' k' ys') : CP w X' (dkObj day ans app ho hn hc mo mn mc) a n xs m' k' ys' :=
  ⟨heap_grown h.d1 h.rm (by decide) hg, heap_grown h.d2 h.rm (by decide) hg, owns_grown h.ra h.rm (by decide) hg, hr, h.bl.grown hg h.bl.size (fun j hj => (h.rm.lt j hj).1)⟩
theorem CP.s (h : CP w X (dkObj day ans app ho hn hc mo mn mc) a n xs m k ys) : X.cell? ⟨w.heap.size, 0, none⟩ = some (.int .i64 day) ∧ X.cell? ⟨w.heap.size, 1, none⟩ = some (.int .i64 ans) ∧ X.cell? ⟨w.heap.size, 2, none⟩ = some (.int .i64 app) ∧ X.cell? ⟨w.heap.size, 3, none⟩ = some (.slice ho hn hc) ∧ X.cell? ⟨w.heap.size, 4, none⟩ = some (.slice mo mn mc) := five_cells h.d1
theorem CP.s5 (h : CP w X (dkObj day ans app ho hn hc mo mn mc) a n xs m k ys) (x' y' z' u' t' : Value) :
    (((((X.setCell ⟨w.heap.size + 1, 0, none⟩ x').setCell ⟨w.heap.size + 1, 1, none⟩ y').setCell ⟨w.heap.size + 1, 2, none⟩ z').setCell ⟨w.heap.size + 1, 3, none⟩ u').setCell ⟨w.heap.size + 1, 4, none⟩ t').cell? ⟨w.heap.size, 0, none⟩ = some (.int .i64 day) ∧
    (((((X.setCell ⟨w.heap.size + 1, 0, none⟩ x').setCell ⟨w.heap.size + 1, 1, none⟩ y').setCell ⟨w.heap.size + 1, 2, none⟩ z').setCell ⟨w.heap.size + 1, 3, none⟩ u').setCell ⟨w.heap.size + 1, 4, none⟩ t').cell? ⟨w.heap.size, 1, none⟩ = some (.int .i64 ans) ∧
    (((((X.setCell ⟨w.heap.size + 1, 0, none⟩ x').setCell ⟨w.heap.size + 1, 1, none⟩ y').setCell ⟨w.heap.size + 1, 2, none⟩ z').setCell ⟨w.heap.size + 1, 3, none⟩ u').setCell ⟨w.heap.size + 1, 4, none⟩ t').cell? ⟨w.heap.size, 2, none⟩ = some (.int .i64 app) ∧
    (((((X.setCell ⟨w.heap.size + 1, 0, none⟩ x').setCell ⟨w.heap.size + 1, 1, none⟩ y').setCell ⟨w.heap.size + 1, 2, none⟩ z').setCell ⟨w.heap.size + 1, 3, none⟩ u').setCell ⟨w.heap.size + 1, 4, none⟩ t').cell? ⟨w.heap.size, 3, none⟩ = some (.slice ho hn hc) ∧
    (((((X.setCell ⟨w.heap.size + 1, 0, none⟩ x').setCell ⟨w.heap.size + 1, 1, none⟩ y').setCell ⟨w.heap.size + 1, 2, none⟩ z').setCell ⟨w.heap.size + 1, 3, none⟩ u').setCell ⟨w.heap.size + 1, 4, none⟩ t').cell? ⟨w.heap.size, 4, none⟩ = some (.slice mo mn mc) :=
  five_cells (heap_put5 h.d1 (Nat.ne_of_lt (Nat.lt_succ_self _)))
end

set_option maxRecDepth 100000 in
set_option maxHeartbeats 4000000 in
theorem copiedR_any (day ans app : Int) (ho mo : Option Addr) (hc mc : Nat) (H : List Int) (l : List Mt) (w : World) (hI : Ints w ho H) (hM : Mts w mo l) (hn : ho = none → hc = 0) (mn : mo = none → mc = 0) (hH : H.length ≤ 1000000) (hl : l.length ≤ 1000000) :
    Calls Try.prog 60 #[.agg #[.int .i64 day, .int .i64 ans, .int .i64 app, .slice ho H.length hc, .slice mo l.length mc]] w fun e w' => ∃ ro rc so sc, e = .returned (.agg #[.int .i64 day, .int .i64 ans, .int .i64 app, .slice ro H.length rc, .slice so l.length sc]) ∧
      w'.ownsRow w.heap.size 3 1 (.slice ro H.length rc) H.length (H.map (Value.int .i64)) ∧ w'.ownsRow w.heap.size 50 5 (.slice so l.length sc) l.length (l.flatMap mtCells) ∧ Below w.heap.size w w' := by
  obtain ⟨i0, hi, hz0, hz1, hz2⟩ := info_split Try.infoInt
  obtain ⟨j0, ji, jz0, jz1, jz2⟩ := info_split Try.infoMatter
  obtain ⟨W, hW⟩ : ∃ W, (w.alloc (dkObj day ans app ho H.length hc mo l.length mc)).alloc dkZero = W := ⟨_, rfl⟩
  have hbW : Below w.heap.size w W := by rw [← hW]; go_grown
  have k1 : W.heap[w.heap.size]? = some (dkObj day ans app ho H.length hc mo l.length mc) := by rw [← hW]; exact alloc_heap (heap_alloc_new w _)
  have k2 : W.heap[w.heap.size + 1]? = some dkZero := by
    have := heap_alloc_new (w.alloc (dkObj day ans app ho H.length hc mo l.length mc)) dkZero
    rw [World.size_alloc] at this
    rw [← hW]
    exact this
  have S1 := Lib.hid (src_ints hI hn)
  have S2 := Lib.hid (src_mts hM mn)
  have HM1 : Hid (0 + H.length ≤ maxLen) := Lib.hid (by unfold maxLen; omega)
  have HY1 : Hid ((0 + H.length) * 8 ≤ 140737488355328) := Lib.hid (by omega)
  have HM2 : Hid (0 + l.length ≤ maxLen) := Lib.hid (by unfold maxLen; omega)
  have HY2 : Hid ((0 + l.length) * 40 ≤ 140737488355328) := Lib.hid (by omega)
  have HC : Hid (CP w W (dkObj day ans app ho H.length hc mo l.length mc) (.slice none 0 0) 0 [] (.slice none 0 0) 0 []) := Lib.hid ⟨k1, k2, World.ownsRow_nil _ _ _ _, World.ownsRow_nil _ _ _ _, hbW⟩
  obtain ⟨x0, x1, x2, x3, x4⟩ := five_cells k1
  obtain ⟨f0, f1, f2, f3, f4⟩ := five_free k2
  have HWW := Lib.hid hW
  clear hI hM hn mn hbW k1 k2 hW
  go_enter Try.func60, Try.ntmps60
  go_upto_region 1 with fail
  try dsimp only
  rw [HWW.out]
  go_region_held3 (fun w' => w'.cell? ⟨w.heap.size, 0, none⟩ = some (.int .i64 day) ∧ w'.cell? ⟨w.heap.size, 1, none⟩ = some (.int .i64 ans) ∧ w'.cell? ⟨w.heap.size, 2, none⟩ = some (.int .i64 app) ∧ w'.cell? ⟨w.heap.size, 3, none⟩ = some (.slice ho H.length hc) ∧ w'.cell? ⟨w.heap.size, 4, none⟩ = some (.slice mo l.length mc))
    (first | with_reducible exact HC.out.s | with_reducible exact HC.out.makeA.drew.s | with_reducible exact HC.out.makeM.drew.s | with_reducible exact HC.out.makeAM.drew.s | with_reducible exact HC.out.makeMA.drew.s | with_reducible exact HC.out.makeA.s | with_reducible exact HC.out.makeM.s | with_reducible exact HC.out.makeAM.s | with_reducible exact HC.out.makeMA.s | with_reducible exact HC.out.drew.s | with_reducible exact HC.out.s5 _ _ _ _ _)
    (first
      | (refine step_append_ord _ (by rfl) _ _ _ (by rfl) w.heap.size 3 i0 (.int .i64 0) 1 8 Try.underlying25 hi hz0 hz1 hz2 rfl Nat.one_pos _ 0 [] (by first | with_reducible exact HC.out.ra | with_reducible exact HC.out.makeA.drew.ra | with_reducible exact HC.out.makeM.drew.ra | with_reducible exact HC.out.makeAM.drew.ra | with_reducible exact HC.out.makeMA.drew.ra | with_reducible exact HC.out.makeA.ra | with_reducible exact HC.out.makeM.ra | with_reducible exact HC.out.makeAM.ra | with_reducible exact HC.out.makeMA.ra | with_reducible exact HC.out.drew.ra) _ H.length (H.map (Value.int .i64)) (S1.out.below (by first | with_reducible exact HC.out.bl | with_reducible exact HC.out.makeA.drew.bl | with_reducible exact HC.out.makeM.drew.bl | with_reducible exact HC.out.makeAM.drew.bl | with_reducible exact HC.out.makeMA.drew.bl | with_reducible exact HC.out.makeA.bl | with_reducible exact HC.out.makeM.bl | with_reducible exact HC.out.makeAM.bl | with_reducible exact HC.out.makeMA.bl | with_reducible exact HC.out.drew.bl)) (by first | with_reducible exact HC.out.bl.size | with_reducible exact HC.out.makeA.drew.bl.size | with_reducible exact HC.out.makeM.drew.bl.size | with_reducible exact HC.out.makeAM.drew.bl.size | with_reducible exact HC.out.makeMA.drew.bl.size | with_reducible exact HC.out.makeA.bl.size | with_reducible exact HC.out.makeM.bl.size | with_reducible exact HC.out.makeAM.bl.size | with_reducible exact HC.out.makeMA.bl.size | with_reducible exact HC.out.drew.bl.size) (by rfl) (by rfl) ints_one HM1.out HY1.out ?_
         intro aoA cA wA hown hg
         rw [Nat.zero_add, List.nil_append] at hown
         first | with_reducible have HC := Lib.hid (HC.out.grownA hg hown) | with_reducible have HC := Lib.hid (HC.out.makeA.drew.grownA hg hown) | with_reducible have HC := Lib.hid (HC.out.makeM.drew.grownA hg hown) | with_reducible have HC := Lib.hid (HC.out.makeAM.drew.grownA hg hown) | with_reducible have HC := Lib.hid (HC.out.makeMA.drew.grownA hg hown) | with_reducible have HC := Lib.hid (HC.out.makeA.grownA hg hown) | with_reducible have HC := Lib.hid (HC.out.makeM.grownA hg hown) | with_reducible have HC := Lib.hid (HC.out.makeAM.grownA hg hown) | with_reducible have HC := Lib.hid (HC.out.makeMA.grownA hg hown) | with_reducible have HC := Lib.hid (HC.out.drew.grownA hg hown)
         obtain ⟨y0, y1, y2, y3, y4⟩ := five_cells HC.out.d2
         obtain ⟨f0, f1, f2, f3, f4⟩ := five_free HC.out.d2
         clear hown hg)
      | (refine step_append_ord _ (by rfl) _ _ _ (by rfl) w.heap.size 50 j0 (.agg #[.int .i64 0, .int .i64 0, .int .i64 0, .int .i64 0, .bool false]) 5 40 Try.underlying28 ji jz0 jz1 jz2 rfl (Nat.succ_pos 4) _ 0 [] (by first | with_reducible exact HC.out.rm | with_reducible exact HC.out.makeA.drew.rm | with_reducible exact HC.out.makeM.drew.rm | with_reducible exact HC.out.makeAM.drew.rm | with_reducible exact HC.out.makeMA.drew.rm | with_reducible exact HC.out.makeA.rm | with_reducible exact HC.out.makeM.rm | with_reducible exact HC.out.makeAM.rm | with_reducible exact HC.out.makeMA.rm | with_reducible exact HC.out.drew.rm) _ l.length (l.flatMap mtCells) (S2.out.below (by first | with_reducible exact HC.out.bl | with_reducible exact HC.out.makeA.drew.bl | with_reducible exact HC.out.makeM.drew.bl | with_reducible exact HC.out.makeAM.drew.bl | with_reducible exact HC.out.makeMA.drew.bl | with_reducible exact HC.out.makeA.bl | with_reducible exact HC.out.makeM.bl | with_reducible exact HC.out.makeAM.bl | with_reducible exact HC.out.makeMA.bl | with_reducible exact HC.out.drew.bl)) (by first | with_reducible exact HC.out.bl.size | with_reducible exact HC.out.makeA.drew.bl.size | with_reducible exact HC.out.makeM.drew.bl.size | with_reducible exact HC.out.makeAM.drew.bl.size | with_reducible exact HC.out.makeMA.drew.bl.size | with_reducible exact HC.out.makeA.bl.size | with_reducible exact HC.out.makeM.bl.size | with_reducible exact HC.out.makeAM.bl.size | with_reducible exact HC.out.makeMA.bl.size | with_reducible exact HC.out.drew.bl.size) (by rfl) (by rfl) mts_one HM2.out HY2.out ?_
         intro aoM cM wM hown hg
         rw [Nat.zero_add, List.nil_append] at hown
         first | with_reducible have HC := Lib.hid (HC.out.grownM hg hown) | with_reducible have HC := Lib.hid (HC.out.makeA.drew.grownM hg hown) | with_reducible have HC := Lib.hid (HC.out.makeM.drew.grownM hg hown) | with_reducible have HC := Lib.hid (HC.out.makeAM.drew.grownM hg hown) | with_reducible have HC := Lib.hid (HC.out.makeMA.drew.grownM hg hown) | with_reducible have HC := Lib.hid (HC.out.makeA.grownM hg hown) | with_reducible have HC := Lib.hid (HC.out.makeM.grownM hg hown) | with_reducible have HC := Lib.hid (HC.out.makeAM.grownM hg hown) | with_reducible have HC := Lib.hid (HC.out.makeMA.grownM hg hown) | with_reducible have HC := Lib.hid (HC.out.drew.grownM hg hown)
         obtain ⟨y0, y1, y2, y3, y4⟩ := five_cells HC.out.d2
         obtain ⟨f0, f1, f2, f3, f4⟩ := five_free HC.out.d2
         clear hown hg))
  all_goals
    have p5 := put5 (x' := .int .i64 day) (y' := .int .i64 ans) (z' := .int .i64 app) (u' := .slice aoA H.length cA) (v' := .slice aoM l.length cM) HC.out.d2
    obtain ⟨z0, z1, z2, z3, z4⟩ := five_cells p5
    have HOA := Lib.hid (owns_put5 (x' := .int .i64 day) (y' := .int .i64 ans) (z' := .int .i64 app) (u' := .slice aoA H.length cA) (t' := .slice aoM l.length cM) HC.out.ra HC.out.d2 (by decide))
    have HOM := Lib.hid (owns_put5 (x' := .int .i64 day) (y' := .int .i64 ans) (z' := .int .i64 app) (u' := .slice aoA H.length cA) (t' := .slice aoM l.length cM) HC.out.rm HC.out.d2 (by decide))
    have HB := Lib.hid (below_put5 (x' := .int .i64 day) (y' := .int .i64 ans) (z' := .int .i64 app) (u' := .slice aoA H.length cA) (t' := .slice aoM l.length cM) HC.out.bl (Nat.le_succ w.heap.size))
    clear p5
    go_wp2_with fail
    refine bodyPost_ret (by simp [results, Try.results60, go_sem, z0, z1, z2, z3, z4]; rfl) rfl ?_
    exact ⟨aoA, cA, aoM, cM, rfl, HOA.out, HOM.out, HB.out⟩
end Go.Proofs.Ytpddpdkdlodniaa
