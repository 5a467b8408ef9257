/-
  A law: a list that came in, appended to one that the call owns; the document's New.
-/
import Derived.Test.YtpddpdkdlodniaaOSame
namespace Go.Proofs.Ytpddpdkdlodniaa
open Go.RowKit

/-- What may be appended: nothing, or cells that lie at an address. -/
def Src (w : World) (size : Nat) (v : Value) (m : Nat) (ys : List Value) : Prop :=
  (v = .slice none 0 0 ∧ m = 0 ∧ ys = []) ∨ ∃ ad c, v = .slice (some ad) m c ∧ ys.length = m * size ∧ ∀ j u, ys[j]? = some u → w.cell? (ad.add j) = some u
theorem addr_lit (b o n : Nat) : (⟨b, o, none⟩ : Addr).add n = ⟨b, o + n, none⟩ := by
  unfold Addr.add
  split <;> simp_all
theorem src_ints {w : World} {ao : Option Addr} {c : Nat} {l : List Int} (h : Ints w ao l) (hn : ao = none → c = 0) : Src w 1 (.slice ao l.length c) l.length (l.map (Value.int .i64)) := by
  by_cases h0 : l.length = 0
  · obtain rfl : l = [] := List.length_eq_zero_iff.1 h0
    cases ao with
    | none => exact .inl ⟨by rw [hn rfl]; rfl, rfl, rfl⟩
    | some a => exact .inr ⟨a, c, rfl, rfl, fun j u hu => by simp at hu⟩
  · obtain ⟨b, off, rfl, hb, hc⟩ := h.cells (by omega)
    refine .inr ⟨_, c, rfl, by simp, fun j u hu => ?_⟩
    have hj := (List.getElem?_eq_some_iff.1 hu).1
    simp at hj
    rw [addr_lit, hc j hj]
    simp [List.getElem?_map, List.getElem?_eq_getElem hj] at hu
    rw [← hu]
    simp [List.getD, hj]
theorem src_mts {w : World} {ao : Option Addr} {c : Nat} {l : List Mt} (h : Mts w ao l) (hn : ao = none → c = 0) : Src w 5 (.slice ao l.length c) l.length (l.flatMap mtCells) := by
  by_cases h0 : l.length = 0
  · obtain rfl : l = [] := List.length_eq_zero_iff.1 h0
    cases ao with
    | none => exact .inl ⟨by rw [hn rfl]; rfl, rfl, rfl⟩
    | some a => exact .inr ⟨a, c, rfl, rfl, fun j u hu => by simp at hu⟩
  · obtain ⟨b, off, rfl, hb, hc⟩ := h.cells (by omega)
    refine .inr ⟨_, c, rfl, flat_len mtCells 5 (fun _ => rfl) l, fun j u hu => ?_⟩
    rw [addr_lit]
    exact mts_cell hc j u hu
theorem Src.below {w w' : World} {size : Nat} {v : Value} {m : Nat} {ys : List Value} (h : Src w size v m ys) (hb : Below w.heap.size w w') : Src w' size v m ys := by
  rcases h with h | ⟨ad, c, hv, hl, hc⟩
  · exact .inl h
  · exact .inr ⟨ad, c, hv, hl, fun j u hu => (hb.cell (p := ad.add j) (World.block_lt_of_cell? w _ (hc j u hu))).trans (hc j u hu)⟩

section
variable {P : Program} (w : World)
theorem wp_append_src {o : Oper} {a : Act} {K : Act → World → Prop} {Q : Exit → Act → World → Prop} (s x : Operand) (t : TypeId)
    (ho : o.op = .call { callee := .builtin .append, args := #[s, x], argTypes := #[t, t] })
    (base : Nat) (e : TypeId) (i : TypeInfo) (z : Value) (size bytes : Nat) (ht : P.underlying t = some (.slice e)) (hi : P.info? e = some i) (hz : i.zero = some z) (hsize : i.size = size) (hby : i.bytes = bytes) (hzs : z.cells.size = size) (hsz : 0 < size)
    (v : Value) (n : Nat) (xs : List Value) (hs : a.eval s = v) (hown : w.ownsRow base e size v n xs) (v2 : Value) (m : Nat) (ys : List Value) (hx : a.eval x = v2) (hsrc : Src w size v2 m ys) (h1 : ∀ u ∈ ys, u.oneCell' = true) (h63 : n + m ≤ maxLen) (hbytes : (n + m) * bytes ≤ 140737488355328) (hbase : base ≤ w.heap.size)
    (h : ∀ ao c w', w'.ownsRow base e size (.slice ao (n + m) c) (n + m) (xs ++ ys) → w.grownBy w' v.ownBlock → K (a.put o.dst (.slice ao (n + m) c)) w') : o.wp P a w K Q := by
  have key : ∃ ao c w', (Builtin.append_ #[t, t] o.type #[v, v2]).run P w = .ok (.slice ao (n + m) c) w' ∧ w'.ownsRow base e size (.slice ao (n + m) c) (n + m) (xs ++ ys) ∧ w.grownBy w' v.ownBlock := by
    rcases hsrc with ⟨rfl, rfl, rfl⟩ | ⟨ad, c, rfl, hl, hc⟩
    · obtain ⟨ao, c, rfl, _⟩ := owns_form hown
      exact ⟨ao, c, w, run_append_owned_none (P := P) w base t o.type e i size ht hi _ n xs hown, by simpa using hown, ⟨rfl, rfl, rfl, Nat.le_refl _, fun _ _ _ => rfl⟩⟩
    · obtain ⟨v', w', hr, h2, h3, _⟩ := run_append_own (P := P) w base t o.type e i z size bytes ht hi hz hsize hby hzs hsz v n xs hown ad m c ys hl hc h1 h63 hbytes hbase
      obtain ⟨ao, c, rfl, _⟩ := owns_form h2
      exact ⟨ao, c, w', hr, h2, h3⟩
  obtain ⟨ao, c, w', hrun, h2, h3⟩ := key
  unfold Oper.wp execOp
  simp only [ho, resolve, invoke, builtin, Sem.run_bind, Sem.run_pure, Result.andThen_ok, List.map_toArray, List.map_cons, List.map_nil, hs, hx, hrun]
  exact h ao c w' h2 h3
theorem step_append_src {ops : Array Oper} {o : Oper} {a : Act} {K : Act → World → Prop} {Q : Exit → Act → World → Prop} {E : Prop} (hgd : o.guard = none) (s x : Operand) (t : TypeId)
    (ho : o.op = .call { callee := .builtin .append, args := #[s, x], argTypes := #[t, t] })
    (base : Nat) (e : TypeId) (i : TypeInfo) (z : Value) (size bytes : Nat) (ht : P.underlying t = some (.slice e)) (hi : P.info? e = some i) (hz : i.zero = some z) (hsize : i.size = size) (hby : i.bytes = bytes) (hzs : z.cells.size = size) (hsz : 0 < size)
    (v : Value) (n : Nat) (xs : List Value) (hs : a.eval s = v) (hown : w.ownsRow base e size v n xs) (v2 : Value) (m : Nat) (ys : List Value) (hx : a.eval x = v2) (hsrc : Src w size v2 m ys) (h1 : ∀ u ∈ ys, u.oneCell' = true) (h63 : n + m ≤ maxLen) (hbytes : (n + m) * bytes ≤ 140737488355328) (hbase : base ≤ w.heap.size)
    (h : ∀ ao c w', w'.ownsRow base e size (.slice ao (n + m) c) (n + m) (xs ++ ys) → w.grownBy w' v.ownBlock → K (a.put o.dst (.slice ao (n + m) c)) w') :
    if Region.wanted o (yielded ops a.tmps) = true then Oper.wp P o a w K Q else E := by
  have hw : Region.wanted o (yielded ops a.tmps) = true := by simp [Region.wanted, hgd]
  rw [if_pos hw]
  exact wp_append_src w s x t ho base e i z size bytes ht hi hz hsize hby hzs hsz v n xs hs hown v2 m ys hx hsrc h1 h63 hbytes hbase h
end
theorem ints_one {l : List Int} : ∀ u ∈ l.map (Value.int .i64), u.oneCell' = true := by
  intro u hu
  obtain ⟨x, _, rfl⟩ := List.mem_map.1 hu
  rfl

end Go.Proofs.Ytpddpdkdlodniaa
