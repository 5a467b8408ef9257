/-
  A law: one list that the call owns, appended to another one.
-/
import Derived.Test.YtpddpdkdlodniaaOClone
import Derived.Deep.RegionLaw
import Derived.Deep.AppendLies
namespace Go.Proofs.Ytpddpdkdlodniaa
open Go.RowKit

section
variable {P : Program} (w : World)
theorem run_append_rows (base : Nat) (t ty e : TypeId) (i : TypeInfo) (z : Value) (size bytes : Nat) (ht : P.underlying t = some (.slice e)) (hi : P.info? e = some i) (hz : i.zero = some z) (hsize : i.size = size) (hby : i.bytes = bytes) (hzs : z.cells.size = size) (hsz : 0 < size)
    (v : Value) (n : Nat) (xs : List Value) (hown : w.ownsRow base e size v n xs) (v2 : Value) (base2 m : Nat) (ys : List Value) (hsrc : w.ownsRow base2 e size v2 m ys) (h1 : ∀ u ∈ ys, u.oneCell' = true) (h63 : n + m ≤ maxLen) (hbytes : (n + m) * bytes ≤ 140737488355328) (hbase : base ≤ w.heap.size) :
    ∃ ao c w', (Builtin.append_ #[t, t] ty #[v, v2]).run P w = .ok (.slice ao (n + m) c) w' ∧ w'.ownsRow base e size (.slice ao (n + m) c) (n + m) (xs ++ ys) ∧ w.grownBy w' v.ownBlock := by
  have hs := hsrc
  rcases hsrc.2 with ⟨rfl, rfl⟩ | ⟨g, cap, cur, rfl, hg, hh, hn, hcap, hcs, htake⟩
  · obtain rfl : ys = [] := List.length_eq_zero_iff.1 (by simpa using hsrc.1)
    obtain ⟨ao, c, rfl, _⟩ := owns_form hown
    exact ⟨ao, c, w, run_append_owned_none (P := P) w base t ty e i size ht hi _ n xs hown, by simpa using hown, ⟨rfl, rfl, rfl, Nat.le_refl _, fun _ _ _ => rfl⟩⟩
  · obtain ⟨v', w', hr, h2, h3, _⟩ := run_append_own (P := P) w base t ty e i z size bytes ht hi hz hsize hby hzs hsz v n xs hown ⟨g, 0, none⟩ m cap ys hs.1 (hs.cells rfl) h1 h63 hbytes hbase
    obtain ⟨ao, c, rfl, _⟩ := owns_form h2
    exact ⟨ao, c, w', hr, h2, h3⟩

theorem wp_append_rows {o : Oper} {a : Act} {K : Act → World → Prop} {Q : Exit → Act → World → Prop} (s x : Operand) (t : TypeId)
    (ho : o.op = .call { callee := .builtin .append, args := #[s, x], argTypes := #[t, t] })
    (base : Nat) (e : TypeId) (i : TypeInfo) (z : Value) (size bytes : Nat) (ht : P.underlying t = some (.slice e)) (hi : P.info? e = some i) (hz : i.zero = some z) (hsize : i.size = size) (hby : i.bytes = bytes) (hzs : z.cells.size = size) (hsz : 0 < size)
    (v : Value) (n : Nat) (xs : List Value) (hs : a.eval s = v) (hown : w.ownsRow base e size v n xs) (v2 : Value) (base2 m : Nat) (ys : List Value) (hx : a.eval x = v2) (hsrc : w.ownsRow base2 e size v2 m ys) (h1 : ∀ u ∈ ys, u.oneCell' = true) (h63 : n + m ≤ maxLen) (hbytes : (n + m) * bytes ≤ 140737488355328) (hbase : base ≤ w.heap.size)
    (h : ∀ ao c w', w'.ownsRow base e size (.slice ao (n + m) c) (n + m) (xs ++ ys) → w.grownBy w' v.ownBlock → K (a.put o.dst (.slice ao (n + m) c)) w') : o.wp P a w K Q := by
  obtain ⟨ao, c, w', hrun, h2, h3⟩ := run_append_rows (P := P) w base t o.type e i z size bytes ht hi hz hsize hby hzs hsz v n xs hown v2 base2 m ys hsrc h1 h63 hbytes hbase
  unfold Oper.wp execOp
  simp only [ho, resolve, invoke, builtin, Sem.run_bind, Sem.run_pure, Result.andThen_ok, List.map_toArray, List.map_cons, List.map_nil, hs, hx, hrun]
  exact h ao c w' h2 h3

theorem wpList_append_rows {ops : Array Oper} {rest : List Oper} {o : Oper} {a : Act} {Q : Exit → Act → World → Prop} (hgd : o.guard = none) (s x : Operand) (t : TypeId)
    (ho : o.op = .call { callee := .builtin .append, args := #[s, x], argTypes := #[t, t] })
    (base : Nat) (e : TypeId) (i : TypeInfo) (z : Value) (size bytes : Nat) (ht : P.underlying t = some (.slice e)) (hi : P.info? e = some i) (hz : i.zero = some z) (hsize : i.size = size) (hby : i.bytes = bytes) (hzs : z.cells.size = size) (hsz : 0 < size)
    (v : Value) (n : Nat) (xs : List Value) (hs : a.eval s = v) (hown : w.ownsRow base e size v n xs) (v2 : Value) (base2 m : Nat) (ys : List Value) (hx : a.eval x = v2) (hsrc : w.ownsRow base2 e size v2 m ys) (h1 : ∀ u ∈ ys, u.oneCell' = true) (h63 : n + m ≤ maxLen) (hbytes : (n + m) * bytes ≤ 140737488355328) (hbase : base ≤ w.heap.size)
    (h : ∀ ao c w', w'.ownsRow base e size (.slice ao (n + m) c) (n + m) (xs ++ ys) → w.grownBy w' v.ownBlock → wpList P ops Q rest (a.put o.dst (.slice ao (n + m) c)) w') : wpList P ops Q (o :: rest) a w :=
  wpList_plain hgd fun _ hK => wp_append_rows w s x t ho base e i z size bytes ht hi hz hsize hby hzs hsz v n xs hs hown v2 base2 m ys hx hsrc h1 h63 hbytes hbase fun ao c w' h2 h3 => hK _ _ (h ao c w' h2 h3)

theorem step_append_rows {ops : Array Oper} {o : Oper} {a : Act} {K : Act → World → Prop} {Q : Exit → Act → World → Prop} {E : Prop} (hgd : o.guard = none) (s x : Operand) (t : TypeId)
    (ho : o.op = .call { callee := .builtin .append, args := #[s, x], argTypes := #[t, t] })
    (base : Nat) (e : TypeId) (i : TypeInfo) (z : Value) (size bytes : Nat) (ht : P.underlying t = some (.slice e)) (hi : P.info? e = some i) (hz : i.zero = some z) (hsize : i.size = size) (hby : i.bytes = bytes) (hzs : z.cells.size = size) (hsz : 0 < size)
    (v : Value) (n : Nat) (xs : List Value) (hs : a.eval s = v) (hown : w.ownsRow base e size v n xs) (v2 : Value) (base2 m : Nat) (ys : List Value) (hx : a.eval x = v2) (hsrc : w.ownsRow base2 e size v2 m ys) (h1 : ∀ u ∈ ys, u.oneCell' = true) (h63 : n + m ≤ maxLen) (hbytes : (n + m) * bytes ≤ 140737488355328) (hbase : base ≤ w.heap.size)
    (h : ∀ ao c w', w'.ownsRow base e size (.slice ao (n + m) c) (n + m) (xs ++ ys) → w.grownBy w' v.ownBlock → K (a.put o.dst (.slice ao (n + m) c)) w') :
    if Region.wanted o (yielded ops a.tmps) = true then Oper.wp P o a w K Q else E := by
  have hw : Region.wanted o (yielded ops a.tmps) = true := by simp [Region.wanted, hgd]
  rw [if_pos hw]
  exact wp_append_rows w s x t ho base e i z size bytes ht hi hz hsize hby hzs hsz v n xs hs hown v2 base2 m ys hx hsrc h1 h63 hbytes hbase h
end
end Go.Proofs.Ytpddpdkdlodniaa
