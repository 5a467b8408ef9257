/-
  Contracts: the library's Grow at bytes.
-/
import Derived.Test.YtkbdbinafjmjkaaJSum
namespace Go.Proofs.Ytkbdbinafjmjkaa
open Go.RowKit

/-- An append that makes its elements: what it yields. -/
theorem wpList_append_made {P : Program} {ops : Array Oper} {rest : List Oper} {o : Oper} {a : Act} {w w' : World} {Q : Exit → Act → World → Prop} {v : Value} (hgd : o.guard = none) (s x : Operand) (t ti : TypeId)
    (ho : o.op = .call { callee := .builtin .append, args := #[s, x], argTypes := #[t, ti] }) (vs vx : Value) (hs : a.eval s = vs) (hx : a.eval x = vx)
    (hrun : (Builtin.append_ #[t, ti] o.type #[vs, vx]).run P w = .ok v w') (h : wpList P ops Q rest (a.put o.dst v) w') : wpList P ops Q (o :: rest) a w :=
  wpList_plain hgd fun _ hK => by
    unfold Oper.wp
    simp [execOp, ho, resolve, invoke, builtin, hs, hx, hrun, Result.andThen]
    exact hK _ _ h

theorem run_made (n : Nat) (w : World) (ty : TypeId) (hn : n ≤ 1000000) (h0 : 0 < n) (i0 : TypeInfo) (hi : Try.prog.info? 5 = some i0) (hz2 : i0.bytes = 1) :
    (Builtin.append_ #[30, 3] ty #[.slice none 0 0, .int .i64 (n : Int)]).run Try.prog w = .ok (.slice (some ⟨w.heap.size, 0, none⟩) n (grownCap w n 0 5))
      ((w.alloc (.cells (Builtin.zeroCells #[.int .u8 0] n ++ Builtin.zeroCells #[.int .u8 0] (grownCap w n 0 5 - n)) 5)).drew) := by
  have f1 : ¬ (281474976710656 : Int) < (n : Int) := by omega
  have f3 : Builtin.nextslicecap n 0 = n := by simp [Builtin.nextslicecap, h0]
  have f4 : ¬ 281474976710656 < n := by omega
  have f5 : ¬ (9223372036854775807 : Int) < (n : Int) := by omega
  have f6 : ¬ (n : Int) < 0 := by omega
  have f7 : IntKind.i64.wrap (n : Int) = n := IntWalk.i64_in _ ⟨by omega, by omega⟩
  have f8 : n ≠ 0 := by omega
  simp [Builtin.append_, go_sem, hi, hz2, f1, f3, f4, f5, f6, f7, f8, typeInfo, asInt, grownCap]

theorem zeroCells_size (n : Nat) : (Builtin.zeroCells #[.int .u8 0] n).size = n := by simp [Builtin.zeroCells]

set_option maxHeartbeats 400000 in
theorem grow_any (n : Nat) (w : World) (hn : n ≤ 1000000) :
    Calls Try.prog 57 #[.slice none 0 0, .int .i64 n] w fun e w' => ∃ go gc, e = .returned (.slice go 0 gc) ∧ w'.ownsRow w.heap.size 5 1 (.slice go 0 gc) 0 [] ∧ Below w.heap.size w w' := by
  obtain ⟨i0, hi, hz0, hz1, hz2⟩ := info_parts Try.infoByte
  by_cases h0 : n = 0
  · subst h0
    go_enter Try.func57, Try.ntmps57
    go_wp2_with fail
    go_ret
    exact ⟨none, 0, rfl, World.ownsRow_nil _ _ _ _, Below.refl _ _⟩
  · have hpos : 0 < (n : Int) := by omega
    have hge := grownCap_ge w n 0 5
    have hle := grownCap_le_maxLen w n 0 5 (by unfold maxLen; omega)
    have hown := World.ownsRow_made (base := w.heap.size) (e := 5) (size := 1) w (Builtin.zeroCells #[.int .u8 0] n ++ Builtin.zeroCells #[.int .u8 0] (grownCap w n 0 5 - n)) (grownCap w n 0 5) (Nat.le_refl _) hle (by rw [Array.size_append, zeroCells_size, zeroCells_size]; omega)
    have HO := Lib.hid hown.drew
    have HR : Hid (∀ ty, _) := fun ty => run_made n w ty hn (by omega) i0 hi hz2
    have hc : (0 : Int) ≤ (grownCap w n 0 5 : Int) := by omega
    generalize grownCap w n 0 5 = c at HO HR hge hle hc
    generalize Builtin.zeroCells #[.int .u8 0] n ++ Builtin.zeroCells #[.int .u8 0] (c - n) = cs at HO HR
    clear hown hz0 hz1 hz2
    go_enter Try.func57, Try.ntmps57
    go_wp2_with (at_builtin
                 refine wpList_append_made rfl (.tmp 20) (.tmp 21) 30 3 rfl _ _ rfl rfl (HR.out _) ?_)
    go_ret
    exact ⟨_, _, rfl, HO.out, by go_grown⟩
end Go.Proofs.Ytkbdbinafjmjkaa
