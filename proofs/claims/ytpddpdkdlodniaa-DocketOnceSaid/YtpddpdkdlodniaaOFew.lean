/-
  Contract: is a docket short enough for a law; the first blocks of a law.
-/
import Derived.Test.YtpddpdkdlodniaaOArgs2
namespace Go.Proofs.Ytpddpdkdlodniaa
open Go.RowKit

set_option maxHeartbeats 1000000 in
theorem few_yes (d : Dk) (ho mo : Option Addr) (hc mc : Nat) (w : World) (h1 : d.hol.length ≤ 12) (h2 : d.mts.length ≤ 10) :
    Calls Try.prog 23 #[.agg #[.int .i64 d.day, .int .i64 d.ans, .int .i64 d.app, .slice ho d.hol.length hc, .slice mo d.mts.length mc]] w fun e w' => e = .returned (.bool true) ∧ Below w.heap.size w w' := by
  have i1 : (d.hol.length : Int) ≤ 12 := by omega
  have i2 : (d.mts.length : Int) ≤ 10 := by omega
  go_enter Try.func23, Try.ntmps23
  go_wp2_with fail
  go_ret
  exact ⟨rfl, by go_grown⟩
set_option maxHeartbeats 1000000 in
theorem few_no (d : Dk) (ho mo : Option Addr) (hc mc : Nat) (w : World) (h : ¬ (d.hol.length ≤ 12 ∧ d.mts.length ≤ 10)) :
    Calls Try.prog 23 #[.agg #[.int .i64 d.day, .int .i64 d.ans, .int .i64 d.app, .slice ho d.hol.length hc, .slice mo d.mts.length mc]] w fun e w' => e = .returned (.bool false) ∧ Below w.heap.size w w' := by
  have hs : ¬ (d.hol.length : Int) ≤ 12 ∨ ((d.hol.length : Int) ≤ 12 ∧ ¬ (d.mts.length : Int) ≤ 10) := by omega
  clear h
  rcases hs with i1 | ⟨i1, i2⟩
  · go_enter Try.func23, Try.ntmps23
    go_wp2_with fail
    go_ret
    exact ⟨rfl, by go_grown⟩
  · go_enter Try.func23, Try.ntmps23
    go_wp2_with fail
    go_ret
    exact ⟨rfl, by go_grown⟩

abbrev b2Obj (x y : Int) : Obj := .cells #[.int .u8 x, .int .u8 y] 22
/-- A docket that came in, in a variable. -/
theorem dv_arg {w w2 : World} {d : Dk} {ho mo : Option Addr} {hc mc b : Nat} (h : DkArg w d ho hc mo mc) (hb : Below w.heap.size w w2) (hp : w2.heap[b]? = some (dkObj d.day d.ans d.app ho d.hol.length hc mo d.mts.length mc)) : Dv w2 b d ho hc mo mc :=
  ⟨hp, h.hI.next hb, h.hM.next hb, h.hn, h.mn, h.cap⟩
/-- Two blocks: a docket's, two bytes'. -/
theorem two_made {w W : World} {o : Array Value} {T : TypeId} {x y : Int} (hW : (w.alloc (.cells o T)).alloc (b2Obj x y) = W) : Below w.heap.size w W ∧ W.heap[w.heap.size]? = some (.cells o T (0, 0)) ∧ W.heap[w.heap.size + 1]? = some (b2Obj x y) := by
  refine ⟨by rw [← hW]; go_grown, by rw [← hW]; exact alloc_heap (heap_alloc_new w _), ?_⟩
  have := heap_alloc_new (w.alloc (.cells o T)) (b2Obj x y)
  rw [World.size_alloc] at this
  rw [← hW]
  exact this
theorem two_made' {w W : World} {o : Array Value} {T : TypeId} {x y : Int} (hW : (w.alloc (b2Obj x y)).alloc (.cells o T) = W) : Below w.heap.size w W ∧ W.heap[w.heap.size + 1]? = some (.cells o T (0, 0)) ∧ W.heap[w.heap.size]? = some (b2Obj x y) := by
  refine ⟨by rw [← hW]; go_grown, ?_, by rw [← hW]; exact alloc_heap (heap_alloc_new w _)⟩
  have := heap_alloc_new (w.alloc (b2Obj x y)) (.cells o T)
  rw [World.size_alloc] at this
  rw [← hW]
  exact this
theorem two_cells {W : World} {b : Nat} {x y : Value} {T : TypeId} (h : W.heap[b]? = some (.cells #[x, y] T (0, 0))) : W.cell? ⟨b, 0, none⟩ = some x ∧ W.cell? ⟨b, 1, none⟩ = some y :=
  ⟨by rw [cell_of_row _ _ _ _ _ _ h]; rfl, by rw [cell_of_row _ _ _ _ _ _ h]; rfl⟩
theorem built_big {x y : Int} {hs : List Int} {l : List Q4} : (builtD x y hs l).mts.length ≤ 1000 := by
  have := (builtD_good x y hs l).1.2.1
  omega
end Go.Proofs.Ytpddpdkdlodniaa
