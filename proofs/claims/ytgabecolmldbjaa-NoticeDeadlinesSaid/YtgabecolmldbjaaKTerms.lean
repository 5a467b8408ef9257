/-
  Contract: the terms that a law makes out of numbers: their holidays.
-/
import Derived.Test.YtgabecolmldbjaaKDead2
import Derived.Deep.RegionLaw
namespace Go.Proofs.Ytgabecolmldbjaa
open Go.RowKit

/-- A slice of 16-bit numbers. -/
def U16s (w : World) (ao : Option Addr) (l : List Int) : Prop := LiesAt w ao 1 l.length (fun i _ => .int .u16 (l.getD i 0))
/-- The block of terms that is filled. -/
def TermsAt (w : World) (b : Nat) (v : Value) : Prop := w.heap[b]? = some (.cells #[.int .i64 1, .int .i64 1, v] 47 (0, 0))

theorem keep_block {wr w4 : World} {base e size n b : Nat} {v : Value} {xs : List Value} {o : Obj} (hown : wr.ownsRow base e size v n xs) (hg : (wr.alloc o).drew.grownBy w4 v.ownBlock) (hb : b < base) (hlt : b < wr.heap.size) : w4.heap[b]? = wr.heap[b]? := by
  have h1 := hg.block b (by show b < (wr.alloc o).heap.size; simp; omega) (fun e => by have := (hown.lt b e.symm).1; omega)
  exact h1.trans (Below.heap_alloc wr o b hlt)
theorem owns_set {w : World} {base e size n b i : Nat} {v u : Value} {xs : List Value} (h : w.ownsRow base e size v n xs) (hb : b < base) : (w.setCell ⟨b, i, none⟩ u).ownsRow base e size v n xs := by
  refine ⟨h.1, ?_⟩
  rcases h.2 with h2 | ⟨g, cap, cur, hv, hg, hh, r⟩
  · exact .inl h2
  · exact .inr ⟨g, cap, cur, hv, hg, by rw [Below.heap_setCell w _ u g (by show ¬ g = b; omega)]; exact hh, r⟩
theorem ints_set {w : World} {b i : Nat} {u : Value} {ao : Option Addr} {l : List Int} (h : Ints w ao l) (hn : ∀ g off, ao = some ⟨g, off, none⟩ → g ≠ b) : Ints (w.setCell ⟨b, i, none⟩ u) ao l := by
  rcases h with h | ⟨g, off, rfl, hlt, hc⟩
  · exact .inl h
  · refine .inr ⟨g, off, rfl, by simpa using hlt, fun k hk j hj => ?_⟩
    exact (World.cell?_of_block (Below.heap_setCell w _ u g (hn g off rfl))).trans (hc k hk j hj)

theorem set_same {w : World} {b i : Nat} {cs : Array Value} {t : TypeId} (u : Value) (h : w.heap[b]? = some (.cells cs t (0, 0))) (hi : i < cs.size) : (w.setCell ⟨b, i, none⟩ u).cell? ⟨b, i, none⟩ = some u := by
  rw [cell_of_row _ _ _ _ _ _ (heap_setCell_same w b i cs t u h)]
  simp [hi]

set_option maxRecDepth 100000 in
set_option maxHeartbeats 2000000 in
theorem terms_any (ao : Option Addr) (cap : Nat) (hs : List Int) (w : World) (hL : U16s w ao hs) (hr : ∀ i, 0 ≤ hs.getD i 0 ∧ hs.getD i 0 ≤ 65535) :
    Calls Try.prog 28 #[.agg #[.int .u8 0, .int .u8 0], .slice ao hs.length cap] w fun e w' => ∃ a b ho hc H, e = .returned (.agg #[.int .i64 a, .int .i64 b, .slice ho (List.length H) hc]) ∧ Ints w' ho H ∧ H.length ≤ 6 ∧ Below w.heap.size w w' := by
  obtain ⟨i0, hi, hz0, hz1, hz2⟩ := info_split Try.infoInt
  have HL := Lib.hid hL
  have HR := Lib.hid hr
  clear hL hr
  go_enter Try.func28, Try.ntmps28
  go_wp2_with fail
  go_loopw [6] (fun i wr => ∃ (k : Nat) (v : Value) (H : List Int), k ≤ hs.length ∧ k ≤ 6 ∧ i = .int .i64 k ∧ H.length = k ∧ wr.ownsRow (w.heap.size + 3) 3 1 v k (H.map (Value.int .i64)) ∧ TermsAt wr (w.heap.size + 2) v ∧
    (∃ o, wr.heap[w.heap.size + 1]? = some (.cells o 47 (0, 0)) ∧ o.size = 3) ∧ Below w.heap.size w wr) (fun i _ => 6 - (intOf i).toNat)
  case atStart =>
    refine ⟨0, .slice none 0 0, [], Nat.zero_le _, by omega, rfl, rfl, World.ownsRow_nil _ _ _ _, ?_, ⟨#[.int .i64 0, .int .i64 0, .slice none 0 0], ?_, rfl⟩, by go_grown⟩
    · have := heap_alloc_new ((w.alloc (Obj.cells #[Value.int IntKind.u8 0, Value.int IntKind.u8 0] 49)).alloc (Obj.cells #[Value.int IntKind.i64 0, Value.int IntKind.i64 0, Value.slice none 0 0] 47)) (Obj.cells #[Value.int IntKind.i64 1, Value.int IntKind.i64 1, Value.slice none 0 0] 47)
      rw [World.size_alloc, World.size_alloc] at this
      exact this
    · rw [Below.heap_alloc _ _ _ (by simp)]
      have := heap_alloc_new (w.alloc (Obj.cells #[Value.int IntKind.u8 0, Value.int IntKind.u8 0] 49)) (Obj.cells #[Value.int IntKind.i64 0, Value.int IntKind.i64 0, Value.slice none 0 0] 47)
      rw [World.size_alloc] at this
      exact this
  case round =>
    obtain ⟨k, v, H, hk, hk6, rfl, hHl, hown, ht, ⟨o, ho, hos⟩, hb⟩ := hrel
    have hbs : w.heap.size + 2 < wr.heap.size := (Array.getElem?_eq_some_iff.1 ht).1
    have f2 : wr.cell? ⟨w.heap.size + 2, 2, none⟩ = some v := by rw [cell_of_row _ _ _ _ _ _ ht]; rfl
    by_cases hlt : k < hs.length ∧ k < 6
    · obtain ⟨hlt, h6⟩ := hlt
      rcases HL.out with h0 | ⟨b, off, rfl, hbw, hc0⟩
      · omega
      have hc : wr.cell? ⟨b, off + k, none⟩ = some (.int .u16 (hs.getD k 0)) := by
        have := hc0 k hlt 0 (by omega)
        rw [Nat.mul_one, Nat.add_zero] at this
        exact (hb.cell (p := ⟨b, off + k, none⟩) hbw).trans this
      obtain ⟨z0, z1⟩ := HR.out k
      obtain ⟨z, hz⟩ : ∃ z, z = hs.getD k 0 := ⟨_, rfl⟩
      rw [← hz] at hc z0 z1
      have hmod : z.tmod 60 = z % 60 := Int.tmod_eq_emod_of_nonneg z0
      have hb0 : 0 ≤ z % 60 := by omega
      have hb1 : z % 60 < 60 := by omega
      have hwz : IntKind.i64.wrap (z % 60) = z % 60 := IntWalk.i64_in _ ⟨by omega, by omega⟩
      have HO := Lib.hid hown
      have HT := Lib.hid ht
      have HB := Lib.hid hb
      have HH := Lib.hid ho
      have hk0 : (0 : Int) ≤ (k : Int) := Int.natCast_nonneg _
      have hk1 : (k : Int) < (hs.length : Int) := by omega
      clear hc0 hz hown ht hb ho
      go_wp2_with fail
      go_region_law (
        refine step_append_lies _ (by rfl) _ _ _ (by rfl) (w.heap.size + 3) 3 i0 (.int .i64 0) 1 8 Try.underlying25 hi hz0 hz1 hz2 rfl (by omega) _ k _ (by rfl) ((HO.out.alloc _).drew)
          ⟨wr.heap.size, 0, none⟩ 1 1 [.int .i64 (z % 60)] (by rfl) (by rfl) (World.news_of_block (cs := #[.int .i64 (z % 60)]) (t := 3) (fr := (0, 0)) (heap_alloc_new wr _)) (by simp [Value.oneCell'])
          (by omega) (by unfold maxLen; omega) (by omega) (by simp; omega) (wr.heap.size + 1) (by simp) ?_
        intro gg cap4 w4 hown4 hg4 hat4 hlt4
        have k2 := (keep_block HO.out hg4 (b := w.heap.size + 2) (by omega) (by omega)).trans HT.out
        have k1 := (keep_block HO.out hg4 (b := w.heap.size + 1) (by omega) (by omega)).trans HH.out
        have g2 : w4.cell? ⟨w.heap.size + 2, 2, none⟩ = some v := by rw [cell_of_row _ _ _ _ _ _ k2]; rfl
        have g3 : w4.frozen? ⟨w.heap.size + 2, 2, none⟩ = false := frozen_of_row _ _ _ _ _ k2)
      all_goals
        go_wp2_with fail
        go_roundw
        case rel =>
          have hb4 : Below w.heap.size w w4 := ((HB.out.alloc HB.out.size _).drew).grown hg4 (by show w.heap.size ≤ (wr.alloc _).heap.size; simp; omega) (fun j hj => by have := (HO.out.lt j hj).1; omega)
          have hle : w.heap.size ≤ w.heap.size + 1 + 1 := by omega
          refine ⟨k + 1, .slice (some ⟨gg, 0, none⟩) (k + 1) cap4, H ++ [z % 60], hlt, h6, by go_num, by simp [hHl], ?_, ?_, ⟨o, ?_, hos⟩, hb4.setCell hle _⟩
          · have := owns_set (b := w.heap.size + 2) (i := 2) (u := Value.slice (some ⟨gg, 0, none⟩) (k + 1) cap4) hown4 (by omega)
            simpa using this
          · exact heap_setCell_same w4 (w.heap.size + 2) 2 _ _ _ k2
          · exact (Below.heap_setCell w4 _ _ (w.heap.size + 1) (by show ¬ w.heap.size + 1 = w.heap.size + 2; omega)).trans k1
        case measure => simp [intOf]; omega
    · have hside : ¬ k < hs.length ∨ k < hs.length ∧ ¬ k < 6 := by omega
      subst hHl
      obtain ⟨ro, rc, rfl, hR⟩ := owns_ints2 hown
      have hng : ∀ g off, ro = some ⟨g, off, none⟩ → g ≠ w.heap.size + 1 := fun g off e => by
        subst e
        have := (hown.lt g rfl).1
        omega
      have e0 : wr.cell? ⟨w.heap.size + 2, 0, none⟩ = some (.int .i64 1) := by rw [cell_of_row _ _ _ _ _ _ ht]; rfl
      have e1 : wr.cell? ⟨w.heap.size + 2, 1, none⟩ = some (.int .i64 1) := by rw [cell_of_row _ _ _ _ _ _ ht]; rfl
      have r0 := cell_of_row _ _ 0 _ _ _ ho
      have r1 := cell_of_row _ _ 1 _ _ _ ho
      have r2 := cell_of_row _ _ 2 _ _ _ ho
      have q0 := frozen_of_row _ _ 0 _ _ ho
      have q1 := frozen_of_row _ _ 1 _ _ ho
      have q2 := frozen_of_row _ _ 2 _ _ ho
      rw [Array.getElem?_eq_getElem (by omega)] at r0 r1 r2
      have s0 := set_same (i := 0) (.int .i64 1) ho (by omega)
      have p0 := heap_setCell_same wr (w.heap.size + 1) 0 o _ (.int .i64 1) ho
      have s1 := set_same (i := 1) (.int .i64 1) p0 (by simp; omega)
      have p1 := heap_setCell_same _ (w.heap.size + 1) 1 _ _ (.int .i64 1) p0
      have s2 := set_same (i := 2) (.slice ro H.length rc) p1 (by simp; omega)
      have HR2 := Lib.hid hR
      have HNG := Lib.hid hng
      have HB := Lib.hid hb
      clear hR hng hb hown ht ho hlt p0 p1
      rcases hside with hs1 | ⟨hs1, hs2⟩
      all_goals
        go_wp2_with fail
        refine bodyPost_ret (by simp [results, Try.results28, go_sem, s0, s1, s2]; rfl) rfl ?_
        exact ⟨1, 1, ro, rc, H, rfl, ints_set (ints_set (ints_set HR2.out HNG.out) HNG.out) HNG.out, hk6, ((HB.out.setCell (Nat.le_succ _) _).setCell (Nat.le_succ _) _).setCell (Nat.le_succ _) _⟩
end Go.Proofs.Ytgabecolmldbjaa
