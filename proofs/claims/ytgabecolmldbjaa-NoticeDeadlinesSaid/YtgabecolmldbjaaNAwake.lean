/-
  The sanity check of the chapter's example: true in every world.
-/
import Derived.Test.YtgabecolmldbjaaNServe
import Derived.Lib.QuietBelow
namespace Go.Proofs.Ytgabecolmldbjaa
open Go.RowKit

theorem lies_one {W : World} {b n size : Nat} {f : Nat → Nat → Value} (hb : b < W.heap.size) (h : ∀ i, i < n → ∀ j, j < size → W.cell? ⟨b, i * size + j, none⟩ = some (f i j)) : LiesAt W (some ⟨b, 0, none⟩) size n f :=
  .inr ⟨b, 0, rfl, hb, fun i hi j hj => by rw [Nat.zero_add]; exact h i hi j hj⟩

def fourCells (W : World) (b off : Nat) (s : ServiceD) : Prop :=
  W.cell? ⟨b, off, none⟩ = some (.int .i64 s.1) ∧ W.cell? ⟨b, off + 1, none⟩ = some (.int .i64 s.2.1) ∧ W.cell? ⟨b, off + 2, none⟩ = some (.int .i64 s.2.2.1) ∧ W.cell? ⟨b, off + 3, none⟩ = some (.bool s.2.2.2)

theorem four_of_lies {W : World} {ao : Option Addr} {n k : Nat} {ss : List ServiceD} (h : LiesAt W ao 4 n (serviceCell ss)) (hk : k < n) : ∃ b off, ao = some ⟨b, off, none⟩ ∧ b < W.heap.size ∧ fourCells W b (off + k * 4) (ss.getD k (0, 0, 0, false)) := by
  rcases h with h0 | ⟨b, off, rfl, hb, hc⟩
  · omega
  · exact ⟨b, off, rfl, hb, hc k hk 0 (by omega), hc k hk 1 (by omega), hc k hk 2 (by omega), hc k hk 3 (by omega)⟩

theorem four_below {W W' : World} {B b off : Nat} {s : ServiceD} (h : fourCells W b off s) (hb : Below B W W') (hB : b < B) : fourCells W' b off s :=
  ⟨(hb.cell hB).trans h.1, (hb.cell hB).trans h.2.1, (hb.cell hB).trans h.2.2.1, (hb.cell hB).trans h.2.2.2⟩

theorem wf_lit {n : Int} (h1 : -1000000000 ≤ n) (h2 : n ≤ 1000000000) : (Lit.int .i64 n).wf = true := wf_small h1 h2

set_option maxRecDepth 100000 in
theorem awake_call (W : World) (bn bl m c' : Nat) (lost : List LossD) (s : ServiceD) (hbn : bn < W.heap.size) (hbl : bl < W.heap.size) (hm : m = lost.length)
    (n0 : W.cell? ⟨bn, 0, none⟩ = some (.int .i64 0)) (n1 : W.cell? ⟨bn, 1, none⟩ = some (.int .i64 5))
    (hl : ∀ i, i < lost.length → ∀ j, j < 3 → W.cell? ⟨bl, i * 3 + j, none⟩ = some (lossCell lost i j)) (hf : ∀ x ∈ lost, LossFits x)
    (hx : checkF 3 2 10 [(0, 5)] lost.length = 0) (hs : servesFrom 3 2 10 lost 0 [(0, 5)] = [s]) :
    Calls Try.prog 38 #[.agg #[.int .i64 3, .int .i64 2, .int .i64 10], .slice (some ⟨bn, 0, none⟩) 1 1, .slice (some ⟨bl, 0, none⟩) m c'] W fun e w' =>
      ∃ b off rc, e = .returned (.tuple #[.slice (some ⟨b, off, none⟩) 1 rc, .int .i64 0]) ∧ b < w'.heap.size ∧ fourCells w' b off s ∧ Below W.heap.size W w' := by
  subst hm
  refine (serve_ok 3 2 10 (some ⟨bn, 0, none⟩) (some ⟨bl, 0, none⟩) 1 c' [(0, 5)] lost W (lies_one hbn ?_) (lies_one hbl hl) hf hx).mono ?_
  · intro i hi j hj
    have hi0 : i = 0 := by simp at hi; omega
    subst hi0
    match j, hj with
    | 0, _ => exact n0
    | 1, _ => exact n1
  · rintro e w' ⟨ro, rc, rfl, hlies, hb⟩
    rw [hs] at hlies
    obtain ⟨b, off, rfl, hbw, h4⟩ := four_of_lies (k := 0) hlies (by simp)
    exact ⟨b, off, rc, rfl, hbw, by simpa using h4, hb⟩

set_option maxHeartbeats 2000000 in
theorem awake_any (w : World) : Calls Try.prog 27 #[] w fun e w' => e = .returned (.bool true) ∧ Below w.heap.size w w' := by
  go_enter Try.func27, Try.ntmps27
  go_wp2_with fail
  refine (awake_call _ (w.heap.size + 1) (w.heap.size + 1 + 1) 1 1 [(0, 0, false)] (8, 2, 1, true) (by simp) (by simp) rfl (by simp [go_sem]) (by simp [go_sem]) ?_ ?_ (by decide +kernel) (by decide +kernel)).mono ?_
  · intro i hi j hj
    have hi0 : i = 0 := by simp at hi; omega
    subst hi0
    match j, hj with
    | 0, _ => simp [go_sem, lossCell]
    | 1, _ => simp [go_sem, lossCell]
    | 2, _ => simp [go_sem, lossCell]
  · intro x hx
    simp at hx
    subst hx
    exact ⟨by decide, by decide⟩
  rintro e w1 ⟨b1, o1, rc1, rfl, hbw1, h41, hb1⟩
  have hs1 : w.heap.size + 1 + 1 + 1 ≤ w1.heap.size := by have := hb1.size; simpa using this
  have p0 : w1.cell? ⟨w.heap.size, 0, none⟩ = some (.int .i64 3) := by rw [hb1.cell (by simp; try omega)]; simp [go_sem]
  have p1 : w1.cell? ⟨w.heap.size, 1, none⟩ = some (.int .i64 2) := by rw [hb1.cell (by simp; try omega)]; simp [go_sem]
  have p2 : w1.cell? ⟨w.heap.size, 2, none⟩ = some (.int .i64 10) := by rw [hb1.cell (by simp; try omega)]; simp [go_sem]
  have n0 : w1.cell? ⟨w.heap.size + 1, 0, none⟩ = some (.int .i64 0) := by rw [hb1.cell (by simp; try omega)]; simp [go_sem]
  have n1 : w1.cell? ⟨w.heap.size + 1, 1, none⟩ = some (.int .i64 5) := by rw [hb1.cell (by simp; try omega)]; simp [go_sem]
  have HB1 : Hid (Below w.heap.size w w1) := (show Below w.heap.size w (((w.alloc (.cells #[.int .i64 3, .int .i64 2, .int .i64 10] 62)).alloc (.cells #[.int .i64 0, .int .i64 5] 64)).alloc (.cells #[.int .i64 0, .int .i64 0, .bool false] 69)) by go_grown).trans (hb1.mono (by simp; omega))
  have H41 := Lib.hid h41
  clear hb1 h41
  have hp1 : w.heap.size + 1 < w1.heap.size := by omega
  have hp0 : w.heap.size < w1.heap.size := by omega
  go_wp2_with fail
  refine (awake_call _ (w.heap.size + 1) w1.heap.size 2 2 [(0, 0, true), (0, 1, true)] (18, 2, 2, false) (by simp; omega) (by simp) rfl (by rw [World.cell?_alloc_past _ _ _ hp1]; exact n0) (by rw [World.cell?_alloc_past _ _ _ hp1]; exact n1) ?_ ?_ (by decide +kernel) (by decide +kernel)).mono ?_
  · intro i hi j hj
    have hi0 : i = 0 ∨ i = 1 := by simp at hi; omega
    rcases hi0 with rfl | rfl
    · match j, hj with
      | 0, _ => simp [go_sem, lossCell]
      | 1, _ => simp [go_sem, lossCell]
      | 2, _ => simp [go_sem, lossCell]
    · match j, hj with
      | 0, _ => simp [go_sem, lossCell]
      | 1, _ => simp [go_sem, lossCell]
      | 2, _ => simp [go_sem, lossCell]
  · intro x hx
    simp at hx
    rcases hx with rfl | rfl <;> exact ⟨by decide, by decide⟩
  rintro e w2 ⟨b2, o2, rc2, rfl, hbw2, h42, hb2⟩
  have hb2' : Below w1.heap.size w1 w2 := ((Below.refl w1.heap.size w1).alloc (Nat.le_refl _) _).trans (hb2.mono (by simp))
  obtain ⟨q0, q1, q2, q3⟩ := four_below H41.out hb2' hbw1
  obtain ⟨r0, r1, r2, r3⟩ := h42
  have HB : Hid (Below w.heap.size w w2) := HB1.out.trans (hb2'.mono (by omega))
  clear hb2 hb2' H41 HB1 p0 p1 p2 n0 n1 hs1 hp1 hp0
  simp only at q0 q1 q2 q3 r0 r1 r2 r3
  go_wp2_with fail
  go_ret
  exact ⟨rfl, HB.out⟩
end Go.Proofs.Ytgabecolmldbjaa
