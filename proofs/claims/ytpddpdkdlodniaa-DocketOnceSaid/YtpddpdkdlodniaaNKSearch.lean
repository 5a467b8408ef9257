/-
  Contracts: the library's search, over whatever closure; SearchInts.
-/
import Derived.Test.YtpddpdkdlodniaaNKBase
import Derived.RegionTactic
import Derived.OwnWalk
import Derived.Shelf.Abstract
namespace Go.Proofs.Ytpddpdkdlodniaa
open Go.RowKit

set_option maxHeartbeats 1000000 in
/-- sort.Search: the place at which p turns from false to true. -/
theorem search_any (g : Nat) (cb : Array Value) (n : Nat) (p : Nat → Bool) (w : World) (eg : ∀ args w, (callFunc g args).run Try.prog w = .ok (.enter g args) w) (hn : n < 4611686018427387904)
    (hf : ∀ W i, i < n → Below w.heap.size w W → Calls Try.prog g (#[.int .i64 i] ++ cb) W fun e w' => e = .returned (.bool (p i)) ∧ Below w.heap.size w w') :
    Calls Try.prog 84 #[.int .i64 n, .func (.func g) #[] cb] w fun e w' => ∃ r : Nat, e = .returned (.int .i64 r) ∧ r ≤ n ∧ (∀ t, t + 1 = r → p t = false) ∧ (r < n → p r = true) ∧ Below w.heap.size w w' := by
  have HF := Lib.hid hf
  clear hf
  go_enter Try.func84, Try.ntmps84
  go_wp2
  go_loopw [5, 6] (fun s5 s6 wr => ∃ (lo hi : Nat), s5 = .int .i64 lo ∧ s6 = .int .i64 hi ∧ lo ≤ hi ∧ hi ≤ n ∧ Below w.heap.size w wr ∧ (∀ t, t + 1 = lo → p t = false) ∧ (hi < n → p hi = true)) (fun s5 s6 _ => (intOf s6).toNat - (intOf s5).toNat)
  case atStart => exact ⟨0, n, rfl, rfl, Nat.zero_le _, Nat.le_refl _, by go_grown, fun _ h => by omega, fun h => absurd h (Nat.lt_irrefl _)⟩
  case round =>
    obtain ⟨lo, hi, rfl, rfl, hlh, hin, hb, h1, h2⟩ := hrel
    have H1 := Lib.hid h1
    have H2 := Lib.hid h2
    have HB := Lib.hid hb
    clear h1 h2
    by_cases hlt : lo < hi
    · have hc := HF.out wr ((lo + hi) / 2) (by omega) hb
      rw [show (((lo + hi) / 2 : Nat) : Int) = ((lo : Int) + (hi : Int)) / 2 by omega] at hc
      clear hb
      cases hp : p ((lo + hi) / 2) <;> rw [hp] at hc
      · have HP := Lib.hid hp
        clear hp
        go_wp2_with (go_at_fn g; refine hc.mono ?_; rintro e w' ⟨rfl, hb2⟩)
        go_roundw
        case rel =>
          refine ⟨(lo + hi) / 2 + 1, hi, by rw [show ((lo : Int) + (hi : Int)) / 2 + 1 = (((lo + hi) / 2 + 1 : Nat) : Int) by omega], rfl, by omega, hin, hb2, fun t ht => ?_, H2.out⟩
          obtain rfl : t = (lo + hi) / 2 := by omega
          exact HP.out
        case measure => simp [intOf]; omega
      · have HP := Lib.hid hp
        clear hp
        go_wp2_with (go_at_fn g; refine hc.mono ?_; rintro e w' ⟨rfl, hb2⟩)
        go_roundw
        case rel => exact ⟨lo, (lo + hi) / 2, rfl, by rw [show ((lo : Int) + (hi : Int)) / 2 = (((lo + hi) / 2 : Nat) : Int) by omega], by omega, by omega, hb2, H1.out, fun _ => HP.out⟩
        case measure => simp [intOf]; omega
    · obtain rfl : hi = lo := by omega
      go_wp2
      go_ret
      exact ⟨hi, rfl, hin, H1.out, H2.out, HB.out⟩

set_option maxHeartbeats 1000000 in
/-- The closure of SearchInts. -/
theorem atLeast_any (ba bx : Nat) (ao : Option Addr) (l : List Int) (cap : Nat) (x : Int) (i : Nat) (W : World) (hi : i < l.length)
    (ha : W.cell? ⟨ba, 0, none⟩ = some (.slice ao l.length cap)) (hx : W.cell? ⟨bx, 0, none⟩ = some (.int .i64 x)) (hc : Ints W ao l) :
    Calls Try.prog 95 (#[.int .i64 i] ++ #[.pointer (some ⟨ba, 0, none⟩), .pointer (some ⟨bx, 0, none⟩)]) W fun e w' => e = .returned (.bool (decide (x ≤ l.getD i 0))) ∧ Below W.heap.size W w' := by
  obtain ⟨b, off, rfl, hb, hcs⟩ := hc.cells (by omega)
  have hci := hcs i hi
  generalize l.getD i 0 = y at hci ⊢
  have hiz : (i : Int) < (l.length : Int) := by omega
  clear hcs hc
  go_enter Try.func95, Try.ntmps95
  go_wp2
  go_region
  all_goals go_wp2
  all_goals go_ret
  all_goals exact ⟨by first | rfl | simp, (Below.refl _ _).drew⟩

theorem enters49 : ∀ args w, (callFunc 95 args).run Try.prog w = .ok (.enter 95 args) w := enters_of Try.func95 (by kernel_rfl) rfl

theorem count_place {l : List Int} (hs : l.Pairwise (· < ·)) (x : Int) (r : Nat) (hr : r ≤ l.length) (h1 : ∀ t, t + 1 = r → l.getD t 0 < x) (h2 : r < l.length → x ≤ l.getD r 0) : l.countP (fun y => decide (y < x)) = r := by
  induction l generalizing r with
  | nil => simp at hr; simp [hr]
  | cons a l ih =>
    obtain ⟨ha, hs⟩ := List.pairwise_cons.1 hs
    cases r with
    | zero =>
      have := h2 (by simp)
      simp at this
      rw [List.countP_eq_zero]
      intro y hy
      rcases List.mem_cons.1 hy with rfl | hy
      · simp; omega
      · have := ha y hy
        simp; omega
    | succ r =>
      have h3 := ih hs r (by simpa using hr) (fun t ht => by have := h1 (t + 1) (by omega); simpa using this) (fun hlt => by have := h2 (by simpa using hlt); simpa using this)
      have hax : a < x := by
        cases r with
        | zero => simpa using h1 0 rfl
        | succ r =>
          have h4 := h1 (r + 1) rfl
          have hr' : r < l.length := by simp at hr; omega
          have h5 := ha (l.getD r 0) (by simp [List.getD, hr'])
          simp at h4
          simp [List.getD] at h5
          omega
      simp [h3, hax]

set_option maxHeartbeats 1000000 in
theorem searchInts_any (ao : Option Addr) (l : List Int) (cap : Nat) (x : Int) (w : World) (hl : l.length < 4611686018427387904) (h : Ints w ao l) (hs : l.Pairwise (· < ·)) :
    Calls Try.prog 86 #[.slice ao l.length cap, .int .i64 x] w fun e w' => e = .returned (.int .i64 (l.countP (fun y => decide (y < x)) : Nat)) ∧ Below w.heap.size w w' := by
  obtain ⟨W0, hW0⟩ : ∃ W0, W0 = (w.alloc (.cells #[.slice ao l.length cap] 25)).alloc (.cells #[.int .i64 x] 3) := ⟨_, rfl⟩
  have hb0 : Below w.heap.size w W0 := by rw [hW0]; go_grown
  have ca : W0.heap[w.heap.size]? = some (.cells #[.slice ao l.length cap] 25 (0, 0)) := by
    rw [hW0]
    exact (Below.heap_alloc _ _ _ (by simp)).trans (heap_alloc_new w _)
  have cx : W0.heap[w.heap.size + 1]? = some (.cells #[.int .i64 x] 3 (0, 0)) := by
    rw [hW0]
    have := heap_alloc_new (w.alloc (.cells #[.slice ao l.length cap] 25)) (.cells #[.int .i64 x] 3)
    rwa [World.size_alloc] at this
  have hsz : W0.heap.size = w.heap.size + 2 := by rw [hW0]; simp
  have hS := search_any 95 #[.pointer (some ⟨w.heap.size, 0, none⟩), .pointer (some ⟨w.heap.size + 1, 0, none⟩)] l.length (fun i => decide (x ≤ l.getD i 0)) W0 enters49 hl
    (fun W i hi hW => (atLeast_any w.heap.size (w.heap.size + 1) ao l cap x i W hi
      ((hW.cell (p := ⟨w.heap.size, 0, none⟩) (by simp [hsz])).trans (by rw [cell_of_row _ _ _ _ _ _ ca]; rfl))
      ((hW.cell (p := ⟨w.heap.size + 1, 0, none⟩) (by simp [hsz])).trans (by rw [cell_of_row _ _ _ _ _ _ cx]; rfl)) (h.next (hb0.trans (hW.mono (by omega))))).mono fun _ _ ⟨he, hb⟩ => ⟨he, hW.trans (hb.mono hW.size)⟩)
  have HS := Lib.hid hS
  rw [hW0] at HS
  clear hS ca cx h
  go_enter Try.func86, Try.ntmps86
  go_wp2_with fail
  refine HS.out.mono ?_
  rintro e w' ⟨r, rfl, hr, h1, h2, hb⟩
  have hc := count_place hs x r hr (fun t ht => by simpa using h1 t ht) (fun hlt => by simpa using h2 hlt)
  rw [← hW0] at hb
  clear h1 h2 hs
  go_wp2_with fail
  go_ret
  exact ⟨by subst hc; rfl, hb0.trans (hb.mono (by omega))⟩
end Go.Proofs.Ytpddpdkdlodniaa
