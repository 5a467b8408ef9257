/-
  Contracts: how many business days there are before a day; the n-th business day.
-/
import Derived.Test.YtpddpdkdlodniaaNKSearch
import Derived.Deep.RegionHeld3
namespace Go.Proofs.Ytpddpdkdlodniaa
open Go.RowKit

set_option maxHeartbeats 1000000 in
theorem before_any {H C : List Int} (hC : Closed H C) (ao : Option Addr) (cap n : Nat) (w : World) (hI : Ints w ao C) (hl : C.length ≤ 1000000) (hn : n ≤ 1048577) :
    Calls Try.prog 68 #[.slice ao C.length cap, .int .i64 n] w fun e w' => e = .returned (.int .i64 (cnt H n : Nat)) ∧ Below w.heap.size w w' := by
  have hlaw := before_law hC n hn
  have hcl := List.countP_le_length (p := fun y : Int => decide (y < (n : Int))) (l := C)
  have HS := Lib.hid (searchInts_any ao C cap (n : Int) w (by omega) hI hC.asc)
  generalize C.countP (fun y => decide (y < (n : Int))) = k at hlaw hcl HS
  obtain ⟨q, hq⟩ : ∃ q : Nat, (n : Int) / 7 = q := ⟨n / 7, by omega⟩
  obtain ⟨m, hm⟩ : ∃ m : Nat, (n : Int) % 7 = m := ⟨n % 7, by omega⟩
  have t1 : (n : Int).tdiv 7 = q := by rw [Int.tdiv_eq_ediv_of_nonneg (by omega)]; exact hq
  have t2 : (n : Int).tmod 7 = m := by have := tmod7 (n : Int); omega
  have hq1 : (q : Int) ≤ 149797 := by omega
  have hm1 : (m : Int) ≤ 6 := by omega
  rw [hq, hm] at hlaw
  have hside : (m : Int) ≤ 5 ∨ ¬ (m : Int) ≤ 5 := by omega
  clear hI hC
  rcases hside with h5 | h5
  · rw [if_pos h5] at hlaw
    have HL := Lib.hid hlaw
    clear hlaw
    go_enter Try.func68, Try.ntmps68
    go_wp2_with fail
    refine HS.out.mono ?_
    rintro e w' ⟨rfl, hb⟩
    go_wp2_with fail
    go_ret
    exact ⟨by rw [← HL.out]; rfl, hb⟩
  · rw [if_neg h5] at hlaw
    have HL := Lib.hid hlaw
    clear hlaw
    go_enter Try.func68, Try.ntmps68
    go_wp2_with fail
    refine HS.out.mono ?_
    rintro e w' ⟨rfl, hb⟩
    go_wp2_with fail
    go_ret
    exact ⟨by rw [← HL.out]; rfl, hb⟩

set_option maxHeartbeats 400000 in
/-- The closure of nth. -/
theorem past_any {H C : List Int} (hC : Closed H C) (ba bx : Nat) (ao : Option Addr) (cap : Nat) (T : Int) (i : Nat) (W : World) (hi : i ≤ 1048576) (hl : C.length ≤ 1000000)
    (ha : W.cell? ⟨ba, 0, none⟩ = some (.slice ao C.length cap)) (hx : W.cell? ⟨bx, 0, none⟩ = some (.int .i64 T)) (hI : Ints W ao C) :
    Calls Try.prog 85 (#[.int .i64 i] ++ #[.pointer (some ⟨ba, 0, none⟩), .pointer (some ⟨bx, 0, none⟩)]) W fun e w' => e = .returned (.bool (decide (T < (cnt H (i + 1) : Nat)))) ∧ Below W.heap.size W w' := by
  have HB : Hid (∀ W', Below W.heap.size W W' → Calls Try.prog 68 #[.slice ao C.length cap, .int .i64 ((i : Int) + 1)] W' fun e w' => e = .returned (.int .i64 (cnt H (i + 1) : Nat)) ∧ Below W'.heap.size W' w') :=
    fun W' hW => by
      have := before_any hC ao cap (i + 1) W' (hI.next hW) hl (by omega)
      rwa [show ((i + 1 : Nat) : Int) = (i : Int) + 1 by omega] at this
  generalize cnt H (i + 1) = y at HB ⊢
  have hi0 : (0 : Int) ≤ (i : Int) := by omega
  have hi1 : (i : Int) ≤ 1048576 := by omega
  have hwr : IntKind.i64.wrap ((i : Int) + 1) = (i : Int) + 1 := IntWalk.i64_in _ ⟨by omega, by omega⟩
  have hba := World.block_lt_of_cell? W _ ha
  have hbx := World.block_lt_of_cell? W _ hx
  clear hI hC
  go_enter Try.func85, Try.ntmps85
  go_wp2_with fail
  go_region_held3 (fun w' => w'.cell? ⟨ba, 0, none⟩ = some (.slice ao C.length cap) ∧ w'.cell? ⟨bx, 0, none⟩ = some (.int .i64 T))
    (go_keep)
    (first
      | (go_at_call 68
         refine (HB.out _ ?_).mono ?_
         exact ⟨rfl, rfl, rfl, Nat.le_refl _, fun _ _ => rfl⟩
         rintro e w3 ⟨rfl, hb3⟩
         have hb4 : Below W.heap.size W w3 := Below.trans ((Below.refl _ _).drew) hb3
         have d0 := (hb4.cell (p := ⟨ba, 0, none⟩) hba).trans ha
         have d1 := (hb4.cell (p := ⟨bx, 0, none⟩) hbx).trans hx))
  go_wp2_with fail
  go_ret
  exact ⟨rfl, hb4⟩

theorem enters42 : ∀ args w, (callFunc 85 args).run Try.prog w = .ok (.enter 85 args) w := enters_of Try.func85 (by kernel_rfl) rfl

set_option maxHeartbeats 1000000 in
theorem nth_any {H C : List Int} (hC : Closed H C) (ao : Option Addr) (cap : Nat) (T : Int) (w : World) (hT : 0 ≤ T) (hI : Ints w ao C) (hl : C.length ≤ 1000000) :
    Calls Try.prog 67 #[.slice ao C.length cap, .int .i64 T] w fun e w' => ∃ d er, e = .returned (.tuple #[.int .i64 d, .int .i64 er]) ∧ NthIs H T d er ∧ Below w.heap.size w w' := by
  obtain ⟨W0, hW0⟩ : ∃ W0, W0 = (w.alloc (.cells #[.slice ao C.length cap] 113)).alloc (.cells #[.int .i64 T] 3) := ⟨_, rfl⟩
  have hb0 : Below w.heap.size w W0 := by rw [hW0]; go_grown
  have ca : W0.heap[w.heap.size]? = some (.cells #[.slice ao C.length cap] 113 (0, 0)) := by
    rw [hW0]
    exact (Below.heap_alloc _ _ _ (by simp)).trans (heap_alloc_new w _)
  have cx : W0.heap[w.heap.size + 1]? = some (.cells #[.int .i64 T] 3 (0, 0)) := by
    rw [hW0]
    have := heap_alloc_new (w.alloc (.cells #[.slice ao C.length cap] 113)) (.cells #[.int .i64 T] 3)
    rwa [World.size_alloc] at this
  have hsz : W0.heap.size = w.heap.size + 2 := by rw [hW0]; simp
  have hS := search_any 85 #[.pointer (some ⟨w.heap.size, 0, none⟩), .pointer (some ⟨w.heap.size + 1, 0, none⟩)] 1048577 (fun i => decide (T < (cnt H (i + 1) : Nat))) W0 enters42 (by omega)
    (fun W i hi hW => (past_any hC w.heap.size (w.heap.size + 1) ao cap T i W (by omega) hl
      ((hW.cell (p := ⟨w.heap.size, 0, none⟩) (by simp [hsz])).trans (by rw [cell_of_row _ _ _ _ _ _ ca]; rfl))
      ((hW.cell (p := ⟨w.heap.size + 1, 0, none⟩) (by simp [hsz])).trans (by rw [cell_of_row _ _ _ _ _ _ cx]; rfl)) (hI.next (hb0.trans (hW.mono (by omega))))).mono fun _ _ ⟨he, hb⟩ => ⟨he, hW.trans (hb.mono hW.size)⟩)
  have HS := Lib.hid hS
  rw [hW0] at HS
  clear hS ca cx hI hC
  go_enter Try.func67, Try.ntmps67
  go_wp2_with fail
  refine HS.out.mono ?_
  rintro e w' ⟨r, rfl, hr, h1, h2, hb⟩
  rw [← hW0] at hb
  have hbw := hb0.trans (hb.mono (by omega))
  by_cases hend : 1048576 < r
  · obtain rfl : r = 1048577 := by omega
    have hN : NthIs H T 0 1 := .inr ⟨by have := h1 1048576 rfl; simpa using this, rfl, rfl⟩
    clear h1 h2
    go_wp2_with fail
    go_ret2
    exact ⟨_, _, rfl, hN, hbw⟩
  · have hN : NthIs H T r 0 := by
      refine .inl ⟨r, rfl, by omega, ?_, by have := h2 (by omega); simpa using this, rfl⟩
      cases r with
      | zero => simpa [cnt_zero] using hT
      | succ r => have := h1 r rfl; simpa using this
    have hri : (r : Int) ≤ 1048576 := by omega
    clear h1 h2
    go_wp2_with fail
    go_ret2
    exact ⟨_, _, rfl, hN, hbw⟩
end Go.Proofs.Ytpddpdkdlodniaa
