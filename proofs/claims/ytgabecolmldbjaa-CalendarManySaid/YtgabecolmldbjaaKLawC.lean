/-
  CalendarMany and CalendarSplit return true for every input, and turn nothing that was there.
-/
import Derived.Test.YtgabecolmldbjaaKLawB
import Derived.Laws.OwnMore
namespace Go.Proofs.Ytgabecolmldbjaa
open Go.RowKit

theorem make_ints (n : Nat) (hn : n ≤ 1000000) (W : World) : (Instr.makeSlice 25 (.int .i64 (n : Int)) (.int .i64 (n : Int))).run Try.prog W = .ok (.slice (some ⟨W.heap.size, 0, none⟩) n n) (W.alloc (.cells (madeCells #[.int .i64 0] n) 3)) := by
  obtain ⟨i0, hi, hz0, hz1, hz2⟩ := info_split Try.infoInt
  have := run_make (P := Try.prog) W 25 3 i0 (.int .i64 0) Try.underlying25 hi hz0 .i64 .i64 n n (by omega) (Int.le_refl _) (by rw [hz2]; omega) (by omega)
  simp only [Int.toNat_natCast, hz1, Nat.mul_one] at this
  exact this

theorem ints_made (w : World) (n : Nat) : Ints (w.alloc (.cells (madeCells #[.int .i64 0] n) 3)) (some ⟨w.heap.size, 0, none⟩) (List.replicate n 0) := by
  refine .inr ⟨w.heap.size, 0, rfl, by simp, fun i hi j hj => ?_⟩
  obtain rfl : j = 0 := by omega
  rw [cell_of_row _ _ _ _ _ _ (heap_alloc_new w _)]
  have hi' : i < n := by simpa using hi
  rw [← Array.getElem?_toList, toList_madeCells_one]
  simp [List.getD, hi']

theorem add_err {H : List Int} {m n : Nat} {d e : Int} (h : AddIs H m n d e) (hm : m ≤ 1000) (n1 : n ≤ 1000) : e = if 1000 < H.length then 2 else 0 := by
  by_cases hl : 1000 < H.length
  · rw [if_pos hl]
    rcases h with ⟨-, -, h⟩ | ⟨h, -⟩ | ⟨h, -⟩
    · exact h
    · omega
    · omega
  · rw [if_neg hl]
    obtain ⟨x, -, he, -⟩ := add_found h (by omega) hm (by omega) (by omega)
    exact he
theorem count_err {H : List Int} {m n : Nat} {c e : Int} (h : CountIs H m n c e) (hm : m ≤ 1000) (n1 : n ≤ 1000) : e = if 1000 < H.length then 2 else 0 := by
  have h1 : isDayF (m : Int) = true := by simp [isDayF]; omega
  have h2 : isDayF (n : Int) = true := by simp [isDayF]; omega
  by_cases hl : 1000 < H.length
  · rw [if_pos hl]
    rcases h with ⟨-, -, h⟩ | ⟨h, -⟩ | ⟨h, -⟩
    · exact h
    · omega
    · omega
  · rw [if_neg hl]
    rcases h with ⟨h, -⟩ | ⟨-, h, -⟩ | ⟨-, -, -, -, h⟩
    · omega
    · rw [h1, h2] at h
      simp at h
    · exact h

set_option maxRecDepth 100000 in
set_option maxHeartbeats 2000000 in
theorem calendarMany_walk (n : Int) (w : World) (n0 : 0 ≤ n) (n1 : n ≤ 65535) :
    Calls Try.prog 8 #[.int .u16 n] w fun e w' => e = .returned (.bool true) ∧ Below w.heap.size w w' := by
  obtain ⟨k, hk⟩ : ∃ k : Nat, n % 2000 = k := ⟨(n % 2000).toNat, by omega⟩
  have hk2 : k < 2000 := by omega
  have hmod : n.tmod 2000 = k := by rw [Int.tmod_eq_emod_of_nonneg n0]; exact hk
  have hmk := make_ints k (by omega)
  have HIM := Lib.hid (ints_made w k)
  have hlr : (List.replicate k (0 : Int)).length = k := by simp
  obtain ⟨H, hH⟩ : ∃ H : List Int, List.replicate k 0 = H := ⟨_, rfl⟩
  rw [hH] at HIM hlr
  clear hk hH
  obtain ⟨W0, hW0⟩ : ∃ W0, W0 = w.alloc (.cells (madeCells #[.int .i64 0] k) 3) := ⟨_, rfl⟩
  have hb0 : Below w.heap.size w W0 := by rw [hW0]; exact (Below.refl _ _).alloc (Nat.le_refl _) _
  rw [← hW0] at HIM
  subst hlr
  have HC : Hid (Calls Try.prog 17 #[.int .i64 1, .slice (some ⟨w.heap.size, 0, none⟩) H.length H.length] W0 fun e w' => ∃ d, e = .returned (.tuple #[.int .i64 d, .int .i64 (if 1000 < H.length then 2 else 0)]) ∧ Below W0.heap.size W0 w') :=
    (next_any 1 _ H.length H W0 HIM.out).mono fun e w' ⟨d, er, he, hA, hb⟩ => ⟨d, by rw [he, add_err (m := 1) (n := 0) hA (by omega) (by omega)], hb⟩
  rw [hW0] at HC
  have hside : (1000 < H.length) ∨ ¬ 1000 < H.length := by omega
  rcases hside with hl | hl
  all_goals
    have hli : (1000 : Int) < (H.length : Int) ∨ ¬ (1000 : Int) < (H.length : Int) := by omega
    simp only [hl, if_true, if_false] at HC
    go_enter Try.func8, Try.ntmps8
    go_wp2_with fail
    refine HC.out.mono ?_
    rintro e w1 ⟨a, rfl, hb1⟩
    rw [← hW0] at hb1
    have HI1 := Lib.hid (HIM.out.next hb1)
    have HB1 := Lib.hid (hb0.trans (hb1.mono hb0.size))
    clear hb1 HC
    go_wp2_with fail
    refine (add_any 1 3 _ H.length H _ HI1.out).mono ?_
    rintro e w2 ⟨b, eb, rfl, hA, hb2⟩
    have he := add_err (m := 1) (n := 3) hA (by omega) (by omega)
    simp only [hl, if_true, if_false] at he
    subst he
    have HI2 := Lib.hid (HI1.out.next hb2)
    have HB2 := Lib.hid (HB1.out.trans (hb2.mono HB1.out.size))
    clear hA hb2
    go_wp2_with fail
    refine (count_any 1 9 _ H.length H _ HI2.out).mono ?_
    rintro e w3 ⟨c, ec, rfl, hA, hb3⟩
    have he := count_err (m := 1) (n := 9) hA (by omega) (by omega)
    simp only [hl, if_true, if_false] at he
    subst he
    have HB3 := Lib.hid (HB2.out.trans (hb3.mono HB2.out.size))
    clear hA hb3
    go_wp2_with fail
    refine (awake_any _).mono ?_
    rintro e w4 ⟨rfl, hb4⟩
    have HB4 := Lib.hid (HB3.out.trans (hb4.mono HB3.out.size))
    clear hb4
    go_wp2_with fail
    go_ret
    exact ⟨rfl, HB4.out⟩
end Go.Proofs.Ytgabecolmldbjaa
