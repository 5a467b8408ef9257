/-
  What the laws on one disk share: making bytes, appending to a disk that runs, what a crash keeps.
-/
import Derived.Test.YtkbdbinafjmjkaaDLawOwn
import Derived.Test.YtkbdbinafjmjkaaDArgs
namespace Go.Proofs.Ytkbdbinafjmjkaa
open Go.RowKit

theorem make_bytes (n : Nat) (hn : n ≤ 1000000) (W : World) : (Instr.makeSlice 30 (.int .i64 (n : Int)) (.int .i64 (n : Int))).run Try.prog W = .ok (.slice (some ⟨W.heap.size, 0, none⟩) n n) (W.alloc (.cells (madeCells #[.int .u8 0] n) 5)) := by
  obtain ⟨i0, hi, hz0, hz1, hz2⟩ := info_parts Try.infoByte
  have := run_make (P := Try.prog) W 30 5 i0 (.int .u8 0) Try.underlying30 hi hz0 .i64 .i64 n n (by omega) (Int.le_refl _) (by rw [hz2]; omega) (by omega)
  simp only [Int.toNat_natCast, hz1, Nat.mul_one] at this
  exact this

theorem byt_made (w : World) (t : TypeId) (n : Nat) : Byt (w.alloc (.cells (madeCells #[.int .u8 0] n) t)) (some ⟨w.heap.size, 0, none⟩) (List.replicate n 0) := by
  refine byt_lit w t (0, 0) _ _ ?_
  apply Array.toList_inj.1
  rw [toList_madeCells_one]
  simp [bcells]

theorem zeros_ok (n : Nat) : Bytes (List.replicate n 0) := fun x hx => by
  have := (List.mem_replicate.1 hx).2
  omega

/-- An append to a disk that runs and has room. -/
theorem append_runs {s : DS} {b : List Int} (h : s.cut = none) (hl : (s.bs.length : Int) + b.length ≤ s.room) : appendF s b = (0, { begun s with bs := s.bs ++ b }) := by
  unfold appendF
  rw [if_pos (by simp [live, h]), if_neg (by omega)]

theorem sync_runs {s : DS} (h : s.cut = none) : syncF s = (0, { begun s with dur := s.bs.length }) := by
  unfold syncF
  rw [if_pos (by simp [live, h])]

theorem begun_cut {s : DS} (h : s.cut = none) : (begun s).cut = none := by simp [begun, h]

/-- A crash keeps what is durable, and makes nothing longer. -/
theorem crash_keeps {s : DS} (h : DOk s) (keep flip : Int) : (crashB s keep flip).take s.dur = s.bs.take s.dur ∧ s.dur ≤ (crashB s keep flip).length ∧ (crashB s keep flip).length ≤ s.bs.length := by
  have h1 := kept_le (s := s) keep
  have h2 := crashB_length h keep flip
  have h3 := h.dur
  refine ⟨?_, by omega, by omega⟩
  unfold crashB
  split
  · rename_i hk
    have hl : (s.bs.take (s.dur + keptOf s keep)).length = s.dur + keptOf s keep := by simp; omega
    unfold flipLast
    rw [hl, List.take_set_of_le (by omega), List.take_take]
    congr 1
    omega
  · rw [List.take_take]
    congr 1
    omega

theorem str_take (l : List Int) (n : Nat) : (strOfNums l).extract 0 n = strOfNums (l.take n) := by
  apply ByteArray.ext
  simp [strOfNums, ByteArray.data_extract, List.map_take]
end Go.Proofs.Ytkbdbinafjmjkaa
