/-
  Contracts: whether a record is too long.
-/
import Derived.Test.YtkbdbinafjmjkaaJOpen2
namespace Go.Proofs.Ytkbdbinafjmjkaa
open Go.RowKit

theorem long_one (ao : Option Addr) (n cap : Nat) (w : World) :
    Calls Try.prog 45 #[.slice ao n cap] w fun e w' => e = .returned (.bool (decide (4096 < (n : Int)))) ∧ w = w' := by
  go_enter Try.func45, Try.ntmps45
  go_wp2_with fail
  go_ret
  exact ⟨rfl, rfl⟩

/-- Whether a record is too long. -/
def longF (rs : List (List Int)) : Bool := rs.any fun r => decide (4096 < (r.length : Int))

theorem any_drop (rs : List (List Int)) (k : Nat) (h : k < rs.length) : longF (rs.drop k) = (decide (4096 < ((rs.getD k []).length : Int)) || longF (rs.drop (k + 1))) := by
  have hd : rs.drop k = rs.getD k [] :: rs.drop (k + 1) := by
    rw [List.drop_eq_getElem_cons h]
    simp [List.getD, h]
  rw [hd]
  rfl

set_option maxHeartbeats 1000000 in
theorem index_any (ao : Option Addr) (cap n : Nat) (rs : List (List Int)) (w : World) (hn : rs.length = n) (hR : Recs w ao rs) (hl : n ≤ 1000000) :
    Calls Try.prog 52 #[.slice ao n cap, .func (.func 45) #[] #[]] w fun e w' => ∃ i : Int, e = .returned (.int .i64 i) ∧ decide (0 ≤ i) = longF rs ∧ w = w' := by
  subst hn
  have HR := Lib.hid hR
  have hli : (rs.length : Int) ≤ 1000000 := by omega
  clear hR
  go_enter Try.func52, Try.ntmps52
  go_wp2_with fail
  go_loopw [8] (fun i wr => ∃ k : Nat, k ≤ rs.length ∧ i = .int .i64 k ∧ longF rs = longF (rs.drop k) ∧ wr = w) (fun i _ => rs.length - (intOf i).toNat)
  case atStart => exact ⟨0, Nat.zero_le _, rfl, rfl, rfl⟩
  case round =>
    obtain ⟨k, hk, rfl, hlo, rfl⟩ := hrel
    have HLO := Lib.hid hlo
    clear hlo
    by_cases hlt : k < rs.length
    · rcases HR.out with h0 | ⟨b, off, rfl, hbw, hc0⟩
      · rw [h0] at hlt
        simp at hlt
      obtain ⟨po, pc, hc, -⟩ := hc0 k hlt
      have had := any_drop rs k hlt
      have hk0 : (0 : Int) ≤ (k : Int) := Int.natCast_nonneg _
      have hk1 : (k : Int) < (rs.length : Int) := by omega
      generalize (rs.getD k []).length = q at hc had
      have HAD := Lib.hid had
      clear had hc0
      have HO := Lib.hid (long_one po q pc wr)
      by_cases hq : 4096 < (q : Int)
      · have hq1 : decide (4096 < (q : Int)) = true := by simpa using hq
        rw [hq1] at HO HAD
        clear hq1
        go_wp2_with fail
        refine HO.out.mono ?_
        rintro e w3 ⟨rfl, rfl⟩
        go_wp2_with fail
        go_ret
        refine ⟨(k : Int), rfl, ?_, rfl⟩
        rw [HLO.out, HAD.out]
        simp
      · have hq1 : decide (4096 < (q : Int)) = false := by simpa using hq
        rw [hq1] at HO HAD
        clear hq1
        go_wp2_with fail
        refine HO.out.mono ?_
        rintro e w3 ⟨rfl, rfl⟩
        go_wp2_with fail
        go_roundw
        case rel => exact ⟨k + 1, hlt, by go_num, by rw [HLO.out, HAD.out]; simp, by first | rfl | trivial⟩
        case measure => simp [intOf]; omega
    · obtain rfl : k = rs.length := by omega
      go_wp2_with fail
      go_ret
      refine ⟨-1, rfl, ?_, rfl⟩
      rw [HLO.out, List.drop_length]
      rfl

theorem contains_any (ao : Option Addr) (cap n : Nat) (rs : List (List Int)) (w : World) (hn : rs.length = n) (hR : Recs w ao rs) (hl : n ≤ 1000000) :
    Calls Try.prog 44 #[.slice ao n cap, .func (.func 45) #[] #[]] w fun e w' => e = .returned (.bool (longF rs)) ∧ w = w' := by
  have HI := Lib.hid (index_any ao cap n rs w hn hR hl)
  generalize longF rs = L at HI ⊢
  clear hR hn
  go_enter Try.func44, Try.ntmps44
  go_wp2_with fail
  refine HI.out.mono ?_
  rintro e w3 ⟨i, rfl, hi, rfl⟩
  have HH := Lib.hid hi
  clear hi HI
  go_wp2_with fail
  go_ret
  exact ⟨by rw [← HH.out]; rfl, rfl⟩

theorem dead_nil (w : World) : Calls Try.prog 32 #[.pointer none] w fun e w' => e = .returned (.bool true) ∧ w = w' := by
  go_enter Try.func32, Try.ntmps32
  go_wp2_with fail
  go_ret
  exact ⟨rfl, rfl⟩
theorem dead_zero (q : Nat) (v : Value) (dead : Bool) (w : World) (h : Box w q 64 #[.pointer none, v, .bool dead]) : Calls Try.prog 32 #[.pointer (some ⟨q, 0, none⟩)] w fun e w' => e = .returned (.bool true) ∧ w = w' := by
  have c0 : w.cell? ⟨q, 0, none⟩ = some (.pointer none) := h.cell 0
  clear h
  go_enter Try.func32, Try.ntmps32
  go_wp2_with fail
  go_ret
  exact ⟨rfl, rfl⟩
theorem dead_box (q p : Nat) (v : Value) (dead : Bool) (w : World) (h : Box w q 64 #[.pointer (some ⟨p, 0, none⟩), v, .bool dead]) : Calls Try.prog 32 #[.pointer (some ⟨q, 0, none⟩)] w fun e w' => e = .returned (.bool dead) ∧ w = w' := by
  have c0 : w.cell? ⟨q, 0, none⟩ = some (.pointer (some ⟨p, 0, none⟩)) := h.cell 0
  have c2 : w.cell? ⟨q, 2, none⟩ = some (.bool dead) := h.cell 2
  clear h
  go_enter Try.func32, Try.ntmps32
  go_wp2_with fail
  go_ret
  exact ⟨rfl, rfl⟩
theorem len_nil (w : World) : Calls Try.prog 34 #[.pointer none] w fun e w' => e = .returned (.int .i64 0) ∧ w = w' := by
  go_enter Try.func34, Try.ntmps34
  go_wp2_with fail
  go_ret
  exact ⟨rfl, rfl⟩
theorem len_box (q : Nat) (a : Value) (ao : Option Addr) (n c : Nat) (dead : Value) (w : World) (h : Box w q 64 #[a, .slice ao n c, dead]) : Calls Try.prog 34 #[.pointer (some ⟨q, 0, none⟩)] w fun e w' => e = .returned (.int .i64 n) ∧ w = w' := by
  have c1 : w.cell? ⟨q, 1, none⟩ = some (.slice ao n c) := h.cell 1
  clear h
  go_enter Try.func34, Try.ntmps34
  go_wp2_with fail
  go_ret
  exact ⟨rfl, rfl⟩
end Go.Proofs.Ytkbdbinafjmjkaa
