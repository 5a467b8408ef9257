/-
  Contracts: numbers as bytes, the least significant one first.
-/
import Derived.Test.YtkbdbinafjmjkaaDHold
import Derived.Test.YtkbdbinafjmjkaaDKept0
import Derived.Laws.BitsAllLaws
namespace Go.Proofs.Ytkbdbinafjmjkaa
open Go.RowKit

/-- The number in bytes. -/
def getF : List Int → Int
  | [] => 0
  | b :: bs => b + 256 * getF bs
/-- So many bytes of a number. -/
def putF (n : Int) : Nat → List Int
  | 0 => []
  | k + 1 => n % 256 :: putF (n / 256) k
theorem putF_length (n : Int) (k : Nat) : (putF n k).length = k := by
  induction k generalizing n with
  | zero => rfl
  | succ k ih => simp [putF, ih]
theorem putF_ok (n : Int) (k : Nat) : Bytes (putF n k) := by
  induction k generalizing n with
  | zero => intro x hx; cases hx
  | succ k ih =>
    intro x hx
    rcases List.mem_cons.1 hx with rfl | hx
    · omega
    · exact ih _ x hx
theorem get_put (n : Int) (k : Nat) (h0 : 0 ≤ n) (h : n < 256 ^ k) : getF (putF n k) = n := by
  induction k generalizing n with
  | zero => simp at h; simp [putF, getF]; omega
  | succ k ih =>
    have hp : (256 : Int) ^ (k + 1) = 256 * 256 ^ k := by rw [Int.pow_succ, Int.mul_comm]
    rw [hp] at h
    have := ih (n / 256) (by omega) (by omega)
    simp only [putF, getF, this]
    omega
theorem getF_bd (bs : List Int) (hb : Bytes bs) : 0 ≤ getF bs ∧ getF bs < 256 ^ bs.length := by
  induction bs with
  | nil => simp [getF]
  | cons b bs ih =>
    obtain ⟨h1, h2⟩ := ih fun x hx => hb x (by simp [hx])
    have := hb b (by simp)
    have hp : (256 : Int) ^ (b :: bs).length = 256 * 256 ^ bs.length := by rw [List.length_cons, Int.pow_succ, Int.mul_comm]
    rw [hp]
    simp only [getF]
    omega
theorem or_low (g b : Int) (g0 : 0 ≤ g) (g1 : g < 16777216) (b0 : 0 ≤ b) (b1 : b ≤ 255) : bits .or .u32 (g * 256) b = b + 256 * g := by
  obtain ⟨x, rfl⟩ : ∃ x : Nat, g = x := ⟨g.toNat, by omega⟩
  obtain ⟨y, rfl⟩ : ∃ y : Nat, b = y := ⟨b.toNat, by omega⟩
  have h := u32_or_nat (x * 256) y (by omega) (by omega)
  have h2 : x * 256 ||| y = x * 256 + y := by
    have := Nat.two_pow_add_eq_or_of_lt (i := 8) (b := y) (by omega) x
    rw [Nat.mul_comm x 256]
    exact this.symm
  rw [h2] at h
  rw [show ((x : Int) * 256) = ((x * 256 : Nat) : Int) by simp, h]
  omega

set_option maxHeartbeats 1000000 in
theorem get_any (ao : Option Addr) (cap n : Nat) (bs : List Int) (w : World) (hn : bs.length = n) (hB : Byt w ao bs) (hb : Bytes bs) (hl : n ≤ 4) :
    Calls Try.prog 48 #[.slice ao n cap] w fun e w' => e = .returned (.int .u32 (getF bs)) ∧ w = w' := by
  subst hn
  have HB := Lib.hid hB
  have HBB := Lib.hid hb
  clear hB hb
  go_enter Try.func48, Try.ntmps48
  go_wp2_with fail
  go_loopw [3, 4] (fun v i wr => ∃ k : Nat, k ≤ bs.length ∧ i = .int .i64 ((k : Int) - 1) ∧ v = .int .u32 (getF (bs.drop k)) ∧ wr = w) (fun _ i _ => (intOf i + 1).toNat)
  case atStart => exact ⟨bs.length, Nat.le_refl _, rfl, by simp [getF], rfl⟩
  case round =>
    obtain ⟨k, hk, rfl, rfl, rfl⟩ := hrel
    cases k with
    | zero =>
      go_wp2_with fail
      go_ret
      exact ⟨rfl, rfl⟩
    | succ k =>
      rcases HB.out with h0 | ⟨b, off, rfl, hbw, hc0⟩
      · rw [h0] at hk
        simp at hk
      have hc := hc0 k (by omega)
      have hd : bs.drop k = bs.getD k 0 :: bs.drop (k + 1) := by
        rw [List.drop_eq_getElem_cons (by omega)]
        simp [List.getD, show k < bs.length by omega]
      have hz := HBB.out (bs.getD k 0) (by simp [List.getD, show k < bs.length by omega])
      obtain ⟨q0, q1⟩ := getF_bd (bs.drop (k + 1)) (fun x hx => HBB.out x (List.mem_of_mem_drop hx))
      have q2 : (256 : Int) ^ (bs.drop (k + 1)).length ≤ 16777216 := by
        have hlen : (bs.drop (k + 1)).length ≤ 3 := by simp; omega
        have : (bs.drop (k + 1)).length = 0 ∨ (bs.drop (k + 1)).length = 1 ∨ (bs.drop (k + 1)).length = 2 ∨ (bs.drop (k + 1)).length = 3 := by omega
        rcases this with h | h | h | h <;> rw [h] <;> decide
      have q3 : getF (bs.drop (k + 1)) < 16777216 := by omega
      have hf : getF (bs.drop k) = bs.getD k 0 + 256 * getF (bs.drop (k + 1)) := by rw [hd]; rfl
      generalize getF (bs.drop (k + 1)) = g at q0 q3 hf ⊢
      generalize bs.getD k 0 = z at hc hz hf
      have hor := or_low g z q0 q3 hz.1 hz.2
      have e1 : ((k + 1 : Nat) : Int) - 1 = (k : Int) := by omega
      rw [e1]
      have hk0 : (0 : Int) ≤ (k : Int) := Int.natCast_nonneg _
      have hk1 : (k : Int) < (bs.length : Int) := by omega
      have HF := Lib.hid hf
      clear hc0 hd q1 q2 hf e1
      go_wp2_with fail
      go_roundw
      case rel => exact ⟨k, by omega, rfl, by rw [HF.out], by simp⟩
      case measure => simp [intOf] <;> omega
end Go.Proofs.Ytkbdbinafjmjkaa
