/-
  Contracts: a number put into bytes; the checksum.
-/
import Derived.Test.YtkbdbinafjmjkaaJWords
namespace Go.Proofs.Ytkbdbinafjmjkaa
open Go.RowKit

theorem putF_snoc (n : Int) (k : Nat) : putF n (k + 1) = putF n k ++ [n / 256 ^ k % 256] := by
  induction k generalizing n with
  | zero => simp [putF]
  | succ k ih =>
    have h1 : putF n (k + 1 + 1) = n % 256 :: putF (n / 256) (k + 1) := rfl
    have h2 : putF n (k + 1) = n % 256 :: putF (n / 256) k := rfl
    rw [h1, ih, h2, List.cons_append]
    congr 3
    have hq : n / 256 / 256 ^ k = n / (256 * 256 ^ k) := by
      have := @Int.ediv_ediv n 256 (256 ^ k)
      rw [if_neg (by omega), Int.sub_zero] at this
      exact this
    rw [hq, Int.pow_succ, Int.mul_comm]

/-- The two sums. -/
def sumGo (x y : Int) : List Int → Int × Int
  | [] => (x, y)
  | b :: bs => sumGo ((x + b) % 65521) ((y + (x + b) % 65521) % 65521) bs
def sumF (bs : List Int) : Int := (sumGo 1 0 bs).2 * 65536 + (sumGo 1 0 bs).1
theorem sumGo_bd (x y : Int) (bs : List Int) (hx : 0 ≤ x ∧ x < 65521) (hy : 0 ≤ y ∧ y < 65521) : (0 ≤ (sumGo x y bs).1 ∧ (sumGo x y bs).1 < 65521) ∧ 0 ≤ (sumGo x y bs).2 ∧ (sumGo x y bs).2 < 65521 := by
  induction bs generalizing x y with
  | nil => exact ⟨hx, hy⟩
  | cons b bs ih => exact ih _ _ (by omega) (by omega)
theorem or_high (y x : Int) (y0 : 0 ≤ y) (y1 : y < 65521) (x0 : 0 ≤ x) (x1 : x < 65521) : bits .or .u32 (y * 65536) x = y * 65536 + x := by
  obtain ⟨a, rfl⟩ : ∃ a : Nat, y = a := ⟨y.toNat, by omega⟩
  obtain ⟨b, rfl⟩ : ∃ b : Nat, x = b := ⟨x.toNat, by omega⟩
  have h := u32_or_nat (a * 65536) b (by omega) (by omega)
  have h2 : a * 65536 ||| b = a * 65536 + b := by
    have := Nat.two_pow_add_eq_or_of_lt (i := 16) (b := b) (by omega) a
    rw [Nat.mul_comm a 65536]
    exact this.symm
  rw [h2] at h
  rw [show ((a : Int) * 65536) = ((a * 65536 : Nat) : Int) by simp, h]
  omega

set_option maxHeartbeats 1000000 in
theorem sum_any (ao : Option Addr) (cap n : Nat) (bs : List Int) (w : World) (hn : bs.length = n) (hB : Byt w ao bs) (hb : Bytes bs) (hl : n ≤ 1000000) :
    Calls Try.prog 55 #[.slice ao n cap] w fun e w' => e = .returned (.int .u32 (sumF bs)) ∧ w = w' := by
  subst hn
  have HB := Lib.hid hB
  have HBB := Lib.hid hb
  clear hB hb
  go_enter Try.func55, Try.ntmps55
  go_wp2_with fail
  go_loopw [3, 4, 9] (fun x y i wr => ∃ (k : Nat) (a b : Int), k ≤ bs.length ∧ i = .int .i64 k ∧ x = .int .u32 a ∧ y = .int .u32 b ∧ (0 ≤ a ∧ a < 65521) ∧ (0 ≤ b ∧ b < 65521) ∧ sumGo a b (bs.drop k) = sumGo 1 0 bs ∧ wr = w) (fun _ _ i _ => bs.length - (intOf i).toNat)
  case atStart => exact ⟨0, 1, 0, Nat.zero_le _, rfl, rfl, rfl, by omega, by omega, rfl, rfl⟩
  case round =>
    obtain ⟨k, a, b, hk, rfl, rfl, rfl, ⟨a0, a1⟩, ⟨b0, b1⟩, hs, rfl⟩ := hrel
    by_cases hlt : k < bs.length
    · rcases HB.out with h0 | ⟨blk, off, rfl, hbw, hc0⟩
      · rw [h0] at hlt
        simp at hlt
      have hc := hc0 k hlt
      have hd : bs.drop k = bs.getD k 0 :: bs.drop (k + 1) := by
        rw [List.drop_eq_getElem_cons hlt]
        simp [List.getD, hlt]
      have hz := HBB.out (bs.getD k 0) (by simp [List.getD, hlt])
      rw [hd] at hs
      generalize bs.getD k 0 = z at hc hz hs
      obtain ⟨z0, z1⟩ := hz
      have t1 : (a + z).tmod 65521 = (a + z) % 65521 := Int.tmod_eq_emod_of_nonneg (by omega)
      obtain ⟨a', ha'⟩ : ∃ a', (a + z) % 65521 = a' := ⟨_, rfl⟩
      have p0 : 0 ≤ a' := by omega
      have p1 : a' < 65521 := by omega
      have t2 : (b + a').tmod 65521 = (b + a') % 65521 := Int.tmod_eq_emod_of_nonneg (by omega)
      obtain ⟨b', hb'⟩ : ∃ b', (b + a') % 65521 = b' := ⟨_, rfl⟩
      have r0 : 0 ≤ b' := by omega
      have r1 : b' < 65521 := by omega
      have hs2 : sumGo a' b' (bs.drop (k + 1)) = sumGo 1 0 bs := by rw [← hs, ← hb', ← ha']; rfl
      rw [ha'] at t1
      rw [hb'] at t2
      have HS := Lib.hid hs2
      have hk0 : (0 : Int) ≤ (k : Int) := Int.natCast_nonneg _
      have hk1 : (k : Int) < (bs.length : Int) := by omega
      clear hc0 hd hs hs2
      go_wp2_with fail
      go_roundw
      case rel => exact ⟨k + 1, a', b', hlt, by go_num, by first | rfl | simp [*], by first | rfl | simp [*], ⟨p0, p1⟩, ⟨r0, r1⟩, HS.out, by simp⟩
      case measure => simp [intOf]; omega
    · obtain rfl : k = bs.length := by omega
      rw [List.drop_length] at hs
      have hor := or_high b a b0 b1 a0 a1
      have hF : sumF bs = b * 65536 + a := by
        unfold sumF
        rw [← hs]
        rfl
      have HF := Lib.hid hF
      clear hs hF
      go_wp2_with fail
      go_ret
      exact ⟨by rw [HF.out]; rfl, by first | rfl | trivial⟩

theorem byt_slice {w : World} {base k : Nat} {e : TypeId} {v : Value} {bs : List Int} (h : w.ownsRow base e 1 v k (bcells bs)) (hk : bs.length = k) : ∃ po pc, v = .slice po k pc ∧ Byt w po bs ∧ ∀ g o, po = some ⟨g, o, none⟩ → base ≤ g := by
  subst hk
  obtain ⟨cap, hv, _, _, hb⟩ := byt_of_owns h
  refine ⟨_, cap, hv, hb, fun g o he => ?_⟩
  cases ho : v.ownBlock with
  | none => rw [ho] at he; cases he
  | some b =>
    rw [ho] at he
    cases he
    exact (h.lt _ ho).1

set_option maxRecDepth 100000 in
set_option maxHeartbeats 1000000 in
theorem put_any (n : Int) (size : Nat) (w : World) (h0 : 0 ≤ n) (h1 : n < 4294967296) (hs : size ≤ 4) :
    Calls Try.prog 53 #[.int .u32 n, .int .i64 size] w fun e w' => ∃ po pc, e = .returned (.slice po size pc) ∧ Byt w' po (putF n size) ∧ (∀ k o, po = some ⟨k, o, none⟩ → w.heap.size ≤ k) ∧ Below w.heap.size w w' := by
  obtain ⟨i0, hi, hz0, hz1, hz2⟩ := info_parts Try.infoByte
  go_enter Try.func53, Try.ntmps53
  go_wp2_with fail
  go_loopw [0, 5, 7] (fun m v i wr => ∃ (k : Nat) (q : Int), k ≤ size ∧ i = .int .i64 k ∧ m = .int .u32 q ∧ q = n / 256 ^ k ∧ (0 ≤ q ∧ q < 4294967296) ∧ wr.ownsRow w.heap.size 5 1 v k (bcells (putF n k)) ∧ Below w.heap.size w wr) (fun _ _ i _ => size - (intOf i).toNat)
  case atStart => exact ⟨0, n, Nat.zero_le _, rfl, rfl, by simp, ⟨h0, h1⟩, World.ownsRow_nil _ _ _ _, Below.refl _ _⟩
  case round =>
    obtain ⟨k, q, hk, rfl, rfl, hq, ⟨q0, q1⟩, hown, hb⟩ := hrel
    have hsr := hb.size
    by_cases hlt : k < size
    · have hp := putF_snoc n k
      rw [← hq] at hp
      have hq2 : q / 256 = n / 256 ^ (k + 1) := by
        rw [hq, Int.pow_succ]
        have := @Int.ediv_ediv n (256 ^ k) 256
        rw [if_neg (fun h => absurd h.1 (by have : (0 : Int) < 256 ^ k := Int.pow_pos (by omega); omega)), Int.sub_zero] at this
        exact this
      have HP := Lib.hid hp
      have HQ := Lib.hid hq2
      have HO := Lib.hid hown
      have HB := Lib.hid hb
      have hki : (k : Int) < (size : Int) := by omega
      have hb0 : 0 ≤ q % 256 := by omega
      have hb1 : q % 256 ≤ 255 := by omega
      clear hp hq hq2 hown hb
      go_wp2_with (at_builtin
                   refine wpList_append_lies _ rfl (.tmp 9) (.tmp 12) 30 rfl w.heap.size 5 i0 (.int .u8 0) 1 1 Try.underlying30 hi hz0 hz1 hz2 rfl (by decide) _ k _ rfl (HO.out.alloc _) ⟨wr.heap.size, 0, none⟩ 1 1 [.int .u8 (q % 256)] rfl rfl (World.news_of_block (cs := #[.int .u8 (q % 256)]) (t := 5) (fr := (0, 0)) (heap_alloc_new wr _)) (by simp [Value.oneCell']) (by omega) (by unfold maxLen; omega) (by omega) (by simp; omega) (wr.heap.size + 1) (by simp) ?_
                   intro gg cap5 w5 hown5 hg5 hat5 hlt5
                   have hb5 : Below w.heap.size w w5 := (HB.out.alloc hsr _).grown hg5 (by simp; omega) (fun j hj => (HO.out.lt j hj).1))
      go_roundw
      case rel =>
        refine ⟨k + 1, q / 256, hlt, by go_num, rfl, HQ.out, by omega, ?_, hb5⟩
        rw [HP.out]
        simpa [bcells] using hown5
      case measure => simp [intOf]; omega
    · obtain rfl : k = size := by omega
      obtain ⟨po, pc, rfl, hB, hbase⟩ := byt_slice hown (putF_length n k)
      clear hown hlt hq
      go_wp2_with fail
      go_ret
      exact ⟨po, pc, rfl, hB, hbase, hb⟩
end Go.Proofs.Ytkbdbinafjmjkaa
