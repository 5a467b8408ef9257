/-
  CalendarInverse and CalendarSteps return true for every input, and turn nothing that was there.
-/
import Derived.Test.YtgabecolmldbjaaKKit
namespace Go.Proofs.Ytgabecolmldbjaa
open Go.RowKit

/-- With few holidays and small numbers a business day is found. -/
theorem add_found {H : List Int} {m : Nat} {n d e : Int} (h : AddIs H m n d e) (hl : H.length ≤ 1000) (hm : m ≤ 1000) (n0 : 0 ≤ n) (n1 : n ≤ 1000) :
    ∃ x : Nat, d = x ∧ e = 0 ∧ (cnt H x : Int) = targetF H m n ∧ (cnt H (x + 1) : Int) = targetF H m n + 1 ∧ business H x = true ∧ (x : Int) / 7 * 5 - (H.length : Int) ≤ targetF H m n := by
  have hc1 := cnt_le H (m + 1)
  have hc0 := cnt_le H m
  have hT : targetF H m n ≤ 2001 := by
    simp only [targetF, Int.toNat_natCast]
    split <;> omega
  have hd : isDayF (m : Int) = true := by simp [isDayF]; omega
  rcases h with ⟨h1, -, -⟩ | ⟨-, h2, -, -⟩ | ⟨-, -, -, -, hN⟩
  · omega
  · rw [hd] at h2
    rcases h2 with h2 | h2
    · cases h2
    · omega
  · obtain ⟨x, hx, he, h3, h4, h5, h6⟩ := nth_ok (closed_of H) hN (by omega)
    subst hx
    exact ⟨x, rfl, he, h3, h4, h5, h6⟩

theorem inverse_plain {H : List Int} {m x : Nat} {k c e : Int} (hl : H.length ≤ 40) (hm : m ≤ 255) (k1 : 1 ≤ k) (k2 : k ≤ 60) (hx1 : (cnt H (x + 1) : Int) = targetF H m k + 1) (hx2 : (x : Int) / 7 * 5 - (H.length : Int) ≤ targetF H m k)
    (hC : CountIs H ((m : Int) + 1) ((x : Int) + 1) c e) : c = k ∧ e = 0 := by
  have hc1 := cnt_le H (m + 1)
  have hT : targetF H m k = (cnt H (m + 1) : Nat) + k - 1 := by
    simp only [targetF, Int.toNat_natCast]
    rw [if_neg (by omega)]
  have hda : isDayF ((m : Int) + 1) = true := by simp [isDayF]; omega
  have hdb : isDayF ((x : Int) + 1) = true := by simp [isDayF]; omega
  rcases hC with ⟨h1, -, -⟩ | ⟨-, h2, -, -⟩ | ⟨-, -, -, h4, h5⟩
  · omega
  · rw [hda, hdb] at h2
    simp at h2
  · refine ⟨?_, h5⟩
    rw [h4]
    have hlt : ¬ (x : Int) + 1 ≤ (m : Int) + 1 := fun hle => by
      have := cnt_mono H (show x + 1 ≤ m + 1 by omega)
      omega
    simp only [betweenF, hlt, if_false, show ((x : Int) + 1).toNat = x + 1 by omega, show ((m : Int) + 1).toNat = m + 1 by omega]
    omega

theorem steps_plain {H : List Int} {m x y z : Nat} {n k : Int} (n1 : 1 ≤ n) (k0 : 0 ≤ k) (hx0 : (cnt H x : Int) = targetF H m n) (hx : (cnt H (x + 1) : Int) = targetF H m n + 1)
    (hy0 : (cnt H y : Int) = targetF H x k) (hy : (cnt H (y + 1) : Int) = targetF H x k + 1) (hz0 : (cnt H z : Int) = targetF H m (n + k)) (hz : (cnt H (z + 1) : Int) = targetF H m (n + k) + 1) : y = z := by
  have e1 : targetF H m n = (cnt H (m + 1) : Nat) + n - 1 := by
    simp only [targetF, Int.toNat_natCast]
    rw [if_neg (by omega)]
  have e2 : targetF H m (n + k) = (cnt H (m + 1) : Nat) + (n + k) - 1 := by
    simp only [targetF, Int.toNat_natCast]
    rw [if_neg (by omega)]
  have e3 : targetF H x k = targetF H m (n + k) := by
    rw [e2]
    simp only [targetF, Int.toNat_natCast]
    split <;> omega
  rw [e3] at hy0 hy
  have a : ¬ y < z := fun hlt => by have := cnt_mono H (show y + 1 ≤ z from hlt); omega
  have b : ¬ z < y := fun hlt => by have := cnt_mono H (show z + 1 ≤ y from hlt); omega
  omega

set_option maxRecDepth 100000 in
set_option maxHeartbeats 2000000 in
theorem calendarInverse_walk (day n : Int) (ao : Option Addr) (cap : Nat) (l : List Int) (w : World) (d0 : 0 ≤ day) (d1 : day ≤ 255) (n0 : 0 ≤ n) (n1 : n ≤ 255) (hr : ∀ i, 0 ≤ l.getD i 0 ∧ l.getD i 0 ≤ 255) (hL : U8s w ao l) :
    Calls Try.prog 11 #[.int .u8 day, .int .u8 n, .slice ao l.length cap] w fun e w' => e = .returned (.bool true) ∧ Below w.heap.size w w' := by
  have HDY := Lib.hid (days_any ao cap l w hL hr)
  clear hL hr
  obtain ⟨m, rfl⟩ : ∃ m : Nat, day = m := ⟨day.toNat, by omega⟩
  obtain ⟨k, hk⟩ : ∃ k : Int, n % 60 = k := ⟨_, rfl⟩
  have k0 : 0 ≤ k := by omega
  have k1 : k ≤ 59 := by omega
  have hm : m ≤ 255 := by omega
  go_enter Try.func11, Try.ntmps11
  go_wp2_with fail
  refine HDY.out.mono ?_
  rintro e w1 ⟨so, sc, H, rfl, hI, hl, hb1⟩
  have HI := Lib.hid hI
  have HB1 := Lib.hid hb1
  clear hI hb1 HDY
  go_wp2_with fail
  refine (add_any m (1 + k) so sc H _ HI.out).mono ?_
  rintro e w2 ⟨x', ex, rfl, hA, hb2⟩
  obtain ⟨x, rfl, rfl, -, hx1, hbz, hx2⟩ := add_found hA (by omega) (by omega) (by omega) (by omega)
  have HX1 := Lib.hid hx1
  have HX2 := Lib.hid hx2
  have HBZ := Lib.hid hbz
  have hxb : (x : Int) ≤ 2000 := by
    have hc1 := cnt_le H (m + 1)
    have hT : targetF H m (1 + k) ≤ 400 := by
      simp only [targetF, Int.toNat_natCast]
      split <;> omega
    omega
  have HI2 := Lib.hid (HI.out.next hb2)
  have HB2 := Lib.hid (HB1.out.trans (hb2.mono HB1.out.size))
  clear hA hx1 hx2 hbz hb2
  go_wp2_with fail
  refine (count_any ((m : Int) + 1) ((x : Int) + 1) so sc H _ HI2.out).mono ?_
  rintro e w3 ⟨c, ec, rfl, hC, hb3⟩
  obtain ⟨rfl, rfl⟩ := inverse_plain hl hm (by omega) (by omega) HX1.out HX2.out hC
  have HI3 := Lib.hid (HI2.out.next hb3)
  have HB3 := Lib.hid (HB2.out.trans (hb3.mono HB2.out.size))
  clear hC hb3
  go_wp2_with fail
  refine (awake_any _).mono ?_
  rintro e w4 ⟨rfl, hb4⟩
  have HI4 := Lib.hid (HI3.out.next hb4)
  have HB4 := Lib.hid (HB3.out.trans (hb4.mono HB3.out.size))
  clear hb4
  go_wp2_with fail
  have hz := isBusiness_any (x : Int) so sc H _ HI4.out (by omega)
  rw [HBZ.out] at hz
  refine hz.mono ?_
  rintro e w5 ⟨rfl, rfl⟩
  clear hz
  go_wp2_with fail
  go_ret
  exact ⟨rfl, HB4.out⟩

set_option maxRecDepth 100000 in
set_option maxHeartbeats 2000000 in
theorem calendarSteps_walk (day n k : Int) (ao : Option Addr) (cap : Nat) (l : List Int) (w : World) (d0 : 0 ≤ day) (d1 : day ≤ 255) (n0 : 0 ≤ n) (n1 : n ≤ 255) (k0 : 0 ≤ k) (k1 : k ≤ 255) (hr : ∀ i, 0 ≤ l.getD i 0 ∧ l.getD i 0 ≤ 255) (hL : U8s w ao l) :
    Calls Try.prog 6 #[.int .u8 day, .int .u8 n, .int .u8 k, .slice ao l.length cap] w fun e w' => e = .returned (.bool true) ∧ Below w.heap.size w w' := by
  have HDY := Lib.hid (days_any ao cap l w hL hr)
  clear hL hr
  obtain ⟨m, rfl⟩ : ∃ m : Nat, day = m := ⟨day.toNat, by omega⟩
  obtain ⟨p, hp⟩ : ∃ p : Int, n % 30 = p := ⟨_, rfl⟩
  obtain ⟨q, hq⟩ : ∃ q : Int, k % 30 = q := ⟨_, rfl⟩
  have p0 : 0 ≤ p := by omega
  have p1 : p ≤ 29 := by omega
  have q0 : 0 ≤ q := by omega
  have q1 : q ≤ 29 := by omega
  have hm : m ≤ 255 := by omega
  go_enter Try.func6, Try.ntmps6
  go_wp2_with fail
  refine HDY.out.mono ?_
  rintro e w1 ⟨so, sc, H, rfl, hI, hl, hb1⟩
  have HI := Lib.hid hI
  have HB1 := Lib.hid hb1
  clear hI hb1 HDY
  go_wp2_with fail
  refine (add_any m (1 + p) so sc H _ HI.out).mono ?_
  rintro e w2 ⟨x', ex, rfl, hA, hb2⟩
  obtain ⟨x, rfl, rfl, hx0, hx1, -, hx2⟩ := add_found hA (by omega) (by omega) (by omega) (by omega)
  have HX := Lib.hid (And.intro hx0 hx1)
  have hxb : x ≤ 1000 := by
    have hc1 := cnt_le H (m + 1)
    have hT : targetF H m (1 + p) ≤ 300 := by
      simp only [targetF, Int.toNat_natCast]
      split <;> omega
    omega
  have HI2 := Lib.hid (HI.out.next hb2)
  have HB2 := Lib.hid (HB1.out.trans (hb2.mono HB1.out.size))
  clear hA hx0 hx1 hx2 hb2
  go_wp2_with fail
  refine (add_any x q so sc H _ HI2.out).mono ?_
  rintro e w3 ⟨y', ey, rfl, hA, hb3⟩
  obtain ⟨y, rfl, rfl, hy0, hy1, -, -⟩ := add_found hA (by omega) (by omega) (by omega) (by omega)
  have HY := Lib.hid (And.intro hy0 hy1)
  have HI3 := Lib.hid (HI2.out.next hb3)
  have HB3 := Lib.hid (HB2.out.trans (hb3.mono HB2.out.size))
  clear hA hy0 hy1 hb3
  go_wp2_with fail
  refine (add_any m (1 + p + q) so sc H _ HI3.out).mono ?_
  rintro e w4 ⟨z', ez, rfl, hA, hb4⟩
  obtain ⟨z, rfl, rfl, hz0, hz1, -, -⟩ := add_found hA (by omega) (by omega) (by omega) (by omega)
  obtain rfl := steps_plain (by omega) q0 HX.out.1 HX.out.2 HY.out.1 HY.out.2 hz0 hz1
  have HB4 := Lib.hid (HB3.out.trans (hb4.mono HB3.out.size))
  clear hA hz0 hz1 hb4
  go_wp2_with fail
  refine (awake_any _).mono ?_
  rintro e w5 ⟨rfl, hb5⟩
  have HB5 := Lib.hid (HB4.out.trans (hb5.mono HB4.out.size))
  clear hb5
  go_wp2_with fail
  go_ret
  exact ⟨rfl, HB5.out⟩
end Go.Proofs.Ytgabecolmldbjaa
