/-
  CalendarWeekday, CalendarBusiness, CalendarNext, CalendarAdd and CalendarCount return true for every input, and turn nothing that was there.
-/
import Derived.Test.YtgabecolmldbjaaKKit
namespace Go.Proofs.Ytgabecolmldbjaa
open Go.RowKit

set_option maxHeartbeats 1000000 in
theorem calendarWeekday_walk (d : Int) (w : World) (h0 : -9223372036854775808 ≤ d) (h1 : d ≤ 9223372036854775807) :
    Calls Try.prog 3 #[.int .i64 d] w fun e w' => e = .returned (.bool true) ∧ Below w.heap.size w w' := by
  have m0 : 0 ≤ d % 7 := by omega
  have m1 : d % 7 < 7 := by omega
  by_cases hbig : 4611686018427387904 < d
  · go_enter Try.func3, Try.ntmps3
    go_wp2_with fail
    refine (weekday_any d _).mono ?_
    rintro e w1 ⟨rfl, rfl⟩
    go_wp2_with fail
    refine (awake_any _).mono ?_
    rintro e w2 ⟨rfl, hb2⟩
    go_wp2_with fail
    refine (weekdayR_any d _).mono ?_
    rintro e w3 ⟨rfl, rfl⟩
    go_wp2_with fail
    go_ret
    exact ⟨rfl, hb2⟩
  · have hs : (d + 7) % 7 = d % 7 := by omega
    go_enter Try.func3, Try.ntmps3
    go_wp2_with fail
    refine (weekday_any d _).mono ?_
    rintro e w1 ⟨rfl, rfl⟩
    go_wp2_with fail
    have hw := weekday_any (d + 7) w
    rw [hs] at hw
    refine hw.mono ?_
    rintro e w1 ⟨rfl, rfl⟩
    clear hw hs
    go_wp2_with fail
    refine (awake_any _).mono ?_
    rintro e w2 ⟨rfl, hb2⟩
    go_wp2_with fail
    refine (weekdayR_any d _).mono ?_
    rintro e w3 ⟨rfl, rfl⟩
    go_wp2_with fail
    go_ret
    exact ⟨rfl, hb2⟩

set_option maxHeartbeats 1000000 in
theorem calendarBusiness_walk (d : Int) (ao : Option Addr) (cap : Nat) (H : List Int) (w : World) (hI : Ints w ao H) :
    Calls Try.prog 10 #[.int .i64 d, .slice ao H.length cap] w fun e w' => e = .returned (.bool true) ∧ Below w.heap.size w w' := by
  have HI := Lib.hid hI
  clear hI
  by_cases hl : (200 : Int) < (H.length : Int)
  · go_enter Try.func10, Try.ntmps10
    go_wp2_with fail
    refine (awake_any _).mono ?_
    rintro e w2 ⟨rfl, hb2⟩
    go_wp2_with fail
    go_ret
    exact ⟨rfl, hb2⟩
  · go_enter Try.func10, Try.ntmps10
    go_wp2_with fail
    refine (awake_any _).mono ?_
    rintro e w2 ⟨rfl, hb2⟩
    have HB2 := Lib.hid hb2
    have HI2 := Lib.hid (HI.out.next hb2)
    clear hb2
    go_wp2_with fail
    refine (isBusiness_any d ao cap H _ HI2.out (by omega)).mono ?_
    rintro e w3 ⟨rfl, rfl⟩
    go_wp2_with fail
    refine (isBusinessR_any d ao cap H _ HI2.out (by omega)).mono ?_
    rintro e w3 ⟨rfl, rfl⟩
    go_wp2_with fail
    go_ret
    exact ⟨by simp, HB2.out⟩

set_option maxHeartbeats 1000000 in
theorem calendarNext_walk (d : Int) (ao : Option Addr) (cap : Nat) (H : List Int) (w : World) (hI : Ints w ao H) :
    Calls Try.prog 4 #[.int .i64 d, .slice ao H.length cap] w fun e w' => e = .returned (.bool true) ∧ Below w.heap.size w w' := by
  have HI := Lib.hid hI
  clear hI
  by_cases hl : (200 : Int) < (H.length : Int)
  · go_enter Try.func4, Try.ntmps4
    go_wp2_with fail
    refine (awake_any _).mono ?_
    rintro e w2 ⟨rfl, hb2⟩
    go_wp2_with fail
    go_ret
    exact ⟨rfl, hb2⟩
  · go_enter Try.func4, Try.ntmps4
    go_wp2_with fail
    refine (near_any d _).mono ?_
    rintro e w1 ⟨x, rfl, rfl⟩
    go_wp2_with fail
    refine (next_any x ao cap H _ HI.out).mono ?_
    rintro e w2 ⟨a, ea, rfl, hA, hb2⟩
    have HA := Lib.hid hA
    have HB2 := Lib.hid hb2
    have HI2 := Lib.hid (HI.out.next hb2)
    clear hA hb2
    go_wp2_with fail
    refine (nextR_any x ao cap H _ HI2.out).mono ?_
    rintro e w3 ⟨b, eb, rfl, hB, rfl⟩
    obtain ⟨rfl, rfl⟩ := add_unique HA.out hB
    clear hB
    go_wp2_with fail
    refine (awake_any _).mono ?_
    rintro e w4 ⟨rfl, hb4⟩
    have HB4 := Lib.hid (HB2.out.trans (hb4.mono HB2.out.size))
    clear hb4
    go_wp2_with fail
    go_ret
    exact ⟨rfl, HB4.out⟩

set_option maxHeartbeats 1000000 in
theorem calendarAdd_walk (d n : Int) (ao : Option Addr) (cap : Nat) (H : List Int) (w : World) (hI : Ints w ao H) :
    Calls Try.prog 5 #[.int .i64 d, .int .i64 n, .slice ao H.length cap] w fun e w' => e = .returned (.bool true) ∧ Below w.heap.size w w' := by
  have HI := Lib.hid hI
  clear hI
  have hside : (200 : Int) < (H.length : Int) ∨ (¬ (200 : Int) < (H.length : Int) ∧ 2000 < n ∧ n ≤ 1048576) ∨ (¬ (200 : Int) < (H.length : Int) ∧ 2000 < n ∧ ¬ n ≤ 1048576) ∨ (¬ (200 : Int) < (H.length : Int) ∧ ¬ 2000 < n) := by omega
  rcases hside with h1 | ⟨h1, h2, h3⟩ | ⟨h1, h2, h3⟩ | ⟨h1, h2⟩
  · go_enter Try.func5, Try.ntmps5
    go_wp2_with fail
    refine (near_any d _).mono ?_
    rintro e w1 ⟨x, rfl, rfl⟩
    go_wp2_with fail
    refine (awake_any _).mono ?_
    rintro e w2 ⟨rfl, hb2⟩
    go_wp2_with fail
    go_ret
    exact ⟨rfl, hb2⟩
  · go_enter Try.func5, Try.ntmps5
    go_wp2_with fail
    refine (near_any d _).mono ?_
    rintro e w1 ⟨x, rfl, rfl⟩
    go_wp2_with fail
    refine (awake_any _).mono ?_
    rintro e w2 ⟨rfl, hb2⟩
    go_wp2_with fail
    go_ret
    exact ⟨rfl, hb2⟩
  all_goals
    go_enter Try.func5, Try.ntmps5
    go_wp2_with fail
    refine (near_any d _).mono ?_
    rintro e w1 ⟨x, rfl, rfl⟩
    go_wp2_with fail
    refine (add_any x n ao cap H _ HI.out).mono ?_
    rintro e w2 ⟨a, ea, rfl, hA, hb2⟩
    have HA := Lib.hid hA
    have HB2 := Lib.hid hb2
    have HI2 := Lib.hid (HI.out.next hb2)
    clear hA hb2
    go_wp2_with fail
    refine (addR_any x n ao cap H _ HI2.out).mono ?_
    rintro e w3 ⟨b, eb, rfl, hB, rfl⟩
    obtain ⟨rfl, rfl⟩ := add_unique HA.out hB
    clear hB
    go_wp2_with fail
    refine (awake_any _).mono ?_
    rintro e w4 ⟨rfl, hb4⟩
    have HB4 := Lib.hid (HB2.out.trans (hb4.mono HB2.out.size))
    clear hb4
    go_wp2_with fail
    go_ret
    exact ⟨rfl, HB4.out⟩

set_option maxHeartbeats 2000000 in
theorem calendarCount_walk (a b : Int) (ao : Option Addr) (cap : Nat) (H : List Int) (w : World) (hI : Ints w ao H) :
    Calls Try.prog 7 #[.int .i64 a, .int .i64 b, .slice ao H.length cap] w fun e w' => e = .returned (.bool true) ∧ Below w.heap.size w w' := by
  have HI := Lib.hid hI
  clear hI
  -- what the law does behind its guard
  by_cases hl : (100 : Int) < (H.length : Int)
  · go_enter Try.func7, Try.ntmps7
    go_wp2_with fail
    refine (near_any a _).mono ?_
    rintro e w1 ⟨x, rfl, rfl⟩
    go_wp2_with fail
    refine (near_any b _).mono ?_
    rintro e w1 ⟨y, rfl, rfl⟩
    go_wp2_with fail
    refine (awake_any _).mono ?_
    rintro e w2 ⟨rfl, hb2⟩
    go_wp2_with fail
    go_ret
    exact ⟨rfl, hb2⟩
  · go_enter Try.func7, Try.ntmps7
    go_wp2_with fail
    refine (near_any a _).mono ?_
    rintro e w1 ⟨x, rfl, rfl⟩
    go_wp2_with fail
    refine (near_any b _).mono ?_
    rintro e w1 ⟨y, rfl, rfl⟩
    have hside : isDayF x = false ∨ (isDayF x = true ∧ isDayF y = false) ∨ (isDayF x = true ∧ isDayF y = true ∧ 3000 < y - x) ∨ (isDayF x = true ∧ isDayF y = true ∧ ¬ 3000 < y - x) := by
      cases isDayF x <;> cases isDayF y <;> simp
      omega
    have HX := Lib.hid (isDayR_any x w)
    have HY := Lib.hid (isDayR_any y w)
    rcases hside with h1 | ⟨h1, h2⟩ | ⟨h1, h2, h3⟩ | ⟨h1, h2, h3⟩
    · rw [h1] at HX
      clear h1
      go_wp2_with fail
      refine HX.out.mono ?_
      rintro e w3 ⟨rfl, rfl⟩
      go_wp2_with fail
      refine (count_any x y ao cap H _ HI.out).mono ?_
      rintro e w2 ⟨c, ec, rfl, hA, hb2⟩
      have HA := Lib.hid hA
      have HB2 := Lib.hid hb2
      have HI2 := Lib.hid (HI.out.next hb2)
      clear hA hb2
      go_wp2_with fail
      refine (countR_any x y ao cap H _ HI2.out).mono ?_
      rintro e w3 ⟨c', ec', rfl, hB, rfl⟩
      obtain ⟨rfl, rfl⟩ := count_unique HA.out hB
      clear hB
      go_wp2_with fail
      refine (awake_any _).mono ?_
      rintro e w4 ⟨rfl, hb4⟩
      have HB4 := Lib.hid (HB2.out.trans (hb4.mono HB2.out.size))
      clear hb4
      go_wp2_with fail
      go_ret
      exact ⟨rfl, HB4.out⟩
    · rw [h1] at HX
      rw [h2] at HY
      clear h1 h2
      go_wp2_with fail
      refine HX.out.mono ?_
      rintro e w3 ⟨rfl, rfl⟩
      go_wp2_with fail
      refine HY.out.mono ?_
      rintro e w3 ⟨rfl, rfl⟩
      go_wp2_with fail
      refine (count_any x y ao cap H _ HI.out).mono ?_
      rintro e w2 ⟨c, ec, rfl, hA, hb2⟩
      have HA := Lib.hid hA
      have HB2 := Lib.hid hb2
      have HI2 := Lib.hid (HI.out.next hb2)
      clear hA hb2
      go_wp2_with fail
      refine (countR_any x y ao cap H _ HI2.out).mono ?_
      rintro e w3 ⟨c', ec', rfl, hB, rfl⟩
      obtain ⟨rfl, rfl⟩ := count_unique HA.out hB
      clear hB
      go_wp2_with fail
      refine (awake_any _).mono ?_
      rintro e w4 ⟨rfl, hb4⟩
      have HB4 := Lib.hid (HB2.out.trans (hb4.mono HB2.out.size))
      clear hb4
      go_wp2_with fail
      go_ret
      exact ⟨rfl, HB4.out⟩
    · rw [h1] at HX
      rw [h2] at HY
      obtain ⟨xn, rfl, hxn⟩ := isDay_nat h1
      obtain ⟨yn, rfl, hyn⟩ := isDay_nat h2
      clear h1 h2
      go_wp2_with fail
      refine HX.out.mono ?_
      rintro e w3 ⟨rfl, rfl⟩
      go_wp2_with fail
      refine HY.out.mono ?_
      rintro e w3 ⟨rfl, rfl⟩
      go_wp2_with fail
      refine (awake_any _).mono ?_
      rintro e w4 ⟨rfl, hb4⟩
      go_wp2_with fail
      go_ret
      exact ⟨rfl, hb4⟩
    · rw [h1] at HX
      rw [h2] at HY
      obtain ⟨xn, rfl, hxn⟩ := isDay_nat h1
      obtain ⟨yn, rfl, hyn⟩ := isDay_nat h2
      clear h1 h2
      go_wp2_with fail
      refine HX.out.mono ?_
      rintro e w3 ⟨rfl, rfl⟩
      go_wp2_with fail
      refine HY.out.mono ?_
      rintro e w3 ⟨rfl, rfl⟩
      go_wp2_with fail
      refine (count_any xn yn ao cap H _ HI.out).mono ?_
      rintro e w2 ⟨c, ec, rfl, hA, hb2⟩
      have HA := Lib.hid hA
      have HB2 := Lib.hid hb2
      have HI2 := Lib.hid (HI.out.next hb2)
      clear hA hb2
      go_wp2_with fail
      refine (countR_any xn yn ao cap H _ HI2.out).mono ?_
      rintro e w3 ⟨c', ec', rfl, hB, rfl⟩
      obtain ⟨rfl, rfl⟩ := count_unique HA.out hB
      clear hB
      go_wp2_with fail
      refine (awake_any _).mono ?_
      rintro e w4 ⟨rfl, hb4⟩
      have HB4 := Lib.hid (HB2.out.trans (hb4.mono HB2.out.size))
      clear hb4
      go_wp2_with fail
      go_ret
      exact ⟨rfl, HB4.out⟩
end Go.Proofs.Ytgabecolmldbjaa
