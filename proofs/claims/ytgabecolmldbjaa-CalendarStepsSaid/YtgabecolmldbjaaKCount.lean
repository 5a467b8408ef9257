/-
  Contracts: Count, and the document's answer.
-/
import Derived.Test.YtgabecolmldbjaaKAddR
namespace Go.Proofs.Ytgabecolmldbjaa
open Go.RowKit

/-- The business days from a up to b. -/
def betweenF (H : List Int) (a b : Int) : Int := if b ≤ a then 0 else (cnt H b.toNat : Nat) - (cnt H a.toNat : Nat)
/-- What Count answers. -/
def CountIs (H : List Int) (a b c e : Int) : Prop :=
  (1000 < H.length ∧ c = 0 ∧ e = 2) ∨ (H.length ≤ 1000 ∧ (isDayF a = false ∨ isDayF b = false) ∧ c = 0 ∧ e = 1) ∨ (H.length ≤ 1000 ∧ isDayF a = true ∧ isDayF b = true ∧ c = betweenF H a b ∧ e = 0)
theorem count_unique {H : List Int} {a b c e c' e' : Int} (h : CountIs H a b c e) (h' : CountIs H a b c' e') : c = c' ∧ e = e' := by
  rcases h with ⟨h1, rfl, rfl⟩ | ⟨h1, h2, rfl, rfl⟩ | ⟨h1, h2, h3, rfl, rfl⟩ <;> rcases h' with ⟨k1, rfl, rfl⟩ | ⟨k1, k2, rfl, rfl⟩ | ⟨k1, k2, k3, rfl, rfl⟩
  · exact ⟨rfl, rfl⟩
  · omega
  · omega
  · omega
  · exact ⟨rfl, rfl⟩
  · rw [k2, k3] at h2; simp at h2
  · omega
  · rw [h2, h3] at k2; simp at k2
  · exact ⟨rfl, rfl⟩

set_option maxRecDepth 100000 in
set_option maxHeartbeats 2000000 in
theorem count_any (a b : Int) (ao : Option Addr) (cap : Nat) (H : List Int) (w : World) (hI : Ints w ao H) :
    Calls Try.prog 23 #[.int .i64 a, .int .i64 b, .slice ao H.length cap] w fun e w' => ∃ c er, e = .returned (.tuple #[.int .i64 c, .int .i64 er]) ∧ CountIs H a b c er ∧ Below w.heap.size w w' := by
  by_cases hlong : 1000 < H.length
  · have hl : (1000 : Int) < (H.length : Int) := by omega
    go_enter Try.func23, Try.ntmps23
    go_wp2_with fail
    go_ret2
    exact ⟨0, 2, rfl, .inl ⟨hlong, rfl, rfl⟩, Below.refl _ _⟩
  have hl : ¬ (1000 : Int) < (H.length : Int) := by omega
  have hl' : H.length ≤ 1000 := by omega
  have HD := Lib.hid (isDay_any a w)
  have HE := Lib.hid (isDay_any b w)
  by_cases hdays : isDayF a = false ∨ isDayF b = false
  · have HDD := Lib.hid hdays
    have hside : isDayF a = false ∨ (isDayF a = true ∧ isDayF b = false) := by
      cases h : isDayF a
      · exact .inl rfl
      · exact .inr ⟨rfl, by simpa [h] using hdays⟩
    clear hdays
    rcases hside with h1 | ⟨h1, h2⟩
    · rw [h1] at HD
      clear h1
      go_enter Try.func23, Try.ntmps23
      go_wp2_with (go_at_call 32
                   go_must (refine HD.out.mono ?_)
                   rintro e w3 ⟨rfl, rfl⟩)
      go_ret2
      exact ⟨0, 1, rfl, .inr (.inl ⟨hl', HDD.out, rfl, rfl⟩), Below.refl _ _⟩
    · rw [h1] at HD
      rw [h2] at HE
      clear h1 h2
      go_enter Try.func23, Try.ntmps23
      go_wp2_with fail
      refine HD.out.mono ?_
      rintro e w3 ⟨rfl, rfl⟩
      go_wp2_with fail
      refine HE.out.mono ?_
      rintro e w3 ⟨rfl, rfl⟩
      go_wp2_with fail
      go_ret2
      exact ⟨0, 1, rfl, .inr (.inl ⟨hl', HDD.out, rfl, rfl⟩), Below.refl _ _⟩
  have h1 : isDayF a = true := by cases h : isDayF a <;> simp_all
  have h2 : isDayF b = true := by cases h : isDayF b <;> simp_all
  rw [h1] at HD
  rw [h2] at HE
  have HDD := Lib.hid (And.intro h1 h2)
  obtain ⟨m, rfl, hm⟩ := isDay_nat h1
  obtain ⟨n, rfl, hn⟩ := isDay_nat h2
  clear h1 h2 hdays
  by_cases hle : (n : Int) ≤ (m : Int)
  · have hbt : betweenF H m n = 0 := by simp only [betweenF, hle, if_true]
    have HBT := Lib.hid hbt
    clear hbt
    go_enter Try.func23, Try.ntmps23
    go_wp2_with fail
    refine HD.out.mono ?_
    rintro e w3 ⟨rfl, rfl⟩
    go_wp2_with fail
    refine HE.out.mono ?_
    rintro e w3 ⟨rfl, rfl⟩
    go_wp2_with fail
    go_ret2
    exact ⟨0, 0, rfl, .inr (.inr ⟨hl', HDD.out.1, HDD.out.2, HBT.out.symm, rfl⟩), Below.refl _ _⟩
  · have hbt : betweenF H m n = (cnt H n : Nat) - (cnt H m : Nat) := by simp only [betweenF, hle, if_false, Int.toNat_natCast]
    have HBT := Lib.hid hbt
    have HS := Lib.hid (sorted_any ao cap H w hI hl')
    have hc1 := cnt_le H m
    have hc2 := cnt_le H n
    have hm1 : (m : Int) ≤ 1048576 := by omega
    have hn1 : (n : Int) ≤ 1048576 := by omega
    clear hbt hI
    go_enter Try.func23, Try.ntmps23
    go_wp2_with fail
    refine HD.out.mono ?_
    rintro e w3 ⟨rfl, rfl⟩
    go_wp2_with fail
    refine HE.out.mono ?_
    rintro e w3 ⟨rfl, rfl⟩
    go_wp2_with fail
    refine HS.out.mono ?_
    rintro e w4 ⟨so, sc, C, rfl, hC, hIC, hb4⟩
    have hCl := hC.len
    have HC := Lib.hid hC
    have HIC := Lib.hid hIC
    have HB4 := Lib.hid hb4
    clear hC hIC hb4
    go_wp2_with fail
    refine (before_any HC.out so sc n _ HIC.out (by omega) (by omega)).mono ?_
    rintro e w5 ⟨rfl, hb5⟩
    have HIC5 := Lib.hid (HIC.out.next hb5)
    have HB5 := Lib.hid (HB4.out.trans (hb5.mono HB4.out.size))
    clear hb5
    go_wp2_with fail
    refine (before_any HC.out so sc m _ HIC5.out (by omega) (by omega)).mono ?_
    rintro e w6 ⟨rfl, hb6⟩
    have HB6 := Lib.hid (HB5.out.trans (hb6.mono HB5.out.size))
    clear hb6
    go_wp2_with fail
    go_ret2
    exact ⟨_, _, rfl, .inr (.inr ⟨hl', HDD.out.1, HDD.out.2, by rw [HBT.out], rfl⟩), HB6.out⟩

set_option maxRecDepth 100000 in
set_option maxHeartbeats 2000000 in
theorem countR_any (a b : Int) (ao : Option Addr) (cap : Nat) (H : List Int) (w : World) (hI : Ints w ao H) :
    Calls Try.prog 24 #[.int .i64 a, .int .i64 b, .slice ao H.length cap] w fun e w' => ∃ c er, e = .returned (.tuple #[.int .i64 c, .int .i64 er]) ∧ CountIs H a b c er ∧ w' = w := by
  by_cases hlong : 1000 < H.length
  · have hl : (1000 : Int) < (H.length : Int) := by omega
    go_enter Try.func24, Try.ntmps24
    go_wp2_with fail
    go_ret2
    exact ⟨0, 2, rfl, .inl ⟨hlong, rfl, rfl⟩, rfl⟩
  have hl : ¬ (1000 : Int) < (H.length : Int) := by omega
  have hl' : H.length ≤ 1000 := by omega
  have HD := Lib.hid (isDayR_any a w)
  have HE := Lib.hid (isDayR_any b w)
  by_cases hdays : isDayF a = false ∨ isDayF b = false
  · have HDD := Lib.hid hdays
    have hside : isDayF a = false ∨ (isDayF a = true ∧ isDayF b = false) := by
      cases h : isDayF a
      · exact .inl rfl
      · exact .inr ⟨rfl, by simpa [h] using hdays⟩
    clear hdays
    rcases hside with h1 | ⟨h1, h2⟩
    · rw [h1] at HD
      clear h1
      go_enter Try.func24, Try.ntmps24
      go_wp2_with (go_at_call 22
                   go_must (refine HD.out.mono ?_)
                   rintro e w3 ⟨rfl, rfl⟩)
      go_ret2
      exact ⟨0, 1, rfl, .inr (.inl ⟨hl', HDD.out, rfl, rfl⟩), rfl⟩
    · rw [h1] at HD
      rw [h2] at HE
      clear h1 h2
      go_enter Try.func24, Try.ntmps24
      go_wp2_with fail
      refine HD.out.mono ?_
      rintro e w3 ⟨rfl, rfl⟩
      go_wp2_with fail
      refine HE.out.mono ?_
      rintro e w3 ⟨rfl, rfl⟩
      go_wp2_with fail
      go_ret2
      exact ⟨0, 1, rfl, .inr (.inl ⟨hl', HDD.out, rfl, rfl⟩), rfl⟩
  have h1 : isDayF a = true := by cases h : isDayF a <;> simp_all
  have h2 : isDayF b = true := by cases h : isDayF b <;> simp_all
  rw [h1] at HD
  rw [h2] at HE
  have HDD := Lib.hid (And.intro h1 h2)
  obtain ⟨m, rfl, hm⟩ := isDay_nat h1
  obtain ⟨n, rfl, hn⟩ := isDay_nat h2
  have HBZ : Hid (∀ x : Int, Calls Try.prog 26 #[.int .i64 x, .slice ao H.length cap] w fun e w' => e = .returned (.bool (business H x)) ∧ w = w') := fun x => isBusinessR_any x ao cap H w hI (by omega)
  have hm1 : (m : Int) ≤ 1048576 := by omega
  have hn1 : (n : Int) ≤ 1048576 := by omega
  clear h1 h2 hdays hI
  go_enter Try.func24, Try.ntmps24
  go_wp2_with fail
  refine HD.out.mono ?_
  rintro e w3 ⟨rfl, rfl⟩
  go_wp2_with fail
  refine HE.out.mono ?_
  rintro e w3 ⟨rfl, rfl⟩
  go_wp2_with fail
  go_loopw [8, 9] (fun c d wr => ∃ (k : Nat) (j : Nat), d = .int .i64 k ∧ c = .int .i64 j ∧ m ≤ k ∧ (k ≤ n ∨ k = m) ∧ j + cnt H m = cnt H k ∧ wr = w) (fun _ d _ => n - (intOf d).toNat)
  case atStart => exact ⟨m, 0, rfl, rfl, by omega, .inr rfl, by omega, rfl⟩
  case round =>
    obtain ⟨k, j, rfl, rfl, hmk, hkn, hj, rfl⟩ := hrel
    by_cases hlt : k < n
    · have hk1 : (k : Int) < (n : Int) := by omega
      have hk2 : (k : Int) ≤ 1048576 := by omega
      have hjk := cnt_le H k
      have HB := Lib.hid (HBZ.out (k : Int))
      have hsucc := cnt_succ H k
      cases hb : business H (k : Int)
      · rw [hb] at HB hsucc
        rw [if_neg (by simp)] at hsucc
        have HS := Lib.hid hsucc
        have HJ := Lib.hid hj
        clear hb hsucc hj
        go_wp2_with (go_at_call 26
                     go_must (refine HB.out.mono ?_)
                     rintro e w3 ⟨rfl, rfl⟩)
        go_roundw
        case rel => exact ⟨k + 1, j, by go_num, rfl, by omega, by omega, by rw [HS.out]; exact HJ.out, by simp⟩
        case measure => simp [intOf]; omega
      · rw [hb] at HB hsucc
        rw [if_pos rfl] at hsucc
        have hjb : j ≤ 1048576 := by omega
        have HS := Lib.hid hsucc
        have HJ := Lib.hid hj
        clear hb hsucc hj
        go_wp2_with (go_at_call 26
                     go_must (refine HB.out.mono ?_)
                     rintro e w3 ⟨rfl, rfl⟩)
        go_roundw
        case rel => exact ⟨k + 1, j + 1, by go_num, by go_num, by omega, by omega, by have := HS.out; have := HJ.out; omega, by simp⟩
        case measure => simp [intOf]; omega
    · have hk1 : ¬ (k : Int) < (n : Int) := by omega
      have hbt : betweenF H m n = j := by
        simp only [betweenF, Int.toNat_natCast]
        split
        · have : k = m := by omega
          subst this
          omega
        · have : k = n := by omega
          subst this
          omega
      have HBT := Lib.hid hbt
      clear hbt hj
      go_wp2_with fail
      go_ret2
      exact ⟨_, _, rfl, .inr (.inr ⟨hl', HDD.out.1, HDD.out.2, by rw [HBT.out], rfl⟩), rfl⟩
end Go.Proofs.Ytgabecolmldbjaa
