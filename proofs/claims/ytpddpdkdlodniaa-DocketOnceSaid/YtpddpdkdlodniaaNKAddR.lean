/-
  Contracts: the document's answers for Add and Next.
-/
import Derived.Test.YtpddpdkdlodniaaNKAdd
namespace Go.Proofs.Ytpddpdkdlodniaa
open Go.RowKit

/-- The tries that are left. -/
def leftF (n : Int) : Int := if n ≤ 1 then 1 else n

set_option maxRecDepth 100000 in
set_option maxHeartbeats 2000000 in
theorem addR_loop (day n : Int) (m s : Nat) (T : Int) (ao : Option Addr) (cap : Nat) (H : List Int) (w : World) (hI : Ints w ao H) (hl : H.length ≤ 1000) (hday : day = m) (hm : m ≤ 1048576) (n0 : 0 ≤ n) (n1 : n ≤ 1048576)
    (hs : (n = 0 ∧ s = m) ∨ (0 < n ∧ s = m + 1)) (hT : leftF n + (cnt H s : Nat) = T + 1) :
    Calls Try.prog 61 #[.int .i64 day, .int .i64 n, .slice ao H.length cap] w fun e w' => ∃ d er, e = .returned (.tuple #[.int .i64 d, .int .i64 er]) ∧ NthIs H T d er ∧ w' = w := by
  subst hday
  have hl' : ¬ (1000 : Int) < (H.length : Int) := by omega
  have HD := Lib.hid (isDayR_any (m : Int) w)
  have hd : isDayF (m : Int) = true := by simp [isDayF]; omega
  rw [hd] at HD
  have HBZ : Hid (∀ x : Int, Calls Try.prog 70 #[.int .i64 x, .slice ao H.length cap] w fun e w' => e = .returned (.bool (business H x)) ∧ w = w') := fun x => isBusinessR_any x ao cap H w hI (by omega)
  have HT := Lib.hid hT
  have hm1 : (m : Int) ≤ 1048576 := by omega
  have hm0 : (0 : Int) ≤ (m : Int) := by omega
  clear hd hI hT
  rcases hs with ⟨rfl, rfl⟩ | ⟨hpos, rfl⟩
  all_goals
    go_enter Try.func61, Try.ntmps61
    go_wp2_with (go_at_call 69
                 go_must (refine HD.out.mono ?_)
                 rintro e w3 ⟨rfl, rfl⟩)
    go_loopw [1, 8] (fun n' d' wr => ∃ (dd : Nat) (k : Int), d' = .int .i64 dd ∧ n' = .int .i64 k ∧ dd ≤ 1048577 ∧ 0 ≤ k ∧ k ≤ 1048576 ∧ leftF k + (cnt H dd : Nat) = T + 1 ∧ wr = w) (fun _ d' _ => 1048577 - (intOf d').toNat)
    case atStart => first | exact ⟨_, 0, rfl, rfl, by omega, by omega, by omega, HT.out, rfl⟩ | exact ⟨m + 1, n, by simp, rfl, by omega, by omega, by omega, HT.out, rfl⟩
    case round =>
      obtain ⟨dd, k, rfl, rfl, hdd, k0, k1, hk, rfl⟩ := hrel
      by_cases hend : dd ≤ 1048576
      · have hdi : (dd : Int) ≤ 1048576 := by omega
        have hd0 : (0 : Int) ≤ (dd : Int) := by omega
        have HB := Lib.hid (HBZ.out (dd : Int))
        have hsucc := cnt_succ H dd
        have hwr : IntKind.i64.wrap ((dd : Int) + 1) = (dd : Int) + 1 := IntWalk.i64_in _ ⟨by omega, by omega⟩
        cases hb : business H (dd : Int)
        · rw [hb] at HB hsucc
          rw [if_neg (by simp)] at hsucc
          have HK := Lib.hid hk
          have HSU := Lib.hid hsucc
          clear hk hb hsucc
          go_wp2_with (go_at_call 70
                       go_must (refine HB.out.mono ?_)
                       rintro e w3 ⟨rfl, rfl⟩)
          go_roundw
          case rel => exact ⟨dd + 1, k, by go_num, rfl, by omega, k0, k1, by rw [HSU.out, Nat.add_zero]; exact HK.out, by simp⟩
          case measure => simp [intOf]; omega
        · rw [hb] at HB hsucc
          rw [if_pos rfl] at hsucc
          by_cases hlast : k ≤ 1
          · have e1 : leftF k = 1 := by simp [leftF, hlast]
            have hN : NthIs H T dd 0 := .inl ⟨dd, rfl, hend, by omega, by omega, rfl⟩
            have HN := Lib.hid hN
            clear hk hb hsucc hN e1
            go_wp2_with (go_at_call 70
                         go_must (refine HB.out.mono ?_)
                         rintro e w3 ⟨rfl, rfl⟩)
            go_ret2
            exact ⟨_, _, rfl, HN.out, rfl⟩
          · have e1 : leftF k = k := by simp [leftF, hlast]
            have e2 : leftF (k - 1) = k - 1 := by
              unfold leftF
              split <;> omega
            have hnew : leftF (k - 1) + (cnt H (dd + 1) : Nat) = T + 1 := by omega
            have HN := Lib.hid hnew
            have hk1 : 1 < k := by omega
            clear hk hb hsucc hnew e1 e2
            go_wp2_with (go_at_call 70
                         go_must (refine HB.out.mono ?_)
                         rintro e w3 ⟨rfl, rfl⟩)
            go_roundw
            case rel => exact ⟨dd + 1, k - 1, by go_num, rfl, by omega, by omega, by omega, HN.out, by simp⟩
            case measure => simp [intOf]; omega
      · obtain rfl : dd = 1048577 := by omega
        have h1 : 1 ≤ leftF k := by unfold leftF; split <;> omega
        have hN : NthIs H T 0 1 := .inr ⟨by omega, rfl, rfl⟩
        have HN := Lib.hid hN
        clear hk hN
        go_wp2_with fail
        go_ret2
        exact ⟨_, _, rfl, HN.out, rfl⟩

set_option maxHeartbeats 1000000 in
theorem addR_any (day n : Int) (ao : Option Addr) (cap : Nat) (H : List Int) (w : World) (hI : Ints w ao H) :
    Calls Try.prog 61 #[.int .i64 day, .int .i64 n, .slice ao H.length cap] w fun e w' => ∃ d er, e = .returned (.tuple #[.int .i64 d, .int .i64 er]) ∧ AddIs H day n d er ∧ w' = w := by
  by_cases hlong : 1000 < H.length
  · have hl : (1000 : Int) < (H.length : Int) := by omega
    go_enter Try.func61, Try.ntmps61
    go_wp2_with fail
    go_ret2
    exact ⟨0, 2, rfl, .inl ⟨hlong, rfl, rfl⟩, rfl⟩
  have hl : ¬ (1000 : Int) < (H.length : Int) := by omega
  have hl' : H.length ≤ 1000 := by omega
  cases hd : isDayF day
  · have HD := Lib.hid (isDayR_any day w)
    rw [hd] at HD
    have HDD := Lib.hid hd
    clear hd
    go_enter Try.func61, Try.ntmps61
    go_wp2_with (go_at_call 69
                 go_must (refine HD.out.mono ?_)
                 rintro e w3 ⟨rfl, rfl⟩)
    go_ret2
    exact ⟨0, 1, rfl, .inr (.inl ⟨hl', .inl HDD.out, rfl, rfl⟩), rfl⟩
  by_cases hbad : n < 0 ∨ 1048576 < n
  · have HD := Lib.hid (isDayR_any day w)
    rw [hd] at HD
    clear hd
    have hside : n < 0 ∨ (¬ n < 0 ∧ 1048576 < n) := by omega
    rcases hside with hs | ⟨hs, hs2⟩
    all_goals
      go_enter Try.func61, Try.ntmps61
      go_wp2_with (go_at_call 69
                   go_must (refine HD.out.mono ?_)
                   rintro e w3 ⟨rfl, rfl⟩)
      go_ret2
      exact ⟨0, 1, rfl, .inr (.inl ⟨hl', .inr hbad, rfl, rfl⟩), rfl⟩
  obtain ⟨m, rfl, hm⟩ := isDay_nat hd
  by_cases hn : n = 0
  · subst hn
    exact (addR_loop m 0 m m (targetF H m 0) ao cap H w hI hl' rfl hm (by omega) (by omega) (.inl ⟨rfl, rfl⟩) (by simp [targetF, leftF]; omega)).mono fun e w' ⟨d, er, he, h, hw⟩ => ⟨d, er, he, .inr (.inr ⟨hl', hd, by omega, by omega, h⟩), hw⟩
  · refine (addR_loop m n m (m + 1) (targetF H m n) ao cap H w hI hl' rfl hm (by omega) (by omega) (.inr ⟨by omega, rfl⟩) ?_).mono fun e w' ⟨d, er, he, h, hw⟩ => ⟨d, er, he, .inr (.inr ⟨hl', hd, by omega, by omega, h⟩), hw⟩
    have e1 : leftF n = n := by unfold leftF; split <;> omega
    simp only [targetF, hn, if_false, e1, Int.toNat_natCast]
    omega

end Go.Proofs.Ytpddpdkdlodniaa
