/-
  Contracts: whether bytes are a proper beginning of a frame.
-/
import Derived.Test.YtkbdbinafjmjkaaJFirst3
namespace Go.Proofs.Ytkbdbinafjmjkaa
open Go.RowKit

/-- Whether fewer than four bytes, at least one, are the beginning of a body's length. -/
def reachF (b : List Int) : Bool := decide (getF b ≤ 65569 ∧ (3 ≤ getF b ∨ b.length ≤ 2))
/-- Whether bytes are a proper beginning of a frame. -/
def beginsF (b : List Int) : Bool :=
  if b.length < 4 then reachF b
  else if getF (b.take 4) < 3 ∨ 65569 < getF (b.take 4) then false
  else if b.length ≤ 8 then true
  else if getF (b.take 4) ≤ ((b.drop 8).length : Int) then false
  else if (lengthsF (b.drop 8)).2.2.2 = false then false
  else if (lengthsF (b.drop 8)).2.2.1 = true then decide ((lengthsF (b.drop 8)).2.1 = getF (b.take 4))
  else decide ((lengthsF (b.drop 8)).2.1 ≤ getF (b.take 4) ∧ getF (b.take 4) ≤ (lengthsF (b.drop 8)).2.1 + ((b.drop 8).getD 0 0 - (lengthsF (b.drop 8)).1.length) * 4096)

theorem lensGo_bd (b : List Int) (f i : Nat) (l : List Int) (t : Int) (hb : Bytes b) (ht : 0 ≤ t) : 0 ≤ (lensGo b f i l t).2.1 ∧ (lensGo b f i l t).2.1 ≤ t + 4096 * f ∧ (lensGo b f i l t).1.length ≤ l.length + f := by
  induction f generalizing i l t with
  | zero => exact ⟨ht, by simp [lensGo], Nat.le_refl _⟩
  | succ f ih =>
    unfold lensGo
    by_cases h1 : b.length < 1 + 2 * i + 2
    · rw [if_pos h1]; exact ⟨ht, by dsimp only; omega, by dsimp only; omega⟩
    rw [if_neg h1]
    by_cases h2 : 4096 < getF [b.getD (1 + 2 * i) 0, b.getD (2 + 2 * i) 0]
    · rw [if_pos h2]; exact ⟨Int.le_refl _, by dsimp only; omega, by simp⟩
    rw [if_neg h2]
    have hz := getF_bd [b.getD (1 + 2 * i) 0, b.getD (2 + 2 * i) 0] (fun x hx => by
      simp only [List.mem_cons, List.not_mem_nil, or_false] at hx
      rcases hx with rfl | rfl
      · exact hb _ (getD_mem0 b _ (by omega))
      · exact hb _ (getD_mem0 b _ (by omega)))
    generalize getF [b.getD (1 + 2 * i) 0, b.getD (2 + 2 * i) 0] = z at *
    obtain ⟨e1, e2, e3⟩ := ih (i + 1) (l ++ [z]) (t + z) (by omega)
    rw [List.length_append, List.length_singleton] at e3
    exact ⟨e1, by omega, by omega⟩
theorem lengths_bd (b : List Int) (hb : Bytes b) : 0 ≤ (lengthsF b).2.1 ∧ (lengthsF b).2.1 ≤ 65569 ∧ (lengthsF b).1.length ≤ 16 := by
  unfold lengthsF
  by_cases h1 : b.length = 0
  · rw [if_pos h1]; simp
  rw [if_neg h1]
  by_cases h2 : b.getD 0 0 < 1 ∨ 16 < b.getD 0 0
  · rw [if_pos h2]; simp
  rw [if_neg h2]
  obtain ⟨e1, e2, e3⟩ := lensGo_bd b (b.getD 0 0).toNat 0 [] (1 + 2 * b.getD 0 0) hb (by omega)
  rw [List.length_nil] at e3
  exact ⟨e1, by omega, by omega⟩

set_option maxRecDepth 100000 in
set_option maxHeartbeats 2000000 in
theorem reach_one (ao : Option Addr) (cap : Nat) (low : Int) (w : World) (h0 : 0 ≤ low) (h1 : low < 256)
    (HG : Hid (Calls Try.prog 48 #[.slice ao 1 cap] w fun e w' => e = .returned (.int .u32 low) ∧ w = w')) :
    Calls Try.prog 56 #[.slice ao 1 cap] w fun e w' => e = .returned (.bool true) ∧ w = w' := by
  go_enter Try.func56, Try.ntmps56
  go_wp2_with fail
  refine HG.out.mono ?_
  rintro e w2 ⟨rfl, rfl⟩
  go_wp2_with fail
  go_loopw [5] (fun v wr => ∃ q : Int, v = .int .i64 q ∧ (q = low ∨ (low < 3 ∧ q = low + 256)) ∧ wr = w) (fun v _ => (16842785 - intOf v).toNat)
  case atStart => exact ⟨low, rfl, .inl rfl, rfl⟩
  case round =>
    obtain ⟨q, rfl, hq, rfl⟩ := hrel
    have q0 : 0 ≤ q := by omega
    have q1 : q < 16842785 := by omega
    have q3 : q ≤ 65569 := by omega
    by_cases q2 : q < 3
    · have HQ := Lib.hid hq
      clear hq
      go_wp2_with fail
      go_roundw
      case rel => exact ⟨q + 256, rfl, .inr (by have := HQ.out; omega), by first | rfl | trivial⟩
      case measure => simp [intOf]; omega
    · have q4 : 3 ≤ q := by omega
      clear hq
      go_wp2_with fail
      go_ret
      exact ⟨rfl, rfl⟩
set_option maxRecDepth 100000 in
set_option maxHeartbeats 2000000 in
theorem reach_two (ao : Option Addr) (cap : Nat) (low : Int) (w : World) (h0 : 0 ≤ low) (h1 : low < 65536)
    (HG : Hid (Calls Try.prog 48 #[.slice ao 2 cap] w fun e w' => e = .returned (.int .u32 low) ∧ w = w')) :
    Calls Try.prog 56 #[.slice ao 2 cap] w fun e w' => e = .returned (.bool true) ∧ w = w' := by
  go_enter Try.func56, Try.ntmps56
  go_wp2_with fail
  refine HG.out.mono ?_
  rintro e w2 ⟨rfl, rfl⟩
  go_wp2_with fail
  go_loopw [5] (fun v wr => ∃ q : Int, v = .int .i64 q ∧ (q = low ∨ (low < 3 ∧ q = low + 65536)) ∧ wr = w) (fun v _ => (16842785 - intOf v).toNat)
  case atStart => exact ⟨low, rfl, .inl rfl, rfl⟩
  case round =>
    obtain ⟨q, rfl, hq, rfl⟩ := hrel
    have q0 : 0 ≤ q := by omega
    have q1 : q < 16842785 := by omega
    have q3 : q ≤ 65569 := by omega
    by_cases q2 : q < 3
    · have HQ := Lib.hid hq
      clear hq
      go_wp2_with fail
      go_roundw
      case rel => exact ⟨q + 65536, rfl, .inr (by have := HQ.out; omega), by first | rfl | trivial⟩
      case measure => simp [intOf]; omega
    · have q4 : 3 ≤ q := by omega
      clear hq
      go_wp2_with fail
      go_ret
      exact ⟨rfl, rfl⟩
set_option maxRecDepth 100000 in
set_option maxHeartbeats 2000000 in
theorem reach_three (ao : Option Addr) (cap : Nat) (low : Int) (w : World) (h0 : 0 ≤ low) (h1 : low < 16777216) (R : Bool) (hR0 : R = decide (3 ≤ low ∧ low ≤ 65569))
    (HG : Hid (Calls Try.prog 48 #[.slice ao 3 cap] w fun e w' => e = .returned (.int .u32 low) ∧ w = w')) :
    Calls Try.prog 56 #[.slice ao 3 cap] w fun e w' => e = .returned (.bool R) ∧ w = w' := by
  have HR0 := Lib.hid hR0
  clear hR0
  go_enter Try.func56, Try.ntmps56
  go_wp2_with fail
  refine HG.out.mono ?_
  rintro e w2 ⟨rfl, rfl⟩
  go_wp2_with fail
  go_loopw [5] (fun v wr => ∃ q : Int, v = .int .i64 q ∧ (q = low ∨ (low < 3 ∧ q = low + 16777216)) ∧ wr = w) (fun v _ => (16842785 - intOf v).toNat)
  case atStart => exact ⟨low, rfl, .inl rfl, rfl⟩
  case round =>
    obtain ⟨q, rfl, hq, rfl⟩ := hrel
    have q0 : 0 ≤ q := by omega
    have q1 : q < 16842785 := by omega
    by_cases q3 : 65569 < q
    · have hr : R = false := by rw [HR0.out]; simp; omega
      have HR := Lib.hid hr
      clear hq hr
      go_wp2_with fail
      go_ret
      exact ⟨by rw [HR.out]; rfl, by first | rfl | trivial⟩
    · have q5 : q ≤ 65569 := by omega
      by_cases q2 : q < 3
      · have HQ := Lib.hid hq
        clear hq
        go_wp2_with fail
        go_roundw
        case rel => exact ⟨q + 16777216, rfl, .inr (by have := HQ.out; omega), by first | rfl | trivial⟩
        case measure => simp [intOf]; omega
      · have q4 : 3 ≤ q := by omega
        have hr : R = true := by rw [HR0.out]; simp; omega
        have HR := Lib.hid hr
        clear hq hr
        go_wp2_with fail
        go_ret
        exact ⟨by rw [HR.out]; rfl, by first | rfl | trivial⟩

theorem reach_any (ao : Option Addr) (cap n : Nat) (b : List Int) (w : World) (hn : b.length = n) (hB : Byt w ao b) (hb : Bytes b) (h1 : 1 ≤ n) (h3 : n < 4) :
    Calls Try.prog 56 #[.slice ao n cap] w fun e w' => e = .returned (.bool (reachF b)) ∧ w = w' := by
  have hG := get_any ao cap n b w hn hB hb (by omega)
  obtain ⟨g0, g1⟩ := getF_bd b hb
  rw [hn] at g1
  unfold reachF
  rw [hn]
  generalize getF b = low at *
  have h : n = 1 ∨ n = 2 ∨ n = 3 := by omega
  rcases h with rfl | rfl | rfl
  · have hr : decide (low ≤ 65569 ∧ (3 ≤ low ∨ 1 ≤ 2)) = true := by simp; omega
    rw [hr]
    exact reach_one ao cap low w g0 (by omega) (Lib.hid hG)
  · have hr : decide (low ≤ 65569 ∧ (3 ≤ low ∨ 2 ≤ 2)) = true := by simp; omega
    rw [hr]
    exact reach_two ao cap low w g0 (by omega) (Lib.hid hG)
  · have hr : decide (low ≤ 65569 ∧ (3 ≤ low ∨ 3 ≤ 2)) = decide (3 ≤ low ∧ low ≤ 65569) := by
      apply decide_eq_decide.2; omega
    rw [hr]
    exact reach_three ao cap low w g0 (by omega) _ rfl (Lib.hid hG)

set_option maxRecDepth 100000 in
set_option maxHeartbeats 4000000 in
theorem begins_any (ao : Option Addr) (cap n : Nat) (b : List Int) (w : World) (hn : b.length = n) (hB : Byt w ao b) (hb : Bytes b) (h1 : 1 ≤ n) (hc0 : n ≤ cap) (hc1 : cap ≤ 9223372036854775807) (hl : n ≤ 300000) :
    Calls Try.prog 51 #[.slice ao n cap] w fun e w' => e = .returned (.bool (beginsF b)) ∧ Below w.heap.size w w' := by
  subst hn
  have HB := Lib.hid hB
  by_cases h4 : b.length < 4
  · have hF : beginsF b = reachF b := by unfold beginsF; rw [if_pos h4]
    rw [hF]
    have HR := Lib.hid (reach_any ao cap _ b w rfl hB hb h1 h4)
    have h4i : (b.length : Int) < 4 := by omega
    clear hB hb hF
    go_enter Try.func51, Try.ntmps51
    go_wp2_with fail
    refine HR.out.mono ?_
    rintro e w2 ⟨rfl, rfl⟩
    go_wp2_with fail
    go_ret
    exact ⟨rfl, Below.refl _ _⟩
  rcases hB with h0 | ⟨blk, off, rfl, hbw, hc⟩
  · rw [h0] at h4
    simp at h4
  have h4i : (4 : Int) ≤ (b.length : Int) := by omega
  have hci : (b.length : Int) ≤ (cap : Int) := by omega
  have hG0 := get_any (some ⟨blk, off, none⟩) cap 4 (b.take 4) w (by simp; omega) (by have := HB.out.part 0 4 (by omega); simpa using this) (bytes_take hb 4) (by omega)
  obtain ⟨n0, n1⟩ := getF_four b hb 0
  rw [List.drop_zero] at n0 n1
  obtain ⟨R, hR⟩ : ∃ R, beginsF b = R := ⟨_, rfl⟩
  rw [hR]
  unfold beginsF at hR
  rw [if_neg h4] at hR
  generalize getF (b.take 4) = N at hG0 n0 n1 hR
  have HG0 := Lib.hid hG0
  clear hG0
  by_cases hbig : N < 3 ∨ 65569 < N
  · rw [if_pos hbig] at hR
    subst hR
    clear hb hc
    by_cases hb3 : N < 3
    · go_enter Try.func51, Try.ntmps51
      go_wp2_with fail
      refine HG0.out.mono ?_
      rintro e w2 ⟨rfl, rfl⟩
      go_wp2_with fail
      go_ret
      exact ⟨rfl, Below.refl _ _⟩
    · have hb4 : 65569 < N := by omega
      go_enter Try.func51, Try.ntmps51
      go_wp2_with fail
      refine HG0.out.mono ?_
      rintro e w2 ⟨rfl, rfl⟩
      go_wp2_with fail
      go_ret
      exact ⟨rfl, Below.refl _ _⟩
  rw [if_neg hbig] at hR
  have hN3 : 3 ≤ N := by omega
  have hN4 : N ≤ 65569 := by omega
  clear hbig n1
  by_cases h8 : b.length ≤ 8
  · rw [if_pos h8] at hR
    subst hR
    have h8i : (b.length : Int) ≤ 8 := by omega
    clear hb hc
    go_enter Try.func51, Try.ntmps51
    go_wp2_with fail
    refine HG0.out.mono ?_
    rintro e w2 ⟨rfl, rfl⟩
    go_wp2_with fail
    go_ret
    exact ⟨rfl, Below.refl _ _⟩
  rw [if_neg h8] at hR
  have h8i : (8 : Int) < (b.length : Int) := by omega
  have hc8 : ¬ cap = 8 := by omega
  have hc8i : (8 : Int) < (cap : Int) := by omega
  have hbody := HB.out.part 8 (b.length - 8) (by omega)
  have hbl : (b.drop 8).length = b.length - 8 := by simp
  have htk : (b.drop 8).take (b.length - 8) = b.drop 8 := List.take_of_length_le (by omega)
  rw [htk] at hbody
  have hbb : Bytes (b.drop 8) := fun x hx => hb x (List.mem_of_mem_drop hx)
  have hc9 := hc 8 (by omega)
  have hz := hb (b.getD 8 0) (getD_mem0 b 8 (by omega))
  have hgd : (b.drop 8).getD 0 0 = b.getD 8 0 := by simp [List.getD]
  rw [hgd, hbl] at hR
  obtain ⟨m, hm⟩ : ∃ m, b.length - 8 = m := ⟨_, rfl⟩
  have hmi : (b.length : Int) = m + 8 := by omega
  rw [hm] at hR hbl
  have hbd := lengths_bd (b.drop 8) hbb
  have hL := lengths_any (some ⟨blk, off + 8, none⟩) (cap - 8) m (b.drop 8) w hbl hbody hbb (by omega) (by omega)
  generalize lengthsF (b.drop 8) = T at hL hR hbd
  obtain ⟨L, tot, wh, ok⟩ := T
  dsimp only at hL hR hbd
  have HL := Lib.hid hL
  generalize b.getD 8 0 = z at hc9 hz hR
  generalize b.length = n at *
  obtain rfl : n = m + 8 := by omega
  clear hc hb hbody hbl htk hbb hgd hm hL h8 h4 HB h1 hl hc0
  obtain ⟨t0, t1, t2⟩ := hbd
  obtain ⟨z0, z1⟩ := hz
  have hli : (L.length : Int) ≤ 16 := by omega
  have hl0 : (0 : Int) ≤ (L.length : Int) := by omega
  by_cases hge : N ≤ (m : Int)
  · rw [if_pos hge] at hR
    subst hR
    go_enter Try.func51, Try.ntmps51
    go_wp2_with fail
    refine HG0.out.mono ?_
    rintro e w2 ⟨rfl, rfl⟩
    go_wp2_with fail
    go_ret
    exact ⟨rfl, Below.refl _ _⟩
  rw [if_neg hge] at hR
  have hlt : (m : Int) < N := by omega
  clear hge
  cases ok with
  | false =>
    rw [if_pos rfl] at hR
    subst hR
    go_enter Try.func51, Try.ntmps51
    go_wp2_with fail
    refine HG0.out.mono ?_
    rintro e w2 ⟨rfl, rfl⟩
    go_wp2_with fail
    refine HL.out.mono ?_
    rintro e w3 ⟨lo, lc, rfl, -, hb3⟩
    have hc3 := (hb3.cell (p := ⟨blk, off + 8, none⟩) hbw).trans hc9
    have HB3 := Lib.hid hb3
    clear hb3 hc9
    go_wp2_with fail
    go_ret
    exact ⟨rfl, HB3.out⟩
  | true =>
    rw [if_neg (by simp)] at hR
    cases wh with
    | true =>
      rw [if_pos rfl] at hR
      have HR := Lib.hid hR
      clear hR
      go_enter Try.func51, Try.ntmps51
      go_wp2_with fail
      refine HG0.out.mono ?_
      rintro e w2 ⟨rfl, rfl⟩
      go_wp2_with fail
      refine HL.out.mono ?_
      rintro e w3 ⟨lo, lc, rfl, -, hb3⟩
      have hc3 := (hb3.cell (p := ⟨blk, off + 8, none⟩) hbw).trans hc9
      have HB3 := Lib.hid hb3
      clear hb3 hc9
      go_wp2_with fail
      go_ret
      exact ⟨by rw [← HR.out]; rfl, HB3.out⟩
    | false =>
      rw [if_neg (by simp)] at hR
      have HR := Lib.hid hR
      clear hR
      by_cases hle : tot ≤ N
      · have hle2 : (decide (tot ≤ N)) = true := by simpa using hle
        go_enter Try.func51, Try.ntmps51
        go_wp2_with fail
        refine HG0.out.mono ?_
        rintro e w2 ⟨rfl, rfl⟩
        go_wp2_with fail
        refine HL.out.mono ?_
        rintro e w3 ⟨lo, lc, rfl, -, hb3⟩
        have hc3 := (hb3.cell (p := ⟨blk, off + 8, none⟩) hbw).trans hc9
        have HB3 := Lib.hid hb3
        clear hb3 hc9
        go_wp2_with fail
        go_ret
        refine ⟨?_, HB3.out⟩
        rw [← HR.out]
        simp [hle]
      · have hle2 : N < tot := by omega
        go_enter Try.func51, Try.ntmps51
        go_wp2_with fail
        refine HG0.out.mono ?_
        rintro e w2 ⟨rfl, rfl⟩
        go_wp2_with fail
        refine HL.out.mono ?_
        rintro e w3 ⟨lo, lc, rfl, -, hb3⟩
        have hc3 := (hb3.cell (p := ⟨blk, off + 8, none⟩) hbw).trans hc9
        have HB3 := Lib.hid hb3
        clear hb3 hc9
        go_wp2_with fail
        go_ret
        refine ⟨?_, HB3.out⟩
        rw [← HR.out]
        simp
        omega
end Go.Proofs.Ytkbdbinafjmjkaa
