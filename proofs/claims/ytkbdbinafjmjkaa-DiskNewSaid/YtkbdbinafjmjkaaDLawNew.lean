/-
  What the disk's operations do on nil; New for every room; DiskNew's walk.
-/
import Derived.Test.YtkbdbinafjmjkaaDKept0
import Derived.Test.YtkbdbinafjmjkaaDRef
namespace Go.Proofs.Ytkbdbinafjmjkaa
open Go.RowKit

theorem begin_nil (w : World) : Calls Try.prog 36 #[.pointer none] w fun e w' => e = .returned (.bool false) ∧ w = w' := by
  go_enter Try.func36, Try.ntmps36
  go_wp2
  go_ret
  exact ⟨rfl, rfl⟩

theorem append_nil (ao : Option Addr) (m c : Nat) (w : World) : Calls Try.prog 15 #[.pointer none, .slice ao m c] w fun e w' => e = .returned (.int .i64 42) ∧ w = w' := by
  go_enter Try.func15, Try.ntmps15
  go_wp2
  go_ret
  exact ⟨rfl, rfl⟩

theorem sync_nil (w : World) : Calls Try.prog 16 #[.pointer none] w fun e w' => e = .returned (.int .i64 42) ∧ w = w' := by
  go_enter Try.func16, Try.ntmps16
  go_wp2
  go_ret
  exact ⟨rfl, rfl⟩

theorem trunc_nil (n : Int) (w : World) : Calls Try.prog 26 #[.pointer none, .int .i64 n] w fun e w' => e = .returned (.int .i64 42) ∧ w = w' := by
  go_enter Try.func26, Try.ntmps26
  go_wp2
  go_ret
  exact ⟨rfl, rfl⟩

theorem size_nil (w : World) : Calls Try.prog 20 #[.pointer none] w fun e w' => e = .returned (.int .i64 0) ∧ w = w' := by
  go_enter Try.func20, Try.ntmps20
  go_wp2
  go_ret
  exact ⟨rfl, rfl⟩

theorem ops_nil (w : World) : Calls Try.prog 27 #[.pointer none] w fun e w' => e = .returned (.int .i64 0) ∧ w = w' := by
  go_enter Try.func27, Try.ntmps27
  go_wp2
  go_ret
  exact ⟨rfl, rfl⟩

theorem read_nil (w : World) : Calls Try.prog 17 #[.pointer none] w fun e w' => e = .returned (.slice none 0 0) ∧ w = w' := by
  go_enter Try.func17, Try.ntmps17
  go_wp2
  go_ret
  exact ⟨rfl, rfl⟩

theorem crash_nil (n k : Int) (w : World) : Calls Try.prog 18 #[.pointer none, .int .i64 n, .int .i64 k] w fun e w' => e = .returned (.pointer none) ∧ w = w' := by
  go_enter Try.func18, Try.ntmps18
  go_wp2
  go_ret
  exact ⟨rfl, rfl⟩

theorem cut_nil (n : Int) (w : World) : Calls Try.prog 25 #[.pointer none, .int .i64 n] w fun e w' => e = .returned (.tuple #[]) ∧ w = w' := by
  go_enter Try.func25, Try.ntmps25
  go_wp2
  refine bodyPost_ret (results_none rfl _ _ _) rfl ?_
  exact ⟨rfl, rfl⟩

def newCode (room : Int) : Int := if 0 ≤ room ∧ room ≤ 262144 then 0 else 1
theorem new_gen (room : Int) (w : World) : Calls Try.prog 14 #[.int .i64 room] w fun e w' => ∃ pv, e = .returned (.tuple #[.pointer pv, .int .i64 (newCode room)]) ∧ Below w.heap.size w w' := by
  unfold newCode
  by_cases h : 0 ≤ room ∧ room ≤ 262144
  · rw [if_pos h]
    exact (new_any room w h.1 h.2).mono fun _ _ ⟨he, _, hb⟩ => ⟨_, he, hb⟩
  · rw [if_neg h]
    exact (new_bad room w (by omega)).mono fun _ _ ⟨he, hw⟩ => ⟨_, he, hw ▸ Below.refl _ _⟩
theorem newR_gen (room : Int) (w : World) : Calls Try.prog 21 #[.int .i64 room] w fun e w' => ∃ pv, e = .returned (.tuple #[.pointer pv, .int .i64 (newCode room)]) ∧ Below w.heap.size w w' := by
  unfold newCode
  by_cases h : 0 ≤ room ∧ room ≤ 262144
  · rw [if_pos h]
    exact (newR_any room w h.1 h.2).mono fun _ _ ⟨he, _, hb⟩ => ⟨_, he, hb⟩
  · rw [if_neg h]
    exact (newR_bad room w (by omega)).mono fun _ _ ⟨he, hw⟩ => ⟨_, he, hw ▸ Below.refl _ _⟩

theorem below_chain {w w' w'' : World} (h : Below w.heap.size w w') (h' : Below w'.heap.size w' w'') : Below w.heap.size w w'' := h.trans (h'.mono h.size)

theorem diskNew_long (bo : Option Addr) (room near n : Int) (m c : Nat) (w : World) (h : 20 < m) :
    Calls Try.prog 6 #[.int .i64 room, .int .i8 near, .slice bo m c, .int .i64 n] w fun e w' => e = .returned (.bool true) ∧ Below w.heap.size w w' := by
  have h1 : (20 : Int) < (m : Int) := by omega
  go_enter Try.func6, Try.ntmps6
  go_wp2_with (go_at_call 19; refine (awake_any _).mono ?_; rintro e w9 ⟨rfl, hb9⟩)
  go_ret
  exact ⟨rfl, hb9⟩

theorem zero_state (b : List Int) : (appendF (newD 0) b).1 = if b.length = 0 then 0 else 43 := by
  unfold appendF
  rw [if_pos (by decide)]
  have e : (newD 0).room - ((newD 0).bs.length : Int) = 0 := by decide
  rw [e]
  by_cases h : b.length = 0
  · rw [if_neg (by omega), if_pos h]
  · rw [if_pos (by omega), if_neg h]

set_option maxRecDepth 100000 in
set_option maxHeartbeats 2000000 in
theorem diskNew_walk (bo : Option Addr) (room near n : Int) (m c : Nat) (b : List Int) (w : World) (hm : b.length = m) (hb : Byt w bo b) (hbb : Bytes b) (h : m ≤ 20) (n0 : -128 ≤ near) (n1 : near ≤ 127) :
    Calls Try.prog 6 #[.int .i64 room, .int .i8 near, .slice bo m c, .int .i64 n] w fun e w' => e = .returned (.bool true) ∧ Below w.heap.size w w' := by
  have h1 : ¬ (20 : Int) < (m : Int) := by omega
  obtain ⟨r, hr⟩ : ∃ r, near.tmod 3 = r := ⟨_, rfl⟩
  have hr1 := Int.tmod_eq_emod (a := near) (b := 3)
  have hr2 : -2 ≤ r ∧ r ≤ 2 := by
    rw [hr] at hr1
    split at hr1 <;> omega
  clear hr1
  obtain ⟨r0, r1⟩ := hr2
  obtain ⟨cd, hcd⟩ : ∃ cd, newCode room = cd := ⟨_, rfl⟩
  have HN := Lib.hid (fun w => new_gen room w)
  have HNR := Lib.hid (fun w => newR_gen room w)
  rw [hcd] at HN HNR
  obtain ⟨ce, hce⟩ : ∃ ce, newCode (262144 + r) = ce := ⟨_, rfl⟩
  have HE := Lib.hid (fun w => new_gen (262144 + r) w)
  have HER := Lib.hid (fun w => newR_gen (262144 + r) w)
  rw [hce] at HE HER
  have HY := Lib.hid hb
  have HM := Lib.hid hm
  clear hcd hce hm hb
  go_enter Try.func6, Try.ntmps6
  go_wp2_with fail
  refine (HN.out _).mono ?_
  rintro e w1 ⟨p1, rfl, hb1⟩
  have HB1 := Lib.hid hb1
  clear hb1
  go_wp2_with fail
  refine (HNR.out _).mono ?_
  rintro e w2 ⟨p2, rfl, hb2⟩
  have HB2 := Lib.hid (below_chain HB1.out hb2)
  clear hb2 HB1
  go_wp2_with fail
  refine (HE.out _).mono ?_
  rintro e w3 ⟨p3, rfl, hb3⟩
  have HB3 := Lib.hid (below_chain HB2.out hb3)
  clear hb3 HB2
  go_wp2_with fail
  refine (HER.out _).mono ?_
  rintro e w4 ⟨p4, rfl, hb4⟩
  have HB4 := Lib.hid (below_chain HB3.out hb4)
  clear hb4 HB3
  go_wp2_with fail
  refine (cut_nil n _).mono ?_
  rintro e w5 ⟨rfl, rfl⟩
  go_wp2_with fail
  have hz : DiskIs (w4.alloc (.cells #[.int .i64 0, .slice none 0 0, .int .i64 0, .int .i64 0, .bool false, .int .i64 0, .bool false] 49)) w4.heap.size w4.heap.size none (newD 0) := ⟨0, 0, Nat.le_refl _, Box.new _ _ _, World.ownsRow_nil _ _ _ _, (fun k hk => by cases hk), newD_ok (by omega) (by omega)⟩
  have hb5 : Below w4.heap.size w4 (w4.alloc (.cells #[.int .i64 0, .slice none 0 0, .int .i64 0, .int .i64 0, .bool false, .int .i64 0, .bool false] 49)) := (Below.refl _ _).alloc (Nat.le_refl _) _
  have hy := (HY.out.next HB4.out)
  have hap : ∀ k o, bo = some ⟨k, o, none⟩ → m = 0 ∨ k < w4.heap.size := fun k o hk => by
    rcases hy with h | ⟨b', off, h, hlt, _⟩
    · left
      rw [← HM.out, h]
      rfl
    · right
      rw [hk] at h
      cases h
      exact hlt
  have hz0 := zero_state b
  have ha := append_any0 _ _ _ _ _ hz bo m c b HM.out (hy.next hb5) hbb (fun k o hk => by
    rcases hap k o hk with h | h
    · left
      exact List.eq_nil_of_length_eq_zero (by rw [HM.out]; exact h)
    · right
      omega) (by omega) (by simp)
  rw [hz0, HM.out] at ha
  have HA := Lib.hid ha
  have HB5 : Hid (Below w.heap.size w (w4.alloc (.cells #[.int .i64 0, .slice none 0 0, .int .i64 0, .int .i64 0, .bool false, .int .i64 0, .bool false] 49))) := below_chain HB4.out hb5
  have HZ := Lib.hid hz
  have HB4S := HB4.out.size
  clear ha hz0 hap hy hb5 HB4 HE HER HN HNR hr r0 r1 hz
  have hcase : m = 0 ∧ (if m = 0 then (0 : Int) else 43) = 0 ∨ m ≠ 0 ∧ (if m = 0 then (0 : Int) else 43) = 43 := by
    by_cases h : m = 0
    · exact .inl ⟨h, by rw [if_pos h]⟩
    · exact .inr ⟨h, by rw [if_neg h]⟩
  rcases hcase with ⟨hm0, hcd⟩ | ⟨hm0, hcd⟩
  · rw [hcd] at HA
    subst hm0
    clear hcd
    refine HA.out.mono ?_
    rintro e w6 ⟨g6, rfl, hd6, hm6, -⟩
    have HB6 : Hid (Below w.heap.size w w6) := HB5.out.trans (((moved_own HZ.out hm6 fun _ h => h).old (by simp)).mono HB4S)
    clear hd6 hm6 HA HB5 HZ HB4S
    go_wp2_with (first
      | (go_at_call 19; refine (awake_any _).mono ?_; rintro e w9 ⟨rfl, hb9⟩)
      | (go_at_call 15; refine (append_nil _ _ _ _).mono ?_; rintro e wa ⟨rfl, rfl⟩)
      | (go_at_call 16; refine (sync_nil _).mono ?_; rintro e wa ⟨rfl, rfl⟩)
      | (go_at_call 26; refine (trunc_nil _ _).mono ?_; rintro e wa ⟨rfl, rfl⟩)
      | (go_at_call 20; refine (size_nil _).mono ?_; rintro e wa ⟨rfl, rfl⟩)
      | (go_at_call 27; refine (ops_nil _).mono ?_; rintro e wa ⟨rfl, rfl⟩)
      | (go_at_call 17; refine (read_nil _).mono ?_; rintro e wa ⟨rfl, rfl⟩)
      | (go_at_call 18; refine (crash_nil _ _ _).mono ?_; rintro e wa ⟨rfl, rfl⟩))
    go_ret
    exact ⟨rfl, below_chain HB6.out hb9⟩
  · rw [hcd] at HA
    have h0 : ((m : Int) == 0) = false := by simpa using hm0
    have h00 : (0 : Int) < (m : Int) := by omega
    have h000 : decide (0 < m) = true := by simp; omega
    clear hcd hm0
    refine HA.out.mono ?_
    rintro e w6 ⟨g6, rfl, hd6, hm6, -⟩
    have HB6 : Hid (Below w.heap.size w w6) := HB5.out.trans (((moved_own HZ.out hm6 fun _ h => h).old (by simp)).mono HB4S)
    clear hd6 hm6 HA HB5 HZ HB4S
    go_wp2_with (first
      | (go_at_call 19; refine (awake_any _).mono ?_; rintro e w9 ⟨rfl, hb9⟩)
      | (go_at_call 15; refine (append_nil _ _ _ _).mono ?_; rintro e wa ⟨rfl, rfl⟩)
      | (go_at_call 16; refine (sync_nil _).mono ?_; rintro e wa ⟨rfl, rfl⟩)
      | (go_at_call 26; refine (trunc_nil _ _).mono ?_; rintro e wa ⟨rfl, rfl⟩)
      | (go_at_call 20; refine (size_nil _).mono ?_; rintro e wa ⟨rfl, rfl⟩)
      | (go_at_call 27; refine (ops_nil _).mono ?_; rintro e wa ⟨rfl, rfl⟩)
      | (go_at_call 17; refine (read_nil _).mono ?_; rintro e wa ⟨rfl, rfl⟩)
      | (go_at_call 18; refine (crash_nil _ _ _).mono ?_; rintro e wa ⟨rfl, rfl⟩))
    go_ret
    exact ⟨rfl, below_chain HB6.out hb9⟩
end Go.Proofs.Ytkbdbinafjmjkaa
