/-
  The law that a journal with room takes records, walked.
-/
import Derived.Test.YtkbdbinafjmjkaaJRoom0
namespace Go.Proofs.Ytkbdbinafjmjkaa
open Go.RowKit

set_option maxRecDepth 100000 in
set_option maxHeartbeats 8000000 in
theorem room_walk (so : Option Addr) (sc : Nat) (room : Int) (ss : List Int) (w : World) (hy : Byt w so ss) (hbb : Bytes ss) (r0 : 0 ≤ room) :
    Calls Try.prog 9 #[.int .u16 room, .slice so ss.length sc] w fun e w' => e = .returned (.bool true) ∧ Below w.heap.size w w' := by
  obtain ⟨R, hR⟩ : ∃ R : Int, room % 3000 = R := ⟨_, rfl⟩
  have hR0 : 0 ≤ R := by omega
  have hR1 : R < 3000 := by omega
  have tR : room.tmod 3000 = R := by rw [Int.tmod_eq_emod_of_nonneg r0]; exact hR
  have HY := Lib.hid hy
  have HBB := Lib.hid hbb
  have hN := Lib.hid (new_any R w hR0 (by omega))
  clear hy hbb hR
  go_enter Try.func9, Try.ntmps9
  go_wp2_with fail
  refine hN.out.mono ?_
  rintro e w1 ⟨rfl, hd1, hb1⟩
  have HFA := Lib.hid (fallen_new hd1 hb1)
  clear hd1 hb1 hN
  go_wp2_with fail
  refine HFA.out.open.mono ?_
  rintro e w2 ⟨q, rfl, hst⟩
  have HST := Lib.hid hst
  clear hst HFA
  go_wp2_with fail
  go_loopw [10, 11, 12] (fun nd va i wr => ∃ (k : Nat) (nd' : Int) (L : List (List (List Int))), k ≤ ss.length ∧ k ≤ 40 ∧ nd = .int .i64 nd' ∧ i = .int .i64 k ∧ St R w wr q w.heap.size va L ∧ ((framesF L).length : Int) ≤ nd' ∧ nd' ≤ 574 * k) (fun _ _ i _ => 40 - (intOf i).toNat)
  case atStart => exact ⟨0, 0, [], Nat.zero_le _, by omega, rfl, rfl, HST.out, by simp [framesF], by omega⟩
  case round =>
    obtain ⟨k, nd, L, hk, hk40, rfl, rfl, hst, hnd, hnd2⟩ := hrel
    have HS1 := Lib.hid hst
    have hbl := hst.below
    have hk0 : (0 : Int) ≤ (k : Int) := Int.natCast_nonneg _
    clear hst HST
    by_cases hlt : k < ss.length ∧ k < 40
    · rcases HY.out.next hbl with h0 | ⟨b, off, rfl, hbw, hc0⟩
      · have := hlt.1
        rw [h0] at this
        simp at this
      have hc := hc0 k hlt.1
      have hz := HBB.out (ss.getD k 0) (getD_mem0 ss k hlt.1)
      obtain ⟨m, hm⟩ : ∃ m : Nat, ss.getD k 0 = m := ⟨(ss.getD k 0).toNat, by omega⟩
      rw [hm] at hc hz
      have hm1 : (m : Int) ≤ 255 := hz.2
      have hm0 : (0 : Int) ≤ (m : Int) := hz.1
      have hki : (k : Int) < (ss.length : Int) := by omega
      have hk2 : (k : Int) < 40 := by omega
      have hnd0 : 0 ≤ nd := by omega
      have hnd3 : nd ≤ 22960 := by omega
      have hmk : ∀ W : World, (Instr.makeSlice 30 (.int .i64 m) (.int .i64 m)).run Try.prog W = .ok (.slice (some ⟨W.heap.size, 0, none⟩) m m) (W.alloc (.cells (madeCells #[.int .u8 0] m) 5)) := fun W => make_bytes m (by omega) W
      have ha1 : Below wr.heap.size wr (wr.alloc (.cells (madeCells #[.int .u8 0] m) 5)) := (Below.refl _ _).alloc (Nat.le_refl _) _
      have hy1 := (byt_made wr 5 m).withN (N := fun k => wr.heap.size ≤ k) fun b off hb _ => by cases hb; exact Nat.le_refl _
      have hsz1 : (wr.alloc (.cells (madeCells #[.int .u8 0] m) 5)).heap.size = wr.heap.size + 1 := by simp
      have hzl : (List.replicate m (0 : Int)).length = m := List.length_replicate
      have hzb := zeros_ok m
      generalize List.replicate m (0 : Int) = Z at hy1 hzl hzb
      have hfo := frame_one Z
      by_cases hroom : ((framesF L).length : Int) + (frameF [Z]).length ≤ R
      · have HAP := HS1.out.one (sc := m) ha1 hy1 hzb (by omega) hroom
        rw [hzl, hsz1] at HAP
        have HA := Lib.hid HAP
        have hfr2 : ((framesF (L ++ [[Z]])).length : Int) ≤ nd + (2 * (m : Int) + 64) := by rw [frames_snoc, List.length_append]; omega
        have HFR := Lib.hid hfr2
        have HZL := Lib.hid hzl
        clear hroom HAP hfr2 ha1 hy1 hsz1 hzb hfo hc0 hm hzl
        go_wp2_with fail
        refine HA.out.mono ?_
        rintro e w4 ⟨rfl, hm1'⟩
        have hmid := hm1'.mid (sc := m)
        rw [HZL.out] at hmid
        obtain ⟨va', w5, hrun, hst5⟩ := hmid.join
        have HRUN := Lib.hid hrun
        have S5 := Lib.hid hst5
        clear hm1' hmid hrun hst5 HA
        go_wp2_with (at_builtin
                     refine wpList_append_made rfl (.tmp 65) (.tmp 67) 55 55 rfl _ _ rfl rfl (HRUN.out _) ?_)
        have HH := Lib.hid S5.out.holds
        clear HRUN
        go_wp2_with fail
        refine HH.out.mono ?_
        rintro e w6 ⟨rfl, hb6⟩
        have S6 := Lib.hid (S5.out.next hb6)
        have HDE := Lib.hid S6.out.dead
        clear hb6 S5 HH
        go_wp2_with fail
        refine HDE.out.mono ?_
        rintro e w7 ⟨rfl, rfl⟩
        go_wp2_with fail
        go_roundw
        case rel => exact ⟨k + 1, _, L ++ [[Z]], by omega, by omega, rfl, by go_num, S6.out, HFR.out, by omega⟩
        case measure => simp [intOf]; omega
      · have HAP := HS1.out.full (sc := m) ha1 hy1 hzb (by omega) (by omega)
        rw [hzl, hsz1] at HAP
        have HA := Lib.hid HAP
        have hbig : R < nd + (2 * (m : Int) + 64) := by omega
        clear hroom HAP ha1 hy1 hsz1 hzb hfo hc0 hm hzl
        go_wp2_with fail
        refine HA.out.mono ?_
        rintro e w4 ⟨rfl, hst5⟩
        have S5 := Lib.hid hst5
        have HH := Lib.hid S5.out.holds
        clear hst5 HA
        go_wp2_with fail
        refine HH.out.mono ?_
        rintro e w6 ⟨rfl, hb6⟩
        have S6 := Lib.hid (S5.out.next hb6)
        have HDE := Lib.hid S6.out.dead
        clear hb6 S5 HH
        go_wp2_with fail
        refine HDE.out.mono ?_
        rintro e w7 ⟨rfl, rfl⟩
        go_wp2_with fail
        go_roundw
        case rel => exact ⟨k + 1, nd, L, by omega, by omega, by go_num, by go_num, S6.out, hnd, by omega⟩
        case measure => simp [intOf]; omega
    · have hside : ¬ k < ss.length ∨ k < ss.length ∧ ¬ k < 40 := by omega
      have HCR := Lib.hid (HS1.out.crash 0 0)
      clear hbl hlt
      rcases hside with h | ⟨h1, h2⟩
      · have h3 : (ss.length : Int) ≤ (k : Int) := by omega
        go_wp2_with fail
        refine HCR.out.mono ?_
        rintro e w3 ⟨p3, rfl, hf3, -⟩
        have HF3 := Lib.hid hf3
        clear hf3 HCR
        go_wp2_with fail
        refine HF3.out.open.mono ?_
        rintro e w4 ⟨q4, rfl, hs4⟩
        have S4 := Lib.hid hs4
        clear hs4 HF3
        go_wp2_with fail
        refine (jawake_any w4).mono ?_
        rintro e w5 ⟨rfl, hb5⟩
        have S5 := Lib.hid (S4.out.next hb5)
        have HH := Lib.hid S5.out.holds
        clear hb5 S4
        go_wp2_with fail
        refine HH.out.mono ?_
        rintro e w6 ⟨rfl, hb6⟩
        have HB6 := Lib.hid (S5.out.next hb6).below
        clear hb6 HH S5
        go_wp2_with fail
        go_ret
        exact ⟨rfl, HB6.out⟩
      · have h3 : (k : Int) < (ss.length : Int) := by omega
        have h4 : (40 : Int) ≤ (k : Int) := by omega
        go_wp2_with fail
        refine HCR.out.mono ?_
        rintro e w3 ⟨p3, rfl, hf3, -⟩
        have HF3 := Lib.hid hf3
        clear hf3 HCR
        go_wp2_with fail
        refine HF3.out.open.mono ?_
        rintro e w4 ⟨q4, rfl, hs4⟩
        have S4 := Lib.hid hs4
        clear hs4 HF3
        go_wp2_with fail
        refine (jawake_any w4).mono ?_
        rintro e w5 ⟨rfl, hb5⟩
        have S5 := Lib.hid (S4.out.next hb5)
        have HH := Lib.hid S5.out.holds
        clear hb5 S4
        go_wp2_with fail
        refine HH.out.mono ?_
        rintro e w6 ⟨rfl, hb6⟩
        have HB6 := Lib.hid (S5.out.next hb6).below
        clear hb6 HH S5
        go_wp2_with fail
        go_ret
        exact ⟨rfl, HB6.out⟩
end Go.Proofs.Ytkbdbinafjmjkaa
