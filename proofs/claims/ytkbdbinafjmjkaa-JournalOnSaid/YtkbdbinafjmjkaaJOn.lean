/-
  The law that a repaired journal takes further records, walked.
-/
import Derived.Test.YtkbdbinafjmjkaaJOn1
namespace Go.Proofs.Ytkbdbinafjmjkaa
open Go.RowKit

set_option maxRecDepth 100000 in
set_option maxHeartbeats 2000000 in
theorem on_walk (so mo : Option Addr) (sc mc : Nat) (c keep flip : Int) (ss ms : List (Int × Int × Int)) (w : World) (c0 : 0 ≤ c) (hs : LiesAt w so 3 ss.length (tripCell ss)) (hsr : ∀ i, TripOk (ss.getD i (0, 0, 0))) (hm : LiesAt w mo 3 ms.length (tripCell ms)) (hmr : ∀ i, TripOk (ms.getD i (0, 0, 0))) :
    Calls Try.prog 13 #[.slice so ss.length sc, .int .u8 c, .int .i64 keep, .int .i64 flip, .slice mo ms.length mc] w fun e w' => e = .returned (.bool true) ∧ Below w.heap.size w w' := by
  have HS : Hid (∀ W, Below w.heap.size w W → ∀ k, k < ss.length → _) := fun W hW k hk => trip_look hs hsr hW k hk
  have HM : Hid (∀ W, Below w.heap.size w W → ∀ k, k < ms.length → _) := fun W hW k hk => trip_look hm hmr hW k hk
  clear hs hsr hm hmr
  obtain ⟨n, hn⟩ : ∃ n, c % 30 = n := ⟨_, rfl⟩
  have tn : c.tmod 30 = n := by rw [Int.tmod_eq_emod_of_nonneg c0]; exact hn
  have n0 : 0 ≤ n := by omega
  have n1 : n < 30 := by omega
  have hN := Lib.hid (new_any 20000 w (by omega) (by omega))
  clear hn
  go_enter Try.func13, Try.ntmps13
  go_wp2_with fail
  refine hN.out.mono ?_
  rintro e w1 ⟨rfl, hd1, hb1⟩
  have HFA := Lib.hid (fallen_new hd1 hb1)
  clear hd1 hb1 hN
  go_wp2_with fail
  refine HFA.out.open.mono ?_
  rintro e w2 ⟨q0, rfl, hst⟩
  have HCU := Lib.hid (hst.gst.cut n (by omega))
  clear hst HFA
  go_wp2_with fail
  refine HCU.out.mono ?_
  rintro e w3 ⟨rfl, hg3⟩
  have HOLD : Hid (Old w w3 q0 0) := Lib.hid ⟨[], by simp [framesF], .inl (hg3.mono fun s' ⟨s, ⟨h1, h2, h3⟩, h4⟩ => by subst h4; exact ⟨cut_half h1 h3 n, by rw [room_cut, h2]⟩)⟩
  clear hg3 HCU
  go_wp2_with fail
  go_loopw [15] (fun i wr => ∃ k : Nat, k ≤ ss.length ∧ k ≤ 12 ∧ i = .int .i64 k ∧ Old w wr q0 k) (fun i _ => 12 - (intOf i).toNat)
  case atStart => exact ⟨0, Nat.zero_le _, by omega, rfl, HOLD.out⟩
  case round =>
    obtain ⟨k, hk, hk12, rfl, hold⟩ := hrel
    have HO1 := Lib.hid hold
    have hbl := hold.below
    have hk0 : (0 : Int) ≤ (k : Int) := Int.natCast_nonneg _
    clear hold HOLD
    by_cases hlt : k < ss.length ∧ k < 12
    · obtain ⟨b, off, x0, x1, x2, rfl, t0, t1, t2, x00, x01, x10, x11, hbw⟩ := HS.out wr hbl k hlt.1
      have hki : (k : Int) < (ss.length : Int) := by omega
      have hk2 : (k : Int) < 12 := by omega
      have HBA := Lib.hid (batch_any x0 x1 x2 wr x00 x10)
      go_wp2_with fail
      refine HBA.out.mono ?_
      rintro e w4 ⟨vb, rfl, hrn, hb4⟩
      have HAP := Lib.hid (HO1.out.append (by omega) hb4 hrn)
      clear hrn hb4 HBA
      go_wp2_with fail
      refine HAP.out.mono ?_
      rintro e w5 ⟨m, rfl, hold5⟩
      have HO5 := Lib.hid hold5
      clear hold5 HAP HO1
      go_wp2_with fail
      go_roundw
      case rel => exact ⟨k + 1, by omega, by omega, by go_num, HO5.out⟩
      case measure => simp [intOf]; omega
    · have hside : ¬ k < ss.length ∨ k < ss.length ∧ ¬ k < 12 := by omega
      have HCR := Lib.hid (HO1.out.crash hk12 keep flip)
      clear hbl hlt HO1
      rcases hside with h | ⟨h1, h2⟩
      · have h3 : (ss.length : Int) ≤ (k : Int) := by omega
        go_wp2_with fail
        refine HCR.out.mono ?_
        rintro e w4 ⟨p4, L, rfl, hfr, hf4⟩
        have hfl0 : L.flatten.length ≤ 1000000 := by
          have := frames_ge L
          omega
        have hop := hf4.openSt rest_opens
        obtain ⟨RS, hRS⟩ : ∃ RS, L.flatten = RS := ⟨_, rfl⟩
        rw [hRS] at hop hfl0
        have HRS := Lib.hid hRS
        have HOP := Lib.hid hop
        clear hf4 HCR hop hRS
        go_wp2_with fail
        refine HOP.out.mono ?_
        rintro e w5 ⟨q5, rfl, hg5⟩
        have HG5 := Lib.hid hg5
        clear hg5 HOP
        go_wp2_with fail
        clear HS
        go_loopw [18, 19] (fun va i wr => ∃ k : Nat, k ≤ RS.length ∧ i = .int .i64 k ∧ GSt (fun s => Clean s L ∧ s.room = 20000 ∧ s.dur = s.bs.length) w wr q5 p4 va RS (RS.take k) false) (fun _ i _ => RS.length - (intOf i).toNat)
        case atStart => exact ⟨0, Nat.zero_le _, rfl, by rw [List.take_zero]; exact HG5.out⟩
        case round =>
          obtain ⟨j, hj, rfl, hgs⟩ := hrel
          have HGS := Lib.hid hgs
          have HLE := Lib.hid hgs.read.len
          have hj0 : (0 : Int) ≤ (j : Int) := Int.natCast_nonneg _
          clear hgs HG5
          by_cases hjl : j < RS.length
          · have hji : (j : Int) < (RS.length : Int) := by omega
            have hgood : ∀ b ∈ L, Good b := by
              obtain ⟨⟨g, v, s, _, _, hcl, _⟩, _⟩ := HGS.out
              exact hcl.good
            have hshort : (RS.getD j []).length ≤ 1000000 := by
              have := flat_short hgood j (by rw [HRS.out]; exact hjl)
              rwa [HRS.out] at this
            have HRE := Lib.hid (HGS.out.read.record hjl hshort)
            have htk : RS.take (j + 1) = RS.take j ++ [RS.getD j []] := by
              rw [List.take_succ_eq_append_getElem hjl]
              simp [List.getD, hjl]
            have htl : (RS.take j).length ≤ 1000000 := by rw [List.length_take]; omega
            generalize RS.getD j [] = r at HRE htk hshort
            have HTK := Lib.hid htk
            clear htk hgood
            go_wp2_with fail
            refine HLE.out.mono ?_
            rintro e w6 ⟨rfl, rfl⟩
            go_wp2_with fail
            refine HRE.out.mono ?_
            rintro e w6 ⟨g6, c6, rfl, hown6, hb6⟩
            have hy6 : BytN w6 (fun i => wr.heap.size ≤ i) (gad g6) r := byt_cloned hown6 rfl _ fun b hb => hb
            have hmid := HGS.out.withOne (sc := c6) hb6 hy6
            obtain ⟨va', w7, hrun, hst7⟩ := hmid.join (by rw [List.length_take, List.length_singleton]; omega)
            have HRUN := Lib.hid hrun
            have S7 := Lib.hid hst7
            clear hown6 hb6 hy6 hmid hrun hst7 HRE HLE HGS
            go_wp2_with (at_builtin
                         refine wpList_append_made rfl (.tmp 92) (.tmp 94) 55 55 rfl _ _ rfl rfl (HRUN.out _) ?_)
            go_roundw
            case rel =>
              refine ⟨j + 1, hjl, by go_num, ?_⟩
              rw [HTK.out]
              exact S7.out
            case measure => simp [intOf]; omega
          · obtain rfl : j = RS.length := by omega
            have hgs2 := HGS.out
            rw [List.take_length] at hgs2
            rw [← HRS.out] at hgs2
            have HST := Lib.hid hgs2.st
            clear hgs2 HGS hjl
            go_wp2_with fail
            refine HLE.out.mono ?_
            rintro e w6 ⟨rfl, rfl⟩
            clear HLE
            go_wp2_with fail
            obtain ⟨wq, hwq⟩ : ∃ wq : World, wq = wr := ⟨_, rfl⟩
            rw [← hwq] at HST
            rw [← hwq]
            clear hwq
            go_loopw [18, 22] (fun va i wr => ∃ (k : Nat) (L2 : List (List (List Int))), k ≤ ms.length ∧ k ≤ 10 ∧ i = .int .i64 k ∧ St 20000 w wr q5 p4 va L2 ∧ (framesF L2).length ≤ 1326 + 102 * k) (fun _ i _ => 10 - (intOf i).toNat)
            case atStart => exact ⟨0, L, Nat.zero_le _, by omega, rfl, HST.out, by omega⟩
            case round =>
              obtain ⟨i, L2, hi, hi10, rfl, hst, hfr2⟩ := hrel
              have HS1 := Lib.hid hst
              have hbl := hst.below
              have hi0 : (0 : Int) ≤ (i : Int) := Int.natCast_nonneg _
              clear hst HST
              by_cases hlt : i < ms.length ∧ i < 10
              · obtain ⟨b, off, x0, x1, x2, rfl, t0, t1, t2, x00, x01, x10, x11, hbw⟩ := HM.out wr hbl i hlt.1
                have hki : (i : Int) < (ms.length : Int) := by omega
                have hk2 : (i : Int) < 10 := by omega
                have HBA := Lib.hid (batch_any x0 x1 x2 wr x00 x10)
                go_wp2_with fail
                refine HBA.out.mono ?_
                rintro e w7 ⟨vb, rfl, hrn, hb7⟩
                have hbg := batch_good x0 x1 x2
                have hbf := batch_frame x0 x1 x2
                generalize batchB x0 x1 x2 = BB at hrn hbg hbf
                by_cases hempty : BB.length = 0
                · obtain ⟨ao, cc, rfl, -⟩ := hrn.recs
                  have S7 := Lib.hid (HS1.out.next hb7)
                  have hn0 : ((BB.length : Int) == 0) = true := by simpa using hempty
                  clear hempty hbg hbf hrn hb7 HBA HS1
                  go_wp2_with fail
                  go_roundw
                  case rel => exact ⟨i + 1, L2, by omega, by omega, by go_num, S7.out, by omega⟩
                  case measure => simp [intOf]; omega
                · have hne : 1 ≤ BB.length := by omega
                  have HAP := Lib.hid (HS1.out.append hb7 hrn (hbg hne) (by omega))
                  obtain ⟨ao, cc, rfl, -⟩ := hrn.recs
                  have hn0 : ((BB.length : Int) == 0) = false := by rw [beq_eq_false_iff_ne]; omega
                  clear hempty hbg hrn hb7 HBA HS1
                  go_wp2_with fail
                  refine HAP.out.mono ?_
                  rintro e w8 ⟨rfl, hmid⟩
                  obtain ⟨va', w9, hrun, hst9⟩ := hmid.join
                  have HRUN := Lib.hid hrun
                  have S9 := Lib.hid hst9
                  have hfr3 : (framesF (L2 ++ [BB])).length ≤ 1326 + 102 * (i + 1) := by rw [frames_snoc, List.length_append]; omega
                  have HFR3 := Lib.hid hfr3
                  clear hmid hrun hst9 HAP hfr3
                  go_wp2_with (at_builtin
                               refine wpList_append_made rfl (.tmp 118) (.tmp 119) 55 55 rfl _ _ rfl rfl (HRUN.out _) ?_)
                  go_roundw
                  case rel => exact ⟨i + 1, L2 ++ [BB], by omega, by omega, by go_num, S9.out, HFR3.out⟩
                  case measure => simp [intOf]; omega
              · have hside2 : ¬ i < ms.length ∨ i < ms.length ∧ ¬ i < 10 := by omega
                have HCR2 := Lib.hid (HS1.out.fall flip keep)
                obtain ⟨hjr, ⟨ao, cc, hva, hre⟩, hsh, hsl⟩ := HS1.out.facts
                obtain ⟨RS2, hRS2⟩ : ∃ RS2, L2.flatten = RS2 := ⟨_, rfl⟩
                rw [hRS2] at hjr hva hre hsh hsl
                have HRS2 := Lib.hid hRS2
                have HBL := Lib.hid hbl
                have HJR := Lib.hid hjr
                have HRE := Lib.hid hre
                have HSH := Lib.hid hsh
                subst hva
                clear hbl hlt HS1 hjr hre hsh hRS2
                rcases hside2 with g1 | ⟨g1, g2⟩
                · have g3 : (ms.length : Int) ≤ (i : Int) := by omega
                  go_wp2_with fail
                  refine HCR2.out.mono ?_
                  rintro e w7 ⟨p7, rfl, hf7⟩
                  have hop2 := hf7.open
                  rw [HRS2.out] at hop2
                  have HOP2 := Lib.hid hop2
                  clear hf7 HCR2 hop2
                  go_wp2_with fail
                  refine HOP2.out.mono ?_
                  rintro e w8 ⟨q8, rfl, hb8, hj8⟩
                  have HJ8 := Lib.hid hj8
                  have HB8 := Lib.hid hb8
                  clear hj8 hb8 HOP2
                  go_wp2_with fail
                  refine (jawake_any w8).mono ?_
                  rintro e w9 ⟨rfl, hb9⟩
                  have hb89 := HB8.out.trans (hb9.mono HB8.out.size)
                  have HB9 := Lib.hid hb89
                  have HJ9 := Lib.hid (HJ8.out.next hb9)
                  have HH1 := Lib.hid (holds_yes ao q5 _ cc _ w9 (HJR.out.next hb89) rfl (HRE.out.next hb89) HSH.out hsl)
                  clear hb9 hb89 HJ8 HB8
                  go_wp2_with fail
                  refine HH1.out.mono ?_
                  rintro e w10 ⟨rfl, hb10⟩
                  have hb910 := HB9.out.trans (hb10.mono HB9.out.size)
                  have HB10 := Lib.hid hb910
                  have HH2 := Lib.hid (holds_yes ao q8 _ cc _ w10 (HJ9.out.next hb10) rfl (HRE.out.next hb910) HSH.out hsl)
                  clear hb10 hb910 HH1
                  go_wp2_with fail
                  refine HH2.out.mono ?_
                  rintro e w11 ⟨rfl, hb11⟩
                  have HB11 := Lib.hid (HB10.out.trans (hb11.mono HB10.out.size))
                  clear hb11 HH2
                  go_wp2_with fail
                  go_ret
                  exact ⟨rfl, HBL.out.trans (HB11.out.mono HBL.out.size)⟩
                · have g3 : (i : Int) < (ms.length : Int) := by omega
                  have g4 : (10 : Int) ≤ (i : Int) := by omega
                  go_wp2_with fail
                  refine HCR2.out.mono ?_
                  rintro e w7 ⟨p7, rfl, hf7⟩
                  have hop2 := hf7.open
                  rw [HRS2.out] at hop2
                  have HOP2 := Lib.hid hop2
                  clear hf7 HCR2 hop2
                  go_wp2_with fail
                  refine HOP2.out.mono ?_
                  rintro e w8 ⟨q8, rfl, hb8, hj8⟩
                  have HJ8 := Lib.hid hj8
                  have HB8 := Lib.hid hb8
                  clear hj8 hb8 HOP2
                  go_wp2_with fail
                  refine (jawake_any w8).mono ?_
                  rintro e w9 ⟨rfl, hb9⟩
                  have hb89 := HB8.out.trans (hb9.mono HB8.out.size)
                  have HB9 := Lib.hid hb89
                  have HJ9 := Lib.hid (HJ8.out.next hb9)
                  have HH1 := Lib.hid (holds_yes ao q5 _ cc _ w9 (HJR.out.next hb89) rfl (HRE.out.next hb89) HSH.out hsl)
                  clear hb9 hb89 HJ8 HB8
                  go_wp2_with fail
                  refine HH1.out.mono ?_
                  rintro e w10 ⟨rfl, hb10⟩
                  have hb910 := HB9.out.trans (hb10.mono HB9.out.size)
                  have HB10 := Lib.hid hb910
                  have HH2 := Lib.hid (holds_yes ao q8 _ cc _ w10 (HJ9.out.next hb10) rfl (HRE.out.next hb910) HSH.out hsl)
                  clear hb10 hb910 HH1
                  go_wp2_with fail
                  refine HH2.out.mono ?_
                  rintro e w11 ⟨rfl, hb11⟩
                  have HB11 := Lib.hid (HB10.out.trans (hb11.mono HB10.out.size))
                  clear hb11 HH2
                  go_wp2_with fail
                  go_ret
                  exact ⟨rfl, HBL.out.trans (HB11.out.mono HBL.out.size)⟩
      · have h3 : (k : Int) < (ss.length : Int) := by omega
        have h4 : (12 : Int) ≤ (k : Int) := by omega
        go_wp2_with fail
        refine HCR.out.mono ?_
        rintro e w4 ⟨p4, L, rfl, hfr, hf4⟩
        have hfl0 : L.flatten.length ≤ 1000000 := by
          have := frames_ge L
          omega
        have hop := hf4.openSt rest_opens
        obtain ⟨RS, hRS⟩ : ∃ RS, L.flatten = RS := ⟨_, rfl⟩
        rw [hRS] at hop hfl0
        have HRS := Lib.hid hRS
        have HOP := Lib.hid hop
        clear hf4 HCR hop hRS
        go_wp2_with fail
        refine HOP.out.mono ?_
        rintro e w5 ⟨q5, rfl, hg5⟩
        have HG5 := Lib.hid hg5
        clear hg5 HOP
        go_wp2_with fail
        clear HS
        go_loopw [18, 19] (fun va i wr => ∃ k : Nat, k ≤ RS.length ∧ i = .int .i64 k ∧ GSt (fun s => Clean s L ∧ s.room = 20000 ∧ s.dur = s.bs.length) w wr q5 p4 va RS (RS.take k) false) (fun _ i _ => RS.length - (intOf i).toNat)
        case atStart => exact ⟨0, Nat.zero_le _, rfl, by rw [List.take_zero]; exact HG5.out⟩
        case round =>
          obtain ⟨j, hj, rfl, hgs⟩ := hrel
          have HGS := Lib.hid hgs
          have HLE := Lib.hid hgs.read.len
          have hj0 : (0 : Int) ≤ (j : Int) := Int.natCast_nonneg _
          clear hgs HG5
          by_cases hjl : j < RS.length
          · have hji : (j : Int) < (RS.length : Int) := by omega
            have hgood : ∀ b ∈ L, Good b := by
              obtain ⟨⟨g, v, s, _, _, hcl, _⟩, _⟩ := HGS.out
              exact hcl.good
            have hshort : (RS.getD j []).length ≤ 1000000 := by
              have := flat_short hgood j (by rw [HRS.out]; exact hjl)
              rwa [HRS.out] at this
            have HRE := Lib.hid (HGS.out.read.record hjl hshort)
            have htk : RS.take (j + 1) = RS.take j ++ [RS.getD j []] := by
              rw [List.take_succ_eq_append_getElem hjl]
              simp [List.getD, hjl]
            have htl : (RS.take j).length ≤ 1000000 := by rw [List.length_take]; omega
            generalize RS.getD j [] = r at HRE htk hshort
            have HTK := Lib.hid htk
            clear htk hgood
            go_wp2_with fail
            refine HLE.out.mono ?_
            rintro e w6 ⟨rfl, rfl⟩
            go_wp2_with fail
            refine HRE.out.mono ?_
            rintro e w6 ⟨g6, c6, rfl, hown6, hb6⟩
            have hy6 : BytN w6 (fun i => wr.heap.size ≤ i) (gad g6) r := byt_cloned hown6 rfl _ fun b hb => hb
            have hmid := HGS.out.withOne (sc := c6) hb6 hy6
            obtain ⟨va', w7, hrun, hst7⟩ := hmid.join (by rw [List.length_take, List.length_singleton]; omega)
            have HRUN := Lib.hid hrun
            have S7 := Lib.hid hst7
            clear hown6 hb6 hy6 hmid hrun hst7 HRE HLE HGS
            go_wp2_with (at_builtin
                         refine wpList_append_made rfl (.tmp 92) (.tmp 94) 55 55 rfl _ _ rfl rfl (HRUN.out _) ?_)
            go_roundw
            case rel =>
              refine ⟨j + 1, hjl, by go_num, ?_⟩
              rw [HTK.out]
              exact S7.out
            case measure => simp [intOf]; omega
          · obtain rfl : j = RS.length := by omega
            have hgs2 := HGS.out
            rw [List.take_length] at hgs2
            rw [← HRS.out] at hgs2
            have HST := Lib.hid hgs2.st
            clear hgs2 HGS hjl
            go_wp2_with fail
            refine HLE.out.mono ?_
            rintro e w6 ⟨rfl, rfl⟩
            clear HLE
            go_wp2_with fail
            obtain ⟨wq, hwq⟩ : ∃ wq : World, wq = wr := ⟨_, rfl⟩
            rw [← hwq] at HST
            rw [← hwq]
            clear hwq
            go_loopw [18, 22] (fun va i wr => ∃ (k : Nat) (L2 : List (List (List Int))), k ≤ ms.length ∧ k ≤ 10 ∧ i = .int .i64 k ∧ St 20000 w wr q5 p4 va L2 ∧ (framesF L2).length ≤ 1326 + 102 * k) (fun _ i _ => 10 - (intOf i).toNat)
            case atStart => exact ⟨0, L, Nat.zero_le _, by omega, rfl, HST.out, by omega⟩
            case round =>
              obtain ⟨i, L2, hi, hi10, rfl, hst, hfr2⟩ := hrel
              have HS1 := Lib.hid hst
              have hbl := hst.below
              have hi0 : (0 : Int) ≤ (i : Int) := Int.natCast_nonneg _
              clear hst HST
              by_cases hlt : i < ms.length ∧ i < 10
              · obtain ⟨b, off, x0, x1, x2, rfl, t0, t1, t2, x00, x01, x10, x11, hbw⟩ := HM.out wr hbl i hlt.1
                have hki : (i : Int) < (ms.length : Int) := by omega
                have hk2 : (i : Int) < 10 := by omega
                have HBA := Lib.hid (batch_any x0 x1 x2 wr x00 x10)
                go_wp2_with fail
                refine HBA.out.mono ?_
                rintro e w7 ⟨vb, rfl, hrn, hb7⟩
                have hbg := batch_good x0 x1 x2
                have hbf := batch_frame x0 x1 x2
                generalize batchB x0 x1 x2 = BB at hrn hbg hbf
                by_cases hempty : BB.length = 0
                · obtain ⟨ao, cc, rfl, -⟩ := hrn.recs
                  have S7 := Lib.hid (HS1.out.next hb7)
                  have hn0 : ((BB.length : Int) == 0) = true := by simpa using hempty
                  clear hempty hbg hbf hrn hb7 HBA HS1
                  go_wp2_with fail
                  go_roundw
                  case rel => exact ⟨i + 1, L2, by omega, by omega, by go_num, S7.out, by omega⟩
                  case measure => simp [intOf]; omega
                · have hne : 1 ≤ BB.length := by omega
                  have HAP := Lib.hid (HS1.out.append hb7 hrn (hbg hne) (by omega))
                  obtain ⟨ao, cc, rfl, -⟩ := hrn.recs
                  have hn0 : ((BB.length : Int) == 0) = false := by rw [beq_eq_false_iff_ne]; omega
                  clear hempty hbg hrn hb7 HBA HS1
                  go_wp2_with fail
                  refine HAP.out.mono ?_
                  rintro e w8 ⟨rfl, hmid⟩
                  obtain ⟨va', w9, hrun, hst9⟩ := hmid.join
                  have HRUN := Lib.hid hrun
                  have S9 := Lib.hid hst9
                  have hfr3 : (framesF (L2 ++ [BB])).length ≤ 1326 + 102 * (i + 1) := by rw [frames_snoc, List.length_append]; omega
                  have HFR3 := Lib.hid hfr3
                  clear hmid hrun hst9 HAP hfr3
                  go_wp2_with (at_builtin
                               refine wpList_append_made rfl (.tmp 118) (.tmp 119) 55 55 rfl _ _ rfl rfl (HRUN.out _) ?_)
                  go_roundw
                  case rel => exact ⟨i + 1, L2 ++ [BB], by omega, by omega, by go_num, S9.out, HFR3.out⟩
                  case measure => simp [intOf]; omega
              · have hside2 : ¬ i < ms.length ∨ i < ms.length ∧ ¬ i < 10 := by omega
                have HCR2 := Lib.hid (HS1.out.fall flip keep)
                obtain ⟨hjr, ⟨ao, cc, hva, hre⟩, hsh, hsl⟩ := HS1.out.facts
                obtain ⟨RS2, hRS2⟩ : ∃ RS2, L2.flatten = RS2 := ⟨_, rfl⟩
                rw [hRS2] at hjr hva hre hsh hsl
                have HRS2 := Lib.hid hRS2
                have HBL := Lib.hid hbl
                have HJR := Lib.hid hjr
                have HRE := Lib.hid hre
                have HSH := Lib.hid hsh
                subst hva
                clear hbl hlt HS1 hjr hre hsh hRS2
                rcases hside2 with g1 | ⟨g1, g2⟩
                · have g3 : (ms.length : Int) ≤ (i : Int) := by omega
                  go_wp2_with fail
                  refine HCR2.out.mono ?_
                  rintro e w7 ⟨p7, rfl, hf7⟩
                  have hop2 := hf7.open
                  rw [HRS2.out] at hop2
                  have HOP2 := Lib.hid hop2
                  clear hf7 HCR2 hop2
                  go_wp2_with fail
                  refine HOP2.out.mono ?_
                  rintro e w8 ⟨q8, rfl, hb8, hj8⟩
                  have HJ8 := Lib.hid hj8
                  have HB8 := Lib.hid hb8
                  clear hj8 hb8 HOP2
                  go_wp2_with fail
                  refine (jawake_any w8).mono ?_
                  rintro e w9 ⟨rfl, hb9⟩
                  have hb89 := HB8.out.trans (hb9.mono HB8.out.size)
                  have HB9 := Lib.hid hb89
                  have HJ9 := Lib.hid (HJ8.out.next hb9)
                  have HH1 := Lib.hid (holds_yes ao q5 _ cc _ w9 (HJR.out.next hb89) rfl (HRE.out.next hb89) HSH.out hsl)
                  clear hb9 hb89 HJ8 HB8
                  go_wp2_with fail
                  refine HH1.out.mono ?_
                  rintro e w10 ⟨rfl, hb10⟩
                  have hb910 := HB9.out.trans (hb10.mono HB9.out.size)
                  have HB10 := Lib.hid hb910
                  have HH2 := Lib.hid (holds_yes ao q8 _ cc _ w10 (HJ9.out.next hb10) rfl (HRE.out.next hb910) HSH.out hsl)
                  clear hb10 hb910 HH1
                  go_wp2_with fail
                  refine HH2.out.mono ?_
                  rintro e w11 ⟨rfl, hb11⟩
                  have HB11 := Lib.hid (HB10.out.trans (hb11.mono HB10.out.size))
                  clear hb11 HH2
                  go_wp2_with fail
                  go_ret
                  exact ⟨rfl, HBL.out.trans (HB11.out.mono HBL.out.size)⟩
                · have g3 : (i : Int) < (ms.length : Int) := by omega
                  have g4 : (10 : Int) ≤ (i : Int) := by omega
                  go_wp2_with fail
                  refine HCR2.out.mono ?_
                  rintro e w7 ⟨p7, rfl, hf7⟩
                  have hop2 := hf7.open
                  rw [HRS2.out] at hop2
                  have HOP2 := Lib.hid hop2
                  clear hf7 HCR2 hop2
                  go_wp2_with fail
                  refine HOP2.out.mono ?_
                  rintro e w8 ⟨q8, rfl, hb8, hj8⟩
                  have HJ8 := Lib.hid hj8
                  have HB8 := Lib.hid hb8
                  clear hj8 hb8 HOP2
                  go_wp2_with fail
                  refine (jawake_any w8).mono ?_
                  rintro e w9 ⟨rfl, hb9⟩
                  have hb89 := HB8.out.trans (hb9.mono HB8.out.size)
                  have HB9 := Lib.hid hb89
                  have HJ9 := Lib.hid (HJ8.out.next hb9)
                  have HH1 := Lib.hid (holds_yes ao q5 _ cc _ w9 (HJR.out.next hb89) rfl (HRE.out.next hb89) HSH.out hsl)
                  clear hb9 hb89 HJ8 HB8
                  go_wp2_with fail
                  refine HH1.out.mono ?_
                  rintro e w10 ⟨rfl, hb10⟩
                  have hb910 := HB9.out.trans (hb10.mono HB9.out.size)
                  have HB10 := Lib.hid hb910
                  have HH2 := Lib.hid (holds_yes ao q8 _ cc _ w10 (HJ9.out.next hb10) rfl (HRE.out.next hb910) HSH.out hsl)
                  clear hb10 hb910 HH1
                  go_wp2_with fail
                  refine HH2.out.mono ?_
                  rintro e w11 ⟨rfl, hb11⟩
                  have HB11 := Lib.hid (HB10.out.trans (hb11.mono HB10.out.size))
                  clear hb11 HH2
                  go_wp2_with fail
                  go_ret
                  exact ⟨rfl, HBL.out.trans (HB11.out.mono HBL.out.size)⟩
end Go.Proofs.Ytkbdbinafjmjkaa
