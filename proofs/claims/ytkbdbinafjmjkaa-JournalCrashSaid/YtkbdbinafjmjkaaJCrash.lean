/-
  The law on crashes, walked.
-/
import Derived.Test.YtkbdbinafjmjkaaJCrash0
import Derived.Test.YtkbdbinafjmjkaaDArgs
import Derived.StillTailTactics
namespace Go.Proofs.Ytkbdbinafjmjkaa
open Go.RowKit

set_option maxRecDepth 100000 in
set_option maxHeartbeats 16000000 in
theorem crash_walk (so mo : Option Addr) (sc mc : Nat) (c : Int) (ss ms : List (Int × Int × Int)) (w : World) (c0 : 0 ≤ c) (hs : LiesAt w so 3 ss.length (tripCell ss)) (hsr : ∀ i, TripOk (ss.getD i (0, 0, 0))) (hm : LiesAt w mo 3 ms.length (itripCell ms)) :
    Calls Try.prog 12 #[.slice so ss.length sc, .int .u8 c, .slice mo ms.length mc] w fun e w' => e = .returned (.bool true) ∧ Below w.heap.size w w' := by
  have HS : Hid (∀ W, Below w.heap.size w W → ∀ k, k < ss.length → _) := fun W hW k hk => trip_look hs hsr hW k hk
  have HM : Hid (∀ W, Below w.heap.size w W → ∀ k, k < ms.length → _) := fun W hW k hk => itrip_look hm hW k hk
  clear hs hsr hm
  obtain ⟨n, hn⟩ : ∃ n, c % 40 = n := ⟨_, rfl⟩
  have tn : c.tmod 40 = n := by rw [Int.tmod_eq_emod_of_nonneg c0]; exact hn
  have n0 : 0 ≤ n := by omega
  have n1 : n < 40 := by omega
  have hN := Lib.hid (new_any 20000 w (by omega) (by omega))
  clear hn
  go_enter Try.func12, Try.ntmps12
  go_wp2_with fail
  refine hN.out.mono ?_
  rintro e w1 ⟨rfl, hd1, hb1⟩
  have HFA := Lib.hid (fallen_new hd1 hb1)
  clear hd1 hb1 hN
  go_wp2_with fail
  refine HFA.out.open.mono ?_
  rintro e w2 ⟨q0, rfl, hst⟩
  have HCU := Lib.hid (hst.gst.cut n (by omega))
  clear hst HFA
  go_wp2_with fail
  refine HCU.out.mono ?_
  rintro e w3 ⟨rfl, hg3⟩
  have HUP : Hid (Up w w3 q0 (.slice none 0 0) []) := Lib.hid (hg3.mono fun s' ⟨s, ⟨h1, h2, h3⟩, h4⟩ => by subst h4; exact ⟨cut_half h1 h3 n, by rw [room_cut, h2]⟩)
  clear hg3 HCU
  go_wp2_with fail
  go_loopw [11, 12, 13] (fun va vl i wr => ∃ (k : Nat) (L : List (List (List Int))), k ≤ ss.length ∧ k ≤ 16 ∧ vl = .slice none 0 0 ∧ i = .int .i64 k ∧ Up w wr q0 va L ∧ (framesF L).length ≤ 102 * k) (fun _ _ i _ => 16 - (intOf i).toNat)
  case atStart => exact ⟨0, [], Nat.zero_le _, by omega, rfl, rfl, HUP.out, by simp [framesF]⟩
  case round =>
    obtain ⟨k, L, hk, hk16, rfl, rfl, hup, hfr⟩ := hrel
    have HU1 := Lib.hid hup
    have hbl : Below w.heap.size w wr := hup.below
    have hk0 : (0 : Int) ≤ (k : Int) := Int.natCast_nonneg _
    clear hup HUP
    by_cases hlt : k < ss.length ∧ k < 16
    · obtain ⟨b, off, x0, x1, x2, rfl, t0, t1, t2, x00, x01, x10, x11, hbw⟩ := HS.out wr hbl k hlt.1
      have hki : (k : Int) < (ss.length : Int) := by omega
      have hk2 : (k : Int) < 16 := by omega
      have HBA := Lib.hid (batch_any x0 x1 x2 wr x00 x10)
      go_wp2_with fail
      refine HBA.out.mono ?_
      rintro e w4 ⟨vb, rfl, hrn, hb4⟩
      have hbg := batch_good x0 x1 x2
      have hbf := batch_frame x0 x1 x2
      generalize batchB x0 x1 x2 = BB at hrn hbg hbf
      by_cases hempty : BB.length = 0
      · obtain ⟨ao, cc, rfl, -⟩ := hrn.recs
        have U4 : Hid (Up w w4 q0 u11 L) := Lib.hid (GSt.next HU1.out hb4)
        have hn0 : ((BB.length : Int) == 0) = true := by simpa using hempty
        clear hempty hbg hbf hrn hb4 HBA HU1
        go_wp2_with fail
        go_roundw
        case rel => exact ⟨k + 1, L, by omega, by omega, rfl, by go_num, U4.out, by omega⟩
        case measure => simp [intOf]; omega
      · have hne : 1 ≤ BB.length := by omega
        have hg := hbg hne
        have HAP := Lib.hid (HU1.out.append (by omega) hb4 hrn hg hbf)
        obtain ⟨ao, cc, rfl, -⟩ := hrn.recs
        have hn0 : ((BB.length : Int) == 0) = false := by rw [beq_eq_false_iff_ne]; omega
        have HGD := Lib.hid hg
        have hb16 : BB.length ≤ 16 := hg.2.1
        clear hempty hbg hrn hb4 HBA HU1 hg
        go_wp2_with fail
        refine HAP.out.mono ?_
        rintro e w5 (⟨rfl, hmid⟩ | ⟨rfl, rs5, hmid⟩)
        · obtain ⟨va', w6, hrun, hup6⟩ := Up.join hmid (by omega) hb16
          have HRUN := Lib.hid hrun
          have U6 := Lib.hid hup6
          have hfr2 : (framesF (L ++ [BB])).length ≤ 102 * (k + 1) := by rw [frames_snoc, List.length_append]; omega
          have HFR2 := Lib.hid hfr2
          clear hmid hrun hup6 HAP hfr2
          go_wp2_with (at_builtin
                       refine wpList_append_made rfl (.tmp 62) (.tmp 63) 55 55 rfl _ _ rfl rfl (HRUN.out _) ?_)
          go_roundw
          case rel => exact ⟨k + 1, L ++ [BB], by omega, by omega, rfl, by go_num, U6.out, HFR2.out⟩
          case measure => simp [intOf]; omega
        · have HDE := Lib.hid hmid.st.isDead
          have hre5 : Recs w5 ao BB := by
            obtain ⟨_, _, hrow⟩ := hmid.fx.lists
            obtain ⟨ao2, c2, he, hr2⟩ := hrow.recs
            cases he
            exact hr2
          have HDD := Lib.hid (app_dead (.pointer (some ⟨q0, 0, none⟩)) ao BB.length cc BB w5 rfl hre5 hne hb16 HGD.out.2.2.1 (Lib.hid hmid.st.isDead))
          have HCX : Hid (CX w w5 w.heap.size u11 (.slice ao BB.length cc) L BB) := Lib.hid (hmid.fx.mono fun _ hs => .inl hs)
          have hne2 : ¬ ((42 : Int) = 0) := by decide
          clear hmid hre5 HAP
          go_wp2_with fail
          refine HDE.out.mono ?_
          rintro e w6 ⟨rfl, rfl⟩
          go_wp2_with fail
          refine HDD.out.mono ?_
          rintro e w7 ⟨rfl, rfl⟩
          clear HDE HDD HGD
          go_wp2_with fail
          have hFL : L.flatten.length ≤ 1632 := by
            have := frames_ge L
            omega
          obtain ⟨RS, hRS⟩ : ∃ RS, L.flatten = RS := ⟨_, rfl⟩
          have HRS := Lib.hid hRS
          rw [hRS] at hFL
          have HFLB := Lib.hid hFL
          clear hRS hFL HS
          go_loopw [7, 16] (fun d i wr => ∃ (j p : Nat), j ≤ ms.length ∧ j ≤ 4 ∧ d = .pointer (some ⟨p, 0, none⟩) ∧ i = .int .i64 j ∧ CX w wr p u11 (.slice ao BB.length cc) L BB) (fun _ i _ => 4 - (intOf i).toNat)
          case atStart => exact ⟨0, w.heap.size, Nat.zero_le _, by omega, rfl, rfl, HCX.out⟩
          case round =>
            obtain ⟨j, p, hj, hj4, rfl, rfl, hcx⟩ := hrel
            have HC1 := Lib.hid hcx
            have hbl2 : Below w.heap.size w wr := hcx.below
            have hj0 : (0 : Int) ≤ (j : Int) := Int.natCast_nonneg _
            clear hcx HCX
            by_cases hjlt : j < ms.length ∧ j < 4
            · obtain ⟨b, off, y0, y1, y2, rfl, t0, t1, t2, hbw⟩ := HM.out wr hbl2 j hjlt.1
              have hji : (j : Int) < (ms.length : Int) := by omega
              have hj2 : (j : Int) < 4 := by omega
              have HCR : Hid (∀ d, Below wr.heap.size wr d → _) := fun d hd => CX.crash (FX.next HC1.out hd) (wrap64 y0) (wrap64 y1)
              have hbwr : b < wr.heap.size := Nat.lt_of_lt_of_le hbw hbl2.size
              obtain ⟨z, hz⟩ : ∃ z, bits .and .i64 (wrap64 y2) 3 = z := ⟨_, rfl⟩
              have hzb : z ≤ 9223372036854775807 := by rw [← hz]; exact and_bd _
              go_wp2_with fail
              go_still_tail 13, (by kernel_rfl)
              change wpList _ _ _ _ _ wr.drew
              go_wp2_with fail
              refine (HCR.out _ ((Below.refl _ _).drew)).mono ?_
              rintro e w7 ⟨p7, rfl, hf7, hb7⟩
              have u2 : w7.cell? ⟨b, off + j * 3 + 2, none⟩ = some (.int .i8 y2) := (hb7.cell (p := ⟨b, off + j * 3 + 2, none⟩) hbwr).trans t2
              have HCT := Lib.hid (two_cut hf7 z hzb)
              clear hf7 hb7 HCR HC1 hzb
              go_wp2_with fail
              refine HCT.out.mono ?_
              rintro e w8 ⟨rfl, hf8⟩
              have HOP := Lib.hid (two_open hf8)
              clear hf8 HCT
              go_wp2_with fail
              refine HOP.out.mono ?_
              rintro e w9 ⟨xx, yy, rfl, hc9⟩
              have HC9 := Lib.hid hc9
              clear hc9 HOP
              go_wp2_with fail
              go_roundw
              case rel => exact ⟨j + 1, p7, by omega, by omega, rfl, by go_num, HC9.out⟩
              case measure => simp [intOf]; omega
            · have hside2 : ¬ j < ms.length ∨ j < ms.length ∧ ¬ j < 4 := by omega
              have HCR := Lib.hid (HC1.out.crash (ss.length : Int) (wrap64 c))
              clear hbl2 hjlt HC1
              rcases hside2 with g1 | ⟨g1, g2⟩
              · have g3 : (ms.length : Int) ≤ (j : Int) := by omega
                go_wp2_with fail
                refine HCR.out.mono ?_
                rintro e w7 ⟨p7, rfl, hf7, -⟩
                obtain ⟨L', hL', hgd, hop⟩ := two_last hf7
                obtain ⟨RS', hRS'⟩ : ∃ RS', L'.flatten = RS' := ⟨_, rfl⟩
                rw [hRS', HRS.out] at hop
                have hrs' : RS' = RS ∨ (1 ≤ BB.length ∧ RS' = RS ++ BB) := by
                  rcases hL' with h | ⟨hg, h⟩
                  · left; rw [← hRS', h, HRS.out]
                  · right; exact ⟨hg.1, by rw [← hRS', h, List.flatten_append, HRS.out]; simp⟩
                have HSHL : Hid (∀ k, k < RS'.length → (RS'.getD k []).length ≤ 1000000) := Lib.hid fun k hk => by
                  have := flat_short hgd k (by rw [hRS']; exact hk)
                  rwa [hRS'] at this
                have HOP := Lib.hid hop
                clear hf7 HCR hop hRS' hL' hgd
                go_wp2_with fail
                refine HOP.out.mono ?_
                rintro e w8 ⟨q8, rfl, hj8, hx8⟩
                have HJ8 := Lib.hid hj8
                have HX8 := Lib.hid hx8
                clear hj8 hx8 HOP
                go_wp2_with fail
                refine (jawake_any w8).mono ?_
                rintro e w9 ⟨rfl, hb9⟩
                have HJ9 := Lib.hid (HJ8.out.next hb9)
                have HX9 := Lib.hid (HX8.out.next hb9)
                clear hb9 HJ8 HX8
                obtain ⟨NN, ha9, hr9⟩ := HX9.out.lists
                obtain ⟨ao9, c9, hva9, hre9⟩ := ha9.recs
                rcases hrs' with rfl | ⟨hrl, rfl⟩
                · have HH := Lib.hid (holds_yes ao9 q8 _ c9 _ w9 HJ9.out rfl hre9 HSHL.out (by have := HFLB.out; omega))
                  rw [← hva9] at HH
                  have HB9 := Lib.hid HX9.out.below
                  clear ha9 hr9 hva9 hre9
                  go_wp2_with fail
                  refine HH.out.mono ?_
                  rintro e w10 ⟨rfl, hb10⟩
                  have HB10 := Lib.hid (HB9.out.trans (hb10.mono HB9.out.size))
                  clear hb10 HH
                  go_wp2_with fail
                  go_ret
                  exact ⟨rfl, HB10.out⟩
                · have HH := Lib.hid (holds_no ao9 q8 RS.length c9 _ w9 HJ9.out (by rw [List.length_append]; omega))
                  rw [← hva9] at HH
                  clear ha9 hr9 hva9 hre9
                  go_wp2_with fail
                  refine HH.out.mono ?_
                  rintro e w10 ⟨rfl, hb10⟩
                  have HX10 := Lib.hid (HX9.out.next hb10)
                  have HJ10 := Lib.hid (HJ9.out.next hb10)
                  obtain ⟨NN2, ha10, hr10⟩ := HX10.out.lists
                  obtain ⟨v1, w11, v2, w12, run1, run2, ⟨ao12, c12, hv12, hre12⟩, hb12⟩ := double_append ha10 hr10 (by have := HFLB.out; omega)
                  have HR1 := Lib.hid run1
                  have HR2 := Lib.hid run2
                  have HH2 := Lib.hid (holds_yes ao12 q8 _ c12 _ w12 (HJ10.out.next hb12) rfl hre12 HSHL.out (by rw [List.length_append]; have := HFLB.out; omega))
                  rw [← hv12] at HH2
                  have HB12 := Lib.hid (HX10.out.below.trans (hb12.mono HX10.out.below.size))
                  clear hb10 run1 run2 hv12 hre12 hb12 ha10 hr10 HH HX9 HJ9
                  go_wp2_with (first
                    | (at_builtin
                       refine wpList_made_g (by first | rfl | simp [Region.wanted, yielded]) (.tmp 135) (.tmp 136) 55 55 rfl _ _ rfl rfl (HR1.out _) ?_)
                    | (at_builtin
                       refine wpList_made_g (by first | rfl | simp [Region.wanted, yielded]) (.tmp 137) (.tmp 138) 55 55 rfl _ _ rfl rfl (HR2.out _) ?_))
                  refine HH2.out.mono ?_
                  rintro e w13 ⟨rfl, hb13⟩
                  have HB13 := Lib.hid (HB12.out.trans (hb13.mono HB12.out.size))
                  clear hb13 HH2
                  go_wp2_with fail
                  go_ret
                  exact ⟨rfl, HB13.out⟩
              · have g3 : (j : Int) < (ms.length : Int) := by omega
                have g4 : (4 : Int) ≤ (j : Int) := by omega
                go_wp2_with fail
                refine HCR.out.mono ?_
                rintro e w7 ⟨p7, rfl, hf7, -⟩
                obtain ⟨L', hL', hgd, hop⟩ := two_last hf7
                obtain ⟨RS', hRS'⟩ : ∃ RS', L'.flatten = RS' := ⟨_, rfl⟩
                rw [hRS', HRS.out] at hop
                have hrs' : RS' = RS ∨ (1 ≤ BB.length ∧ RS' = RS ++ BB) := by
                  rcases hL' with h | ⟨hg, h⟩
                  · left; rw [← hRS', h, HRS.out]
                  · right; exact ⟨hg.1, by rw [← hRS', h, List.flatten_append, HRS.out]; simp⟩
                have HSHL : Hid (∀ k, k < RS'.length → (RS'.getD k []).length ≤ 1000000) := Lib.hid fun k hk => by
                  have := flat_short hgd k (by rw [hRS']; exact hk)
                  rwa [hRS'] at this
                have HOP := Lib.hid hop
                clear hf7 HCR hop hRS' hL' hgd
                go_wp2_with fail
                refine HOP.out.mono ?_
                rintro e w8 ⟨q8, rfl, hj8, hx8⟩
                have HJ8 := Lib.hid hj8
                have HX8 := Lib.hid hx8
                clear hj8 hx8 HOP
                go_wp2_with fail
                refine (jawake_any w8).mono ?_
                rintro e w9 ⟨rfl, hb9⟩
                have HJ9 := Lib.hid (HJ8.out.next hb9)
                have HX9 := Lib.hid (HX8.out.next hb9)
                clear hb9 HJ8 HX8
                obtain ⟨NN, ha9, hr9⟩ := HX9.out.lists
                obtain ⟨ao9, c9, hva9, hre9⟩ := ha9.recs
                rcases hrs' with rfl | ⟨hrl, rfl⟩
                · have HH := Lib.hid (holds_yes ao9 q8 _ c9 _ w9 HJ9.out rfl hre9 HSHL.out (by have := HFLB.out; omega))
                  rw [← hva9] at HH
                  have HB9 := Lib.hid HX9.out.below
                  clear ha9 hr9 hva9 hre9
                  go_wp2_with fail
                  refine HH.out.mono ?_
                  rintro e w10 ⟨rfl, hb10⟩
                  have HB10 := Lib.hid (HB9.out.trans (hb10.mono HB9.out.size))
                  clear hb10 HH
                  go_wp2_with fail
                  go_ret
                  exact ⟨rfl, HB10.out⟩
                · have HH := Lib.hid (holds_no ao9 q8 RS.length c9 _ w9 HJ9.out (by rw [List.length_append]; omega))
                  rw [← hva9] at HH
                  clear ha9 hr9 hva9 hre9
                  go_wp2_with fail
                  refine HH.out.mono ?_
                  rintro e w10 ⟨rfl, hb10⟩
                  have HX10 := Lib.hid (HX9.out.next hb10)
                  have HJ10 := Lib.hid (HJ9.out.next hb10)
                  obtain ⟨NN2, ha10, hr10⟩ := HX10.out.lists
                  obtain ⟨v1, w11, v2, w12, run1, run2, ⟨ao12, c12, hv12, hre12⟩, hb12⟩ := double_append ha10 hr10 (by have := HFLB.out; omega)
                  have HR1 := Lib.hid run1
                  have HR2 := Lib.hid run2
                  have HH2 := Lib.hid (holds_yes ao12 q8 _ c12 _ w12 (HJ10.out.next hb12) rfl hre12 HSHL.out (by rw [List.length_append]; have := HFLB.out; omega))
                  rw [← hv12] at HH2
                  have HB12 := Lib.hid (HX10.out.below.trans (hb12.mono HX10.out.below.size))
                  clear hb10 run1 run2 hv12 hre12 hb12 ha10 hr10 HH HX9 HJ9
                  go_wp2_with (first
                    | (at_builtin
                       refine wpList_made_g (by first | rfl | simp [Region.wanted, yielded]) (.tmp 135) (.tmp 136) 55 55 rfl _ _ rfl rfl (HR1.out _) ?_)
                    | (at_builtin
                       refine wpList_made_g (by first | rfl | simp [Region.wanted, yielded]) (.tmp 137) (.tmp 138) 55 55 rfl _ _ rfl rfl (HR2.out _) ?_))
                  refine HH2.out.mono ?_
                  rintro e w13 ⟨rfl, hb13⟩
                  have HB13 := Lib.hid (HB12.out.trans (hb13.mono HB12.out.size))
                  clear hb13 HH2
                  go_wp2_with fail
                  go_ret
                  exact ⟨rfl, HB13.out⟩
    · have hside : ¬ k < ss.length ∨ k < ss.length ∧ ¬ k < 16 := by omega
      have HCX := Lib.hid HU1.out.over
      clear hbl hlt HU1
      rcases hside with h | ⟨h1, h2⟩
      · have h3 : (ss.length : Int) ≤ (k : Int) := by omega
        go_wp2_with fail
        have hFL : L.flatten.length ≤ 1632 := by
          have := frames_ge L
          omega
        obtain ⟨RS, hRS⟩ : ∃ RS, L.flatten = RS := ⟨_, rfl⟩
        have HRS := Lib.hid hRS
        rw [hRS] at hFL
        have HFLB := Lib.hid hFL
        clear hRS hFL HS
        go_loopw [7, 16] (fun d i wr => ∃ (j p : Nat), j ≤ ms.length ∧ j ≤ 4 ∧ d = .pointer (some ⟨p, 0, none⟩) ∧ i = .int .i64 j ∧ CX w wr p u11 (.slice none 0 0) L ([] : List (List Int))) (fun _ i _ => 4 - (intOf i).toNat)
        case atStart => exact ⟨0, w.heap.size, Nat.zero_le _, by omega, rfl, rfl, HCX.out⟩
        case round =>
          obtain ⟨j, p, hj, hj4, rfl, rfl, hcx⟩ := hrel
          have HC1 := Lib.hid hcx
          have hbl2 : Below w.heap.size w wr := hcx.below
          have hj0 : (0 : Int) ≤ (j : Int) := Int.natCast_nonneg _
          clear hcx HCX
          by_cases hjlt : j < ms.length ∧ j < 4
          · obtain ⟨b, off, y0, y1, y2, rfl, t0, t1, t2, hbw⟩ := HM.out wr hbl2 j hjlt.1
            have hji : (j : Int) < (ms.length : Int) := by omega
            have hj2 : (j : Int) < 4 := by omega
            have HCR : Hid (∀ d, Below wr.heap.size wr d → _) := fun d hd => CX.crash (FX.next HC1.out hd) (wrap64 y0) (wrap64 y1)
            have hbwr : b < wr.heap.size := Nat.lt_of_lt_of_le hbw hbl2.size
            obtain ⟨z, hz⟩ : ∃ z, bits .and .i64 (wrap64 y2) 3 = z := ⟨_, rfl⟩
            have hzb : z ≤ 9223372036854775807 := by rw [← hz]; exact and_bd _
            go_wp2_with fail
            go_still_tail 13, (by kernel_rfl)
            change wpList _ _ _ _ _ wr.drew
            go_wp2_with fail
            refine (HCR.out _ ((Below.refl _ _).drew)).mono ?_
            rintro e w7 ⟨p7, rfl, hf7, hb7⟩
            have u2 : w7.cell? ⟨b, off + j * 3 + 2, none⟩ = some (.int .i8 y2) := (hb7.cell (p := ⟨b, off + j * 3 + 2, none⟩) hbwr).trans t2
            have HCT := Lib.hid (two_cut hf7 z hzb)
            clear hf7 hb7 HCR HC1 hzb
            go_wp2_with fail
            refine HCT.out.mono ?_
            rintro e w8 ⟨rfl, hf8⟩
            have HOP := Lib.hid (two_open hf8)
            clear hf8 HCT
            go_wp2_with fail
            refine HOP.out.mono ?_
            rintro e w9 ⟨xx, yy, rfl, hc9⟩
            have HC9 := Lib.hid hc9
            clear hc9 HOP
            go_wp2_with fail
            go_roundw
            case rel => exact ⟨j + 1, p7, by omega, by omega, rfl, by go_num, HC9.out⟩
            case measure => simp [intOf]; omega
          · have hside2 : ¬ j < ms.length ∨ j < ms.length ∧ ¬ j < 4 := by omega
            have HCR := Lib.hid (HC1.out.crash (ss.length : Int) (wrap64 c))
            clear hbl2 hjlt HC1
            rcases hside2 with g1 | ⟨g1, g2⟩
            · have g3 : (ms.length : Int) ≤ (j : Int) := by omega
              go_wp2_with fail
              refine HCR.out.mono ?_
              rintro e w7 ⟨p7, rfl, hf7, -⟩
              obtain ⟨L', hL', hgd, hop⟩ := two_last hf7
              obtain ⟨RS', hRS'⟩ : ∃ RS', L'.flatten = RS' := ⟨_, rfl⟩
              rw [hRS', HRS.out] at hop
              have hrs' : RS' = RS ∨ (1 ≤ ([] : List (List Int)).length ∧ RS' = RS ++ ([] : List (List Int))) := by
                rcases hL' with h | ⟨hg, h⟩
                · left; rw [← hRS', h, HRS.out]
                · right; exact ⟨hg.1, by rw [← hRS', h, List.flatten_append, HRS.out]; simp⟩
              have HSHL : Hid (∀ k, k < RS'.length → (RS'.getD k []).length ≤ 1000000) := Lib.hid fun k hk => by
                have := flat_short hgd k (by rw [hRS']; exact hk)
                rwa [hRS'] at this
              have HOP := Lib.hid hop
              clear hf7 HCR hop hRS' hL' hgd
              go_wp2_with fail
              refine HOP.out.mono ?_
              rintro e w8 ⟨q8, rfl, hj8, hx8⟩
              have HJ8 := Lib.hid hj8
              have HX8 := Lib.hid hx8
              clear hj8 hx8 HOP
              go_wp2_with fail
              refine (jawake_any w8).mono ?_
              rintro e w9 ⟨rfl, hb9⟩
              have HJ9 := Lib.hid (HJ8.out.next hb9)
              have HX9 := Lib.hid (HX8.out.next hb9)
              clear hb9 HJ8 HX8
              obtain ⟨NN, ha9, hr9⟩ := HX9.out.lists
              obtain ⟨ao9, c9, hva9, hre9⟩ := ha9.recs
              rcases hrs' with rfl | ⟨hrl, rfl⟩
              · have HH := Lib.hid (holds_yes ao9 q8 _ c9 _ w9 HJ9.out rfl hre9 HSHL.out (by have := HFLB.out; omega))
                rw [← hva9] at HH
                have HB9 := Lib.hid HX9.out.below
                clear ha9 hr9 hva9 hre9
                go_wp2_with fail
                refine HH.out.mono ?_
                rintro e w10 ⟨rfl, hb10⟩
                have HB10 := Lib.hid (HB9.out.trans (hb10.mono HB9.out.size))
                clear hb10 HH
                go_wp2_with fail
                go_ret
                exact ⟨rfl, HB10.out⟩
              · exact absurd hrl (by simp)
            · have g3 : (j : Int) < (ms.length : Int) := by omega
              have g4 : (4 : Int) ≤ (j : Int) := by omega
              go_wp2_with fail
              refine HCR.out.mono ?_
              rintro e w7 ⟨p7, rfl, hf7, -⟩
              obtain ⟨L', hL', hgd, hop⟩ := two_last hf7
              obtain ⟨RS', hRS'⟩ : ∃ RS', L'.flatten = RS' := ⟨_, rfl⟩
              rw [hRS', HRS.out] at hop
              have hrs' : RS' = RS ∨ (1 ≤ ([] : List (List Int)).length ∧ RS' = RS ++ ([] : List (List Int))) := by
                rcases hL' with h | ⟨hg, h⟩
                · left; rw [← hRS', h, HRS.out]
                · right; exact ⟨hg.1, by rw [← hRS', h, List.flatten_append, HRS.out]; simp⟩
              have HSHL : Hid (∀ k, k < RS'.length → (RS'.getD k []).length ≤ 1000000) := Lib.hid fun k hk => by
                have := flat_short hgd k (by rw [hRS']; exact hk)
                rwa [hRS'] at this
              have HOP := Lib.hid hop
              clear hf7 HCR hop hRS' hL' hgd
              go_wp2_with fail
              refine HOP.out.mono ?_
              rintro e w8 ⟨q8, rfl, hj8, hx8⟩
              have HJ8 := Lib.hid hj8
              have HX8 := Lib.hid hx8
              clear hj8 hx8 HOP
              go_wp2_with fail
              refine (jawake_any w8).mono ?_
              rintro e w9 ⟨rfl, hb9⟩
              have HJ9 := Lib.hid (HJ8.out.next hb9)
              have HX9 := Lib.hid (HX8.out.next hb9)
              clear hb9 HJ8 HX8
              obtain ⟨NN, ha9, hr9⟩ := HX9.out.lists
              obtain ⟨ao9, c9, hva9, hre9⟩ := ha9.recs
              rcases hrs' with rfl | ⟨hrl, rfl⟩
              · have HH := Lib.hid (holds_yes ao9 q8 _ c9 _ w9 HJ9.out rfl hre9 HSHL.out (by have := HFLB.out; omega))
                rw [← hva9] at HH
                have HB9 := Lib.hid HX9.out.below
                clear ha9 hr9 hva9 hre9
                go_wp2_with fail
                refine HH.out.mono ?_
                rintro e w10 ⟨rfl, hb10⟩
                have HB10 := Lib.hid (HB9.out.trans (hb10.mono HB9.out.size))
                clear hb10 HH
                go_wp2_with fail
                go_ret
                exact ⟨rfl, HB10.out⟩
              · exact absurd hrl (by simp)
      · have h3 : (k : Int) < (ss.length : Int) := by omega
        have h4 : (16 : Int) ≤ (k : Int) := by omega
        go_wp2_with fail
        have hFL : L.flatten.length ≤ 1632 := by
          have := frames_ge L
          omega
        obtain ⟨RS, hRS⟩ : ∃ RS, L.flatten = RS := ⟨_, rfl⟩
        have HRS := Lib.hid hRS
        rw [hRS] at hFL
        have HFLB := Lib.hid hFL
        clear hRS hFL HS
        go_loopw [7, 16] (fun d i wr => ∃ (j p : Nat), j ≤ ms.length ∧ j ≤ 4 ∧ d = .pointer (some ⟨p, 0, none⟩) ∧ i = .int .i64 j ∧ CX w wr p u11 (.slice none 0 0) L ([] : List (List Int))) (fun _ i _ => 4 - (intOf i).toNat)
        case atStart => exact ⟨0, w.heap.size, Nat.zero_le _, by omega, rfl, rfl, HCX.out⟩
        case round =>
          obtain ⟨j, p, hj, hj4, rfl, rfl, hcx⟩ := hrel
          have HC1 := Lib.hid hcx
          have hbl2 : Below w.heap.size w wr := hcx.below
          have hj0 : (0 : Int) ≤ (j : Int) := Int.natCast_nonneg _
          clear hcx HCX
          by_cases hjlt : j < ms.length ∧ j < 4
          · obtain ⟨b, off, y0, y1, y2, rfl, t0, t1, t2, hbw⟩ := HM.out wr hbl2 j hjlt.1
            have hji : (j : Int) < (ms.length : Int) := by omega
            have hj2 : (j : Int) < 4 := by omega
            have HCR : Hid (∀ d, Below wr.heap.size wr d → _) := fun d hd => CX.crash (FX.next HC1.out hd) (wrap64 y0) (wrap64 y1)
            have hbwr : b < wr.heap.size := Nat.lt_of_lt_of_le hbw hbl2.size
            obtain ⟨z, hz⟩ : ∃ z, bits .and .i64 (wrap64 y2) 3 = z := ⟨_, rfl⟩
            have hzb : z ≤ 9223372036854775807 := by rw [← hz]; exact and_bd _
            go_wp2_with fail
            go_still_tail 13, (by kernel_rfl)
            change wpList _ _ _ _ _ wr.drew
            go_wp2_with fail
            refine (HCR.out _ ((Below.refl _ _).drew)).mono ?_
            rintro e w7 ⟨p7, rfl, hf7, hb7⟩
            have u2 : w7.cell? ⟨b, off + j * 3 + 2, none⟩ = some (.int .i8 y2) := (hb7.cell (p := ⟨b, off + j * 3 + 2, none⟩) hbwr).trans t2
            have HCT := Lib.hid (two_cut hf7 z hzb)
            clear hf7 hb7 HCR HC1 hzb
            go_wp2_with fail
            refine HCT.out.mono ?_
            rintro e w8 ⟨rfl, hf8⟩
            have HOP := Lib.hid (two_open hf8)
            clear hf8 HCT
            go_wp2_with fail
            refine HOP.out.mono ?_
            rintro e w9 ⟨xx, yy, rfl, hc9⟩
            have HC9 := Lib.hid hc9
            clear hc9 HOP
            go_wp2_with fail
            go_roundw
            case rel => exact ⟨j + 1, p7, by omega, by omega, rfl, by go_num, HC9.out⟩
            case measure => simp [intOf]; omega
          · have hside2 : ¬ j < ms.length ∨ j < ms.length ∧ ¬ j < 4 := by omega
            have HCR := Lib.hid (HC1.out.crash (ss.length : Int) (wrap64 c))
            clear hbl2 hjlt HC1
            rcases hside2 with g1 | ⟨g1, g2⟩
            · have g3 : (ms.length : Int) ≤ (j : Int) := by omega
              go_wp2_with fail
              refine HCR.out.mono ?_
              rintro e w7 ⟨p7, rfl, hf7, -⟩
              obtain ⟨L', hL', hgd, hop⟩ := two_last hf7
              obtain ⟨RS', hRS'⟩ : ∃ RS', L'.flatten = RS' := ⟨_, rfl⟩
              rw [hRS', HRS.out] at hop
              have hrs' : RS' = RS ∨ (1 ≤ ([] : List (List Int)).length ∧ RS' = RS ++ ([] : List (List Int))) := by
                rcases hL' with h | ⟨hg, h⟩
                · left; rw [← hRS', h, HRS.out]
                · right; exact ⟨hg.1, by rw [← hRS', h, List.flatten_append, HRS.out]; simp⟩
              have HSHL : Hid (∀ k, k < RS'.length → (RS'.getD k []).length ≤ 1000000) := Lib.hid fun k hk => by
                have := flat_short hgd k (by rw [hRS']; exact hk)
                rwa [hRS'] at this
              have HOP := Lib.hid hop
              clear hf7 HCR hop hRS' hL' hgd
              go_wp2_with fail
              refine HOP.out.mono ?_
              rintro e w8 ⟨q8, rfl, hj8, hx8⟩
              have HJ8 := Lib.hid hj8
              have HX8 := Lib.hid hx8
              clear hj8 hx8 HOP
              go_wp2_with fail
              refine (jawake_any w8).mono ?_
              rintro e w9 ⟨rfl, hb9⟩
              have HJ9 := Lib.hid (HJ8.out.next hb9)
              have HX9 := Lib.hid (HX8.out.next hb9)
              clear hb9 HJ8 HX8
              obtain ⟨NN, ha9, hr9⟩ := HX9.out.lists
              obtain ⟨ao9, c9, hva9, hre9⟩ := ha9.recs
              rcases hrs' with rfl | ⟨hrl, rfl⟩
              · have HH := Lib.hid (holds_yes ao9 q8 _ c9 _ w9 HJ9.out rfl hre9 HSHL.out (by have := HFLB.out; omega))
                rw [← hva9] at HH
                have HB9 := Lib.hid HX9.out.below
                clear ha9 hr9 hva9 hre9
                go_wp2_with fail
                refine HH.out.mono ?_
                rintro e w10 ⟨rfl, hb10⟩
                have HB10 := Lib.hid (HB9.out.trans (hb10.mono HB9.out.size))
                clear hb10 HH
                go_wp2_with fail
                go_ret
                exact ⟨rfl, HB10.out⟩
              · exact absurd hrl (by simp)
            · have g3 : (j : Int) < (ms.length : Int) := by omega
              have g4 : (4 : Int) ≤ (j : Int) := by omega
              go_wp2_with fail
              refine HCR.out.mono ?_
              rintro e w7 ⟨p7, rfl, hf7, -⟩
              obtain ⟨L', hL', hgd, hop⟩ := two_last hf7
              obtain ⟨RS', hRS'⟩ : ∃ RS', L'.flatten = RS' := ⟨_, rfl⟩
              rw [hRS', HRS.out] at hop
              have hrs' : RS' = RS ∨ (1 ≤ ([] : List (List Int)).length ∧ RS' = RS ++ ([] : List (List Int))) := by
                rcases hL' with h | ⟨hg, h⟩
                · left; rw [← hRS', h, HRS.out]
                · right; exact ⟨hg.1, by rw [← hRS', h, List.flatten_append, HRS.out]; simp⟩
              have HSHL : Hid (∀ k, k < RS'.length → (RS'.getD k []).length ≤ 1000000) := Lib.hid fun k hk => by
                have := flat_short hgd k (by rw [hRS']; exact hk)
                rwa [hRS'] at this
              have HOP := Lib.hid hop
              clear hf7 HCR hop hRS' hL' hgd
              go_wp2_with fail
              refine HOP.out.mono ?_
              rintro e w8 ⟨q8, rfl, hj8, hx8⟩
              have HJ8 := Lib.hid hj8
              have HX8 := Lib.hid hx8
              clear hj8 hx8 HOP
              go_wp2_with fail
              refine (jawake_any w8).mono ?_
              rintro e w9 ⟨rfl, hb9⟩
              have HJ9 := Lib.hid (HJ8.out.next hb9)
              have HX9 := Lib.hid (HX8.out.next hb9)
              clear hb9 HJ8 HX8
              obtain ⟨NN, ha9, hr9⟩ := HX9.out.lists
              obtain ⟨ao9, c9, hva9, hre9⟩ := ha9.recs
              rcases hrs' with rfl | ⟨hrl, rfl⟩
              · have HH := Lib.hid (holds_yes ao9 q8 _ c9 _ w9 HJ9.out rfl hre9 HSHL.out (by have := HFLB.out; omega))
                rw [← hva9] at HH
                have HB9 := Lib.hid HX9.out.below
                clear ha9 hr9 hva9 hre9
                go_wp2_with fail
                refine HH.out.mono ?_
                rintro e w10 ⟨rfl, hb10⟩
                have HB10 := Lib.hid (HB9.out.trans (hb10.mono HB9.out.size))
                clear hb10 HH
                go_wp2_with fail
                go_ret
                exact ⟨rfl, HB10.out⟩
              · exact absurd hrl (by simp)
end Go.Proofs.Ytkbdbinafjmjkaa
