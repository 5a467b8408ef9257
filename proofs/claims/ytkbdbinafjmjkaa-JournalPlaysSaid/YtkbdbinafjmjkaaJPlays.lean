/-
  The law that a journal contains what was appended, walked.
-/
import Derived.Test.YtkbdbinafjmjkaaJLaw
import Derived.Test.YtkbdbinafjmjkaaDArgs
namespace Go.Proofs.Ytkbdbinafjmjkaa
open Go.RowKit

/-- A triple that lies among others, read. -/
theorem trip_read {w W : World} {so : Option Addr} {ss : List (Int × Int × Int)} (hs : LiesAt w so 3 ss.length (tripCell ss)) (hsr : ∀ i, TripOk (ss.getD i (0, 0, 0))) (hb : Below w.heap.size w W) (k : Nat) (hk : k < ss.length) :
    ∃ b off a x c, so = some ⟨b, off, none⟩ ∧ W.cell? ⟨b, off + k * 3, none⟩ = some (.int .u8 a) ∧ W.cell? ⟨b, off + k * 3 + 1, none⟩ = some (.int .u8 x) ∧ W.cell? ⟨b, off + k * 3 + 2, none⟩ = some (.int .u8 c) ∧ 0 ≤ a ∧ a ≤ 255 ∧ 0 ≤ x ∧ x ≤ 255 ∧ b < w.heap.size := by
  rcases hs with h0 | ⟨b, off, rfl, hbw, hc⟩
  · omega
  have hcr : ∀ j, j < 3 → W.cell? ⟨b, off + k * 3 + j, none⟩ = some (tripCell ss k j) := fun j hj => by
    rw [hb.cell (p := ⟨b, off + k * 3 + j, none⟩) hbw]; exact hc k hk j hj
  obtain ⟨⟨x00, x01⟩, ⟨x10, x11⟩, -⟩ := hsr k
  exact ⟨b, off, _, _, _, rfl, hcr 0 (by omega), hcr 1 (by omega), hcr 2 (by omega), x00, x01, x10, x11, hbw⟩

set_option maxRecDepth 100000 in
set_option maxHeartbeats 8000000 in
theorem jplays_walk (so : Option Addr) (sc : Nat) (ss : List (Int × Int × Int)) (keep flip : Int) (w : World) (hs : LiesAt w so 3 ss.length (tripCell ss)) (hsr : ∀ i, TripOk (ss.getD i (0, 0, 0))) :
    Calls Try.prog 7 #[.slice so ss.length sc, .int .i64 keep, .int .i64 flip] w fun e w' => e = .returned (.bool true) ∧ Below w.heap.size w w' := by
  have HS : Hid (∀ W, Below w.heap.size w W → ∀ k, k < ss.length → _) := fun W hW k hk => trip_read hs hsr hW k hk
  clear hs hsr
  have hN := Lib.hid (new_any 20000 w (by omega) (by omega))
  go_enter Try.func7, Try.ntmps7
  go_wp2_with fail
  refine hN.out.mono ?_
  rintro e w1 ⟨rfl, hd1, hb1⟩
  have HFA := Lib.hid (fallen_new hd1 hb1)
  clear hd1 hb1 hN
  go_wp2_with fail
  refine HFA.out.open.mono ?_
  rintro e w2 ⟨q0, rfl, hst⟩
  have HST := Lib.hid hst
  clear hst HFA
  go_wp2_with fail
  go_loopw [7, 9, 11, 12] (fun d j va i wr => ∃ (k p q : Nat) (L : List (List (List Int))), k ≤ ss.length ∧ k ≤ 20 ∧ d = .pointer (some ⟨p, 0, none⟩) ∧ j = .pointer (some ⟨q, 0, none⟩) ∧ i = .int .i64 k ∧ St 20000 w wr q p va L ∧ (framesF L).length ≤ 102 * k) (fun _ _ _ i _ => 20 - (intOf i).toNat)
  case atStart => exact ⟨0, _, q0, [], Nat.zero_le _, by omega, rfl, rfl, rfl, HST.out, by simp [framesF]⟩
  case round =>
    obtain ⟨k, p, q, L, hk, hk20, rfl, rfl, rfl, hst, hfr⟩ := hrel
    have HS1 := Lib.hid hst
    have hbl := hst.below
    have hk0 : (0 : Int) ≤ (k : Int) := Int.natCast_nonneg _
    clear hst HST
    by_cases hlt : k < ss.length ∧ k < 20
    · obtain ⟨b, off, x0, x1, x2, rfl, t0, t1, t2, x00, x01, x10, x11, hbw⟩ := HS.out wr hbl k hlt.1
      have hki : (k : Int) < (ss.length : Int) := by omega
      have hk2 : (k : Int) < 20 := by omega
      have HBA := Lib.hid (batch_any x0 x1 x2 wr x00 x10)
      go_wp2_with fail
      refine HBA.out.mono ?_
      rintro e w3 ⟨vb, rfl, hrn, hb3⟩
      have hbg := batch_good x0 x1 x2
      have hbf := batch_frame x0 x1 x2
      generalize batchB x0 x1 x2 = BB at hrn hbg hbf
      by_cases hempty : BB.length = 0
      · obtain rfl : BB = [] := List.eq_nil_of_length_eq_zero hempty
        obtain ⟨ao, c, rfl, -⟩ := hrn.recs
        have HAE := Lib.hid (app_empty (.pointer (some ⟨q, 0, none⟩)) ao c w3)
        have S3 := Lib.hid (HS1.out.next hb3)
        obtain ⟨va', w5, hrun, hst5⟩ := S3.out.joinNil ((hrn.base HS1.out.below.size).mono fun _ _ _ => trivial)
        have HRUN := Lib.hid hrun
        have S5 := Lib.hid hst5
        clear hempty hbg hbf hrn hb3 hrun hst5
        go_wp2_with fail
        refine HAE.out.mono ?_
        rintro e w4 ⟨rfl, rfl⟩
        go_wp2_with (at_builtin
                     refine wpList_append_made rfl (.tmp 64) (.tmp 65) 55 55 rfl _ _ rfl rfl (HRUN.out _) ?_)
        have HH := Lib.hid S5.out.holds
        clear HRUN S3
        go_wp2_with fail
        refine HH.out.mono ?_
        rintro e w6 ⟨rfl, hb6⟩
        have S6 := Lib.hid (S5.out.next hb6)
        have HDE := Lib.hid S6.out.dead
        have u0 : w6.cell? ⟨b, off + k * 3, none⟩ = some (.int .u8 x0) := (S6.out.below.cell (p := ⟨b, off + k * 3, none⟩) hbw).trans ((hbl.cell (p := ⟨b, off + k * 3, none⟩) hbw).symm.trans t0)
        clear hb6 S5 HH
        go_wp2_with fail
        refine HDE.out.mono ?_
        rintro e w7 ⟨rfl, rfl⟩
        obtain ⟨y, hy⟩ : ∃ y, x0.tdiv 4 = y := ⟨_, rfl⟩
        obtain ⟨z, hzz⟩ : ∃ z, y.tmod 5 = z := ⟨_, rfl⟩
        have hy2 : x0.tdiv 4 = x0 / 4 := Int.tdiv_eq_ediv_of_nonneg x00
        have hyw : IntKind.u8.wrap y = y := by rw [IntKind.wrap_u8]; omega
        clear hy2
        by_cases hz : z = 0
        · have hz1 : (z == 0) = true := by simpa using hz
          have HCR := Lib.hid (S6.out.crash keep flip)
          clear hz
          go_wp2_with fail
          refine HCR.out.mono ?_
          rintro e w8 ⟨p8, rfl, hf8, -⟩
          have HF8 := Lib.hid hf8
          clear hf8 HCR S6
          go_wp2_with fail
          refine HF8.out.open.mono ?_
          rintro e w9 ⟨q9, rfl, hs9⟩
          have HH9 := Lib.hid hs9.holds
          have S9 := Lib.hid hs9
          clear hs9
          go_wp2_with fail
          refine HH9.out.mono ?_
          rintro e w10 ⟨rfl, hb10⟩
          have S10 := Lib.hid (S9.out.next hb10)
          clear hb10 S9 HH9
          go_wp2_with fail
          go_roundw
          case rel => exact ⟨k + 1, p8, q9, L, by omega, by omega, rfl, rfl, by go_num, S10.out, by omega⟩
          case measure => simp [intOf]; omega
        · have hz1 : (z == 0) = false := by simpa using hz
          clear hz
          go_wp2_with fail
          go_roundw
          case rel => exact ⟨k + 1, p, q, L, by omega, by omega, rfl, rfl, by go_num, S6.out, by omega⟩
          case measure => simp [intOf]; omega
      · have hne : 1 ≤ BB.length := by omega
        have HAP := Lib.hid (HS1.out.append hb3 hrn (hbg hne) (by omega))
        obtain ⟨ao, c, rfl, -⟩ := hrn.recs
        have hn0 : ((BB.length : Int) == 0) = false := by rw [beq_eq_false_iff_ne]; omega
        have hn1 : (0 : Int) < (BB.length : Int) := by omega
        clear hempty hbg hrn hb3
        go_wp2_with fail
        refine HAP.out.mono ?_
        rintro e w4 ⟨rfl, hmid⟩
        obtain ⟨va', w5, hrun, hst5⟩ := hmid.join
        have HRUN := Lib.hid hrun
        have S5 := Lib.hid hst5
        have hfr2 : (framesF (L ++ [BB])).length ≤ 102 * (k + 1) := by rw [frames_snoc, List.length_append]; omega
        have HFR2 := Lib.hid hfr2
        clear hmid hrun hst5 HAP hfr2
        go_wp2_with (at_builtin
                     refine wpList_append_made rfl (.tmp 64) (.tmp 65) 55 55 rfl _ _ rfl rfl (HRUN.out _) ?_)
        have HH := Lib.hid S5.out.holds
        clear HRUN
        go_wp2_with fail
        refine HH.out.mono ?_
        rintro e w6 ⟨rfl, hb6⟩
        have S6 := Lib.hid (S5.out.next hb6)
        have HDE := Lib.hid S6.out.dead
        have u0 : w6.cell? ⟨b, off + k * 3, none⟩ = some (.int .u8 x0) := (S6.out.below.cell (p := ⟨b, off + k * 3, none⟩) hbw).trans ((hbl.cell (p := ⟨b, off + k * 3, none⟩) hbw).symm.trans t0)
        clear hb6 S5 HH
        go_wp2_with fail
        refine HDE.out.mono ?_
        rintro e w7 ⟨rfl, rfl⟩
        obtain ⟨y, hy⟩ : ∃ y, x0.tdiv 4 = y := ⟨_, rfl⟩
        obtain ⟨z, hzz⟩ : ∃ z, y.tmod 5 = z := ⟨_, rfl⟩
        have hy2 : x0.tdiv 4 = x0 / 4 := Int.tdiv_eq_ediv_of_nonneg x00
        have hyw : IntKind.u8.wrap y = y := by rw [IntKind.wrap_u8]; omega
        clear hy2
        by_cases hz : z = 0
        · have hz1 : (z == 0) = true := by simpa using hz
          have HCR := Lib.hid (S6.out.crash keep flip)
          clear hz
          go_wp2_with fail
          refine HCR.out.mono ?_
          rintro e w8 ⟨p8, rfl, hf8, -⟩
          have HF8 := Lib.hid hf8
          clear hf8 HCR S6
          go_wp2_with fail
          refine HF8.out.open.mono ?_
          rintro e w9 ⟨q9, rfl, hs9⟩
          have HH9 := Lib.hid hs9.holds
          have S9 := Lib.hid hs9
          clear hs9
          go_wp2_with fail
          refine HH9.out.mono ?_
          rintro e w10 ⟨rfl, hb10⟩
          have S10 := Lib.hid (S9.out.next hb10)
          clear hb10 S9 HH9
          go_wp2_with fail
          go_roundw
          case rel => exact ⟨k + 1, p8, q9, L ++ [BB], by omega, by omega, rfl, rfl, by go_num, S10.out, HFR2.out⟩
          case measure => simp [intOf]; omega
        · have hz1 : (z == 0) = false := by simpa using hz
          clear hz
          go_wp2_with fail
          go_roundw
          case rel => exact ⟨k + 1, p, q, L ++ [BB], by omega, by omega, rfl, rfl, by go_num, S6.out, HFR2.out⟩
          case measure => simp [intOf]; omega
    · have hside : ¬ k < ss.length ∨ k < ss.length ∧ ¬ k < 20 := by omega
      have HBL := Lib.hid hbl
      clear hbl hlt
      rcases hside with h | ⟨h1, h2⟩
      · have h3 : (ss.length : Int) ≤ (k : Int) := by omega
        go_wp2_with fail
        refine (jawake_any wr).mono ?_
        rintro e w3 ⟨rfl, hb3⟩
        go_wp2_with fail
        go_ret
        exact ⟨rfl, HBL.out.trans (hb3.mono HBL.out.size)⟩
      · have h3 : (k : Int) < (ss.length : Int) := by omega
        have h4 : (20 : Int) ≤ (k : Int) := by omega
        go_wp2_with fail
        refine (jawake_any wr).mono ?_
        rintro e w3 ⟨rfl, hb3⟩
        go_wp2_with fail
        go_ret
        exact ⟨rfl, HBL.out.trans (hb3.mono HBL.out.size)⟩
end Go.Proofs.Ytkbdbinafjmjkaa
