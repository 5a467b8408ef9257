/-
  DiskKept returns true for every input, and turns nothing that was there.
-/
import Derived.Test.YtkbdbinafjmjkaaDKept0
import Derived.Deep.RegionHeld3
namespace Go.Proofs.Ytkbdbinafjmjkaa
open Go.RowKit

set_option maxRecDepth 100000 in
set_option maxHeartbeats 2000000 in
theorem diskKept_walk (so mo : Option Addr) (sc mc : Nat) (ss : List (Int × Int × Int)) (ms : List (Int × Int)) (keep flip : Int) (w : World)
    (hs : LiesAt w so 3 ss.length (tripCell ss)) (hsr : ∀ i, TripOk (ss.getD i (0, 0, 0))) (hm : LiesAt w mo 2 ms.length (pairCell ms)) (hmr : ∀ i, PairOk (ms.getD i (0, 0))) :
    Calls Try.prog 3 #[.slice so ss.length sc, .slice mo ms.length mc, .int .i64 keep, .int .i64 flip] w fun e w' => e = .returned (.bool true) ∧ Below w.heap.size w w' := by
  have HS := Lib.hid hs
  have HSR := Lib.hid hsr
  have HM := Lib.hid hm
  have HMR := Lib.hid hmr
  clear hs hsr hm hmr
  go_enter Try.func3, Try.ntmps3
  go_wp2_with fail
  refine (new_h 500 w (by omega) (by omega)).mono ?_
  rintro e w1 ⟨rfl, hd1⟩
  have HD1 := Lib.hid hd1
  clear hd1
  go_wp2_with fail
  go_loopw [11] (fun i wr => ∃ (k : Nat) (s : DS), k ≤ ss.length ∧ k ≤ 30 ∧ i = .int .i64 k ∧ DHold w wr w.heap.size s ∧ s.cut = none ∧ s.room = 500 ∧ s.bs.length ≤ 2 * k) (fun i _ => 30 - (intOf i).toNat)
  case atStart => exact ⟨0, newD 500, Nat.zero_le _, by omega, rfl, HD1.out, rfl, rfl, Nat.le_refl _⟩
  case round =>
    clear HD1
    obtain ⟨k, s, hk, hk30, rfl, hd, hcut, hroom, hlen⟩ := hrel
    by_cases hlt : k < ss.length ∧ k < 30
    · obtain ⟨hlt, h30⟩ := hlt
      rcases HS.out with h0 | ⟨b, off, rfl, hbw, hc⟩
      · omega
      have hcr : ∀ j, j < 3 → wr.cell? ⟨b, off + k * 3 + j, none⟩ = some (tripCell ss k j) := fun j hj => by
        rw [hd.2.cell (p := ⟨b, off + k * 3 + j, none⟩) hbw]; exact hc k hlt j hj
      have hc0 := hcr 0 (by omega)
      have hc1 := hcr 1 (by omega)
      simp only [tripCell, if_true, Nat.add_zero, Nat.one_ne_zero, if_false] at hc0 hc1
      obtain ⟨⟨x00, x01⟩, ⟨x10, x11⟩, -⟩ := HSR.out k
      obtain ⟨⟨x0, x1, x2⟩, hx⟩ : ∃ x, x = ss.getD k (0, 0, 0) := ⟨_, rfl⟩
      rw [← hx] at hc0 hc1 x00 x01 x10 x11
      simp only at hc0 hc1 x00 x01 x10 x11
      have o0 := (hd.2.cell (p := ⟨b, off + k * 3, none⟩) hbw).symm.trans hc0
      have o1 := (hd.2.cell (p := ⟨b, off + k * 3 + 1, none⟩) hbw).symm.trans hc1
      have hap := append_runs (s := s) (b := [x0, x1]) hcut (by rw [hroom]; simp; omega)
      have hpl := hd.lt
      have HC : Hid (∀ W, Below wr.heap.size wr W → Byt W (some ⟨wr.heap.size, 0, none⟩) [x0, x1] → Calls Try.prog 15 #[.pointer (some ⟨w.heap.size, 0, none⟩), .slice (some ⟨wr.heap.size, 0, none⟩) 2 2] W fun e w' => e = .returned (.int .i64 0) ∧ DHold w w' w.heap.size { begun s with bs := s.bs ++ [x0, x1] }) := by
        intro W hW hY
        have := append_h (hd.next hW) (some ⟨wr.heap.size, 0, none⟩) 2 2 [x0, x1] rfl hY (by intro x hx; simp at hx; omega) (fun k o h => by cases h; omega) (by omega)
        rw [hap] at this
        exact this
      have HCUT := Lib.hid (begun_cut hcut)
      have HROOM := Lib.hid hroom
      have hk0 : (0 : Int) ≤ (k : Int) := Int.natCast_nonneg _
      have hk1 : (k : Int) < (ss.length : Int) := by omega
      clear hc hcr hx hap hd hcut hroom
      go_wp2_with fail
      go_region_held3 (fun w' => w'.cell? ⟨b, off + k * 3, none⟩ = some (.int .u8 x0) ∧ w'.cell? ⟨b, off + k * 3 + 1, none⟩ = some (.int .u8 x1))
        (first | exact ⟨hc0, hc1⟩ | go_keep)
        (first
          | (go_at_call 15
             refine (HC.out _ ?_ ?_).mono ?_
             exact ((Below.refl _ _).alloc (Nat.le_refl _) _).drew
             exact (byt_lit wr 5 (0, 0) [x0, x1] _ rfl)
             rintro e w3 ⟨rfl, hd3⟩
             have d0 := (hd3.2.cell (p := ⟨b, off + k * 3, none⟩) hbw).trans o0
             have d1 := (hd3.2.cell (p := ⟨b, off + k * 3 + 1, none⟩) hbw).trans o1))
      go_wp2_with fail
      go_roundw
      case rel => exact ⟨k + 1, _, hlt, h30, by go_num, hd3, HCUT.out, HROOM.out, by simp; omega⟩
      case measure => simp [intOf]; omega
    · have hsr := sync_runs hcut
      have hsh := sync_h hd
      rw [hsr] at hsh
      have HSH := Lib.hid hsh
      have HCUT := Lib.hid (begun_cut hcut)
      have HROOM := Lib.hid hroom
      have HSL := Lib.hid hlen
      obtain ⟨B, hB⟩ : ∃ B, s.bs = B := ⟨_, rfl⟩
      rw [hB] at HSH HSL
      have HB := Lib.hid hB
      clear hd hcut hroom hlen hsr hsh hB
      have hside : ¬ k < ss.length ∨ k < ss.length ∧ ¬ k < 30 := by omega
      have hk60 : 2 * k ≤ 60 := by omega
      clear hlt
      rcases hside with hside | ⟨hside, hside2⟩
      all_goals
        go_wp2_with fail
        refine HSH.out.mono ?_
        rintro e w2 ⟨rfl, hd2⟩
        obtain ⟨t0, ht0⟩ : ∃ t, { begun s with dur := B.length } = t := ⟨_, rfl⟩
        have q1 : t0.cut = none := by rw [← ht0]; exact HCUT.out
        have q2 : t0.room = 500 := by rw [← ht0]; exact HROOM.out
        have q3 : t0.bs = B := by rw [← ht0]; exact HB.out
        have q4 : t0.dur = B.length := by rw [← ht0]
        have hd2' : DHold w w2 w.heap.size t0 := by rw [← ht0]; exact hd2
        have HT := Lib.hid (And.intro q1 (And.intro q2 (And.intro q3 q4)))
        have HD2 := Lib.hid hd2'
        clear hd2 hd2' HSH ht0 q1 q2 q4 HB HROOM HCUT
        go_wp2_with fail
        have hr := read_h HD2.out
        rw [q3] at hr
        refine hr.mono ?_
        rintro e w3 ⟨g3, c3, rfl, hy3, -, hb3⟩
        have hcv := bytes_string c3 rfl hy3
        have HD3 := Lib.hid (HD2.out.next hb3)
        clear hr hy3 hb3 HD2 q3
        go_wp2_with fail
        clear hcv
        obtain ⟨wo, rfl⟩ : ∃ wo : World, wo = wr := ⟨_, rfl⟩
        have HL := Lib.hid (show B.length ≤ 60 by have := HSL.out; omega)
        clear HSL hk60 hk hk30
        go_loopw [13] (fun i wr => ∃ (j : Nat) (t : DS), j ≤ ms.length ∧ j ≤ 30 ∧ i = .int .i64 j ∧ DHold w wr w.heap.size t ∧ t.cut = none ∧ t.room = 500 ∧ t.dur = B.length ∧ t.bs.take B.length = B ∧ t.bs.length ≤ 60 + 4 * j) (fun i _ => 30 - (intOf i).toNat)
        case atStart =>
          obtain ⟨q1, q2, q3, q4⟩ := HT.out
          exact ⟨0, t0, Nat.zero_le _, by omega, rfl, HD3.out, q1, q2, q4, by rw [q3, List.take_length], by rw [q3]; exact HL.out⟩
        case round =>
          clear HD3 HT
          obtain ⟨j, t, hj, hj30, rfl, hd, hcut, hroom, hdur, htk, hlen⟩ := hrel
          by_cases hlt : j < ms.length ∧ j < 30
          · obtain ⟨hlt, h30⟩ := hlt
            rcases HM.out with h0 | ⟨b, off, rfl, hbw, hc⟩
            · omega
            have hc0 := hc j hlt 0 (by omega)
            simp only [pairCell, if_true, Nat.add_zero] at hc0
            have hc0' := (hd.2.cell (p := ⟨b, off + j * 2, none⟩) hbw).trans hc0
            obtain ⟨⟨x00, x01⟩, -⟩ := HMR.out j
            obtain ⟨x0, hx⟩ : ∃ x, x = (ms.getD j (0, 0)).1 := ⟨_, rfl⟩
            rw [← hx] at hc0' x00 x01
            obtain ⟨n, hn⟩ : ∃ n : Nat, x0 % 5 = n := ⟨(x0 % 5).toNat, by omega⟩
            have hn4 : n ≤ 4 := by omega
            have hmk := make_bytes n (by omega)
            have hap := append_runs (s := t) (b := List.replicate n 0) hcut (by rw [hroom, List.length_replicate]; omega)
            have hpl := hd.lt
            have HC : Hid (Calls Try.prog 15 #[.pointer (some ⟨w.heap.size, 0, none⟩), .slice (some ⟨wr.heap.size, 0, none⟩) n n] (wr.alloc (.cells (madeCells #[.int .u8 0] n) 5)) fun e w' => e = .returned (.int .i64 0) ∧ DHold w w' w.heap.size { begun t with bs := t.bs ++ List.replicate n 0 }) := by
              have := append_h (hd.next ((Below.refl _ _).alloc (Nat.le_refl _) (.cells (madeCells #[.int .u8 0] n) 5))) (some ⟨wr.heap.size, 0, none⟩) n n (List.replicate n 0) (by simp) (byt_made wr _ n) (zeros_ok n) (fun k o h => by cases h; omega) (by omega)
              rw [hap] at this
              exact this
            have HCUT := Lib.hid (begun_cut hcut)
            have HROOM := Lib.hid hroom
            have HDUR := Lib.hid hdur
            have HTK := Lib.hid htk
            have hk1 : (j : Int) < (ms.length : Int) := by omega
            clear hc hc0 hx hap hd hcut hroom hdur htk
            go_wp2_with fail
            refine HC.out.mono ?_
            rintro e w5 ⟨rfl, hd5⟩
            go_wp2_with fail
            go_roundw
            case rel =>
              refine ⟨j + 1, _, hlt, h30, by go_num, hd5, HCUT.out, HROOM.out, HDUR.out, ?_, by simp; omega⟩
              dsimp only
              have hBl : B.length ≤ t.bs.length := by
                have := congrArg List.length HTK.out
                simp at this
                omega
              rw [List.take_append_of_le_length hBl]
              exact HTK.out
            case measure => simp [intOf]; omega
          · have hside3 : ¬ j < ms.length ∨ j < ms.length ∧ ¬ j < 30 := by omega
            have HLT : Hid (DHold w wr w.heap.size t) := hd
            have htb : t.bs.length ≤ 1000 := by omega
            obtain ⟨C, hC⟩ : ∃ C, crashB t keep flip = C := ⟨_, rfl⟩
            obtain ⟨kp1, kp2, kp3⟩ := crash_keeps hd.ok keep flip
            rw [hdur, htk, hC] at kp1
            rw [hdur, hC] at kp2
            rw [hC] at kp3
            have HC := Lib.hid hC
            have HK1 := Lib.hid kp1
            clear hd hcut hroom hdur htk hlen hlt hC kp1
            rcases hside3 with hs3 | ⟨hs3, hs4⟩
            all_goals
              go_wp2_with fail
              refine (crash_h HLT.out keep flip).mono ?_
              rintro e w5 ⟨q, rfl, hd5⟩
              have HD5 := Lib.hid hd5
              clear hd5
              go_wp2_with fail
              have hr := read_h HD5.out
              change Calls _ _ _ _ (fun e w' => ∃ g cap, e = .returned (.slice (gad g) (crashB t keep flip).length cap) ∧ Byt w' (gad g) (crashB t keep flip) ∧ _ ∧ _) at hr
              rw [HC.out] at hr
              refine hr.mono ?_
              rintro e w6 ⟨g6, c6, rfl, hy6, -, hb6⟩
              have hcv := bytes_string c6 rfl hy6
              have hb56 := HD5.out.2.trans (hb6.mono HD5.out.2.size)
              have HD6 := Lib.hid (HLT.out.next hb56)
              clear hr hy6 hb6 hb56 HD5 HLT HC
              go_wp2_with fail
              refine (awake_any _).mono ?_
              rintro e w7 ⟨rfl, hb7⟩
              have HD7 := Lib.hid (HD6.out.next hb7)
              clear hb7 HD6 hcv
              have f1 := strOfNums_size B
              have f2 := strOfNums_size C
              have f3 : (strOfNums C).extract 0 B.length = strOfNums B := by rw [str_take, HK1.out]
              have f4 : decide (B.length ≤ C.length) = true := by simpa using kp2
              have f5 : decide (C.length ≤ t.bs.length) = true := by simpa using kp3
              have f6 : (B.length : Int) ≤ (C.length : Int) := by omega
              have f7 : (C.length : Int) ≤ (t.bs.length : Int) := by omega
              go_wp2_with fail
              refine (size_h HD7.out).mono ?_
              rintro e w8 ⟨rfl, rfl⟩
              go_wp2_with fail
              go_ret
              exact ⟨rfl, HD7.out.2⟩
end Go.Proofs.Ytkbdbinafjmjkaa
