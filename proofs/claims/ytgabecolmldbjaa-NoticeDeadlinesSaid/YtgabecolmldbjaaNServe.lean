/-
  notice.Serve returns the services of all notices, or the error of Check.
-/
import Derived.Test.YtgabecolmldbjaaNServeA
namespace Go.Proofs.Ytgabecolmldbjaa
open Go.RowKit

theorem Try.infoService : (Try.prog.info? 45).map (fun i => (i.zero, i.size, i.bytes)) = some (some (.agg #[.int .i64 0, .int .i64 0, .int .i64 0, .bool false]), 4, 32) := by kernel_rfl

theorem serve_err (ev tr pu : Int) (ao bo : Option Addr) (c c' m : Nat) (l : List (Int × Int)) (w : World) (hl : LiesAt w ao 2 l.length (noticeCell l)) (x : Int) (hx : checkF ev tr pu l m = x) (hne : ¬ x = 0) :
    Calls Try.prog 38 #[.agg #[.int .i64 ev, .int .i64 tr, .int .i64 pu], .slice ao l.length c, .slice bo m c'] w fun e w' =>
      e = .returned (.tuple #[.slice none 0 0, .int .i64 x]) ∧ Below w.heap.size w w' := by
  have hcon := check_any ev tr pu ao bo c c' m l (w.alloc (.cells #[.int .i64 ev, .int .i64 tr, .int .i64 pu] 62)) (hl.below ((Below.refl w.heap.size w).alloc (Nat.le_refl _) _) (Nat.le_refl _))
  rw [hx] at hcon
  have HC := Lib.hid hcon
  clear hcon hl hx
  go_enter Try.func38, Try.ntmps38
  go_wp2_with (go_at_call 45; refine HC.out.mono ?_; rintro e w1 ⟨rfl, hb1⟩)
  go_ret2
  exact ⟨rfl, below_box (by simpa using hb1)⟩

set_option maxHeartbeats 2000000 in
theorem serve_ok (ev tr pu : Int) (ao bo : Option Addr) (c c' : Nat) (l : List (Int × Int)) (lost : List LossD) (w : World) (hl : LiesAt w ao 2 l.length (noticeCell l)) (hlost : LiesAt w bo 3 lost.length (lossCell lost))
    (hfit : ∀ x ∈ lost, LossFits x) (hx : checkF ev tr pu l lost.length = 0) :
    Calls Try.prog 38 #[.agg #[.int .i64 ev, .int .i64 tr, .int .i64 pu], .slice ao l.length c, .slice bo lost.length c'] w fun e w' =>
      ∃ ro rc, e = .returned (.tuple #[.slice ro l.length rc, .int .i64 0]) ∧ LiesAt w' ro 4 l.length (serviceCell (servesFrom ev tr pu lost 0 l)) ∧ Below w.heap.size w w' := by
  have hcon := check_any ev tr pu ao bo c c' lost.length l (w.alloc (.cells #[.int .i64 ev, .int .i64 tr, .int .i64 pu] 62)) (hl.below ((Below.refl w.heap.size w).alloc (Nat.le_refl _) _) (Nat.le_refl _))
  rw [hx] at hcon
  obtain ⟨hp, hll, hlm, hnz⟩ := checkF_zero hx
  have hpb := post_bd hp
  have hnn := noticesF_zero hnz
  have HC := Lib.hid hcon
  have HN := Lib.hid hnn
  have HP := Lib.hid hpb
  have HF := Lib.hid hfit
  have HLL := Lib.hid hl
  have HLO := Lib.hid hlost
  clear hcon hl hx hnn hpb hfit hlost hp hnz
  have hmm := @run_makeMap Try.prog
  obtain ⟨i0, hi, hz0, hz1, hz2⟩ := info_parts Try.infoService
  go_enter Try.func38, Try.ntmps38
  go_wp2_with (go_at_call 45; refine HC.out.mono ?_; rintro e w1 ⟨rfl, hb1⟩)
  have hb1' : Below (w.heap.size + 1) (w.alloc (.cells #[.int .i64 ev, .int .i64 tr, .int .i64 pu] 62)) w1 := by simpa using hb1
  clear hb1
  have hs1 := (box_cells hb1').2.2.2
  go_loopw [25] (fun i wr => ∃ k : Nat, k ≤ lost.length ∧ i = .int .i64 k ∧ LossMap wr w1.heap.size (lost.take k) ∧ Below (w.heap.size + 1) (w.alloc (.cells #[.int .i64 ev, .int .i64 tr, .int .i64 pu] 62)) wr) (fun i _ => lost.length - (intOf i).toNat)
  case atStart => exact ⟨0, Nat.zero_le _, rfl, LossMap.made w1, hb1'.alloc (by omega) _⟩
  case round =>
    obtain ⟨k, hk, rfl, hm, hb⟩ := hrel
    have hsr := (box_cells hb).2.2.2
    by_cases hlt : k < lost.length
    · rcases HLO.out.below (below_box hb) (Nat.le_refl _) with h0 | ⟨b, off, rfl, hbw, hc⟩
      · omega
      have hc0 := hc k hlt 0 (by omega)
      have hc1 := hc k hlt 1 (by omega)
      have hc2 := hc k hlt 2 (by omega)
      simp only [lossCell, if_true, Nat.add_zero, Nat.one_ne_zero, if_false, Nat.reduceEqDiff] at hc0 hc1 hc2
      clear hc
      obtain ⟨x, hx⟩ : ∃ x, x = lost.getD k (0, 0, false) := ⟨_, rfl⟩
      rw [← hx] at hc0 hc1 hc2
      have hmem : x ∈ lost := by rw [hx]; simp [List.getD, hlt]
      have htk : lost.take (k + 1) = lost.take k ++ [x] := by rw [List.take_succ_eq_append_getElem hlt, hx]; simp [List.getD, hlt]
      have HX := Lib.hid (HF.out x hmem)
      have HT := Lib.hid htk
      clear hx hmem htk
      have HM := Lib.hid (hm.below ((Below.refl wr.heap.size wr).alloc (Nat.le_refl _) (.cells #[.int .i64 x.1, .int .i64 x.2.1, .bool x.2.2] 69)) hm.lt)
      have hml := hm.lt
      clear hm
      go_wp2_with (at_mapUpdate; refine wpList_store_loss _ rfl (.tmp 29) (.tmp 30) _ rfl w1.heap.size (lost.take k) rfl HM.out x rfl rfl HX.out ?_; intro w2 hm2 hg2)
      have hb2 := (hb.alloc hsr (.cells #[.int .i64 x.1, .int .i64 x.2.1, .bool x.2.2] 69)).grown hg2 (by simp; omega) (fun j hj => by cases hj; exact hs1)
      clear hg2 hb
      go_wp2_with fail
      go_roundw
      case rel => exact ⟨k + 1, hlt, by go_num, by rw [HT.out]; exact hm2, hb2⟩
      case measure => simp [intOf]; omega
    · have hk' : k = lost.length := by omega
      rw [hk', List.take_length] at hm
      have HM := Lib.hid hm
      have HB := Lib.hid hb
      have hml := hm.lt
      clear hm
      go_wp2_with fail
      obtain ⟨wo, rfl⟩ : ∃ wo : World, wo = wr := ⟨_, rfl⟩
      go_loopw [12, 34] (fun v i wr => ∃ k : Nat, k ≤ l.length ∧ i = .int .i64 k ∧ wr.ownsRow (w1.heap.size + 1) 45 4 v k (((servesFrom ev tr pu lost 0 l).take k).flatMap serviceCells) ∧
        LossMap wr w1.heap.size lost ∧ Below (w.heap.size + 1) (w.alloc (.cells #[.int .i64 ev, .int .i64 tr, .int .i64 pu] 62)) wr) (fun _ i _ => l.length - (intOf i).toNat)
      case atStart => exact ⟨0, Nat.zero_le _, rfl, World.ownsRow_nil _ _ _ _, HM.out, HB.out⟩
      case round =>
        clear HM HB hb hk' hk hsr hml
        obtain ⟨k, hk, rfl, hown, hm, hb⟩ := hrel
        obtain ⟨c0, c1, c2, hsr⟩ := box_cells hb
        have hsr' : w.heap.size < wr.heap.size := by omega
        by_cases hlt : k < l.length
        · rcases HLL.out.below (below_box hb) (Nat.le_refl _) with h0 | ⟨b, off, rfl, hbw, hc⟩
          · omega
          have hc0 := hc k hlt 0 (by omega)
          have hc1 := hc k hlt 1 (by omega)
          simp only [noticeCell, if_true, Nat.add_zero, Nat.one_ne_zero, if_false] at hc0 hc1
          clear hc
          have htk := servesFrom_take ev tr pu lost l k hlt
          obtain ⟨_, hn1, hn2⟩ := HN.out k hlt
          obtain ⟨x, hx⟩ : ∃ x, x = l.getD k (0, 0) := ⟨_, rfl⟩
          rw [← hx] at hc0 hc1 htk hn1 hn2
          obtain ⟨p1, p2, p3, p4, p5, p6⟩ := HP.out
          obtain ⟨⟨s0, s1, s2, s3⟩, hs⟩ : ∃ s, s = serveF ev tr pu x k lost := ⟨_, rfl⟩
          have hcs : ∀ W, LossMap W w1.heap.size lost → Calls Try.prog 46 #[.agg #[.int .i64 ev, .int .i64 tr, .int .i64 pu], .agg #[.int .i64 x.1, .int .i64 x.2], .int .i64 k, .map (some w1.heap.size)] W fun e w' =>
              e = .returned (.agg #[.int .i64 s0, .int .i64 s1, .int .i64 s2, .bool s3]) ∧ Below W.heap.size W w' := fun W hW => by
            have := serve1_any ev tr pu x.1 x.2 k w1.heap.size lost W hW p1 p2 p3 p4 hn1 hn2 (by omega) (by omega)
            rw [← hs] at this
            exact this
          rw [← hs] at htk
          have HS := Lib.hid hcs
          have HT := Lib.hid htk
          have HM := Lib.hid hm
          have HO := Lib.hid hown
          have HML : Hid (LossMap (wr.alloc (.cells #[.int .i64 x.1, .int .i64 x.2] 64)) w1.heap.size lost) := hm.below ((Below.refl wr.heap.size wr).alloc (Nat.le_refl _) _) hm.lt
          have HB := Lib.hid hb
          clear hx hs hcs htk hm hown hb hn1 hn2 p1 p2 p3 p4 p5 p6
          go_wp2_with (first
            | (go_at_call 46; refine (HS.out _ ?_).mono ?_; exact HML.out; rintro e w3 ⟨rfl, hb3⟩; have hb3' : Below (wr.heap.size + 1) (wr.alloc (.cells #[.int .i64 x.1, .int .i64 x.2] 64)) w3 := (by simpa using hb3); have HO3 := Lib.hid (owns_below (HO.out.alloc _) hb3); clear hb3)
            | (at_builtin; refine wpList_append_own _ rfl (.tmp 39) (.tmp 45) 41 rfl (w1.heap.size + 1) 45 i0 (.agg #[.int .i64 0, .int .i64 0, .int .i64 0, .bool false]) 4 32 Try.underlying41 hi hz0 hz1 hz2 rfl (by decide) _ k _ rfl (HO3.out.alloc _) ⟨w3.heap.size, 0, none⟩ 1 1 [.int .i64 s0, .int .i64 s1, .int .i64 s2, .bool s3] rfl rfl ?c1 ?c2 ?c3 ?c4 ?c5 ?_))
          case c1 =>
            intro j u hj
            match j, hj with
            | 0, hj => simp at hj; subst hj; simp [addr_add]
            | 1, hj => simp at hj; subst hj; simp [addr_add]
            | 2, hj => simp at hj; subst hj; simp [addr_add]
            | 3, hj => simp at hj; subst hj; simp [addr_add]
          case c2 => intro u hu; simp at hu; rcases hu with rfl | rfl | rfl | rfl <;> rfl
          case c3 => unfold maxLen; omega
          case c4 => omega
          case c5 => have := hb3'.size; have hml := HM.out.lt; simp at this ⊢; omega
          intro v' w4 hown4 hg4 _
          obtain ⟨hm4, hb4⟩ := serve_step HB.out hsr hs1 HM.out HO.out hb3' hg4
          clear hg4
          go_wp2_with fail
          go_roundw
          case rel => exact ⟨k + 1, hlt, by go_num, by rw [HT.out, List.flatMap_append]; exact hown4, hm4, hb4⟩
          case measure => simp [intOf]; omega
        · have hk2 : k = l.length := by omega
          have hlen := servesFrom_length ev tr pu lost l 0
          rw [hk2, List.take_of_length_le (by omega)] at hown
          obtain ⟨ro, rc, hv, hlies⟩ := liesAt_of_owns (f := serviceCell (servesFrom ev tr pu lost 0 l)) hown (fun i hi j hj => serviceCells_flat _ i j (by omega) hj)
          subst hv
          have HLS := Lib.hid hlies
          have HB := Lib.hid hb
          clear hown hlies hm hlen
          go_wp2_with fail
          go_ret2
          exact ⟨ro, rc, rfl, HLS.out, below_box HB.out⟩
end Go.Proofs.Ytgabecolmldbjaa
