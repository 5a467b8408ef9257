/-
  The reference's Serve returns the services of all notices, or the error of CheckPost.
-/
import Derived.Test.YtlblacgmecgbkaaServeA
import Derived.Test.YtlblacgmecgbkaaServe
import Derived.Deep.AppendLies
import Derived.Deep.RegionHeld3
namespace Go.Proofs.Ytlblacgmecgbkaa
open Go.RowKit

theorem serveR_err (ev tr pu : Int) (ao bo : Option Addr) (c c' m : Nat) (l : List (Int × Int)) (w : World) (hl : LiesAt w ao 2 l.length (noticeCell l)) (x : Int) (hx : checkF ev tr pu l m = x) (hne : ¬ x = 0) :
    Calls Try.prog 16 #[.agg #[.int .i64 ev, .int .i64 tr, .int .i64 pu], .slice ao l.length c, .slice bo m c'] w fun e w' =>
      e = .returned (.tuple #[.slice none 0 0, .int .i64 x]) ∧ Below w.heap.size w w' := by
  have hcon := checkR_any ev tr pu ao bo c c' m l (w.alloc (.cells #[.int .i64 ev, .int .i64 tr, .int .i64 pu] 23)) (hl.below ((Below.refl w.heap.size w).alloc (Nat.le_refl _) _) (Nat.le_refl _))
  rw [hx] at hcon
  have HC := Lib.hid hcon
  clear hcon hl hx
  go_enter Try.func16, Try.ntmps16
  go_wp2_with (go_at_call 12; refine HC.out.mono ?_; rintro e w1 ⟨rfl, hb1⟩)
  go_ret2
  exact ⟨rfl, below_box (by simpa using hb1)⟩

set_option maxHeartbeats 2000000 in
theorem serveR_ok (ev tr pu : Int) (ao bo : Option Addr) (c c' : Nat) (l : List (Int × Int)) (lost : List LossD) (w : World) (hl : LiesAt w ao 2 l.length (noticeCell l)) (hlost : LiesAt w bo 3 lost.length (lossCell lost))
    (hx : checkF ev tr pu l lost.length = 0) :
    Calls Try.prog 16 #[.agg #[.int .i64 ev, .int .i64 tr, .int .i64 pu], .slice ao l.length c, .slice bo lost.length c'] w fun e w' =>
      ∃ ro rc, e = .returned (.tuple #[.slice ro l.length rc, .int .i64 0]) ∧ LiesAt w' ro 4 l.length (serviceCell (servesFrom ev tr pu lost 0 l)) ∧ Below w.heap.size w w' := by
  have hcon := checkR_any ev tr pu ao bo c c' lost.length l (w.alloc (.cells #[.int .i64 ev, .int .i64 tr, .int .i64 pu] 23)) (hl.below ((Below.refl w.heap.size w).alloc (Nat.le_refl _) _) (Nat.le_refl _))
  rw [hx] at hcon
  obtain ⟨hp, hll, hlm, hnz⟩ := checkF_zero hx
  have hpb := post_bd hp
  have hnn := noticesF_zero hnz
  have HC := Lib.hid hcon
  have HN := Lib.hid hnn
  have HP := Lib.hid hpb
  have HLL := Lib.hid hl
  have HLO := Lib.hid hlost
  clear hcon hl hx hnn hpb hlost hp hnz
  obtain ⟨i0, hi, hz0, hz1, hz2⟩ := info_parts Try.infoService
  go_enter Try.func16, Try.ntmps16
  go_wp2_with (go_at_call 12; refine HC.out.mono ?_; rintro e w1 ⟨rfl, hb1⟩)
  have hb1' : Below (w.heap.size + 1) (w.alloc (.cells #[.int .i64 ev, .int .i64 tr, .int .i64 pu] 23)) w1 := by simpa using hb1
  clear hb1
  have hs1 := (box_cells hb1').2.2.2
  go_loopw [9, 10] (fun v i wr => ∃ k : Nat, k ≤ l.length ∧ i = .int .i64 k ∧ wr.ownsRow (w.heap.size + 1) 50 4 v k (((servesFrom ev tr pu lost 0 l).take k).flatMap serviceCells) ∧
    Below (w.heap.size + 1) (w.alloc (.cells #[.int .i64 ev, .int .i64 tr, .int .i64 pu] 23)) wr) (fun _ i _ => l.length - (intOf i).toNat)
  case atStart => exact ⟨0, Nat.zero_le _, rfl, World.ownsRow_nil _ _ _ _, hb1'⟩
  case round =>
    obtain ⟨k, hk, rfl, hown, hb⟩ := hrel
    obtain ⟨c0, c1, c2, hsr⟩ := box_cells hb
    have hsr' : w.heap.size < wr.heap.size := by omega
    by_cases hlt : k < l.length
    · rcases HLL.out with h0 | ⟨b, off, rfl, hbw, hc0⟩
      · omega
      have hbw' : b < wr.heap.size := by omega
      have hc : ∀ i, i < l.length → ∀ j, j < 2 → wr.cell? ⟨b, off + i * 2 + j, none⟩ = some (noticeCell l i j) := fun i hi j hj => by
        rw [(below_box hb).cell (p := ⟨b, off + i * 2 + j, none⟩) hbw]; exact hc0 i hi j hj
      clear hc0
      have hc0 := hc k hlt 0 (by omega)
      have hc1 := hc k hlt 1 (by omega)
      simp only [noticeCell, if_true, Nat.add_zero, Nat.one_ne_zero, if_false] at hc0 hc1
      clear hc
      have htk := servesFrom_take ev tr pu lost l k hlt
      obtain ⟨_, hn1, hn2⟩ := HN.out k hlt
      obtain ⟨x, hx⟩ : ∃ x, x = l.getD k (0, 0) := ⟨_, rfl⟩
      rw [← hx] at hc0 hc1 htk hn1 hn2
      obtain ⟨p1, p2, p3, p4, p5, p6⟩ := HP.out
      obtain ⟨⟨s0, s1, s2, s3⟩, hs⟩ : ∃ s, s = serveF ev tr pu x k lost := ⟨_, rfl⟩
      have hlo := HLO.out.below (below_box hb) (Nat.le_refl _)
      have hcs : Calls Try.prog 22 #[.agg #[.int .i64 ev, .int .i64 tr, .int .i64 pu], .agg #[.int .i64 x.1, .int .i64 x.2], .int .i64 k, .slice bo lost.length c'] wr.drew fun e w' =>
          e = .returned (.agg #[.int .i64 s0, .int .i64 s1, .int .i64 s2, .bool s3]) ∧ Below wr.heap.size wr.drew w' := by
        have := serveR1_any ev tr pu x.1 x.2 k bo c' lost wr.drew (hlo.below (Below.drew (Below.refl wr.heap.size wr)) (Nat.le_refl _)) (by omega) p1 p2 p3 p4 hn1 hn2
        rw [← hs] at this
        exact this
      rw [← hs] at htk
      have HS := Lib.hid hcs
      have HT := Lib.hid htk
      have HO := Lib.hid hown
      have HB := Lib.hid hb
      have hk0 : (0 : Int) ≤ (k : Int) := Int.natCast_nonneg _
      have hk1 : (k : Int) < (l.length : Int) := by omega
      clear hx hs hcs htk hown hb hn1 hn2 p1 p2 p3 p4 p5 p6 hlo
      go_wp2_with fail
      go_region_held3 (fun w' => w'.cell? ⟨w.heap.size, 0, none⟩ = some (.int .i64 ev) ∧ w'.cell? ⟨w.heap.size, 1, none⟩ = some (.int .i64 tr) ∧ w'.cell? ⟨w.heap.size, 2, none⟩ = some (.int .i64 pu) ∧
          w'.cell? ⟨b, off + k * 2, none⟩ = some (.int .i64 x.1) ∧ w'.cell? ⟨b, off + k * 2 + 1, none⟩ = some (.int .i64 x.2))
        (first
          | exact ⟨c0, c1, c2, hc0, hc1⟩
          | go_keep)
        (first
          | (go_at_call 22
             refine HS.out.mono ?_
             rintro e w3 ⟨rfl, hb3⟩
             have HO3 := Lib.hid (owns_below HO.out.drew hb3)
             have hs3 : wr.heap.size ≤ w3.heap.size := hb3.size
             have d0 : w3.cell? ⟨w.heap.size, 0, none⟩ = some (.int .i64 ev) := (hb3.cell hsr').trans c0
             have d1 : w3.cell? ⟨w.heap.size, 1, none⟩ = some (.int .i64 tr) := (hb3.cell hsr').trans c1
             have d2 : w3.cell? ⟨w.heap.size, 2, none⟩ = some (.int .i64 pu) := (hb3.cell hsr').trans c2
             have d3 : w3.cell? ⟨b, off + k * 2, none⟩ = some (.int .i64 x.1) := (hb3.cell hbw').trans hc0
             have d4 : w3.cell? ⟨b, off + k * 2 + 1, none⟩ = some (.int .i64 x.2) := (hb3.cell hbw').trans hc1)
          | (refine step_append_lies _ (by rfl) _ _ _ (by rfl) (w.heap.size + 1) 50 i0 (.agg #[.int .i64 0, .int .i64 0, .int .i64 0, .bool false]) 4 32 Try.underlying38 hi hz0 hz1 hz2 rfl (by omega) _ k _ (by rfl) (HO3.out.alloc _)
               ⟨w3.heap.size, 0, none⟩ 1 1 [.int .i64 s0, .int .i64 s1, .int .i64 s2, .bool s3] (by rfl) (by rfl) (World.news_of_block (cs := #[.int .i64 s0, .int .i64 s1, .int .i64 s2, .bool s3]) (t := 50) (fr := (0, 0)) (heap_alloc_new w3 _)) (by simp [Value.oneCell'])
               (by omega) (by unfold maxLen; omega) (by omega) (by simp; omega) (w3.heap.size + 1) (by simp) ?_
             intro gg cap w4 hown4 hg4 hat hlt4
             have hb4 := serveR_step HB.out hsr HO.out hb3 hg4
             have f0 := below_two HB.out hb4 (p := ⟨w.heap.size, 0, none⟩) (by simp) c0
             have f1 := below_two HB.out hb4 (p := ⟨w.heap.size, 1, none⟩) (by simp) c1
             have f2 := below_two HB.out hb4 (p := ⟨w.heap.size, 2, none⟩) (by simp) c2
             have f3 := below_two HB.out hb4 (p := ⟨b, off + k * 2, none⟩) (by simp; omega) hc0
             have f4 := below_two HB.out hb4 (p := ⟨b, off + k * 2 + 1, none⟩) (by simp; omega) hc1))
      go_wp2_with fail
      go_roundw
      case rel => exact ⟨k + 1, hlt, by go_num, by rw [HT.out, List.flatMap_append]; exact hown4, hb4⟩
      case measure => simp [intOf]; omega
    · have hk2 : k = l.length := by omega
      have hlen := servesFrom_length ev tr pu lost l 0
      rw [hk2, List.take_of_length_le (by omega)] at hown
      obtain ⟨ro, rc, hv, hlies⟩ := liesAt_of_owns (f := serviceCell (servesFrom ev tr pu lost 0 l)) hown (fun i hi j hj => serviceCells_flat _ i j (by omega) hj)
      subst hv
      have HLS := Lib.hid hlies
      have HB := Lib.hid hb
      clear hown hlies hlen
      go_wp2_with fail
      go_ret2
      exact ⟨ro, rc, rfl, HLS.out, below_box HB.out⟩
end Go.Proofs.Ytlblacgmecgbkaa
