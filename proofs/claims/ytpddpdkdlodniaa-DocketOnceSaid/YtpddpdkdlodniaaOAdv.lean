/-
  Contract: Advance, without its checks.
-/
import Derived.Test.YtpddpdkdlodniaaOAdv0
import Derived.Deep.RegionLaw
import Derived.Deep.AppendLies
import Derived.Laws.AppendOwnNone
namespace Go.Proofs.Ytpddpdkdlodniaa
open Go.RowKit

theorem rules_len (day : Int) (l : List Mt) : (rulesF day l).length ≤ l.length := by
  unfold rulesF
  rw [List.length_map]
  exact List.length_filter_le _ _
theorem cell_kept {w3 w5 : World} {o : Obj} {v : Value} {b : Nat} (hg : (w3.alloc o).drew.grownBy w5 v.ownBlock) (hne : some b ≠ v.ownBlock) (hb : b < w3.heap.size) :
    (∀ x, w5.cell? ⟨b, x, none⟩ = w3.cell? ⟨b, x, none⟩) ∧ (∀ x, w5.frozen? ⟨b, x, none⟩ = w3.frozen? ⟨b, x, none⟩) := by
  have h1 : w5.heap[b]? = w3.heap[b]? := (hg.block b (by show b < (w3.alloc o).heap.size; simp; omega) hne).trans (Below.heap_alloc w3 o b hb)
  exact ⟨fun x => World.cell?_of_block h1, fun x => World.frozen?_of_block h1⟩
theorem Try.infoRuling : (Try.prog.info? 52).map (fun i => (i.zero, i.size, i.bytes)) = some (some (.agg #[.int .i64 0, .int .i64 0, .int .i64 0]), 3, 24) := by kernel_rfl

set_option maxRecDepth 100000 in
set_option maxHeartbeats 8000000 in
theorem advance_any (day ans app day' : Int) (ho mo : Option Addr) (hc mc : Nat) (H : List Int) (l : List Mt) (w : World) (hM : Mts w mo l) (hI : Ints w ho H) (hl : l.length ≤ 1000) (hH : H.length ≤ 1000000)
    (hA : Apart l) (hdu : ∀ m ∈ l, runsF m = true → 0 ≤ m.due ∧ m.due ≤ 1048576) :
    Calls Try.prog 32 #[.agg #[.int .i64 day, .int .i64 ans, .int .i64 app, .slice ho H.length hc, .slice mo l.length mc], .int .i64 day'] w fun e w' => ∃ ro rc mo' mc' v, e = .returned (.tuple #[.agg #[.int .i64 day', .int .i64 ans, .int .i64 app, .slice ro H.length rc, .slice mo' l.length mc'], v]) ∧
      w'.ownsRow w.heap.size 3 1 (.slice ro H.length rc) H.length (H.map (Value.int .i64)) ∧ w'.ownsRow w.heap.size 50 5 (.slice mo' l.length mc') l.length ((l.map (lapseF day')).flatMap mtCells) ∧
      w'.ownsRow w.heap.size 52 3 v (rulesF day' l).length ((sortR (rulesF day' l)).flatMap rlCells) ∧ Below w.heap.size w w' := by
  have HA := Lib.hid hA
  have HDU := Lib.hid hdu
  clear hA hdu
  obtain ⟨i0, hi, hz0, hz1, hz2⟩ := info_split Try.infoRuling
  obtain ⟨W, hW⟩ : ∃ W, (w.alloc (dkObj day ans app ho H.length hc mo l.length mc)).alloc dkZero = W := ⟨_, rfl⟩
  have hbW : Below w.heap.size w W := by rw [← hW]; go_grown
  have k1 : W.heap[w.heap.size]? = some (dkObj day ans app ho H.length hc mo l.length mc) := by rw [← hW]; exact alloc_heap (heap_alloc_new w _)
  have k2 : W.heap[w.heap.size + 1]? = some dkZero := by
    have := heap_alloc_new (w.alloc (dkObj day ans app ho H.length hc mo l.length mc)) dkZero
    rw [World.size_alloc] at this
    rw [← hW]
    exact this
  have hsW : W.heap.size = w.heap.size + 2 := by rw [← hW]; simp
  have HIW := Lib.hid (hI.next hbW)
  have HMW := Lib.hid (hM.next hbW)
  have HBW := Lib.hid hbW
  have HS := Lib.hid hsW
  have K1 := Lib.hid k1
  have K2 := Lib.hid k2
  have HWW := Lib.hid hW
  have HD1 : Hid (Below W.heap.size W W.drew) := Lib.hid (Below.refl _ _).drew
  have HD2 : Hid (Below W.heap.size W (W.alloc dkZero).drew) := Lib.hid ((Below.refl _ _).alloc (Nat.le_refl _) _).drew
  clear hI hM hbW hsW k1 k2 hW
  go_enter Try.func32, Try.ntmps32
  go_upto_region 1 with fail
  rw [HWW.out]
  obtain ⟨x0, x1, x2, x3, x4⟩ := five_cells K1.out
  go_cut [6] (fun s6 wx => AdvHead day' ans app H l w s6 wx)
  case first =>
    go_region_held3 (fun w' => w'.cell? ⟨w.heap.size, 1, none⟩ = some (.int .i64 ans) ∧ w'.cell? ⟨w.heap.size, 2, none⟩ = some (.int .i64 app) ∧ w'.cell? ⟨w.heap.size, 3, none⟩ = some (.slice ho H.length hc) ∧ w'.cell? ⟨w.heap.size, 4, none⟩ = some (.slice mo l.length mc))
      (go_keep)
      (first
        | (go_at_call 35
           (with_reducible refine (copyTerms_any ans app ho hc H W.drew (HIW.out.next HD1.out) hH).mono ?_)
           rintro e w3 ⟨ro, rc, rfl, hR, hb3⟩
           have hb3' : Below W.heap.size W w3 := HD1.out.trans hb3
           have c1 := keep_heap hb3' K1.out
           obtain ⟨y0, y1, y2, y3, y4⟩ := five_cells c1
           have HE : Hid True := Lib.hid trivial
           have HR3 := Lib.hid hR
           have HB3 := Lib.hid hb3'
           clear c1 hR hb3 hb3')
        | (go_at_call 35
           (with_reducible refine (copyTerms_any ans app ho hc H (W.alloc dkZero).drew (HIW.out.next HD2.out) hH).mono ?_)
           rintro e w3 ⟨ro, rc, rfl, hR, hb3⟩
           have hb3' : Below W.heap.size W w3 := HD2.out.trans (hb3.mono HD2.out.size)
           have c1 := keep_heap hb3' K1.out
           obtain ⟨y0, y1, y2, y3, y4⟩ := five_cells c1
           have HE : Hid (w3.heap[W.heap.size]? = some dkZero) := Lib.hid (keep_heap hb3 (drew_heap (heap_alloc_new W dkZero)))
           have HR3 := Lib.hid hR
           have HB3 := Lib.hid hb3'
           clear c1 hR hb3 hb3')
        | (go_at_call 50
           (with_reducible refine (cloneM_slice mo mc l w3 (HMW.out.next HB3.out) hl).mono ?_)
           rintro e w4 ⟨mo2, mc2, rfl, hO, hb4⟩
           have hb4' : Below W.heap.size W w4 := HB3.out.trans (hb4.mono HB3.out.size)
           have c1 := keep_heap hb4' K1.out
           obtain ⟨z0, z1, z2, z3, z4⟩ := five_cells c1
           have HR4 := Lib.hid (owns_next HR3.out hb4)
           have HO4 := Lib.hid hO
           have HB4 := Lib.hid hb4'
           first
             | (have c2 := keep_heap hb4 HE.out
                obtain ⟨f0, f1, f2, f3, f4⟩ := five_free c2
                obtain ⟨d0, d1, d2, d3, d4⟩ := five_cells c2
                have HZ := Lib.hid c2
                have n1 : ¬ w.heap.size = W.heap.size := by have := HS.out; omega
                have n2 : ¬ W.heap.size = w.heap.size := fun e => n1 e.symm
                clear c2)
             | (have HZ : Hid True := Lib.hid trivial)
           clear c1 hO hb4 hb4')
        | (go_at_call 50
           (with_reducible refine (cloneM_slice mo mc l (w3.alloc dkZero) (HMW.out.next (HB3.out.alloc HB3.out.size dkZero)) hl).mono ?_)
           rintro e w4 ⟨mo2, mc2, rfl, hO, hb4⟩
           have hb3a : Below W.heap.size W (w3.alloc dkZero) := HB3.out.alloc HB3.out.size dkZero
           have hb4' : Below W.heap.size W w4 := hb3a.trans (hb4.mono hb3a.size)
           have c1 := keep_heap hb4' K1.out
           obtain ⟨z0, z1, z2, z3, z4⟩ := five_cells c1
           have HR4 := Lib.hid (owns_next (HR3.out.alloc dkZero) hb4)
           have HO4 := Lib.hid hO
           have HB4 := Lib.hid hb4'
           have c2 := keep_heap hb4 (heap_alloc_new w3 dkZero)
           obtain ⟨f0, f1, f2, f3, f4⟩ := five_free c2
           obtain ⟨d0, d1, d2, d3, d4⟩ := five_cells c2
           have HZ := Lib.hid c2
           have n1 : ¬ w.heap.size = w3.heap.size := by have := HB3.out.size; have := HS.out; omega
           have n2 : ¬ w3.heap.size = w.heap.size := fun e => n1 e.symm
           clear c1 c2 hO hb4 hb4'))
    all_goals
      go_wp2_with fail
      go_meet
      have h0 := keep_heap HB4.out K2.out
      have hsz := HS.out
      have hs3 := HB3.out.size
      have hs4 := HB4.out.size
      have hbb := HBW.out.trans (HB4.out.mono HBW.out.size)
      first
        | (with_reducible refine head_late ?_ h0 ?_ HO4.out ?_ hbb)
        | (with_reducible refine head_early ?_ HZ.out h0 ?_ HO4.out ?_ hbb)
      all_goals first
        | omega
        | (rw [World.size_alloc]; omega)
        | exact HR4.out.mono (by show w.heap.size ≤ W.heap.size; omega)
        | exact HR4.out.mono (by show w.heap.size ≤ (W.alloc dkZero).heap.size; rw [World.size_alloc]; omega)
  case rest =>
    clear x0 x1 x2 x3 x4 HIW HMW HWW HD1 HD2 K1 K2 HS HBW
    obtain ⟨C, ro, rc, mo', mc', rfl, hC, h1, h2, h3, h4, h5⟩ := hcut
    have HAT : Hid (AdvAt w C ro rc mo' mc' day' ans app H l 0 (.slice none 0 0) wc) := Lib.hid ⟨h1, h2, h3, by rw [mix_zero]; exact h4, World.ownsRow_nil _ _ _ _, h5⟩
    obtain ⟨x0, x1, x2, x3, x4⟩ := five_cells h1
    have hsz := h5.size
    clear h1 h2 h3 h4 h5
    go_wp2_with fail
    go_loopw [7, 21] (fun v i wr => ∃ k : Nat, k ≤ l.length ∧ i = .int .i64 k ∧ AdvAt w C ro rc mo' mc' day' ans app H l k v wr) (fun _ i _ => l.length - (intOf i).toNat)
    case atStart => exact ⟨0, Nat.zero_le _, rfl, HAT.out⟩
    case round =>
      clear x0 x1 x2 x3 x4 hsz HAT
      obtain ⟨k, hk, rfl, hat⟩ := hrel
      obtain ⟨x0, x1, x2, x3, x4⟩ := five_cells hat.1
      have hsr := hat.2.2.2.2.2.size
      by_cases hlt : k < l.length
      · obtain ⟨g, rfl⟩ : ∃ g, mo' = some ⟨g, 0, none⟩ := by
          rcases hat.2.2.2.1.2 with ⟨e1, e2⟩ | ⟨g, cap, cur, e1, _⟩
          · omega
          · cases e1; exact ⟨g, rfl⟩
        have hms := owns_mts hat.2.2.2.1
        rcases hms with h0 | ⟨b, off, hbo, hbw, hc0⟩
        · have := mix_len day' l k; rw [h0] at this; simp at this; omega
        obtain ⟨rfl, rfl⟩ : b = g ∧ off = 0 := by simp at hbo; exact ⟨hbo.1.symm, hbo.2.symm⟩
        have hc1 := hc0 k (by rw [mix_len]; exact hlt)
        rw [mix_get day' l k hlt, Nat.zero_add] at hc1
        have HAT := Lib.hid hat
        have hmem : l.getD k default ∈ l := by simp [List.getD, hlt]
        have HDM := Lib.hid (HDU.out _ hmem)
        have HSK := Lib.hid (fun (h : lapsesF day' (l.getD k default) = false) => hat.skip hlt h)
        have HMO := Lib.hid (fun (h : lapsesF day' (l.getD k default) = true) => h)
        have hmcap : (l.length : Int) ≤ (mc' : Int) := by
          rcases hat.2.2.2.1.2 with ⟨e1, e2⟩ | ⟨g, cap, cur, e1, _, _, hn, _⟩
          · omega
          · cases e1; omega
        have hfz := fun j => hat.2.2.2.1.frozenAt j
        have HFZ := Lib.hid hfz
        obtain ⟨m, hm⟩ : ∃ m, l.getD k default = m := ⟨_, rfl⟩
        have HM := Lib.hid hm
        rw [hm] at hc1 HSK HMO HDM
        obtain ⟨m0, m1, m2, m3, m4⟩ := hc1
        have hk0 : (0 : Int) ≤ (k : Int) := Int.natCast_nonneg _
        have hk1 : (k : Int) < (l.length : Int) := by omega
        have HRN := Lib.hid fun W => running_any m W
        clear hbo hc0 hm hat hmem hfz
        cases hr : runsF m
        · rw [hr] at HRN
          have HLS : Hid (lapsesF day' m = false) := Lib.hid (by simp [lapsesF, hr])
          clear hr
          go_wp2_with (go_at_call 42
                       go_must (refine (HRN.out _).mono ?_)
                       rintro e w3 ⟨rfl, rfl⟩)
          go_roundw
          case rel => exact ⟨k + 1, hlt, by go_num, (HSK.out HLS.out).next ((Below.refl _ _).alloc (Nat.le_refl _) _)⟩
          case measure => simp [intOf]; omega
        rw [hr] at HRN
        by_cases hdd : m.due < day'
        · have hnl : decide (day' ≤ m.due) = false := by simp; omega
          have HLS : Hid (lapsesF day' m = true) := Lib.hid (by simp [lapsesF, hr, hdd])
          obtain ⟨due0, due1⟩ := HDM.out hr
          have hwr : IntKind.i64.wrap (m.due + 1) = m.due + 1 := IntWalk.i64_in _ ⟨by omega, by omega⟩
          have HW := Lib.hid hwr
          clear hr hwr
          go_wp2_with (go_at_call 42
                       go_must (refine (HRN.out _).mono ?_)
                       rintro e w3 ⟨rfl, hw3⟩
                       have hb3 : Below wr.heap.size wr w3 := by rw [hw3]; exact (Below.refl _ _).alloc (Nat.le_refl _) _
                       clear hw3
                       have HA3 := Lib.hid (HAT.out.next hb3)
                       obtain ⟨x0, x1, x2, x3, x4⟩ := five_cells HA3.out.1
                       have m0 := (hb3.cell (p := ⟨b, k * 5, none⟩) hbw).trans m0
                       have m1 := (hb3.cell (p := ⟨b, k * 5 + 1, none⟩) hbw).trans m1
                       have m2 := (hb3.cell (p := ⟨b, k * 5 + 2, none⟩) hbw).trans m2
                       have m3 := (hb3.cell (p := ⟨b, k * 5 + 3, none⟩) hbw).trans m3
                       have m4 := (hb3.cell (p := ⟨b, k * 5 + 4, none⟩) hbw).trans m4
                       have hs3 := hb3.size
                       have hbw3 := Nat.lt_of_lt_of_le hbw hs3
                       clear hb3)
          have HO := Lib.hid HA3.out.2.2.2.2.1
          have hnr : (rulesF day' (l.take k)).length ≤ 1000 := by have := rules_len day' (l.take k); simp at this; omega
          obtain ⟨nr, hnr2⟩ : ∃ nr, (rulesF day' (l.take k)).length = nr := ⟨_, rfl⟩
          have HNE : Hid (some b ≠ u7.ownBlock) := Lib.hid (by
            obtain ⟨cs, hcs⟩ := row_block HA3.out.2.2.2.1 rfl
            exact row_ne HO.out hcs (by decide))
          have hsw3 := HA3.out.2.2.2.2.2.size
          rw [hnr2] at HO hnr
          have HN2 := Lib.hid hnr2
          clear hnr2
          have hwr := HW.out
          go_region_held3 (fun w' => w'.cell? ⟨b, k * 5, none⟩ = some (.int .i64 m.id) ∧ w'.cell? ⟨b, k * 5 + 2, none⟩ = some (.int .i64 m.due) ∧ w'.cell? ⟨b, k * 5 + 3, none⟩ = some (.int .i64 m.opt))
            (first | exact ⟨m0, m2, m3⟩ | go_keep)
            (first
              | (refine step_append_lies _ (by rfl) _ _ _ (by rfl) w.heap.size 52 i0 (.agg #[.int .i64 0, .int .i64 0, .int .i64 0]) 3 24 Try.underlying32 hi hz0 hz1 hz2 rfl (by omega) _ nr _ (by rfl) ((HO.out.alloc _).drew)
                   ⟨w3.heap.size, 0, none⟩ 1 1 [.int .i64 m.id, .int .i64 (m.due + 1), .int .i64 m.opt] (by rfl) (by rfl) (World.news_of_block (cs := #[.int .i64 m.id, .int .i64 (m.due + 1), .int .i64 m.opt]) (t := 52) (fr := (0, 0)) (heap_alloc_new w3 _)) (by simp [Value.oneCell'])
                   (by omega) (by unfold maxLen; omega) (by omega) (by simp; omega) (w3.heap.size + 1) (by simp) ?_
                 intro gg cap5 w5 hown5 hg5 hat5 hlt5
                 have hkp := cell_kept hg5 HNE.out hbw3
                 have f0 := (hkp.1 (k * 5)).trans m0
                 have f1 := (hkp.1 (k * 5 + 1)).trans m1
                 have f2 := (hkp.1 (k * 5 + 2)).trans m2
                 have f3 := (hkp.1 (k * 5 + 3)).trans m3
                 have f4 := (hkp.1 (k * 5 + 4)).trans m4
                 have g1 := (hkp.2 (k * 5 + 1)).trans (HA3.out.2.2.2.1.frozenAt (k * 5 + 1))
                 have g2 := (hkp.2 (k * 5 + 2)).trans (HA3.out.2.2.2.1.frozenAt (k * 5 + 2))
                 have g4 := (hkp.2 (k * 5 + 4)).trans (HA3.out.2.2.2.1.frozenAt (k * 5 + 4))
                 clear hkp))
          have HMR := AdvAt.more HA3.out hlt (by rw [HM.out]; exact HLS.out) (by rw [HM.out, HN2.out]; exact hown5) hg5
          rw [HM.out] at HMR
          have HMR2 := Lib.hid HMR
          clear HMR hown5 hg5 hat5 hlt5
          go_wp2_with fail
          go_roundw
          case rel => exact ⟨k + 1, hlt, by go_num, HMR2.out⟩
          case measure => simp [intOf]; omega
        · have hnl : decide (day' ≤ m.due) = true := by simp; omega
          have HLS : Hid (lapsesF day' m = false) := Lib.hid (by simp [lapsesF, hdd])
          clear hr
          go_wp2_with (go_at_call 42
                       go_must (refine (HRN.out _).mono ?_)
                       rintro e w3 ⟨rfl, rfl⟩)
          go_roundw
          case rel => exact ⟨k + 1, hlt, by go_num, (HSK.out HLS.out).next ((Below.refl _ _).alloc (Nat.le_refl _) _)⟩
          case measure => simp [intOf]; omega
      · obtain rfl : k = l.length := by omega
        unfold AdvAt at hat
        rw [mix_end, List.take_length] at hat
        obtain ⟨a1, a2, a3, a4, a5, a6⟩ := hat
        have hnr : (rulesF day' l).length ≤ 1000 := by have := rules_len day' l; omega
        have HS := Lib.hid (rsort_any u7 (rulesF day' l) w.heap.size wr a5 hnr (rules_apart HA.out))
        have HAA := Lib.hid (⟨a1, a2, a3, a4, a5, a6⟩ : _ ∧ _ ∧ _ ∧ _ ∧ _ ∧ _)
        clear a1 a2 a3 a4 a5 a6
        go_wp2_with fail
        refine HS.out.mono ?_
        rintro e w3 ⟨rfl, hO3, hg3⟩
        obtain ⟨a1, a2, a3, a4, a5, a6⟩ := HAA.out
        have b1 := heap_grown a1 a5 (by decide) hg3
        have b2 := heap_grown a2 a5 (by decide) hg3
        have b3 := owns_grown a3 a5 (by decide) hg3
        have b4 := owns_grown a4 a5 (by decide) hg3
        have b6 : Below w.heap.size w w3 := a6.grown hg3 a6.size (fun j hj => (a5.lt j hj).1)
        obtain ⟨x0, x1, x2, x3, x4⟩ := five_cells b1
        obtain ⟨y0, y1, y2, y3, y4⟩ := five_cells b2
        obtain ⟨f0, f1, f2, f3, f4⟩ := five_free b2
        have p5 := put5 (x' := .int .i64 day') (y' := .int .i64 ans) (z' := .int .i64 app) (u' := .slice ro H.length rc) (v' := .slice mo' l.length mc') b2
        obtain ⟨z0, z1, z2, z3, z4⟩ := five_cells p5
        have HR3 := Lib.hid (owns_put5 (x' := .int .i64 day') (y' := .int .i64 ans) (z' := .int .i64 app) (u' := .slice ro H.length rc) (t' := .slice mo' l.length mc') b3 b2 (by decide))
        have HR4 := Lib.hid (owns_put5 (x' := .int .i64 day') (y' := .int .i64 ans) (z' := .int .i64 app) (u' := .slice ro H.length rc) (t' := .slice mo' l.length mc') b4 b2 (by decide))
        have HR5 := Lib.hid (owns_put5 (x' := .int .i64 day') (y' := .int .i64 ans) (z' := .int .i64 app) (u' := .slice ro H.length rc) (t' := .slice mo' l.length mc') hO3 b2 (by decide))
        have HR6 := Lib.hid (below_put5 (x' := .int .i64 day') (y' := .int .i64 ans) (z' := .int .i64 app) (u' := .slice ro H.length rc) (t' := .slice mo' l.length mc') b6 (Nat.le_succ w.heap.size))
        have hs3 := b6.size
        have hw1 := (Array.getElem?_eq_some_iff.1 b2).1
        clear hO3 hg3 a1 a2 a3 a4 a5 a6 b1 b2 b3 b4 b6 p5 HAA HS hnr
        go_wp2_with fail
        refine bodyPost_ret (by simp [results, Try.results32, go_sem, z0, z1, z2, z3, z4]; rfl) rfl ?_
        exact ⟨ro, rc, mo', mc', _, rfl, HR3.out, HR4.out, HR5.out, HR6.out⟩
end Go.Proofs.Ytpddpdkdlodniaa
