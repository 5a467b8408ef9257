/-
  Contract: Append that succeeds.
-/
import Derived.Test.YtkbdbinafjmjkaaJApp2
import Derived.Deep.AppendLies
import Derived.Deep.RegionLaw
namespace Go.Proofs.Ytkbdbinafjmjkaa
open Go.RowKit

theorem JIs.push {w7 w8 : World} {base q p gg cap8 pc : Nat} {X : Nat → Prop} {g : Option Nat} {s : DS} {v : Value} {rs : List (List Int)} {r : List Int} {po : Option Addr} {vs : List Value} {o : Obj}
    (h : JIs w7 base X q p g s v rs false) (hX : ∀ k, X k → k < w7.heap.size)
    (k1 : w7.ownsRow base 30 1 v rs.length vs) (k2 : ∀ k, v.ownBlock = some k → k ≠ p ∧ k ≠ q ∧ g ≠ some k ∧ ¬ X k)
    (k3 : ∀ i, i < rs.length → ∃ po pc, vs[i]? = some (.slice po (rs.getD i []).length pc) ∧ BytN w7 (fun k => (k ≠ p ∧ k ≠ q ∧ g ≠ some k ∧ ¬ X k) ∧ v.ownBlock ≠ some k) po (rs.getD i []))
    (hr : BytN w7 (fun k => (k ≠ p ∧ k ≠ q ∧ g ≠ some k ∧ ¬ X k) ∧ v.ownBlock ≠ some k) po r)
    (hown : w8.ownsRow base 30 1 (.slice (some ⟨gg, 0, none⟩) (rs.length + 1) cap8) (rs.length + 1) (vs ++ [.slice po r.length pc])) (hg : (w7.alloc o).grownBy w8 v.ownBlock)
    (hv : v.ownBlock = some gg ∨ gg = w7.heap.size + 1) :
    JIs (w8.setCell ⟨q, 1, none⟩ (.slice (some ⟨gg, 0, none⟩) (rs.length + 1) cap8)) base X q p g s (.slice (some ⟨gg, 0, none⟩) (rs.length + 1) cap8) (rs ++ [r]) false := by
  obtain ⟨q1, q2, q3⟩ := h.qne
  obtain ⟨h1, h2, h3, h4, h5, h6, h7⟩ := h
  have hm : Moved w7 w8 (fun k => v.ownBlock = some k) := (Moved.alloc w7 o fun k => v.ownBlock = some k).trans (Moved.of_grown hg) fun _ _ h => h
  have hp := RowN.pushed (N' := fun k => k ≠ p ∧ k ≠ q ∧ g ≠ some k ∧ ¬ X k) rfl k1 k2 k3 hr hown hg hv (fun b h => h) (fun b hb => ⟨by have := h1.lt.2; omega, by have := h3.lt; omega, fun e => by have := (h1.row b e).2.1; omega, fun e => by have := hX b e; omega⟩)
  refine ⟨(h1.moved hm (fun e => (k2 p e).1 rfl) (fun k hk e => (k2 k e).2.2.1 hk)).moved (Moved.setCell w8 q 1 _) (fun e => q1 e.symm) (fun k hk e => q2 (e ▸ hk)), h2, (h3.moved hm q3).set 1 _, hp.moved (Moved.setCell w8 q 1 _) fun b _ hN => ⟨fun e => hN.2.1 e, hN⟩, h5, h6, h7⟩

set_option maxRecDepth 100000 in
set_option maxHeartbeats 4000000 in
theorem app_done (w : World) (base : Nat) (X : Nat → Prop) (q p : Nat) (g : Option Nat) (s : DS) (v : Value) (rs recs : List (List Int)) (ao : Option Addr) (n c : Nat) (hJ : JIs w base X q p g s v rs false) (hX : ∀ k, X k → k < w.heap.size)
    (hn : recs.length = n) (hR : RecsN w (fun k => ¬ Foot q p g v k) ao recs) (hrb : ∀ r ∈ recs, Bytes r) (h1 : 1 ≤ n) (h16 : n ≤ 16) (hlg : longF recs = false) (s1 s2 : DS) (hE : appendF s (frameF recs) = (0, s1)) (hS : syncF s1 = (0, s2)) (hrl : rs.length ≤ 1000000) :
    Calls Try.prog 30 #[.pointer (some ⟨q, 0, none⟩), .slice ao n c] w (AppTo w base X q p g v (0, s2, rs ++ recs, false)) := by
  obtain ⟨i0, hi, hz0, hz1, hz2⟩ := info_parts Try.infoBytes
  have hlk := one_long recs hlg
  have HC := Lib.hid (contains_any ao c n recs w hn hR.recs (by omega))
  rw [hlg] at HC
  have HDD := Lib.hid (dead_box q p v false w hJ.box)
  have h0 : ((n : Int) == 0) = false := by rw [beq_eq_false_iff_ne]; omega
  have h2 : (n : Int) ≤ 16 := by omega
  have hfb := flat_bound recs hlg
  have hbl := body_len recs
  have hfl := frame_len recs
  have HF := Lib.hid fun (d : World) (hd : Below w.heap.size w d) => frame_any ao c n recs d hn (hR.recs.next hd) hrb (by omega) (by omega)
  have HFO := Lib.hid (frame_ok recs hrb)
  have HJ := Lib.hid hJ
  have HX := Lib.hid hX
  have HR := Lib.hid hR
  have HN := Lib.hid hn
  have hpl := hJ.disk.lt.2
  have hql := hJ.box.lt
  have hflm : (frameF recs).length ≤ 100000 := by omega
  have c0 : w.cell? ⟨q, 0, none⟩ = some (.pointer (some ⟨p, 0, none⟩)) := hJ.box.cell 0
  obtain ⟨F, hFF⟩ : ∃ F, frameF recs = F := ⟨_, rfl⟩
  rw [hFF] at hE HFO hflm
  simp only [hFF] at HF
  have HA : Hid (∀ d go gc, Below w.heap.size w d → Byt d go F → (∀ k o, go = some ⟨k, o, none⟩ → k ≠ p) → Calls Try.prog 15 #[.pointer (some ⟨p, 0, none⟩), .slice go F.length gc] d (DiskTo base p g d (.int .i64 (appendF s F).1) (appendF s F).2)) :=
    Lib.hid fun d go gc hd hy hg => append_any base p g s d (HJ.out.disk.next hd) go F.length gc F rfl hy HFO.out hg (by omega) (Nat.le_trans (Nat.le_trans HJ.out.disk.lt.1 (Nat.le_of_lt hpl)) hd.size)
  clear hFF hlg hfb hbl hfl hJ hX hR hn
  rw [hE] at HA
  dsimp only at HA
  have HLK := Lib.hid hlk
  clear hE hlk
  go_enter Try.func30, Try.ntmps30
  go_wp2_with fail
  refine HC.out.mono ?_
  rintro e w2 ⟨rfl, rfl⟩
  go_wp2_with fail
  refine HDD.out.mono ?_
  rintro e w3 ⟨rfl, rfl⟩
  go_wp2_with fail
  go_region_held3 (fun w' => w'.cell? ⟨q, 0, none⟩ = some (.pointer (some ⟨p, 0, none⟩)))
    (first | exact c0 | exact d0 | go_keep)
    (first
      | (go_at_call 46
         refine (HF.out _ ?_).mono ?_
         exact (Below.refl _ _).drew
         rintro e w4 ⟨go, gc, rfl, hy4, hg4, hb4'⟩
         have d0 : w4.cell? ⟨q, 0, none⟩ = some (.pointer (some ⟨p, 0, none⟩)) := (hb4'.cell (p := ⟨q, 0, none⟩) hql).trans c0)
      | (go_at_call 15
         refine (HA.out w4 go gc ((Below.refl _ _).drew.trans hb4') hy4 (fun k o h e => by have h9 : w.heap.size ≤ k := hg4 k o h; omega)).mono ?_
         rintro e w5 ⟨g5, rfl, hd5, hm5, hgt5⟩
         have d0 : w5.cell? ⟨q, 0, none⟩ = some (.pointer (some ⟨p, 0, none⟩)) := hm5.cell (p := ⟨q, 0, none⟩) (fun e => by have h9 := HJ.out.qne; rcases e with e | e; exact h9.1 e; exact h9.2.1 e) ((hb4'.cell (p := ⟨q, 0, none⟩) hql).trans c0)))
  have hb4 : Below w.heap.size w w4 := (Below.refl _ _).drew.trans hb4'
  have hXlt : ∀ k, X k → k < w4.heap.size := fun k hk => Nat.lt_of_lt_of_le (HX.out k hk) hb4.size
  have JI := Lib.hid ((HJ.out.next hb4).onDisk hXlt hm5 hd5 hgt5)
  have D0 := Lib.hid ((DTo.of_below (p := p) (g := g) hb4).trans ⟨hm5, hgt5⟩)
  have HX5 : Hid (∀ k, X k → k < w5.heap.size) := Lib.hid fun k hk => Nat.lt_of_lt_of_le (hXlt k hk) hm5.size
  clear hy4 hg4 hb4' hb4 hXlt hd5 hm5 hgt5 HA HF HC HDD
  have HS := Lib.hid (sync_any base p g5 s1 w5 JI.out.disk)
  rw [hS] at HS
  have c5 : w5.cell? ⟨q, 0, none⟩ = some (.pointer (some ⟨p, 0, none⟩)) := JI.out.box.cell 0
  clear hS
  go_wp2_with fail
  refine HS.out.mono ?_
  rintro e w6 ⟨g6, rfl, hd6, hm6, hg6⟩
  have J6 := Lib.hid (JI.out.onDisk HX5.out hm6 hd6 hg6)
  have D6 := Lib.hid (D0.out.trans ⟨hm6, hg6⟩)
  have hX6 : ∀ k, X k → k < w6.heap.size := fun k hk => Nat.lt_of_lt_of_le (HX5.out k hk) hm6.size
  have HX6 := Lib.hid hX6
  have hR6 : RecsN w6 (fun k => ¬ Foot q p g v k) ao recs := HR.out.moved D6.out.moved fun b hb hN => ⟨fun e => hN (by rcases e with e | e; exact .inl e; exact .inr (.inr (.inl e))), hN⟩
  have HR6 := Lib.hid hR6
  clear hd6 hm6 hg6 JI D0 HX5 HS HR HX hX6 hR6 c0 c5
  go_wp2_with fail
  go_loopw [45] (fun i wr => ∃ (k : Nat) (v' : Value), k ≤ n ∧ i = .int .i64 k ∧ JIs wr base X q p g6 s2 v' (rs ++ recs.take k) false ∧ Moved w6 wr (fun j => j = q ∨ v.ownBlock = some j) ∧ (∀ j, v'.ownBlock = some j → v.ownBlock = some j ∨ w6.heap.size ≤ j)) (fun i _ => n - (intOf i).toNat)
  case atStart => exact ⟨0, v, Nat.zero_le _, rfl, by simpa using J6.out, Moved.refl _ _, fun j hj => .inl hj⟩
  case round =>
    obtain ⟨k, v', hk, rfl, hj, hm, hvo⟩ := hrel
    have HJ7 := Lib.hid hj
    have HM := Lib.hid hm
    have HVO := Lib.hid hvo
    have hsr := hm.size
    clear hj hm hvo
    by_cases hlt : k < n
    · have hki : (k : Int) < (n : Int) := by omega
      have hk0 : (0 : Int) ≤ (k : Int) := Int.natCast_nonneg _
      have hRr : RecsN wr (fun k => ¬ Foot q p g v k) ao recs := HR6.out.moved HM.out fun b hb hN => ⟨fun e => hN (by rcases e with e | e; exact .inr (.inl e); exact .inr (.inr (.inr e))), hN⟩
      rcases hRr with h0 | ⟨b, off, rfl, hbw, hbN, hc0⟩
      · have := HN.out
        rw [h0] at this
        simp at this
        omega
      obtain ⟨po, pc, hc, hy⟩ := hc0 k (by have := HN.out; omega)
      have hlen := HLK.out k (by have := HN.out; omega)
      have htk : recs.take (k + 1) = recs.take k ++ [recs.getD k []] := by
        have := HN.out
        rw [List.take_succ_eq_append_getElem (by omega)]
        simp [List.getD, show k < recs.length by omega]
      have hrsl : (rs ++ recs.take k).length ≤ 1000016 := by have := HN.out; simp; omega
      generalize recs.getD k [] = r at hc hy hlen htk
      generalize recs.take k = RK at HJ7 htk hrsl
      have HTK := Lib.hid htk
      have HCL := Lib.hid fun (d : World) (hd : Below wr.heap.size wr d) => clone_any po r.length pc r d rfl (hy.byt.next hd) (by omega)
      have c1 : wr.cell? ⟨q, 1, none⟩ = some v' := HJ7.out.box.cell 1
      obtain ⟨RS, hRS⟩ : ∃ RS, rs ++ RK = RS := ⟨_, rfl⟩
      rw [hRS] at HJ7 hrsl
      have HRS := Lib.hid hRS
      clear hc0 hy htk hbw hbN hRS
      go_wp2_with fail
      obtain ⟨vs, k1, k2, k3⟩ := HJ7.out.row
      have H1 := Lib.hid fun (d : World) (hd : Below wr.heap.size wr d) => owns_next k1 hd
      have K1 := Lib.hid k1
      have K2 := Lib.hid k2
      have K3 := Lib.hid k3
      have hqr : q < wr.heap.size := HJ7.out.box.lt
      have HBX := Lib.hid HJ7.out.box
      have HQN := Lib.hid HJ7.out.qne.2.2
      have hbr : base ≤ wr.heap.size := Nat.le_trans HJ7.out.low (Nat.le_of_lt hqr)
      clear k1 k2 k3
      go_region_law (first
        | (refine step_append_lies _ (by rfl) _ _ _ (by rfl) base 30 i0 (.slice none 0 0) 1 24 Try.underlying55 hi hz0 hz1 hz2 rfl (by omega) _ RS.length _ (by rfl) ((H1.out w7 hb7').alloc _)
             ⟨w7.heap.size, 0, none⟩ 1 1 [.slice (gad g7) r.length c7] (by rfl) (by rfl) (World.news_of_block (cs := #[.slice (gad g7) r.length c7]) (t := 30) (fr := (0, 0)) (heap_alloc_new w7 _)) (by simp [Value.oneCell'])
             (by omega) (by unfold maxLen; omega) (by omega) (by simp; exact Nat.le_trans hbr (Nat.le_trans hb7'.size (Nat.le_succ _))) (w7.heap.size + 1) (by simp) ?_
           intro gg cap8 w8 hown8 hg8 hat8 hlt8
           have hbx8 := Box.moved (HBX.out.next (hb7'.alloc hb7'.size _)) (Moved.of_grown hg8) HQN.out
           have e1 := hbx8.cell 1
           have e2 := hbx8.frozen 1)
        | (go_simp
           go_at_call 37
           refine (HCL.out _ ?_).mono ?_
           exact (Below.refl _ _).drew
           rintro e w7 ⟨g7, c7, rfl, hown7, hb7⟩
           have hb7' : Below wr.heap.size wr w7 := (Below.refl _ _).drew.trans hb7
           have d1 : w7.cell? ⟨q, 1, none⟩ = some v' := (hb7'.cell (p := ⟨q, 1, none⟩) hqr).trans c1
           have d2 : (w7.alloc (.cells #[.slice (gad g7) r.length c7] 30)).cell? ⟨q, 1, none⟩ = some v' := ((hb7'.alloc hb7'.size _).cell (p := ⟨q, 1, none⟩) hqr).trans c1))
      all_goals
        have hb7'' : Below wr.heap.size wr w7 := (Below.refl _ _).drew.trans hb7
        have HB7 := Lib.hid hb7''
        have HO7 : Hid (w7.ownsRow wr.heap.size 5 1 (.slice (gad g7) r.length c7) r.length (bcells r)) := Lib.hid hown7
        have H8 : Hid (w8.ownsRow base 30 1 (.slice (some ⟨gg, 0, none⟩) (RS.length + 1) cap8) (RS.length + 1) (vs ++ [.slice (gad g7) r.length c7])) := Lib.hid hown8
        have HG8 : Hid ((w7.alloc (.cells #[.slice (gad g7) r.length c7] 30)).grownBy w8 v'.ownBlock) := Lib.hid hg8
        have HA8 : Hid (v'.ownBlock = some gg ∨ gg = w7.heap.size + 1) := Lib.hid hat8
        clear hb7'' hb7 hown7 hown8 hg8 hat8
        go_wp2_with fail
        go_roundw
        case rel =>
          have hXr : ∀ k, X k → k < wr.heap.size := fun k hk => Nat.lt_of_lt_of_le (HX6.out k hk) hsr
          have hplr := HJ7.out.disk.lt.2
          have hbn : BytN w7 (fun k => (k ≠ p ∧ k ≠ q ∧ g6 ≠ some k ∧ ¬ X k) ∧ v'.ownBlock ≠ some k) (gad g7) r := byt_cloned HO7.out rfl _ fun b hb => ⟨⟨by omega, by omega, fun e => by have := (HJ7.out.disk.row b e).2.1; omega, fun e => by have := hXr b e; omega⟩, fun e => by have := (K1.out.lt b e).2; omega⟩
          have hk3 : ∀ i, i < RS.length → ∃ po pc, vs[i]? = some (.slice po (RS.getD i []).length pc) ∧ BytN w7 (fun k => (k ≠ p ∧ k ≠ q ∧ g6 ≠ some k ∧ ¬ X k) ∧ v'.ownBlock ≠ some k) po (RS.getD i []) := fun i hi => by
            obtain ⟨po, pc, e1, e2⟩ := K3.out i hi
            exact ⟨po, pc, e1, e2.moved (Moved.of_below HB7.out fun _ => False) fun _ _ hN => ⟨fun h => h, hN⟩⟩
          have hpush := JIs.push (HJ7.out.next HB7.out) (fun k hk => Nat.lt_of_lt_of_le (hXr k hk) HB7.out.size) (H1.out w7 HB7.out) K2.out hk3 hbn H8.out HG8.out HA8.out
          refine ⟨k + 1, .slice (some ⟨gg, 0, none⟩) (RS.length + 1) cap8, hlt, by go_num, ?_, ?_, fun j hj => ?_⟩
          · rw [HTK.out, ← List.append_assoc, HRS.out]
            exact hpush
          · refine ((HM.out.trans (Moved.of_below (HB7.out.alloc HB7.out.size _) (fun _ => False)) fun _ _ h => h.elim).trans (Moved.of_grown HG8.out) fun j hj h => ?_).trans (Moved.setCell w8 q 1 _) fun _ _ h => .inl h
            rcases HVO.out j h with h | h
            · exact .inr h
            · omega
          · have hj2 : some gg = some j := hj
            cases hj2
            rcases HA8.out with h | h
            · exact HVO.out gg h
            · have := HB7.out.size
              exact .inr (by omega)
        case measure => simp [intOf]; omega
    · obtain rfl : k = n := by omega
      have htk : recs.take k = recs := List.take_of_length_le (by have := HN.out; omega)
      rw [htk] at HJ7
      clear htk hlt
      go_wp2_with fail
      go_ret
      refine ⟨g6, v', rfl, HJ7.out, ?_, fun j hj => ?_⟩
      · exact (app_foot D6.out).1.trans HM.out fun j _ h => by rcases h with h | h; exact .inr (.inl h); exact .inr (.inr (.inr h))
      · rcases hj with hj | hj | hj | hj
        · exact .inl (.inl hj)
        · exact .inl (.inr (.inl hj))
        · exact (app_foot D6.out).2 j (.inr (.inr (.inl hj)))
        · rcases HVO.out j hj with h | h
          · exact .inl (.inr (.inr (.inr h)))
          · exact .inr (Nat.le_trans D6.out.moved.size h)

/-- Append on a journal that lives. -/
theorem append_j (w : World) (base : Nat) (X : Nat → Prop) (q p : Nat) (g : Option Nat) (s : DS) (v : Value) (rs recs : List (List Int)) (ao : Option Addr) (n c : Nat) (hJ : JIs w base X q p g s v rs false) (hX : ∀ k, X k → k < w.heap.size)
    (hn : recs.length = n) (hR : RecsN w (fun k => ¬ Foot q p g v k) ao recs) (hrb : ∀ r ∈ recs, Bytes r) (h1 : 1 ≤ n) (h16 : n ≤ 16) (hlg : longF recs = false) (hrl : rs.length ≤ 1000000) :
    Calls Try.prog 30 #[.pointer (some ⟨q, 0, none⟩), .slice ao n c] w (AppTo w base X q p g v (appJ s rs recs)) := by
  unfold appJ
  by_cases hE : (appendF s (frameF recs)).1 = 43
  · rw [if_pos hE]
    exact app_full w base X q p g s v rs recs ao n c hJ hX hn hR hrb h1 h16 hlg hE
  rw [if_neg hE]
  by_cases hE0 : (appendF s (frameF recs)).1 = 0
  · rw [if_neg (by simpa using hE0)]
    by_cases hS : (syncF (appendF s (frameF recs)).2).1 = 0
    · rw [if_neg (by simpa using hS)]
      exact app_done w base X q p g s v rs recs ao n c hJ hX hn hR hrb h1 h16 hlg _ _ (by rw [← hE0]) (by rw [← hS]) hrl
    · rw [if_pos hS]
      exact app_cut w base X q p g s v rs recs ao n c hJ hX hn hR hrb h1 h16 hlg _ _ _ (by rw [← hE0]) rfl hS
  · rw [if_pos hE0]
    exact app_off w base X q p g s v rs recs ao n c hJ hX hn hR hrb h1 h16 hlg _ _ rfl hE hE0
end Go.Proofs.Ytkbdbinafjmjkaa
