/-
  The reference's Crash.
-/
import Derived.Test.YtkbdbinafjmjkaaDRef3
namespace Go.Proofs.Ytkbdbinafjmjkaa
open Go.RowKit

def CrashRTo (w : World) (s : DS) (e : Ending) (w' : World) : Prop := ∃ q g, e = .returned (.pointer (some ⟨q, 0, none⟩)) ∧ RefIs w' w.heap.size q g s ∧ Below w.heap.size w w'

set_option maxHeartbeats 1000000 in
theorem crashR_any (base p : Nat) (g : Option Nat) (s : DS) (keep flip : Int) (w : World) (h : RefIs w base p g s) :
    Calls Try.prog 24 #[.pointer (some ⟨p, 0, none⟩), .int .i64 keep, .int .i64 flip] w (CrashRTo w (crashF s keep flip)) := by
  have hcl := crashB_length h.ok keep flip
  have hco := crash_ok h.ok keep flip
  obtain ⟨i0, hi, hz0, hz1, hz2⟩ := info_parts Try.infoByte
  obtain ⟨cap, left, h1, h2, h3, h4, h5⟩ := h
  obtain ⟨⟨c0, c1, -, c3, -⟩, -⟩ := ref_cells h2
  have hplt := h2.lt
  obtain ⟨k1, k2, k3, k4, -, k6⟩ := h5
  obtain ⟨hcap1, hcap2, -⟩ := ref_cap rfl h3
  obtain ⟨M, hM⟩ : ∃ M : Int, (s.bs.length : Int) - s.dur + 1 = M := ⟨_, rfl⟩
  obtain ⟨t1, t2⟩ := kept_tmod k4 keep M hM
  have hkl := kept_le (s := s) keep
  have hM1 : 1 ≤ M := by omega
  obtain ⟨b1, b2⟩ := tmod_bd keep (show 0 < M by omega)
  obtain ⟨K, hK⟩ : ∃ K, keptOf s keep = K := ⟨_, rfl⟩
  rw [hK] at t1 t2 hkl hcl
  obtain ⟨T, hT⟩ : ∃ T, keep.tmod M = T := ⟨_, rfl⟩
  rw [hT] at t1 t2 b1 b2
  have hn : s.dur + K ≤ s.bs.length := by omega
  have htl : (s.bs.take (s.dur + K)).length = s.dur + K := by simp; omega
  have hyt := (ref_cap htl (by
    have := owns_take (k := s.dur + K) h3 hn
    have e : bcells (s.bs.take (s.dur + K)) = (bcells s.bs).take (s.dur + K) := by simp [bcells, List.map_take]
    rw [e]
    exact this)).2.2
  have e1 : IntKind.i64.wrap ((s.bs.length : Int) - (s.dur : Int)) = M - 1 := by
    have : (s.bs.length : Int) - (s.dur : Int) = M - 1 := by omega
    rw [this]
    exact IntWalk.i64_in _ ⟨by omega, by omega⟩
  have e2 : M - 1 + 1 = M := by omega
  have HH2 := Lib.hid h2
  have HCL := Lib.hid hcl
  have HCO := Lib.hid hco
  have HKK := Lib.hid hK
  have HTL := Lib.hid htl
  have HYT := Lib.hid hyt
  clear h2 h3 h4 hcl hco hK k6 htl hyt
  have e3 : IntKind.i64.wrap ((s.dur : Int) + (K : Int)) = (s.dur : Int) + (K : Int) := IntWalk.i64_in _ ⟨by omega, by omega⟩
  have e4 : (0 : Int) ≤ (s.dur : Int) + (K : Int) := by omega
  have e5 : ((s.dur : Int) + (K : Int)).toNat = s.dur + K := by omega
  have e6 : (s.dur : Int) + (K : Int) ≤ (cap : Int) := by omega
  have hside : T < 0 ∨ ¬ T < 0 := by omega
  rcases hside with hneg | hneg
  all_goals
    first
      | (have t3 := t1 hneg
         have t4 : T + (M - 1) + 1 = (K : Int) := by omega
         clear t3)
      | (have t4 := t2 hneg)
    clear t1 t2
    go_enter Try.func24, Try.ntmps24
    go_wp2_with fail
    go_quiet (fail)
    go_wp2_with fail
    clear e1 e2 hM1 b1 b2 hneg t4 hM hT
    obtain ⟨w2, hw2⟩ : ∃ w2, w.drewN nq = w2 := ⟨_, rfl⟩
    have hm2 : Below w.heap.size w w2 := by rw [← hw2]; exact ⟨rfl, rfl, rfl, Nat.le_refl _, fun _ _ => rfl⟩
    have d0 := (hm2.cell (p := ⟨p, 0, none⟩) hplt).trans c0
    have d1 := (hm2.cell (p := ⟨p, 1, none⟩) hplt).trans c1
    have d3 := (hm2.cell (p := ⟨p, 3, none⟩) hplt).trans c3
    have hw2s : w.heap.size ≤ w2.heap.size := hm2.size
    have hplt2 : p < w2.heap.size := Nat.lt_of_lt_of_le hplt hw2s
    have HO : Hid ((w2.alloc (.cells #[] 5)).ownsRow w2.heap.size 5 1 (.slice (some ⟨w2.heap.size, 0, none⟩) 0 0) 0 []) := World.ownsRow_made w2 #[] 0 (Nat.le_refl _) (by decide) rfl
    have hba : Below w2.heap.size w2 (w2.alloc (.cells #[] 5)) := (Below.refl _ _).alloc (Nat.le_refl _) _
    have HS1 : Hid (Byt ((w2.alloc (.cells #[] 5)).drew) (gad g) (s.bs.take (s.dur + K))) := ((HYT.out.next hm2).next hba).next (Below.refl _ _).drew
    have HBA : Hid (Below w2.heap.size w2 (w2.alloc (.cells #[] 5)).drew) := hba.drew
    have HM2 := Lib.hid hm2
    rw [hw2]
    clear hw2 hm2 hba c0 c1 c3
    go_region_held3 (fun w' => w'.cell? ⟨p, 1, none⟩ = some (.int .i64 s.dur) ∧ w'.cell? ⟨p, 3, none⟩ = some (.slice (gad g) s.bs.length cap))
      (first | exact ⟨d1, d3⟩ | go_keep)
      (first
        | (refine step_append_byt _ (by rfl) _ _ _ (by rfl) w2.heap.size 5 i0 (.int .u8 0) Try.underlying30 hi hz0 hz1 hz2 (by rfl) (.slice (some ⟨w2.heap.size, 0, none⟩) 0 0) 0 [] (by rfl) HO.out.drew (gad g) (s.dur + K) cap (s.bs.take (s.dur + K)) HTL.out (by rfl) HS1.out (by omega) (by simp) ?_
           intro g3 cap3 w3 hown3 hg3 hv3
           have hb3 : Below w2.heap.size w2 w3 := HBA.out.grown hg3 (by simp) (fun k hk => by simp [Value.ownBlock] at hk; omega)
           have f1 := (hb3.cell (p := ⟨p, 1, none⟩) hplt2).trans d1
           have f3 := (hb3.cell (p := ⟨p, 3, none⟩) hplt2).trans d3))
    rw [Nat.zero_add, List.nil_append] at hown3
    have f0 := (hb3.cell (p := ⟨p, 0, none⟩) hplt2).trans d0
    have hw3s : w2.heap.size ≤ w3.heap.size := hb3.size
    have hplt3 : p < w3.heap.size := Nat.lt_of_lt_of_le hplt2 hw3s
    have H4 := Lib.hid hown3
    have HB3 : Hid (Below w.heap.size w w3) := HM2.out.trans (hb3.mono hw2s)
    clear hown3 hg3 hv3 hb3 f1 f3 d0 d1 d3 HO HS1 HBA HM2 HYT e3 e4 e5 e6
    have hbase : w.heap.size ≤ w3.heap.size := Nat.le_trans hw2s hw3s
    by_cases hk0 : 0 < K
    · have hk2 : (0 : Int) < (K : Int) := by omega
      by_cases hf : flip % 2 = 0
      · have hf1 : (flip.tmod 2 != 0) = false := by
          have := Int.tmod_eq_emod (a := flip) (b := 2)
          simp only [bne_eq_false_iff_eq]
          split at this <;> omega
        have hcr : crashB s keep flip = s.bs.take (s.dur + K) := by
          unfold crashB
          rw [HKK.out, if_neg (by omega)]
        have HCR := Lib.hid hcr
        clear hcr hk0 hf
        go_wp2_with fail
        go_ret
        refine ⟨w3.heap.size, g3, rfl, RefIs.make (cap := cap3) (left' := 0) HCL.out (by simp only [crashF]; rw [HCL.out]; simp) hbase (Box.new _ _ _) ((owns_base H4.out (fun k hk => Nat.le_trans hw2s (H4.out.lt k hk).1)).alloc _) (by rw [← HCR.out]; rfl) (fun k hk => by cases hk) HCO.out, HB3.out.alloc hbase _⟩
      · have hf1 : (flip.tmod 2 != 0) = true := by
          have := Int.tmod_eq_emod (a := flip) (b := 2)
          simp only [bne_iff_ne, ne_eq]
          split at this <;> omega
        have hcr : crashB s keep flip = flipLast (s.bs.take (s.dur + K)) := by
          unfold crashB
          rw [HKK.out, if_pos ⟨hk0, hf⟩]
        have HLEN := Lib.hid HCL.out
        have HCR := Lib.hid hcr
        obtain ⟨B, hB⟩ : ∃ B, s.bs.take (s.dur + K) = B := ⟨_, rfl⟩
        rw [hB] at HTL HCR H4
        obtain ⟨N, hN⟩ : ∃ N, s.dur + K = N := ⟨_, rfl⟩
        have hN1 : 1 ≤ N := by omega
        have hN2 : N ≤ 1000000 := by omega
        rw [hN] at HTL H4 HLEN
        generalize s.dur + K = N' at *
        subst hN
        have ho := H4.out
        cases g3 with
        | none =>
          exfalso
          rcases ho.2 with ⟨_, h0⟩ | ⟨g, _, _, hv, _⟩
          · omega
          · cases hv
        | some gb =>
          have hx : (bcells B)[N' - 1]? = some (.int .u8 (B.getD (N' - 1) 0)) := bcells_get B _ (by have := HTL.out; omega)
          have r0 := ho.cellAt (N' - 1) (by omega)
          rw [hx] at r0
          have r1 := ho.frozenAt (N' - 1)
          have hgb := (ho.lt gb rfl).1
          have hgp : p ≠ gb := by omega
          have e2 : (0 : Int) ≤ (N' : Int) - 1 := by omega
          have e3 : ((N' : Int) - 1).toNat = N' - 1 := by omega
          have e4 : (N' : Int) - 1 < (N' : Int) := by omega
          clear ho hx hcr hB hf hk0 HCL
          have hga : gad (some gb) = some ⟨gb, 0, none⟩ := rfl
          go_wp2_with fail
          obtain ⟨hst, hgr⟩ := H4.out.stored (N' - 1) (.int .u8 (bits .xor .u8 (B[N' - 1]?.getD 0) 85))
          have hsz5 : (w3.setCell ⟨gb, N' - 1, none⟩ (.int .u8 (bits .xor .u8 (B[N' - 1]?.getD 0) 85))).heap.size = w3.heap.size := by simp [World.setCell]
          have hb5 : Below w.heap.size w (w3.setCell ⟨gb, N' - 1, none⟩ (.int .u8 (bits .xor .u8 (B[N' - 1]?.getD 0) 85))) := HB3.out.setCell (p := ⟨gb, N' - 1, none⟩) (Nat.le_trans hw2s hgb) _
          generalize w3.setCell ⟨gb, N' - 1, none⟩ (.int .u8 (bits .xor .u8 (B[N' - 1]?.getD 0) 85)) = W5 at *
          rw [← hsz5] at hbase ⊢
          go_ret
          refine ⟨W5.heap.size, some gb, rfl, RefIs.make (cap := cap3) (left' := 0) HLEN.out (by simp only [crashF]; rw [HLEN.out]) hbase (Box.new _ _ _) ((owns_base hst (fun k hk => Nat.le_trans hw2s (hst.lt k hk).1)).alloc _) ?_ (fun k hk => by cases hk) HCO.out, hb5.alloc hbase _⟩
          rw [← HTL.out, ← bcells_flip, ← HCR.out]
          rfl
    · have hk2 : ¬ (0 : Int) < (K : Int) := by omega
      have hcr : crashB s keep flip = s.bs.take (s.dur + K) := by
        unfold crashB
        rw [HKK.out, if_neg (by omega)]
      have HCR := Lib.hid hcr
      clear hcr hk0
      go_wp2_with fail
      go_ret
      refine ⟨w3.heap.size, g3, rfl, RefIs.make (cap := cap3) (left' := 0) HCL.out (by simp only [crashF]; rw [HCL.out]; simp) hbase (Box.new _ _ _) ((owns_base H4.out (fun k hk => Nat.le_trans hw2s (H4.out.lt k hk).1)).alloc _) (by rw [← HCR.out]; rfl) (fun k hk => by cases hk) HCO.out, HB3.out.alloc hbase _⟩
end Go.Proofs.Ytkbdbinafjmjkaa
