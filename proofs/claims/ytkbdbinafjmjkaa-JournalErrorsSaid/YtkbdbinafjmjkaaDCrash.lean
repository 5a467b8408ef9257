/-
  Crash: a new disk with what survives.
-/
import Derived.Test.YtkbdbinafjmjkaaDOps2
import Derived.Deep.RegionHeld3
import Derived.Outline
namespace Go.Proofs.Ytkbdbinafjmjkaa
open Go.RowKit

theorem kept_tmod {s : DS} (h : s.dur ≤ s.bs.length) (keep M : Int) (hM : (s.bs.length : Int) - s.dur + 1 = M) :
    (keep.tmod M < 0 → keep.tmod M + M = (keptOf s keep : Int)) ∧ (¬ keep.tmod M < 0 → keep.tmod M = (keptOf s keep : Int)) := by
  have hm : ((s.bs.length - s.dur + 1 : Nat) : Int) = M := by omega
  have hpos : 0 < M := by omega
  have h0 := Int.emod_nonneg keep (show M ≠ 0 by omega)
  have h1 := Int.emod_lt_of_pos keep hpos
  have hk : (keptOf s keep : Int) = keep % M := by
    unfold keptOf
    rw [hm]
    omega
  rw [hk]
  have ht := Int.tmod_eq_emod (a := keep) (b := M)
  split at ht
  · constructor <;> intro h <;> omega
  · have : (M.natAbs : Int) = M := by omega
    constructor <;> intro h <;> omega

theorem tmod_bd (keep : Int) {M : Int} (h : 0 < M) : -M < keep.tmod M ∧ keep.tmod M < M := by
  have h0 := Int.emod_nonneg keep (show M ≠ 0 by omega)
  have h1 := Int.emod_lt_of_pos keep h
  have ht := Int.tmod_eq_emod (a := keep) (b := M)
  split at ht
  · omega
  · have : (M.natAbs : Int) = M := by omega
    rename_i hn
    have : keep % M ≠ 0 := fun e => hn (.inr (Int.dvd_of_emod_eq_zero e))
    omega

theorem bcells_flip (B : List Int) : bcells (flipLast B) = (bcells B).set (B.length - 1) (.int .u8 (bits .xor .u8 (B[B.length - 1]?.getD 0) 85)) := by
  simp [bcells, flipLast, flipB, List.map_set, List.getD]
theorem moved_set1d (w : World) (p i : Nat) (a : Value) : Moved w (w.setCell ⟨p, i, none⟩ a).drew (fun k => k = p) := (Moved.setCell w p i a).trans (Moved.drew _ fun _ => False) fun _ _ h => h.elim

/-- What Crash leaves. -/
def CrashTo (w : World) (s : DS) (e : Ending) (w' : World) : Prop := ∃ q g, e = .returned (.pointer (some ⟨q, 0, none⟩)) ∧ DiskIs w' w.heap.size q g s ∧ Below w.heap.size w w'

set_option maxHeartbeats 1000000 in
theorem crash_any (base p : Nat) (g : Option Nat) (s : DS) (keep flip : Int) (w : World) (h : DiskIs w base p g s) :
    Calls Try.prog 18 #[.pointer (some ⟨p, 0, none⟩), .int .i64 keep, .int .i64 flip] w (CrashTo w (crashF s keep flip)) := by
  have hcl := crashB_length h.ok keep flip
  have hco := crash_ok h.ok keep flip
  obtain ⟨cap, left, h1, h2, h3, h4, h5⟩ := h
  obtain ⟨⟨c0, c1, c2, -⟩, -⟩ := disk_cells h2
  have hplt := h2.lt
  obtain ⟨k1, k2, k3, k4, -, k6⟩ := h5
  have hcap : s.bs.length ≤ cap ∧ cap ≤ 9223372036854775807 := by
    obtain ⟨c, hc, hc1, hc2, _⟩ := byt_own h3
    injection hc with _ _ hc
    subst hc
    unfold maxLen at hc2
    exact ⟨hc1, by omega⟩
  obtain ⟨hcap1, hcap2⟩ := hcap
  obtain ⟨M, hM⟩ : ∃ M : Int, (s.bs.length : Int) - s.dur + 1 = M := ⟨_, rfl⟩
  obtain ⟨t1, t2⟩ := kept_tmod k4 keep M hM
  have hkl := kept_le (s := s) keep
  have hM1 : 1 ≤ M := by omega
  obtain ⟨b1, b2⟩ := tmod_bd keep (show 0 < M by omega)
  obtain ⟨K, hK⟩ : ∃ K, keptOf s keep = K := ⟨_, rfl⟩
  rw [hK] at t1 t2 hkl hcl
  obtain ⟨T, hT⟩ : ∃ T, keep.tmod M = T := ⟨_, rfl⟩
  rw [hT] at t1 t2 b1 b2
  have hn : s.dur + K ≤ s.bs.length := by omega
  have hyt := (byt_own (bs := s.bs.take (s.dur + K)) (v := .slice (gad g) (s.dur + K) cap) (by
    have := owns_take (k := s.dur + K) h3 hn
    have e : (s.bs.take (s.dur + K)).length = s.dur + K := by simp; omega
    rw [e]
    simpa [bcells, List.map_take] using this)).choose_spec.2.2.2
  rw [gad_own] at hyt
  have htl : (s.bs.take (s.dur + K)).length = s.dur + K := by simp; omega
  have HC : Hid (∀ d : World, Below w.heap.size w d → Calls Try.prog 37 #[.slice (gad g) (s.dur + K) cap] d fun e w' => ∃ g cap, e = .returned (.slice (gad g) (s.dur + K) cap) ∧ w'.ownsRow w.heap.size 5 1 (.slice (gad g) (s.dur + K) cap) (s.dur + K) (bcells (s.bs.take (s.dur + K))) ∧ Below w.heap.size w w') :=
    fun d hd => (clone_any (gad g) (s.dur + K) cap _ d htl (hyt.next hd) (by omega)).mono fun e w' ⟨g', c', he, ho, hb⟩ => ⟨g', c', he, owns_base ho (fun k hk => Nat.le_trans hd.size (ho.lt k hk).1), hd.trans (hb.mono hd.size)⟩
  have e1 : IntKind.i64.wrap ((s.bs.length : Int) - (s.dur : Int)) = (s.bs.length : Int) - (s.dur : Int) := IntWalk.i64_in _ ⟨by omega, by omega⟩
  have e2 : IntKind.i64.wrap ((s.bs.length : Int) - (s.dur : Int) + 1) = M := by rw [hM]; exact IntWalk.i64_in _ ⟨by omega, by omega⟩
  have HH3 := Lib.hid h3
  have HH2 := Lib.hid h2
  have HCL := Lib.hid hcl
  have HCO := Lib.hid hco
  have HKK := Lib.hid hK
  have H6 := Lib.hid k6
  have HTL := Lib.hid htl
  clear h2 h3 h4 hcl hco hK k6 hyt htl
  have e3 : IntKind.i64.wrap ((s.dur : Int) + (K : Int)) = (s.dur : Int) + (K : Int) := IntWalk.i64_in _ ⟨by omega, by omega⟩
  have e4 : (0 : Int) ≤ (s.dur : Int) + (K : Int) := by omega
  have e5 : ((s.dur : Int) + (K : Int)).toNat = s.dur + K := by omega
  have e6 : (s.dur : Int) + (K : Int) ≤ (cap : Int) := by omega
  have hside : T < 0 ∨ ¬ T < 0 := by omega
  rcases hside with hneg | hneg
  all_goals
    first | (have t3 := t1 hneg) | (have t3 := t2 hneg)
    clear t1 t2
    go_enter Try.func18, Try.ntmps18
    go_wp2_with fail
    go_quiet (fail)
    go_wp2_with fail
    clear e1 e2 hM1 b1 b2 hneg t3 hM hT
    go_region_held3 (fun w' => w'.cell? ⟨p, 0, none⟩ = some (.int .i64 s.room) ∧ w'.cell? ⟨p, 1, none⟩ = some (.slice (gad g) s.bs.length cap) ∧ w'.cell? ⟨p, 2, none⟩ = some (.int .i64 s.dur))
      (first | exact ⟨c0, c1, c2⟩ | go_keep)
      (first
        | (go_at_call 37
           refine (HC.out _ ?_).mono ?_
           exact ⟨rfl, rfl, rfl, Nat.le_refl _, fun _ _ => rfl⟩
           rintro e w3 ⟨g3, cap3, rfl, ho3, hb3⟩
           have d0 := (hb3.cell hplt).trans c0
           have d1 := (hb3.cell hplt).trans c1
           have d2 := (hb3.cell hplt).trans c2))
    clear c0 c1 c2 d0 d1 d2 HC e3 e4 e5 e6
    have hq : Box (w3.alloc (.cells #[.int .i64 s.room, .slice (gad g3) (s.dur + K) cap3, .int .i64 0, .int .i64 0, .bool false, .int .i64 0, .bool false] 49)) w3.heap.size 49 _ := Box.new _ _ _
    have hqs : w.heap.size ≤ w3.heap.size := hb3.size
    have ho4 := ho3.alloc (.cells #[.int .i64 s.room, .slice (gad g3) (s.dur + K) cap3, .int .i64 0, .int .i64 0, .bool false, .int .i64 0, .bool false] 49)
    have hb4 : Below w.heap.size w (w3.alloc (.cells #[.int .i64 s.room, .slice (gad g3) (s.dur + K) cap3, .int .i64 0, .int .i64 0, .bool false, .int .i64 0, .bool false] 49)) := hb3.alloc hqs _
    generalize w3.alloc (.cells #[.int .i64 s.room, .slice (gad g3) (s.dur + K) cap3, .int .i64 0, .int .i64 0, .bool false, .int .i64 0, .bool false] 49) = W4 at *
    clear ho3 hb3
    generalize w3.heap.size = q at *
    have hne := owns_ne_box ho4 hq (by decide)
    rw [gad_own] at hne
    have H4 := Lib.hid ho4
    have HQ := Lib.hid hq
    have HB4 := Lib.hid hb4
    have HNE := Lib.hid hne
    obtain ⟨⟨d0, d1, d2, d3, d4, d5, d6⟩, f1, f2, -⟩ := disk_cells hq
    clear hq ho4 hb4 hne
    by_cases hk0 : 0 < K
    · have hk1 : decide ((0 : Int) < (K : Int)) = true := by simpa using hk0
      have hk2 : (0 : Int) < (K : Int) := by omega
      by_cases hf : flip % 2 = 0
      · have hf1 : (flip.tmod 2 != 0) = false := by
          have := Int.tmod_eq_emod (a := flip) (b := 2)
          simp only [bne_eq_false_iff_eq]
          split at this <;> omega
        have hcr : crashB s keep flip = s.bs.take (s.dur + K) := by
          unfold crashB
          rw [HKK.out, if_neg (by omega)]
        have HCR := Lib.hid hcr
        clear hcr hk0 hf
        go_wp2_with fail
        go_ret
        refine ⟨q, g3, rfl, DiskIs.make (cap := cap3) (left' := 0) HCL.out (by simp only [crashF]; rw [HCL.out]; simp) hqs (HQ.out.set 2 _) (owns_moved H4.out (Moved.setCell W4 q 2 _) (fun k hk e => HNE.out (by rw [gad_own] at hk; rw [hk, e]))) (by rw [← HCR.out]; rfl) (fun k hk => by cases hk) HCO.out, ?_⟩
        exact (HB4.out.setCell hqs _)
      · have hf1 : (flip.tmod 2 != 0) = true := by
          have := Int.tmod_eq_emod (a := flip) (b := 2)
          simp only [bne_iff_ne, ne_eq]
          split at this <;> omega
        have hcr : crashB s keep flip = flipLast (s.bs.take (s.dur + K)) := by
          unfold crashB
          rw [HKK.out, if_pos ⟨hk0, hf⟩]
        have hlen := HCL.out
        have HLEN := Lib.hid hlen
        clear hlen
        rw [hcr] at HCL
        have HCR := Lib.hid hcr
        obtain ⟨B, hB⟩ : ∃ B, s.bs.take (s.dur + K) = B := ⟨_, rfl⟩
        rw [hB] at HTL HCL HCR H4
        obtain ⟨N, hN⟩ : ∃ N, s.dur + K = N := ⟨_, rfl⟩
        have hN1 : 1 ≤ N := by omega
        have hN2 : N ≤ 1000000 := by omega
        rw [hN] at HTL HCL H4 HQ d1 HLEN
        generalize s.dur + K = N' at *
        subst hN
        have ho := H4.out
        have hfl := flipLast_length B
        cases g3 with
        | none =>
          exfalso
          rcases ho.2 with ⟨_, h0⟩ | ⟨g, _, _, hv, _⟩
          · omega
          · cases hv
        | some gb =>
          have hx : (bcells B)[N' - 1]? = some (.int .u8 (B.getD (N' - 1) 0)) := bcells_get B _ (by have := HTL.out; omega)
          have r0 := ho.cellAt (N' - 1) (by omega)
          rw [hx] at r0
          have r1 := ho.frozenAt (N' - 1)
          have hgb : gb ≠ q := fun e => HNE.out (by rw [e])
          have e1 : IntKind.i64.wrap ((N' : Int) - 1) = (N' : Int) - 1 := IntWalk.i64_in _ ⟨by omega, by omega⟩
          have e2 : (0 : Int) ≤ (N' : Int) - 1 := by omega
          have e3 : ((N' : Int) - 1).toNat = N' - 1 := by omega
          have e4 : (N' : Int) - 1 < (N' : Int) := by omega
          change W4.cell? _ = some (.slice (some ⟨gb, 0, none⟩) N' cap3) at d1
          clear ho hfl hx hcr hB hf hk0
          go_wp2_with fail
          go_region
          obtain ⟨hst, hgr⟩ := H4.out.stored (N' - 1) (.int .u8 (bits .xor .u8 (B[N' - 1]?.getD 0) 85))
          generalize hW5 : W4.setCell ⟨gb, N' - 1, none⟩ (.int .u8 (bits .xor .u8 (B[N' - 1]?.getD 0) 85)) = W5 at *
          have hb5 : Below w.heap.size w W5 := by
            rw [← hW5]
            exact HB4.out.setCell (H4.out.lt gb rfl).1 _
          have hq5 : Box W5 q _ _ := HQ.out.moved (Moved.of_grown hgr) (fun e => hgb (by injection e))
          obtain ⟨⟨d0, d1, d2, d3, d4, d5, d6⟩, f1, f2, -⟩ := disk_cells hq5
          change W5.cell? _ = some (.slice (some ⟨gb, 0, none⟩) N' cap3) at d1
          have HST := Lib.hid hst
          have HQ5 := Lib.hid hq5
          have HB5 := Lib.hid hb5
          clear hst hgr hW5 hb5 hq5 HB4 r0 r1
          go_wp2_with fail
          go_ret
          refine ⟨q, some gb, rfl, DiskIs.make (cap := cap3) (left' := 0) HLEN.out (by simp only [crashF]; rw [HLEN.out]) hqs (Box.set (w := W5) HQ5.out 2 _) (owns_moved HST.out (moved_set1d W5 q 2 _) (fun k hk e => HNE.out (by rw [← e]; exact hk))) ?_ (fun k hk => by cases hk) HCO.out, ?_⟩
          · rw [← HTL.out, ← bcells_flip, ← HCR.out]
            rfl
          · exact (HB5.out.setCell (p := ⟨q, 2, none⟩) hqs _).drew
    · have hk1 : decide ((0 : Int) < (K : Int)) = false := by simpa using hk0
      have hk2 : ¬ (0 : Int) < (K : Int) := by omega
      have hcr : crashB s keep flip = s.bs.take (s.dur + K) := by
        unfold crashB
        rw [HKK.out, if_neg (by omega)]
      have HCR := Lib.hid hcr
      clear hcr hk0
      go_wp2_with fail
      go_ret
      refine ⟨q, g3, rfl, DiskIs.make (cap := cap3) (left' := 0) HCL.out (by simp only [crashF]; rw [HCL.out]; simp) hqs (HQ.out.set 2 _) (owns_moved H4.out (Moved.setCell W4 q 2 _) (fun k hk e => HNE.out (by rw [gad_own] at hk; rw [hk, e]))) (by rw [← HCR.out]; rfl) (fun k hk => by cases hk) HCO.out, ?_⟩
      exact (HB4.out.setCell hqs _)
end Go.Proofs.Ytkbdbinafjmjkaa
