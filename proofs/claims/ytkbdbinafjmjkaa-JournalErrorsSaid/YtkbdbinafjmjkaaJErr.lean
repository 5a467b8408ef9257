/-
  The law on the errors of Append, walked.
-/
import Derived.Test.YtkbdbinafjmjkaaJErr0
namespace Go.Proofs.Ytkbdbinafjmjkaa
open Go.RowKit

set_option maxRecDepth 100000 in
set_option maxHeartbeats 4000000 in
theorem err_walk (x y z : Int) (w : World) (x0 : 0 ≤ x) (y0 : 0 ≤ y) (z0 : 0 ≤ z) (z1 : z ≤ 255) :
    Calls Try.prog 8 #[.int .u16 x, .int .u16 y, .int .u8 z] w fun e w' => e = .returned (.bool true) ∧ Below w.heap.size w w' := by
  obtain ⟨n, hn⟩ : ∃ n : Nat, x % 20 = n := ⟨(x % 20).toNat, by omega⟩
  have tn : x.tmod 20 = (n : Int) := by rw [Int.tmod_eq_emod_of_nonneg x0]; exact hn
  have n1 : (n : Int) < 20 := by omega
  have n0 : (0 : Int) ≤ (n : Int) := by omega
  have hN := Lib.hid (new_any 262144 w (by omega) (by omega))
  have hmk : ∀ W : World, (Instr.makeSlice 55 (.int .i64 n) (.int .i64 n)).run Try.prog W = .ok (.slice (some ⟨W.heap.size, 0, none⟩) n n) (W.alloc (.cells (madeCells #[.slice none 0 0] n) 30)) := fun W => make_rows n (by omega) W
  clear hn
  go_enter Try.func8, Try.ntmps8
  go_wp2_with fail
  refine hN.out.mono ?_
  rintro e w1 ⟨rfl, hd1, hb1⟩
  have HFA := Lib.hid (fallen_new hd1 hb1)
  clear hd1 hb1 hN
  go_wp2_with fail
  refine HFA.out.open.mono ?_
  rintro e w2 ⟨q, rfl, hst⟩
  have S2 := Lib.hid hst
  have hbl := hst.below
  have hal : Below w2.heap.size w2 (w2.alloc (.cells (madeCells #[.slice none 0 0] n) 30)) := (Below.refl _ _).alloc (Nat.le_refl _) _
  have S3 := Lib.hid (hst.next hal)
  have hbx : Box (w2.alloc (.cells (madeCells #[.slice none 0 0] n) 30)) w2.heap.size 30 (madeCells #[.slice none 0 0] n) := Box.new _ _ _
  have HBX := Lib.hid hbx
  clear hst HFA hbl hal hbx
  by_cases h0 : n = 0
  · subst h0
    have hmk0 : ∀ W : World, (Instr.makeSlice 55 (.int .i64 0) (.int .i64 0)).run Try.prog W = .ok (.slice (some ⟨W.heap.size, 0, none⟩) 0 0) (W.alloc (.cells (madeCells #[.slice none 0 0] 0) 30)) := hmk
    have HAE := Lib.hid fun (d : World) => app_empty (.pointer (some ⟨q, 0, none⟩)) (some ⟨w2.heap.size, 0, none⟩) 0 d
    have HCU := Lib.hid (S3.out.gst.cut 0 (by omega))
    go_wp2_with fail
    refine (HAE.out _).mono ?_
    rintro e w3 ⟨rfl, rfl⟩
    go_wp2_with fail
    refine HCU.out.mono ?_
    rintro e w4 ⟨rfl, hg4⟩
    have G4 := Lib.hid hg4
    clear hg4 HCU
    go_wp2_with fail
    refine (HAE.out _).mono ?_
    rintro e w5 ⟨rfl, rfl⟩
    go_wp2_with fail
    refine (jawake_any _).mono ?_
    rintro e w6 ⟨rfl, hb6⟩
    have G6 := Lib.hid (G4.out.next hb6)
    have HL := Lib.hid G6.out.read.len
    clear hb6 G4
    go_wp2_with fail
    refine HL.out.mono ?_
    rintro e w7 ⟨rfl, rfl⟩
    go_wp2_with fail
    go_ret
    exact ⟨rfl, G6.out.below⟩
  obtain ⟨i, hi⟩ : ∃ i : Nat, z % (n : Int) = i := ⟨(z % (n : Int)).toNat, by have := Int.emod_nonneg z (show (n : Int) ≠ 0 by omega); omega⟩
  have hin : i < n := by have := Int.emod_lt_of_pos z (show (0 : Int) < (n : Int) by omega); omega
  have ti : z.tmod (n : Int) = (i : Int) := by rw [Int.tmod_eq_emod_of_nonneg z0]; exact hi
  have i0 : (0 : Int) ≤ (i : Int) := by omega
  have i1 : (i : Int) < (n : Int) := by omega
  obtain ⟨r, hr⟩ : ∃ r : Nat, y % 30 = r := ⟨(y % 30).toNat, by omega⟩
  have tr : y.tmod 30 = (r : Int) := by rw [Int.tmod_eq_emod_of_nonneg y0]; exact hr
  have r1 : (r : Int) < 30 := by omega
  have r0 : (0 : Int) ≤ (r : Int) := by omega
  have hn0 : ((n : Int) == 0) = false := by rw [beq_eq_false_iff_ne]; omega
  have hn1 : (0 : Int) < (n : Int) := by omega
  have hnz : ¬ ((n : Int) = 0) := by omega
  obtain ⟨m, hm⟩ : ∃ m : Nat, 4080 + r = m := ⟨_, rfl⟩
  have hmi : 4080 + (r : Int) = (m : Int) := by omega
  have hmk2 : ∀ W : World, (Instr.makeSlice 30 (.int .i64 m) (.int .i64 m)).run Try.prog W = .ok (.slice (some ⟨W.heap.size, 0, none⟩) m m) (W.alloc (.cells (madeCells #[.int .u8 0] m) 5)) := fun W => make_bytes m (by omega) W
  have hr100 : (r : Int) ≤ 100000 := by omega
  have hm100 : (m : Int) ≤ 100000 := by omega
  have hm0 : (0 : Int) ≤ (m : Int) := Int.natCast_nonneg _
  have wz1 : wrap64 z = z := wrap64_small z0 (Int.le_trans z1 (by decide))
  have wz2 : IntKind.i64.wrap z = z := i64_small z0 (Int.le_trans z1 (by decide))
  have wr1 : IntKind.i64.wrap (r : Int) = (r : Int) := i64_small r0 hr100
  have wr2 : wrap64 (r : Int) = (r : Int) := wrap64_small r0 hr100
  have wm1 : IntKind.i64.wrap (m : Int) = (m : Int) := i64_small hm0 hm100
  have wm2 : wrap64 (m : Int) = (m : Int) := wrap64_small hm0 hm100
  clear hi hr hm
  go_wp2_with fail
  obtain ⟨⟨g, v, st, hj, -, hcl, hro, hdu⟩, hbl⟩ := S2.out
  have hfo := hj.foot
  have hrc := err_recs (w2.alloc (.cells (madeCells #[.slice none 0 0] n) 30)) n i m (fun k => ¬ Foot q w.heap.size g v k) (fun k hk h => by have := (hfo k h).2.1; simp at hk; omega) w2.heap.size (fun h => by have := (hfo _ h).2.1; omega) HBX.out
  have hj1 := (hj.reX (X' := fun k => k = w2.heap.size) fun k hk e => by omega).next ((Below.refl _ _).alloc (Nat.le_refl _) (.cells (madeCells #[.slice none 0 0] n) 30))
  have hsz1 : (w2.alloc (.cells (madeCells #[.slice none 0 0] n) 30)).heap.size = w2.heap.size + 1 := by simp
  have hb1 : Below w.heap.size w (w2.alloc (.cells (madeCells #[.slice none 0 0] n) 30)) := hbl.alloc hbl.size _
  have hBw := hbl.size
  have hbx1 := HBX.out
  generalize w2.alloc (.cells (madeCells #[.slice none 0 0] n) 30) = W1 at *
  generalize w2.heap.size = B at *
  rw [hsz1] at hrc
  have hj2 : JIs ((W1.setCell ⟨B, i, none⟩ (.slice (some ⟨B + 1, 0, none⟩) m m)).alloc (.cells (madeCells #[.int .u8 0] m) 5)).drew w.heap.size (fun k => k = B) q w.heap.size g st v [] false := (hj1.moved (Moved.setCell W1 B i _) fun k _ e => e).next (((Below.refl _ _).alloc (Nat.le_refl _) _).drew)
  have hb2 : Below w.heap.size w ((W1.setCell ⟨B, i, none⟩ (.slice (some ⟨B + 1, 0, none⟩) m m)).alloc (.cells (madeCells #[.int .u8 0] m) 5)).drew := by
    have h := hb1.setCell (p := ⟨B, i, none⟩) hBw (.slice (some ⟨B + 1, 0, none⟩) m m)
    exact (h.alloc h.size _).drew
  have hXl : ∀ k, k = B → k < ((W1.setCell ⟨B, i, none⟩ (.slice (some ⟨B + 1, 0, none⟩) m m)).alloc (.cells (madeCells #[.int .u8 0] m) 5)).drew.heap.size := fun k e => by
    have h1 := hb2.size
    have h2 : (W1.setCell ⟨B, i, none⟩ (.slice (some ⟨B + 1, 0, none⟩) m m)).heap.size = W1.heap.size := by simp [World.setCell]
    show k < ((W1.setCell ⟨B, i, none⟩ (.slice (some ⟨B + 1, 0, none⟩) m m)).alloc (.cells (madeCells #[.int .u8 0] m) 5)).heap.size
    simp [h2]
    omega
  have JI := Lib.hid hj2
  have RI := Lib.hid hrc
  have HB3 := Lib.hid hb2
  have HXL := Lib.hid hXl
  have HCL := Lib.hid hcl
  have HRO := Lib.hid hro
  have hbx2 := hbx1.next (((Below.refl _ _).alloc (Nat.le_refl _) (.cells (madeCells #[.int .u8 0] m) 5)).drew)
  have fz := hbx2.frozen i
  have cz : (W1.alloc (.cells (madeCells #[.int .u8 0] m) 5)).drew.cell? ⟨B, i, none⟩ = some (.slice none 0 0) := by
    rw [hbx2.cell i, ← Array.getElem?_toList, toList_madeCells_one]
    simp [hin]
  clear hbx1 hbx2 hj hfo hrc hj1 hb1 hj2 hb2 hXl hcl hro hdu hbl S2 S3 HBX
  go_region
  generalize ((W1.setCell ⟨B, i, none⟩ (.slice (some ⟨B + 1, 0, none⟩) m m)).alloc (.cells (madeCells #[.int .u8 0] m) 5)).drew = WF at *
  have hgl := err_long n i m hin
  have hel := err_len n i m
  have heb := err_bytes n i m
  have hef := err_flat n i m
  generalize errB n i m = EB at *
  have HEL := Lib.hid hel
  have HEB := Lib.hid heb
  have hnN : 0 < n := by omega
  clear hmk hmk2 cz fz hel heb
  by_cases h16 : 16 < n
  · have h16i : (16 : Int) < (n : Int) := by omega
    have HM := Lib.hid fun (d : World) => app_many (.pointer (some ⟨q, 0, none⟩)) (some ⟨B, 0, none⟩) n n d h16i
    clear hgl hef
    go_wp2_with fail
    refine (HM.out _).mono ?_
    rintro e w4 ⟨rfl, rfl⟩
    have HCU := Lib.hid (cut_any w.heap.size w.heap.size g st 0 WF JI.out.disk (by omega))
    go_wp2_with fail
    refine HCU.out.mono ?_
    rintro e w5 ⟨rfl, hd5, hm5⟩
    have J5 := Lib.hid (JI.out.onDisk HXL.out (hm5.mono fun k _ e => .inl e) hd5 (gto_same _ _))
    have hre5 := RI.out.moved (N' := (fun k => ¬ Foot q w.heap.size g v k)) hm5 fun b _ hN => ⟨fun e => hN (.inl e), hN⟩
    have HB5 := Lib.hid (HB3.out.trans (hm5.below HB3.out.size fun k e => e ▸ Nat.le_refl _))
    clear hd5 hm5 hre5 HCU
    go_wp2_with fail
    refine (HM.out _).mono ?_
    rintro e w6 ⟨rfl, rfl⟩
    have J6 := J5
    have HB6 := HB5
    go_wp2_with fail
    refine (jawake_any _).mono ?_
    rintro e w7 ⟨rfl, hb7⟩
    have HL := Lib.hid (J6.out.read.next hb7).len
    have HB7 := Lib.hid (HB6.out.trans (hb7.mono HB6.out.size))
    clear hb7
    go_wp2_with fail
    refine HL.out.mono ?_
    rintro e w8 ⟨rfl, rfl⟩
    go_wp2_with fail
    go_ret
    exact ⟨rfl, HB7.out⟩
  have h16i : (n : Int) ≤ 16 := by omega
  by_cases hm4 : 4096 < (m : Int)
  · rw [decide_eq_true hm4] at hgl
    have HM := Lib.hid fun (d : World) (hd : Recs d (some ⟨B, 0, none⟩) EB) => app_long (.pointer (some ⟨q, 0, none⟩)) (some ⟨B, 0, none⟩) n n EB d HEL.out hd (by omega) (by omega) hgl
    clear hgl hef
    go_wp2_with fail
    refine (HM.out _ RI.out.recs).mono ?_
    rintro e w4 ⟨rfl, rfl⟩
    have HCU := Lib.hid (cut_any w.heap.size w.heap.size g st 0 WF JI.out.disk (by omega))
    go_wp2_with fail
    refine HCU.out.mono ?_
    rintro e w5 ⟨rfl, hd5, hm5⟩
    have J5 := Lib.hid (JI.out.onDisk HXL.out (hm5.mono fun k _ e => .inl e) hd5 (gto_same _ _))
    have hre5 := RI.out.moved (N' := (fun k => ¬ Foot q w.heap.size g v k)) hm5 fun b _ hN => ⟨fun e => hN (.inl e), hN⟩
    have HB5 := Lib.hid (HB3.out.trans (hm5.below HB3.out.size fun k e => e ▸ Nat.le_refl _))
    have HR5 := Lib.hid hre5.recs
    clear hd5 hm5 hre5 HCU
    go_wp2_with fail
    refine (HM.out _ HR5.out).mono ?_
    rintro e w6 ⟨rfl, rfl⟩
    have J6 := J5
    have HB6 := HB5
    go_wp2_with fail
    refine (jawake_any _).mono ?_
    rintro e w7 ⟨rfl, hb7⟩
    have HL := Lib.hid (J6.out.read.next hb7).len
    have HB7 := Lib.hid (HB6.out.trans (hb7.mono HB6.out.size))
    clear hb7
    go_wp2_with fail
    refine HL.out.mono ?_
    rintro e w8 ⟨rfl, rfl⟩
    go_wp2_with fail
    go_ret
    exact ⟨rfl, HB7.out⟩
  have hm5i : (m : Int) ≤ 4096 := Int.not_lt.1 hm4
  rw [decide_eq_false hm4] at hgl
  have hgood : Good EB := err_good EB n HEL.out hnN h16i hgl HEB.out
  have HGD := Lib.hid hgood
  have HAP := Lib.hid (append_live WF w.heap.size (fun k => k = B) q w.heap.size g st v [] EB [] (some ⟨B, 0, none⟩) n n JI.out HCL.out HXL.out HEL.out RI.out hgood (by simp) (by rw [HCL.out.bs, HRO.out]; exact err_fits EB n m HEL.out hef hm5i h16i))
  have HFO := Lib.hid fun k hk => JI.out.foot k hk
  have hr17 : ¬ 4096 < 4080 + (r : Int) := by rw [hmi]; exact hm4
  have hr18 : 4080 + (r : Int) ≤ 4096 := Int.not_lt.1 hr17
  have hmN : ¬ 4096 < m := fun h => hm4 (Int.ofNat_lt.2 h)
  have hmd2 : decide (4096 < m) = false := decide_eq_false hmN
  have hmd : decide (4096 < (m : Int)) = false := decide_eq_false hm4
  clear hgl hef hgood ti tn
  go_wp2_with fail
  refine HAP.out.mono ?_
  rintro e w4 ⟨g4, v4, s4, rfl, hj4, hc4, -, -, hm4, hf4⟩
  have J4 := Lib.hid hj4
  have hB4 := HB3.out.trans (hm4.below HB3.out.size fun k hk => (HFO.out k hk).1)
  have HB4 := Lib.hid hB4
  have HX4 : Hid (∀ k, k = B → k < w4.heap.size) := Lib.hid fun k hk => Nat.lt_of_lt_of_le (HXL.out k hk) hm4.size
  have hR4 : RecsN w4 (fun k => ¬ Foot q w.heap.size g4 v4 k) (some ⟨B, 0, none⟩) EB := RI.out.moved hm4 fun b hb hN => ⟨hN, fun e => by rcases hf4 b e with h | h; exact hN h; exact absurd hb (Nat.not_lt.2 h)⟩
  have R4 := Lib.hid hR4
  have HC4 := Lib.hid hc4
  clear hj4 hc4 hm4 hf4 hB4 hR4 HAP HFO JI RI
  have HCU := Lib.hid (cut_any w.heap.size w.heap.size g4 s4 0 w4 J4.out.disk (by decide))
  go_wp2_with fail
  refine HCU.out.mono ?_
  rintro e w5 ⟨rfl, hd5, hm5⟩
  have J5 := Lib.hid (J4.out.onDisk HX4.out (hm5.mono fun k _ e => .inl e) hd5 (gto_same _ _))
  have hre5 := R4.out.moved (N' := (fun k => ¬ Foot q w.heap.size g4 v4 k)) hm5 fun b _ hN => ⟨fun e => hN (.inl e), hN⟩
  have HB5 := Lib.hid (HB4.out.trans (hm5.below HB4.out.size fun k e => e ▸ Nat.le_refl _))
  have happ : appJ (cutF s4 0) ([] ++ EB) EB = (42, begun (cutF s4 0), [] ++ EB, true) := by
    have hcf : cutF s4 0 = { s4 with cut := some 0 } := by
      unfold cutF
      rw [if_pos (by simp [live, HC4.out.cut])]
      rfl
    have ha : appendF (cutF s4 0) (frameF EB) = (42, begun (cutF s4 0)) := by
      unfold appendF
      rw [if_neg (by rw [hcf]; simp [live])]
    unfold appJ
    rw [ha]
    dsimp only
    rw [if_neg (by decide), if_pos (by decide)]
  have hap2 := append_j w5 w.heap.size (fun k => k = B) q w.heap.size g4 (cutF s4 0) v4 ([] ++ EB) EB (some ⟨B, 0, none⟩) n n J5.out (fun k hk => Nat.lt_of_lt_of_le (HX4.out k hk) hm5.size) HEL.out hre5 HEB.out hnN (Int.ofNat_le.1 h16i) HGD.out.2.2.1 (by rw [List.nil_append, HEL.out]; exact Nat.le_trans (Int.ofNat_le.1 h16i) (by decide))
  rw [happ] at hap2
  have HAP2 := Lib.hid hap2
  have HFO5 := Lib.hid fun k hk => J5.out.foot k hk
  clear hd5 hm5 hre5 HCU happ hap2
  go_wp2_with fail
  refine HAP2.out.mono ?_
  rintro e w6 ⟨g6, v6, rfl, hj6, hm6, -⟩
  have J6 := Lib.hid hj6
  have HB6 := Lib.hid (HB5.out.trans (hm6.below HB5.out.size fun k hk => (HFO5.out k hk).1))
  clear hj6 hm6 HAP2 HFO5
  go_wp2_with fail
  refine (jawake_any _).mono ?_
  rintro e w7 ⟨rfl, hb7⟩
  have HL := Lib.hid (J6.out.read.next hb7).len
  have HB7 := Lib.hid (HB6.out.trans (hb7.mono HB6.out.size))
  clear hb7
  go_wp2_with fail
  refine HL.out.mono ?_
  rintro e w8 ⟨rfl, rfl⟩
  rw [show (([] : List (List Int)) ++ EB).length = n from by rw [List.nil_append, HEL.out]]
  go_wp2_with fail
  go_ret
  exact ⟨rfl, HB7.out⟩
end Go.Proofs.Ytkbdbinafjmjkaa
