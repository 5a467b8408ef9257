/-
  The sanity check of the journal's chapter: true in every world.
-/
import Derived.Test.YtkbdbinafjmjkaaJLive
import Derived.Lib.SlBytesConst
namespace Go.Proofs.Ytkbdbinafjmjkaa
open Go.RowKit

theorem bytN_lit (w : World) (t : TypeId) (l : List Int) (cs : Array Value) (N : Nat → Prop) (h : cs = (bcells l).toArray) (hN : N w.heap.size) : BytN (w.alloc (.cells cs t)) N (some ⟨w.heap.size, 0, none⟩) l :=
  (byt_lit w t (0, 0) l cs h).withN fun b off hb _ => by cases hb; exact hN

set_option maxRecDepth 100000 in
set_option maxHeartbeats 2000000 in
theorem jawake_any (w : World) : Calls Try.prog 33 #[] w fun e w' => e = .returned (.bool true) ∧ Below w.heap.size w w' := by
  have kc := fun (w : World) (C : Array Value) (n c : Nat) => Lib.run_convert_bytes_const (P := Try.prog) w 30 5 C n c Try.underlying30 Try.underlying5
  have hN := Lib.hid (new_any 1000 w (by omega) (by omega))
  go_enter Try.func33, Try.ntmps33
  go_wp2_with fail
  refine hN.out.mono ?_
  rintro e w1 ⟨rfl, hd1, hb1⟩
  have hO := Lib.hid (open_live w.heap.size w.heap.size (fun _ => False) none (newD 1000) w1 [] hd1 (new_clean _) (fun _ h => h.elim) (fun h => h) (fun _ _ h => h))
  have HB1 := Lib.hid hb1
  clear hd1 hb1 hN
  go_wp2_with fail
  refine hO.out.mono ?_
  rintro e w2 ⟨g2, q, v, s2, rfl, hj2, hc2, hr2, -, hm2, hf2⟩
  have hb2 := (HB1.out.trans (hm2.below HB1.out.size (fun k hk => by rcases hk with h | h; exact Nat.le_of_eq h.symm; cases h)))
  have kc2 : (convert 30 30 (.slice (some ⟨w2.heap.size + 1, 0, none⟩) 1 1)).run Try.prog ((w2.alloc (.cells #[.int .u8 97] 5 (1, 2))).alloc (.cells #[.int .u8 98] 5)) = .ok (.slice (some ⟨w2.heap.size + 1, 0, none⟩) 1 1) ((w2.alloc (.cells #[.int .u8 97] 5 (1, 2))).alloc (.cells #[.int .u8 98] 5 (1, 2))) := by
    have := kc (w2.alloc (.cells #[.int .u8 97] 5 (1, 2))) #[.int .u8 98] 1 1
    simpa using this
  have hfresh : ∀ k, w2.heap.size ≤ k → ¬ Foot q w.heap.size g2 v k := fun k hk h => by have := (hj2.foot k h).2.1; omega
  have hb2a : Below w2.heap.size w2 (w2.alloc (.cells #[.int .u8 97] 5 (1, 2))) := (Below.refl _ _).alloc (Nat.le_refl _) _
  have hb2b : Below w2.heap.size w2 ((w2.alloc (.cells #[.int .u8 97] 5 (1, 2))).alloc (.cells #[.int .u8 98] 5 (1, 2))) := hb2a.alloc hb2a.size _
  have hs3 : ((w2.alloc (.cells #[.int .u8 97] 5 (1, 2))).alloc (.cells #[.int .u8 98] 5 (1, 2))).heap.size = w2.heap.size + 1 + 1 := by simp
  have hy1 : BytN ((w2.alloc (.cells #[.int .u8 97] 5 (1, 2))).alloc (.cells #[.int .u8 98] 5 (1, 2))) (fun k => ¬ Foot q w.heap.size g2 v k) (some ⟨w2.heap.size, 0, none⟩) [97] :=
    ((byt_lit w2 5 (1, 2) [97] _ rfl).withN (N := fun k => ¬ Foot q w.heap.size g2 v k) fun b off hb _ => by cases hb; exact hfresh _ (Nat.le_refl _)).moved (Moved.alloc _ _ fun _ => False) fun _ _ h => ⟨fun h => h, h⟩
  have hy2 : BytN ((w2.alloc (.cells #[.int .u8 97] 5 (1, 2))).alloc (.cells #[.int .u8 98] 5 (1, 2))) (fun k => ¬ Foot q w.heap.size g2 v k) (some ⟨w2.heap.size + 1, 0, none⟩) [98] := by
    have := (byt_lit (w2.alloc (.cells #[.int .u8 97] 5 (1, 2))) 5 (1, 2) [98] #[.int .u8 98] rfl).withN (N := fun k => ¬ Foot q w.heap.size g2 v k) (fun b off hb _ => by cases hb; exact hfresh _ (by simp))
    simpa using this
  have hrec := recsN_two ((w2.alloc (.cells #[.int .u8 97] 5 (1, 2))).alloc (.cells #[.int .u8 98] 5 (1, 2))) 30 (some ⟨w2.heap.size, 0, none⟩) (some ⟨w2.heap.size + 1, 0, none⟩) 1 1 [97] [98] _ hy1 hy2 (by rw [hs3]; exact hfresh _ (by omega))
  rw [hs3] at hrec
  have hb2c : Below w2.heap.size w2 (((w2.alloc (.cells #[.int .u8 97] 5 (1, 2))).alloc (.cells #[.int .u8 98] 5 (1, 2))).alloc (.cells #[.slice (some ⟨w2.heap.size, 0, none⟩) 1 1, .slice (some ⟨w2.heap.size + 1, 0, none⟩) 1 1] 30)) := hb2b.alloc hb2b.size _
  have hgood : Good [[97], [98]] := ⟨by decide, by decide, by decide, fun r hr x hx => by
    simp at hr
    rcases hr with rfl | rfl <;> simp at hx <;> omega⟩
  have hA := append_live _ w.heap.size (fun _ => False) q w.heap.size g2 s2 v [] [[97], [98]] [] (some ⟨w2.heap.size + 1 + 1, 0, none⟩) 2 2 (hj2.next hb2c) hc2 (fun _ h => h.elim) rfl hrec hgood (by simp) (by rw [hr2, hc2.bs, show (frameF [[97], [98]]).length = 15 by rw [frame_len]; decide]; decide)
  have HA := Lib.hid hA
  have HB2c := Lib.hid (hb2.trans (hb2c.mono hb2.size))
  have HF2 := Lib.hid fun k hk => (hj2.foot k hk).1
  clear hj2 hc2 hr2 hm2 hf2 hO HB1 hA hrec hy1 hy2 hb2a hb2b hb2c hs3 hgood hfresh hb2
  go_wp2_with fail
  refine HA.out.mono ?_
  rintro e w3 ⟨g3, v3, s3, rfl, hj3, hc3, hr3, hd3, hm3, hf3⟩
  have HB3 := Lib.hid (HB2c.out.trans (hm3.below HB2c.out.size HF2.out))
  have hk3 := hj3.disk.ok
  obtain ⟨hc4, hr4, hd4⟩ := crash_clean hc3 hk3 hd3 0 0
  have HCR := Lib.hid (crash_any w.heap.size w.heap.size g3 s3 0 0 w3 hj3.disk)
  have HC4 := Lib.hid hc4
  clear hj3 hc3 hr3 hd3 hm3 hf3 hk3 hc4 hr4 hd4 HA HB2c HF2
  go_wp2_with fail
  refine HCR.out.mono ?_
  rintro e w4 ⟨p4, g4, rfl, hd5, hb5⟩
  have HO := Lib.hid (open_live w3.heap.size p4 (fun _ => False) g4 _ w4 _ hd5 HC4.out (fun _ h => h.elim) (fun h => h) (fun _ _ h => h))
  have HB4 := Lib.hid (HB3.out.trans (hb5.mono HB3.out.size))
  have HLO : Hid (∀ k, k = p4 ∨ g4 = some k → w.heap.size ≤ k) := Lib.hid fun k hk => by
    have h9 := HB3.out.size
    rcases hk with h | h
    · have := hd5.lt.1; omega
    · have := (hd5.row k h).1; omega
  clear hd5 hb5 HCR HC4 HB3
  go_wp2_with fail
  refine HO.out.mono ?_
  rintro e w5 ⟨g5, q5, v5, s5, rfl, hj5, -, -, -, hm5, -⟩
  have HB5 := Lib.hid (HB4.out.trans (hm5.below HB4.out.size HLO.out))
  obtain ⟨ao5, c5, hv5, -⟩ := hj5.row.recs
  have hbx := hj5.box
  rw [hv5] at hbx
  have HL := Lib.hid (len_box q5 _ ao5 _ c5 _ w5 hbx)
  clear hj5 hm5 hv5 hbx HO HLO HB4
  go_wp2_with fail
  refine HL.out.mono ?_
  rintro e w6 ⟨rfl, rfl⟩
  go_wp2_with fail
  go_ret
  exact ⟨rfl, HB5.out⟩
end Go.Proofs.Ytkbdbinafjmjkaa
