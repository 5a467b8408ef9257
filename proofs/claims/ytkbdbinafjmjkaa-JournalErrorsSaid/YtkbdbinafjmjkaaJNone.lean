/-
  The law on nil and zero journals, walked.
-/
import Derived.Test.YtkbdbinafjmjkaaJAwake
namespace Go.Proofs.Ytkbdbinafjmjkaa
open Go.RowKit

theorem open_nil (w : World) : Calls Try.prog 28 #[.pointer none] w fun e w' => e = .returned (.tuple #[.pointer none, .int .i64 21]) ∧ w = w' := by
  go_enter Try.func28, Try.ntmps28
  go_wp2_with fail
  go_ret2
  exact ⟨rfl, rfl⟩

/-- A journal that is nil or zero. -/
def NoJ (w : World) (jv : Value) : Prop := jv = .pointer none ∨ ∃ q v dead, jv = .pointer (some ⟨q, 0, none⟩) ∧ v = .slice none 0 0 ∧ Box w q 64 #[.pointer none, v, .bool dead]
theorem NoJ.next {w w' : World} {jv : Value} (h : NoJ w jv) (hb : Below w.heap.size w w') : NoJ w' jv := by
  rcases h with h | ⟨q, v, dead, h1, h2, h3⟩
  · exact .inl h
  · exact .inr ⟨q, v, dead, h1, h2, h3.next hb⟩
theorem NoJ.dead {w : World} {jv : Value} (h : NoJ w jv) : Calls Try.prog 32 #[jv] w fun e w' => e = .returned (.bool true) ∧ w = w' := by
  rcases h with rfl | ⟨q, v, dead, rfl, _, h3⟩
  · exact dead_nil w
  · exact dead_zero q v dead w h3
theorem NoJ.len {w : World} {jv : Value} (h : NoJ w jv) : Calls Try.prog 34 #[jv] w fun e w' => e = .returned (.int .i64 0) ∧ w = w' := by
  rcases h with rfl | ⟨q, v, dead, rfl, rfl, h3⟩
  · exact len_nil w
  · exact len_box q _ none 0 0 _ w h3

theorem recs_one (w : World) (t : TypeId) (so : Option Addr) (sc : Nat) (s : List Int) (hs : Byt w so s) : Recs (w.alloc (.cells #[.slice so s.length sc] t)) (some ⟨w.heap.size, 0, none⟩) [s] := by
  have hn : Below w.heap.size w (w.alloc (.cells #[.slice so s.length sc] t)) := (Below.refl _ _).alloc (Nat.le_refl _) _
  refine .inr ⟨w.heap.size, 0, rfl, by simp, fun i hi => ?_⟩
  match i, hi with
  | 0, _ => exact ⟨so, sc, by rw [cell_of_row _ _ _ _ _ _ (heap_alloc_new w _)]; rfl, hs.next hn⟩

theorem none_long (ao : Option Addr) (n cap : Nat) (k : Int) (w : World) (hl : 40 < n) :
    Calls Try.prog 10 #[.slice ao n cap, .int .i64 k] w fun e w' => e = .returned (.bool true) ∧ Below w.heap.size w w' := by
  have HAW := Lib.hid fun (d : World) => jawake_any d
  have h40i : 40 < (n : Int) := by omega
  go_enter Try.func10, Try.ntmps10
  go_wp2_with fail
  refine (HAW.out w).mono ?_
  rintro e w2 ⟨rfl, hb2⟩
  go_wp2_with fail
  go_ret
  exact ⟨rfl, hb2⟩

set_option maxRecDepth 100000 in
set_option maxHeartbeats 4000000 in
theorem none_body (ao : Option Addr) (n cap : Nat) (bs : List Int) (k : Int) (w : World) (hn : bs.length = n) (hB : Byt w ao bs) (hl : n ≤ 40) :
    Calls Try.prog 10 #[.slice ao n cap, .int .i64 k] w fun e w' => e = .returned (.bool true) ∧ Below w.heap.size w w' := by
  subst hn
  have HAW := Lib.hid fun (d : World) => jawake_any d
  have h40i : (bs.length : Int) ≤ 40 := by omega
  have HB := Lib.hid hB
  have HON := Lib.hid (open_nil w)
  clear hB
  go_enter Try.func10, Try.ntmps10
  go_wp2_with fail
  refine HON.out.mono ?_
  rintro e w2 ⟨rfl, rfl⟩
  have hmk : ∀ W : World, (Instr.makeSlice 30 (.int .i64 4097) (.int .i64 4097)).run Try.prog W = .ok (.slice (some ⟨W.heap.size, 0, none⟩) 4097 4097) (W.alloc (.cells (madeCells #[.int .u8 0] 4097) 5)) := fun W => make_bytes 4097 (by omega) W
  have hmy : ∀ W : World, Byt (W.alloc (.cells (madeCells #[.int .u8 0] 4097) 5)) (some ⟨W.heap.size, 0, none⟩) (List.replicate 4097 0) := fun W => byt_made W 5 4097
  generalize madeCells #[.int .u8 0] 4097 = MC at hmk hmy
  obtain ⟨Z, hZ⟩ : ∃ Z : List Int, List.replicate 4097 0 = Z := ⟨_, rfl⟩
  have hZl : Z.length = 4097 := by rw [← hZ, List.length_replicate]
  simp only [hZ] at hmy
  have HMY := Lib.hid hmy
  have HZL := Lib.hid hZl
  clear hmy hZ hZl
  have hbx : Box (w.alloc (.cells #[.pointer none, .slice none 0 0, .bool false] 64)) w.heap.size 64 #[.pointer none, .slice none 0 0, .bool false] := Box.new _ _ _
  have hw1 : Below w.heap.size w (w.alloc (.cells #[.pointer none, .slice none 0 0, .bool false] 64)) := (Below.refl _ _).alloc (Nat.le_refl _) _
  have hw2 : Below w.heap.size w ((w.alloc (.cells #[.pointer none, .slice none 0 0, .bool false] 64)).alloc (.cells #[.pointer none, .pointer (some ⟨w.heap.size, 0, none⟩)] 52)) := hw1.alloc hw1.size _
  have hbx2 := hbx.next ((Below.refl _ _).alloc (Nat.le_refl _) (.cells #[.pointer none, .pointer (some ⟨w.heap.size, 0, none⟩)] 52))
  have hcs : Box ((w.alloc (.cells #[.pointer none, .slice none 0 0, .bool false] 64)).alloc (.cells #[.pointer none, .pointer (some ⟨w.heap.size, 0, none⟩)] 52)) (w.alloc (.cells #[.pointer none, .slice none 0 0, .bool false] 64)).heap.size 52 #[.pointer none, .pointer (some ⟨w.heap.size, 0, none⟩)] := Box.new _ _ _
  rw [show (w.alloc (.cells #[.pointer none, .slice none 0 0, .bool false] 64)).heap.size = w.heap.size + 1 by simp] at hcs
  go_wp2_with fail
  generalize (w.alloc (.cells #[.pointer none, .slice none 0 0, .bool false] 64)).alloc (.cells #[.pointer none, .pointer (some ⟨w.heap.size, 0, none⟩)] 52) = W0 at *
  have HW0 := Lib.hid hw2
  have HBX := Lib.hid hbx2
  have HCS := Lib.hid hcs
  clear hbx hw1 hw2 hbx2 hcs HON
  go_loopw [27] (fun i wr => ∃ k : Nat, k ≤ 2 ∧ i = .int .i64 k ∧ Below W0.heap.size W0 wr) (fun i _ => 2 - (intOf i).toNat)
  case atStart => exact ⟨0, by omega, rfl, Below.refl _ _⟩
  case round =>
    obtain ⟨j, hj, rfl, hb⟩ := hrel
    have HBR := Lib.hid hb
    clear hb
    by_cases hlt : j < 2
    · have hji : (j : Int) < 2 := by omega
      have hj0 : (0 : Int) ≤ (j : Int) := Int.natCast_nonneg _
      obtain ⟨jv, hc, hno⟩ : ∃ jv, wr.cell? ⟨w.heap.size + 1, j, none⟩ = some jv ∧ NoJ wr jv := by
        have h1 := (HCS.out.below HBR.out (HCS.out.lt)).cell j
        have h2 := HBX.out.below HBR.out (HBX.out.lt)
        have : j = 0 ∨ j = 1 := by omega
        rcases this with rfl | rfl
        · exact ⟨_, h1, .inl rfl⟩
        · exact ⟨_, h1, .inr ⟨_, _, _, rfl, rfl, h2⟩⟩
      have HNO := Lib.hid hno
      have HRE := Lib.hid (record_none jv k 0 wr (by omega) (Lib.hid hno.len))
      have hbw : Below w.heap.size w wr := HW0.out.trans (HBR.out.mono HW0.out.size)
      have hy := HB.out.next hbw
      have ha1 : Below wr.heap.size wr (wr.alloc (.cells #[.slice ao bs.length cap] 30)) := (Below.refl _ _).alloc (Nat.le_refl _) _
      have hR1 := recs_one wr 30 ao cap bs hy
      have HA1 := Lib.hid (app_dead jv (some ⟨wr.heap.size, 0, none⟩) 1 1 [bs] _ rfl hR1 (by omega) (by omega) (by simp [longF]; omega) (Lib.hid (hno.next ha1).dead))
      have HA2 := Lib.hid (app_empty jv none 0 (wr.alloc (.cells #[.slice ao bs.length cap] 30)))
      have ha2 : Below wr.heap.size wr ((wr.alloc (.cells #[.slice ao bs.length cap] 30)).alloc (.cells MC 5)) := ha1.alloc ha1.size _
      have hR3 := recs_one ((wr.alloc (.cells #[.slice ao bs.length cap] 30)).alloc (.cells MC 5)) 30 _ 4097 Z (HMY.out (wr.alloc (.cells #[.slice ao bs.length cap] 30)))
      rw [show ((wr.alloc (.cells #[.slice ao bs.length cap] 30)).alloc (.cells MC 5)).heap.size = wr.heap.size + 1 + 1 by simp, show (wr.alloc (.cells #[.slice ao bs.length cap] 30)).heap.size = wr.heap.size + 1 by simp, HZL.out] at hR3
      have HA3 := Lib.hid (app_long jv (some ⟨wr.heap.size + 1 + 1, 0, none⟩) 1 1 [Z] _ rfl hR3 (by omega) (by omega) (by simp [longF, HZL.out]))
      have ha3 : Below wr.heap.size wr (((wr.alloc (.cells #[.slice ao bs.length cap] 30)).alloc (.cells MC 5)).alloc (.cells #[.slice (some ⟨wr.heap.size + 1, 0, none⟩) 4097 4097] 30)) := ha2.alloc ha2.size _
      have HLE := Lib.hid (hno.next ha3).len
      have HDE := Lib.hid (hno.next ha3).dead
      have HBF := Lib.hid (HBR.out.trans (ha3.mono HBR.out.size))
      clear hno hbw hy ha1 hR1 ha2 hR3 ha3
      go_wp2_with fail
      refine HRE.out.mono ?_
      rintro e w3 ⟨rfl, rfl⟩
      go_wp2_with fail
      refine HA1.out.mono ?_
      rintro e w4 ⟨rfl, rfl⟩
      go_wp2_with fail
      refine HA2.out.mono ?_
      rintro e w4 ⟨rfl, rfl⟩
      go_wp2_with fail
      refine HA3.out.mono ?_
      rintro e w4 ⟨rfl, rfl⟩
      go_wp2_with fail
      refine HLE.out.mono ?_
      rintro e w4 ⟨rfl, rfl⟩
      go_wp2_with fail
      refine HDE.out.mono ?_
      rintro e w4 ⟨rfl, rfl⟩
      go_wp2_with fail
      go_roundw
      case rel => exact ⟨j + 1, by omega, by go_num, HBF.out⟩
      case measure => simp [intOf]; omega
    · obtain rfl : j = 2 := by omega
      go_wp2_with fail
      refine (HAW.out wr).mono ?_
      rintro e w2 ⟨rfl, hb2⟩
      have hbw : Below w.heap.size w wr := HW0.out.trans (HBR.out.mono HW0.out.size)
      go_wp2_with fail
      go_ret
      exact ⟨rfl, hbw.trans (hb2.mono hbw.size)⟩
end Go.Proofs.Ytkbdbinafjmjkaa
