/-
  DocketMany returns true for every input, and turns nothing that was there.
-/
import Derived.Test.YtpddpdkdlodniaaOLaw1
namespace Go.Proofs.Ytpddpdkdlodniaa
open Go.RowKit

/-- The openings of so many matters. -/
def manyF (k : Nat) : List Fl := (List.range k).map fun i : Nat => ⟨1, 0, (i : Int), 0⟩
theorem manyF_succ (k : Nat) : manyF (k + 1) = manyF k ++ [⟨1, 0, (k : Int), 0⟩] := by simp [manyF, List.range_succ]
theorem manyF_len (k : Nat) : (manyF k).length = k := by simp [manyF]

set_option maxRecDepth 100000 in
set_option maxHeartbeats 2000000 in
theorem docketMany_walk (n : Int) (w : World) (n0 : 0 ≤ n) (n1 : n ≤ 255) :
    Calls Try.prog 11 #[.int .u8 n] w fun e w' => e = .returned (.bool true) ∧ Below w.heap.size w w' := by
  obtain ⟨i0, hi, hz0, hz1, hz2⟩ := info_split Try.infoFiling
  obtain ⟨N, hN⟩ : ∃ N : Nat, 28 + n % 8 = (N : Int) := ⟨(28 + n % 8).toNat, by omega⟩
  have hN1 : (N : Int) < 36 := by omega
  have hN2 : 28 ≤ (N : Int) := by omega
  have hn8 : n % 8 = (N : Int) - 28 := by omega
  have HN := Lib.hid hn8
  clear hN hn8
  go_enter Try.func11, Try.ntmps11
  go_wp2_with fail
  go_loopw [3, 4] (fun v i wr => ∃ k : Nat, k ≤ N ∧ i = .int .i64 k ∧ wr.ownsRow w.heap.size 47 4 v k ((manyF k).flatMap flCells) ∧ Below w.heap.size w wr) (fun _ i _ => N - (intOf i).toNat)
  case atStart => exact ⟨0, Nat.zero_le _, rfl, World.ownsRow_nil _ _ _ _, Below.refl _ _⟩
  case round =>
    obtain ⟨k, hk, rfl, hown, hb⟩ := hrel
    have hsr := hb.size
    have hk0 : (0 : Int) ≤ (k : Int) := Int.natCast_nonneg _
    by_cases hlt : k < N
    · have hk1 : (k : Int) < 28 + n % 8 := by have := HN.out; omega
      have HO := Lib.hid hown
      have HB := Lib.hid hb
      have hk2 : k ≤ 36 := by omega
      clear hown hb
      go_wp2_with (at_builtin
                   refine wpList_append_lies _ rfl (.tmp 22) (.tmp 25) 43 rfl w.heap.size 47 i0 (.agg #[.int .i64 0, .int .i64 0, .int .i64 0, .int .i64 0]) 4 32 Try.underlying43 hi hz0 hz1 hz2 rfl (by decide) _ k _ rfl (HO.out.alloc _) ⟨wr.heap.size, 0, none⟩ 1 1 [.int .i64 1, .int .i64 0, .int .i64 k, .int .i64 0] rfl rfl (World.news_of_block (cs := #[.int .i64 1, .int .i64 0, .int .i64 k, .int .i64 0]) (t := 47) (fr := (0, 0)) (heap_alloc_new wr _)) (by simp [Value.oneCell']) (by omega) (by unfold maxLen; omega) (by omega) (by simp; omega) (wr.heap.size + 1) (by simp) ?_
                   intro gg cap5 w5 hown5 hg5 hat5 hlt5
                   have hb5 : Below w.heap.size w w5 := (HB.out.alloc hsr _).grown hg5 (by simp; omega) (fun j hj => (HO.out.lt j hj).1))
      go_roundw
      case rel =>
        refine ⟨k + 1, hlt, by go_num, ?_, hb5⟩
        rw [manyF_succ, List.flatMap_append]
        exact hown5
      case measure => simp [intOf]; omega
    · obtain rfl : k = N := by omega
      have hk1 : 28 + n % 8 ≤ (k : Int) := by have := HN.out; omega
      obtain ⟨ro, rc, rfl, _⟩ := owns_form hown
      have hF := owns_fls hown
      have hln := manyF_len k
      obtain ⟨fs, hfs⟩ : ∃ fs, manyF k = fs := ⟨_, rfl⟩
      rw [hfs] at hF hln
      clear hfs
      have B0 := Lib.hid hb
      have F0 := Lib.hid hF
      have L0 := Lib.hid hln
      obtain ⟨⟨d, rs, er, c⟩, hr⟩ : ∃ r, playF 0 1 1 [] fs = r := ⟨_, rfl⟩
      have hsh := play_short 0 1 1 [] fs
      rw [hr] at hsh
      have HSH := Lib.hid hsh
      have HR := Lib.hid hr
      clear hown hF hb hln hr hsh hlt hk
      go_upto_region 7 with fail
      obtain ⟨v0, hv0⟩ : ∃ v0, wr.alloc (.cells #[.int .i64 1, .int .i64 1, .slice none 0 0] 27) = v0 := ⟨_, rfl⟩
      rw [hv0]
      have hv : Below wr.heap.size wr v0 := by rw [← hv0]; exact (Below.refl _ _).alloc (Nat.le_refl _) _
      have T0 : Hid (v0.heap[wr.heap.size]? = some (.cells #[.int .i64 1, .int .i64 1, .slice none 0 0] 27 (0, 0))) := Lib.hid (by rw [← hv0]; exact heap_alloc_new wr _)
      have B1 := Lib.hid (B0.out.trans (hv.mono B0.out.size))
      have F1 := Lib.hid (F0.out.next hv)
      obtain ⟨T, hT⟩ : ∃ T, wr.heap.size = T := ⟨_, rfl⟩
      rw [hT] at T0 ⊢
      clear hv hv0 hT
      obtain ⟨x0, x1, x2, -, -, -⟩ := three_cells T0.out
      have HC : Hid (Calls Try.prog 29 #[.int .i64 0, .agg #[.int .i64 1, .int .i64 1, .slice none 0 0], .slice ro k rc] v0 (PlayPost v0.heap.size v0 (d, rs, er, c))) := Lib.hid (by
        have := Play_any 0 1 1 none ro 0 rc [] fs v0 (.inl rfl) F1.out (by rw [L0.out]; omega)
        rw [HR.out, L0.out] at this
        exact this)
      go_wp2_with fail
      refine HC.out.mono ?_
      rintro e u1 ⟨dv, rv, rfl, ⟨r1, c1, m1, k1, rfl, hO1, hO2⟩, hO3, hb1⟩
      go_upto_region 8 with fail
      try dsimp only
      obtain ⟨v1, hv1⟩ : ∃ v1, u1.alloc (dkObj d.day d.ans d.app r1 d.hol.length c1 m1 d.mts.length k1) = v1 := ⟨_, rfl⟩
      rw [hv1]
      have hv : Below u1.heap.size u1 v1 := by rw [← hv1]; exact (Below.refl _ _).alloc (Nat.le_refl _) _
      have hbv : Below v0.heap.size v0 v1 := hb1.trans (hv.mono hb1.size)
      have D1 : Hid (Dv v1 u1.heap.size d r1 c1 m1 k1) := Lib.hid (by rw [← hv1]; exact Dv.made hO1 hO2)
      have B2 := Lib.hid (B1.out.trans (hbv.mono B1.out.size))
      have F2 := Lib.hid (F1.out.next hbv)
      have T1 := Lib.hid (keep_heap hbv T0.out)
      obtain ⟨E1, hE1⟩ : ∃ E, u1.heap.size = E := ⟨_, rfl⟩
      rw [hE1] at D1 ⊢
      clear hv hbv hv1 hE1 hO1 hO2 hO3 hb1 x0 x1 x2 HC
      obtain ⟨x0, x1, x2, -, -, -⟩ := three_cells T1.out
      have HC : Hid (Calls Try.prog 31 #[.int .i64 0, .agg #[.int .i64 1, .int .i64 1, .slice none 0 0], .slice ro k rc] v1 (PlayPost v1.heap.size v1 (d, rs, er, c))) := Lib.hid (by
        have := PlayR_any 0 1 1 none ro 0 rc [] fs v1 (.inl rfl) (fun _ => rfl) F2.out (by rw [L0.out]; omega)
        rw [HR.out, L0.out] at this
        exact this)
      go_wp2_with fail
      refine HC.out.mono ?_
      rintro e u2 ⟨dv, rv2, rfl, ⟨r2, c2, m2, k2, rfl, hO1, hO2⟩, hO3, hb2⟩
      go_upto_region 9 with fail
      try dsimp only
      obtain ⟨v2, hv2⟩ : ∃ v2, u2.alloc (dkObj d.day d.ans d.app r2 d.hol.length c2 m2 d.mts.length k2) = v2 := ⟨_, rfl⟩
      rw [hv2]
      have hv : Below u2.heap.size u2 v2 := by rw [← hv2]; exact (Below.refl _ _).alloc (Nat.le_refl _) _
      have hbv : Below v1.heap.size v1 v2 := hb2.trans (hv.mono hb2.size)
      have D2 : Hid (Dv v2 u2.heap.size d r2 c2 m2 k2) := Lib.hid (by rw [← hv2]; exact Dv.made hO1 hO2)
      replace D1 := Lib.hid (D1.out.next hbv)
      have B3 := Lib.hid (B2.out.trans (hbv.mono B2.out.size))
      obtain ⟨E2, hE2⟩ : ∃ E, u2.heap.size = E := ⟨_, rfl⟩
      rw [hE2] at D2 ⊢
      clear hv hbv hv2 hE2 hO1 hO2 hO3 hb2 x0 x1 x2 HC
      go_wp2_with fail
      refine (oawake_any v2).mono ?_
      rintro e v3 ⟨rfl, hb3⟩
      replace D1 := Lib.hid (D1.out.next hb3)
      replace D2 := Lib.hid (D2.out.next hb3)
      have B4 := Lib.hid (B3.out.trans (hb3.mono B3.out.size))
      obtain ⟨y0, y1, y2, y3, y4⟩ := D1.out.cells
      obtain ⟨z0, z1, z2, z3, z4⟩ := D2.out.cells
      have HC := Lib.hid (sameDocket_any d.day d.ans d.app r1 r2 m1 m2 c1 c2 k1 k2 d.hol d.mts v3 D1.out.hI D2.out.hI D1.out.hM D2.out.hM (Nat.le_trans HSH.out.1.2 (by decide)) (Nat.le_trans HSH.out.1.1 (by decide)))
      clear hb3
      go_wp2_with fail
      refine HC.out.mono ?_
      rintro e v4 ⟨rfl, hb4⟩
      have B5 := Lib.hid (B4.out.trans (hb4.mono B4.out.size))
      clear hb4 HC y0 y1 y2 y3 y4 z0 z1 z2 z3 z4
      go_wp2_with fail
      go_ret
      exact ⟨rfl, B5.out⟩
end Go.Proofs.Ytpddpdkdlodniaa
