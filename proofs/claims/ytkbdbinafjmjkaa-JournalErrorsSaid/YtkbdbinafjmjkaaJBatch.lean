/-
  Contract: the records of one call that the laws build.
-/
import Derived.Test.YtkbdbinafjmjkaaJHolds
namespace Go.Proofs.Ytkbdbinafjmjkaa
open Go.RowKit

def rowB (c : Int) (i m : Nat) : List Int := (List.range m).map fun k => (c + (i * k : Nat)) % 256
def batchB (a b c : Int) : List (List Int) := (List.range (a % 4).toNat).map fun i => rowB c i (b % 30).toNat
/-- A row of which the first k bytes are written. -/
def rowK (c : Int) (i m k : Nat) : List Int := (List.range m).map fun j => if j < k then (c + (i * j : Nat)) % 256 else 0

theorem rowK_len (c : Int) (i m k : Nat) : (rowK c i m k).length = m := by simp [rowK]
theorem rowK_zero (c : Int) (i m : Nat) : rowK c i m 0 = List.replicate m 0 := by
  apply List.ext_getElem
  · simp [rowK]
  · intro j h1 h2; simp [rowK]
theorem rowK_all (c : Int) (i m : Nat) : rowK c i m m = rowB c i m := by
  apply List.ext_getElem
  · simp [rowK, rowB]
  · intro j h1 h2
    simp only [rowK, List.length_map, List.length_range] at h1
    simp [rowK, rowB, h1]
theorem rowK_set (c : Int) (i m k : Nat) : (bcells (rowK c i m k)).set k (.int .u8 ((c + (i * k : Nat)) % 256)) = bcells (rowK c i m (k + 1)) := by
  apply List.ext_getElem
  · simp [rowK, bcells]
  · intro j h1 h2
    rw [List.getElem_set]
    by_cases hj : k = j
    · subst hj
      simp [rowK, bcells]
    · rw [if_neg hj]
      simp only [rowK, bcells, List.getElem_map, List.getElem_range]
      by_cases hjk : j < k
      · rw [if_pos hjk, if_pos (by omega)]
      · rw [if_neg hjk, if_neg (by omega)]
theorem batch_len (a b c : Int) : (batchB a b c).length = (a % 4).toNat := by simp [batchB]
theorem batch_le (a b c : Int) : (batchB a b c).length ≤ 3 := by rw [batch_len]; omega
theorem batch_row (a b c : Int) (r : List Int) (h : r ∈ batchB a b c) : Bytes r ∧ r.length ≤ 29 := by
  unfold batchB at h
  obtain ⟨i, _, rfl⟩ := List.mem_map.1 h
  refine ⟨fun x hx => ?_, ?_⟩
  · unfold rowB at hx
    obtain ⟨k, _, rfl⟩ := List.mem_map.1 hx
    omega
  · simp [rowB]; omega
theorem batch_take (a b c : Int) (i : Nat) (h : i < (a % 4).toNat) : (batchB a b c).take (i + 1) = (batchB a b c).take i ++ [rowB c i (b % 30).toNat] := by
  rw [List.take_succ_eq_append_getElem (by rw [batch_len]; exact h)]
  simp [batchB]

set_option maxRecDepth 100000 in
set_option maxHeartbeats 4000000 in
theorem batch_any (a b c : Int) (w : World) (a0 : 0 ≤ a) (b0 : 0 ≤ b) :
    Calls Try.prog 29 #[.agg #[.int .u8 a, .int .u8 b, .int .u8 c]] w fun e w' => ∃ v, e = .returned v ∧ RowN w' w.heap.size (fun k => w.heap.size ≤ k) v (batchB a b c) ∧ Below w.heap.size w w' := by
  obtain ⟨i0, hi, hz0, hz1, hz2⟩ := info_parts Try.infoBytes
  obtain ⟨na, hna⟩ : ∃ na : Nat, a % 4 = na := ⟨(a % 4).toNat, by omega⟩
  obtain ⟨nb, hnb⟩ : ∃ nb : Nat, b % 30 = nb := ⟨(b % 30).toNat, by omega⟩
  have ta : a.tmod 4 = (na : Int) := by rw [Int.tmod_eq_emod_of_nonneg a0]; exact hna
  have tb : b.tmod 30 = (nb : Int) := by rw [Int.tmod_eq_emod_of_nonneg b0]; exact hnb
  have na1 : (na : Int) < 4 := by omega
  have nb1 : (nb : Int) < 30 := by omega
  have HBT := Lib.hid (batch_take a b c)
  have HBL := Lib.hid (batch_len a b c)
  rw [hna, hnb, Int.toNat_natCast, Int.toNat_natCast] at HBT
  rw [hna, Int.toNat_natCast] at HBL
  generalize batchB a b c = RR at HBT HBL ⊢
  have hbx : Box (w.alloc (.cells #[.int .u8 a, .int .u8 b, .int .u8 c] 29)) w.heap.size 29 #[.int .u8 a, .int .u8 b, .int .u8 c] := Box.new _ _ _
  have hs0 : (w.alloc (.cells #[.int .u8 a, .int .u8 b, .int .u8 c] 29)).heap.size = w.heap.size + 1 := by simp
  have hw0 : Below w.heap.size w (w.alloc (.cells #[.int .u8 a, .int .u8 b, .int .u8 c] 29)) := (Below.refl _ _).alloc (Nat.le_refl _) _
  clear hna hnb
  go_enter Try.func29, Try.ntmps29
  go_wp2_with fail
  generalize w.alloc (.cells #[.int .u8 a, .int .u8 b, .int .u8 c] 29) = W0 at *
  have HBX := Lib.hid hbx
  have HW0 := Lib.hid hw0
  have HS0 := Lib.hid hs0
  clear hbx hw0 hs0
  go_loopw [3, 4] (fun v i wr => ∃ (k : Nat), k ≤ na ∧ i = .int .i64 k ∧ RowN wr W0.heap.size (fun j => W0.heap.size ≤ j) v (RR.take k) ∧ Below W0.heap.size W0 wr) (fun _ i _ => na - (intOf i).toNat)
  case atStart => exact ⟨0, Nat.zero_le _, rfl, by rw [List.take_zero]; exact RowN.nil _ _ _, Below.refl _ _⟩
  case round =>
    obtain ⟨k, hk, rfl, hrn, hb⟩ := hrel
    have hsr := hb.size
    have x0 : wr.cell? ⟨w.heap.size, 0, none⟩ = some (.int .u8 a) := (HBX.out.below hb (HBX.out.lt)).cell 0
    have x1 : wr.cell? ⟨w.heap.size, 1, none⟩ = some (.int .u8 b) := (HBX.out.below hb (HBX.out.lt)).cell 1
    have HB := Lib.hid hb
    have HR := Lib.hid hrn
    have hk0 : (0 : Int) ≤ (k : Int) := Int.natCast_nonneg _
    clear hb hrn
    by_cases hlt : k < na
    · have hki : (k : Int) < (na : Int) := by omega
      have hmk : ∀ W : World, (Instr.makeSlice 30 (.int .i64 nb) (.int .i64 nb)).run Try.prog W = .ok (.slice (some ⟨W.heap.size, 0, none⟩) nb nb) (W.alloc (.cells (madeCells #[.int .u8 0] nb) 5)) := fun W => make_bytes nb (by omega) W
      have hmc : (madeCells #[.int .u8 0] nb).toList = bcells (rowK c k nb 0) := by
        rw [rowK_zero, toList_madeCells_one]
        simp [bcells]
      have hown1 : (wr.alloc (.cells (madeCells #[.int .u8 0] nb) 5)).ownsRow wr.heap.size 5 1 (.slice (some ⟨wr.heap.size, 0, none⟩) nb nb) nb (bcells (rowK c k nb 0)) :=
        ⟨by simp [bcells, rowK_len], .inr ⟨wr.heap.size, nb, madeCells #[.int .u8 0] nb, rfl, Nat.le_refl _, heap_alloc_new wr _, Nat.le_refl _, by unfold maxLen; omega, by have := congrArg List.length hmc; simp [bcells, rowK_len] at this; simpa using this, by rw [hmc, List.take_of_length_le]; simp [bcells, rowK_len]⟩⟩
      have HO1 := Lib.hid hown1
      have ha1 : Below wr.heap.size wr (wr.alloc (.cells (madeCells #[.int .u8 0] nb) 5)) := (Below.refl _ _).alloc (Nat.le_refl _) _
      have HA1 := Lib.hid ha1
      clear hmc hown1 ha1
      go_wp2_with fail
      generalize wr.alloc (.cells (madeCells #[.int .u8 0] nb) 5) = W1 at *
      obtain ⟨wo, hwo⟩ : ∃ wo : World, wo = wr := ⟨_, rfl⟩
      rw [← hwo] at HO1 HA1 HB HR hsr x0 x1
      rw [← hwo]
      clear hwo hmk wr
      go_loopw [22] (fun i wr => ∃ j : Nat, j ≤ nb ∧ i = .int .i64 j ∧ wr.ownsRow wo.heap.size 5 1 (.slice (some ⟨wo.heap.size, 0, none⟩) nb nb) nb (bcells (rowK c k nb j)) ∧ Below wo.heap.size wo wr) (fun i _ => nb - (intOf i).toNat)
      case atStart => exact ⟨0, Nat.zero_le _, rfl, HO1.out, HA1.out⟩
      case round =>
        obtain ⟨j, hj, rfl, hown, hb2⟩ := hrel
        have hbw : Below W0.heap.size W0 wr := HB.out.trans (hb2.mono hsr)
        by_cases hjl : j < nb
        · have hji : (j : Int) < (nb : Int) := by omega
          have hj0 : (0 : Int) ≤ (j : Int) := Int.natCast_nonneg _
          have x2 : wr.cell? ⟨w.heap.size, 2, none⟩ = some (.int .u8 c) := (HBX.out.below hbw (HBX.out.lt)).cell 2
          obtain ⟨z, hz⟩ : ∃ z, (bcells (rowK c k nb j))[j]? = some z := by
            have h : j < (bcells (rowK c k nb j)).length := by simp [bcells, rowK_len]; omega
            exact ⟨_, List.getElem?_eq_getElem h⟩
          have r0 := hown.cellAt j (by omega)
          rw [hz] at r0
          have r1 := hown.frozenAt j
          have hkj : k * j ≤ 3 * 29 := Nat.mul_le_mul (by omega) (by omega)
          obtain ⟨y, hy⟩ : ∃ y : Nat, k * j = y := ⟨_, rfl⟩
          rw [hy] at hkj
          have m1 : (k : Int) * (j : Int) = (y : Int) := by rw [← hy]; simp
          have m2 : IntKind.i64.wrap (y : Int) = (y : Int) := IntWalk.i64_in _ ⟨by omega, by omega⟩
          have m3 : IntKind.u8.wrap (y : Int) = (y : Int) := by rw [IntKind.wrap_u8]; omega
          have m4 : IntKind.u8.wrap (c + (y : Int)) = (c + (y : Int)) % 256 := IntKind.wrap_u8 _
          obtain ⟨hst, hgr⟩ := hown.stored j (.int .u8 ((c + (y : Int)) % 256))
          have hset := rowK_set c k nb j
          rw [hy] at hset
          rw [hset] at hst
          have HST := Lib.hid hst
          have HB3 := Lib.hid (hb2.setCell (p := ⟨wo.heap.size, j, none⟩) (Nat.le_refl _) (.int .u8 ((c + (y : Int)) % 256)))
          have y1 : (y : Int) ≤ 87 := by omega
          have y0 : (0 : Int) ≤ (y : Int) := Int.natCast_nonneg _
          clear hown hb2 hbw hst hgr hset hz hy hkj
          go_wp2_with fail
          go_roundw
          case rel => exact ⟨j + 1, hjl, by go_num, HST.out, HB3.out⟩
          case measure => simp [intOf]; omega
        · obtain rfl : j = nb := by omega
          rw [rowK_all] at hown
          have hrl : (rowB c k j).length = j := by simp [rowB]
          have hvlt : ∀ i, u3.ownBlock = some i → i < wo.heap.size := by
            obtain ⟨_, h10, _, _⟩ := HR.out
            exact fun i hi => (h10.lt i hi).2
          obtain ⟨vs, h1, h2, h3⟩ := HR.out.next hb2
          have htl : (RR.take k).length = k := by rw [List.length_take, HBL.out]; omega
          have htk := HBT.out k hlt
          generalize RR.take k = RK at h1 h3 htl htk
          have hbn : BytN wr (fun i => W0.heap.size ≤ i ∧ u3.ownBlock ≠ some i) (some ⟨wo.heap.size, 0, none⟩) (rowB c k j) := byt_cloned (g := some wo.heap.size) hown hrl _ (fun b hbb => ⟨Nat.le_trans hsr hbb, fun e => by have := hvlt b e; omega⟩)
          rw [htl] at h1
          generalize rowB c k j = r at hbn hrl htk
          have H1 := Lib.hid h1
          have H2 := Lib.hid h2
          have H3 := Lib.hid h3
          have HBN := Lib.hid hbn
          have HTL := Lib.hid htl
          have HTK := Lib.hid htk
          have HRL := Lib.hid hrl
          have HBW := Lib.hid hbw
          have hsw : W0.heap.size ≤ wr.heap.size := hbw.size
          have hks : (k : Int) ≤ 4 := by omega
          clear h1 h2 h3 hbn htl htk hrl hown hb2 hbw hvlt HO1 HA1 HBT
          go_wp2_with (at_builtin
                       refine wpList_append_lies _ rfl (.tmp 36) (.tmp 38) 55 rfl W0.heap.size 30 i0 (.slice none 0 0) 1 24 Try.underlying55 hi hz0 hz1 hz2 rfl (by decide) _ k _ rfl (H1.out.alloc _) ⟨wr.heap.size, 0, none⟩ 1 1 [.slice (some ⟨wo.heap.size, 0, none⟩) j j] rfl rfl (World.news_of_block (cs := #[.slice (some ⟨wo.heap.size, 0, none⟩) j j]) (t := 30) (fr := (0, 0)) (heap_alloc_new wr _)) (by simp [Value.oneCell']) (by omega) (by unfold maxLen; omega) (by omega) (by simp; omega) (wr.heap.size + 1) (by simp) ?_
                       intro gg cap6 w6 hown6 hg6 hat6 hlt6)
          go_roundw
          case rel =>
            have hp := RowN.pushed (N' := fun i => W0.heap.size ≤ i) (r := r) HTL.out H1.out H2.out H3.out HBN.out (by rw [HRL.out]; exact hown6) hg6 hat6 (fun b h => h) (fun b h => Nat.le_trans hsw h)
            refine ⟨k + 1, hlt, by go_num, ?_, (HBW.out.alloc hsw _).grown hg6 (by simp; omega) (fun i hi => (H1.out.lt i hi).1)⟩
            rw [HTK.out]
            exact hp
          case measure => simp [intOf]; omega
    · obtain rfl : k = na := by omega
      rw [List.take_of_length_le (by rw [HBL.out]; exact Nat.le_refl _)] at HR
      clear hlt
      go_wp2_with fail
      go_ret
      exact ⟨_, rfl, (HR.out.base HW0.out.size).mono fun j _ hj => Nat.le_trans HW0.out.size hj, HW0.out.trans (HB.out.mono HW0.out.size)⟩
end Go.Proofs.Ytkbdbinafjmjkaa
