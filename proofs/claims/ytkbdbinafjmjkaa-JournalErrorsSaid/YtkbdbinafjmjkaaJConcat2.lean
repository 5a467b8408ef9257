/-
  Contract: the library's Concat at bytes.
-/
import Derived.Test.YtkbdbinafjmjkaaJConcat
namespace Go.Proofs.Ytkbdbinafjmjkaa
open Go.RowKit

/-- A slice of slices of bytes. -/
def Recs (w : World) (ao : Option Addr) (rs : List (List Int)) : Prop := rs = [] ∨ ∃ b off, ao = some ⟨b, off, none⟩ ∧ b < w.heap.size ∧ ∀ i, i < rs.length → ∃ po pc, w.cell? ⟨b, off + i, none⟩ = some (.slice po (rs.getD i []).length pc) ∧ Byt w po (rs.getD i [])
theorem Recs.next {w w' : World} {ao : Option Addr} {rs : List (List Int)} (h : Recs w ao rs) (hb : Below w.heap.size w w') : Recs w' ao rs := by
  rcases h with h | ⟨b, off, rfl, hlt, hc⟩
  · exact .inl h
  · refine .inr ⟨b, off, rfl, Nat.lt_of_lt_of_le hlt hb.size, fun i hi => ?_⟩
    obtain ⟨po, pc, h1, h2⟩ := hc i hi
    exact ⟨po, pc, (hb.cell (p := ⟨b, off + i, none⟩) hlt).trans h1, h2.next hb⟩

theorem flat_take (rs : List (List Int)) (k : Nat) (h : k < rs.length) : (rs.take (k + 1)).flatten = (rs.take k).flatten ++ rs.getD k [] := by
  rw [List.take_succ_eq_append_getElem h, List.flatten_append]
  simp [List.getD, h]
theorem flat_le (rs : List (List Int)) (k : Nat) : (rs.take k).flatten.length ≤ rs.flatten.length := by
  have := congrArg (fun l : List (List Int) => l.flatten.length) (List.take_append_drop k rs)
  simp only [List.flatten_append, List.length_append] at this
  omega

set_option maxRecDepth 100000 in
set_option maxHeartbeats 1000000 in
theorem concat_any (ao : Option Addr) (cap n : Nat) (rs : List (List Int)) (w : World) (hn : rs.length = n) (hR : Recs w ao rs) (hl : rs.flatten.length ≤ 1000000) (hl2 : n ≤ 1000000) :
    Calls Try.prog 54 #[.slice ao n cap] w fun e w' => ∃ go gc, e = .returned (.slice go rs.flatten.length gc) ∧ Byt w' go rs.flatten ∧ (∀ k o, go = some ⟨k, o, none⟩ → w.heap.size ≤ k) ∧ Below w.heap.size w w' := by
  subst hn
  obtain ⟨i0, hi, hz0, hz1, hz2⟩ := info_parts Try.infoByte
  have HR := Lib.hid hR
  clear hR
  go_enter Try.func54, Try.ntmps54
  go_wp2_with fail
  go_loopw [3, 11] (fun s i wr => ∃ (k m : Nat), k ≤ rs.length ∧ i = .int .i64 k ∧ s = .int .i64 m ∧ m = (rs.take k).flatten.length ∧ wr = w) (fun _ i _ => rs.length - (intOf i).toNat)
  case atStart => exact ⟨0, 0, Nat.zero_le _, rfl, rfl, rfl, rfl⟩
  case round =>
    obtain ⟨k, m, hk, rfl, rfl, hm, rfl⟩ := hrel
    have hmle := flat_le rs k
    by_cases hlt : k < rs.length
    · rcases HR.out with h0 | ⟨b, off, rfl, hbw, hc0⟩
      · rw [h0] at hlt
        simp at hlt
      obtain ⟨po, pc, hc, -⟩ := hc0 k hlt
      have hft := flat_take rs k hlt
      have hfl := flat_le rs (k + 1)
      rw [hft, List.length_append, ← hm] at hfl
      have hm2 : m + (rs.getD k []).length = (rs.take (k + 1)).flatten.length := by rw [hft, List.length_append, hm]
      generalize (rs.getD k []).length = q at hc hfl hm2
      have HM := Lib.hid hm2
      have hk0 : (0 : Int) ≤ (k : Int) := Int.natCast_nonneg _
      have hk1 : (k : Int) < (rs.length : Int) := by omega
      have hmb : (m : Int) + q ≤ 1000000 := by omega
      clear hc0 hft hfl hm hm2 hmle
      go_wp2_with fail
      go_roundw
      case rel => exact ⟨k + 1, m + q, hlt, by go_num, by go_num, HM.out, by simp⟩
      case measure => simp [intOf]; omega
    · obtain rfl : k = rs.length := by omega
      rw [List.take_length] at hm
      have HG := Lib.hid (grow_any m wr (by omega))
      clear hlt hm hmle
      go_wp2_with fail
      refine HG.out.mono ?_
      rintro e w2 ⟨go, gc, rfl, hown2, hb2⟩
      have HO2 := Lib.hid hown2
      have HB2 := Lib.hid hb2
      clear hown2 hb2 HG
      go_wp2_with fail
      obtain ⟨wo, rfl⟩ : ∃ wo : World, wo = wr := ⟨_, rfl⟩
      go_loopw [6, 27] (fun v i wr => ∃ (k : Nat), k ≤ rs.length ∧ i = .int .i64 k ∧ wr.ownsRow wo.heap.size 5 1 v ((rs.take k).flatten.length) (bcells (rs.take k).flatten) ∧ Below wo.heap.size wo wr) (fun _ i _ => rs.length - (intOf i).toNat)
      case atStart => exact ⟨0, Nat.zero_le _, rfl, HO2.out, HB2.out⟩
      case round =>
        obtain ⟨k, hk, rfl, hown, hb⟩ := hrel
        have hmle := flat_le rs k
        by_cases hlt : k < rs.length
        · rcases HR.out.next hb with h0 | ⟨b, off, rfl, hbw, hc0⟩
          · rw [h0] at hlt
            simp at hlt
          obtain ⟨po, pc, hc, hy⟩ := hc0 k hlt
          have hft := flat_take rs k hlt
          have hfl := flat_le rs (k + 1)
          rw [hft, List.length_append] at hfl
          generalize rs.getD k [] = r at hc hy hft hfl
          generalize (rs.take k).flatten = F at hown hft hfl hmle
          have HFT := Lib.hid hft
          have HY := Lib.hid hy
          have HO := Lib.hid hown
          have HB := Lib.hid hb
          have hsr := hb.size
          have hk0 : (0 : Int) ≤ (k : Int) := Int.natCast_nonneg _
          have hk1 : (k : Int) < (rs.length : Int) := by omega
          clear hc0 hy hft hown hb HO2 HB2
          go_wp2_with (at_builtin
                       refine wpList_append_byt _ rfl (.tmp 31) (.tmp 32) 30 rfl wo.heap.size 5 i0 (.int .u8 0) Try.underlying30 hi hz0 hz1 hz2 rfl _ F.length (bcells F) rfl HO.out po r.length pc r rfl rfl HY.out (by omega) hsr ?_
                       intro g5 c5 w5 hown5 hg5 hv5
                       have hb5 : Below wo.heap.size wo w5 := HB.out.grown hg5 hsr (fun j hj => (HO.out.lt j hj).1))
          go_roundw
          case rel =>
            refine ⟨k + 1, hlt, by go_num, ?_, hb5⟩
            rw [HFT.out, List.length_append]
            simpa [bcells] using hown5
          case measure => simp [intOf]; omega
        · obtain rfl : k = rs.length := by omega
          rw [List.take_length] at hown
          obtain ⟨po, pc, rfl, hB, hbase⟩ := byt_slice hown rfl
          clear hown hlt hmle HO2
          go_wp2_with fail
          go_ret
          exact ⟨po, pc, rfl, hB, hbase, hb⟩
end Go.Proofs.Ytkbdbinafjmjkaa
