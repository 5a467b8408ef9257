/-
  DiskOwn returns true for every input, and turns nothing that was there.
-/
import Derived.Test.YtkbdbinafjmjkaaDAwake
namespace Go.Proofs.Ytkbdbinafjmjkaa
open Go.RowKit

theorem own_state {b : List Int} (h : b.length ≤ 40) : (appendF (newD 100) b).1 = 0 ∧ (appendF (newD 100) b).2.bs = b := by
  have h2 : ¬ ((newD 100).room - ((newD 100).bs.length : Int) < (b.length : Int)) := by simp [newD]; omega
  have h1 : appendF (newD 100) b = (0, { begun (newD 100) with bs := (newD 100).bs ++ b }) := by
    unfold appendF
    rw [if_pos (by decide), if_neg h2]
  rw [h1]
  exact ⟨rfl, rfl⟩

theorem byt_of_gad {w : World} {base : Nat} {g : Option Nat} {n cap : Nat} {b : List Int} (hn : b.length = n) (h : w.ownsRow base 5 1 (.slice (gad g) n cap) n (bcells b)) : Byt w (gad g) b := by
  subst hn
  have hy := (byt_own h).choose_spec.2.2.2
  rwa [gad_own] at hy

theorem bytes_string {w : World} {ao : Option Addr} {b : List Int} {n : Nat} (cap : Nat) (hn : b.length = n) (h : Byt w ao b) : (convert 30 9 (.slice ao n cap)).run Try.prog w = .ok (.string (strOfNums b)) w := by
  subst hn
  exact byt_string (P := Try.prog) h 30 5 9 Try.underlying30 Try.underlying5 Try.underlying9 cap

theorem diskOwn_empty (ao : Option Addr) (cap m : Nat) (at0 c : Int) (w : World) (h : m = 0 ∨ 40 < m) :
    Calls Try.prog 4 #[.slice ao m cap, .int .u8 at0, .int .u8 c] w fun e w' => e = .returned (.bool true) ∧ Below w.heap.size w w' := by
  by_cases h0 : m = 0
  · subst h0
    clear h
    go_enter Try.func4, Try.ntmps4
    go_wp2_with (go_at_call 19; refine (awake_any _).mono ?_; rintro e w9 ⟨rfl, hb9⟩)
    go_ret
    exact ⟨rfl, hb9⟩
  · have h1 : 40 < m := by omega
    have h2 : ((m : Int) == 0) = false := by simpa using h0
    have h3 : (40 : Int) < (m : Int) := by omega
    clear h h0
    go_enter Try.func4, Try.ntmps4
    go_wp2_with (go_at_call 19; refine (awake_any _).mono ?_; rintro e w9 ⟨rfl, hb9⟩)
    go_ret
    exact ⟨rfl, hb9⟩

set_option maxRecDepth 100000 in
set_option maxHeartbeats 1000000 in
theorem diskOwn_walk (ao : Option Addr) (cap m : Nat) (b : List Int) (at0 c : Int) (w : World) (hm : b.length = m) (hb : Byt w ao b) (hbb : Bytes b) (h1 : 1 ≤ m) (h40 : m ≤ 40) (a0 : 0 ≤ at0) (a1 : at0 ≤ 255) :
    Calls Try.prog 4 #[.slice ao m cap, .int .u8 at0, .int .u8 c] w fun e w' => e = .returned (.bool true) ∧ Below w.heap.size w w' := by
  obtain ⟨hs1, hs2⟩ := own_state (b := b) (by omega)
  obtain ⟨i0, hi, hz0, hz1, hz2⟩ := info_parts Try.infoByte
  have h2 : ((m : Int) == 0) = false := by simp; omega
  have h3 : ¬ (40 : Int) < (m : Int) := by omega
  obtain ⟨kk, hkk⟩ : ∃ kk : Nat, at0 % (m : Int) = kk := ⟨(at0 % (m : Int)).toNat, by have := Int.emod_nonneg at0 (show (m : Int) ≠ 0 by omega); omega⟩
  have hkm : kk < m := by have := Int.emod_lt_of_pos at0 (show (0 : Int) < (m : Int) by omega); omega
  have HM := Lib.hid hm
  have HY := Lib.hid hb
  have HS1 := Lib.hid hs1
  have HS2 := Lib.hid hs2
  have HKK := Lib.hid hkk
  clear hs1 hs2 hkk hm hb
  go_enter Try.func4, Try.ntmps4
  go_wp2_with fail
  refine (new_any 100 w (by omega) (by omega)).mono ?_
  rintro e w1 ⟨rfl, hd1, hb1⟩
  have hcv := bytes_string cap HM.out (HY.out.next hb1)
  have HY1 := Lib.hid ((HY.out.next hb1).next ((Below.refl _ _).alloc (Nat.le_refl _) (.cells #[] 5)))
  have HD1 := Lib.hid hd1
  have HB1 := Lib.hid hb1
  have hp1 := hd1.lt.2
  have HO : Hid ((w1.alloc (.cells #[] 5)).ownsRow w1.heap.size 5 1 (.slice (some ⟨w1.heap.size, 0, none⟩) 0 0) 0 []) := World.ownsRow_made w1 #[] 0 (Nat.le_refl _) (by decide) rfl
  clear hd1 hb1 HY
  go_wp2_with (at_builtin; refine wpList_append_byt _ rfl (.tmp 34) (.tmp 35) 30 rfl w1.heap.size 5 i0 (.int .u8 0) Try.underlying30 hi hz0 hz1 hz2 rfl (.slice (some ⟨w1.heap.size, 0, none⟩) 0 0) 0 [] rfl HO.out ao m cap b HM.out rfl HY1.out (by omega) (by simp) ?_; intro g2 c2 w2 hown2 hg2 hv2; rw [Nat.zero_add, List.nil_append] at hown2; have hb2 : Below w1.heap.size w1 w2 := ((Below.refl _ _).alloc (Nat.le_refl _) _).grown hg2 (by simp) (fun k hk => by simp [Value.ownBlock] at hk; omega); have HO2 := Lib.hid hown2; have HB2 := Lib.hid hb2; clear hg2 hv2 hown2 hb2 HO HY1 hcv)
  have hd2 := HD1.out.next HB2.out
  have hgp : ∀ k, g2 = some k → k ≠ w.heap.size := fun k hk => by have := (HO2.out.lt k (by rw [gad_own]; exact hk)).1; omega
  have hgl : ∀ k, g2 = some k → k < w2.heap.size := fun k hk => (HO2.out.lt k (by rw [gad_own]; exact hk)).2
  have ha := append_any _ _ _ _ w2 hd2 (gad g2) m c2 b HM.out (byt_of_gad HM.out HO2.out) hbb (fun k o h => by
    cases hg : g2 with
    | none => rw [hg] at h; cases h
    | some j => rw [hg] at h; cases h; exact hgp _ hg) (by omega) (Nat.le_trans HB1.out.size HB2.out.size)
  rw [HS1.out] at ha
  refine ha.mono ?_
  rintro e w3 ⟨g3, rfl, hd3, hm3, hgt⟩
  have ho3 := owns_moved HO2.out hm3 (fun k hk => by
    rw [gad_own] at hk
    rintro (h | h)
    · exact hgp k hk h
    · cases h)
  have HO3 := Lib.hid ho3
  have HD3 := Lib.hid hd3
  have hbase2 : Below w.heap.size w w2 := HB1.out.trans (HB2.out.mono HB1.out.size)
  have HB3 : Hid (Below w.heap.size w w3) := hbase2.trans (hm3.below hbase2.size (fun k hk => by
    rcases hk with h | h
    · omega
    · cases h))
  have HGT := Lib.hid hgt
  have HGP := Lib.hid hgp
  have HGL := Lib.hid hgl
  clear ha hd2 hgp hgl hm3 ho3 hd3 hbase2 hgt HB2 HD1 HB1 HO2
  cases g2 with
  | none =>
    exfalso
    rcases HO3.out.2 with ⟨_, h0⟩ | ⟨g, _, _, hv, _⟩
    · omega
    · cases hv
  | some gb =>
    have hx : (bcells b)[kk]? = some (.int .u8 (b.getD kk 0)) := bcells_get b _ (by have := HM.out; omega)
    have r0 := HO3.out.cellAt kk (by omega)
    rw [hx] at r0
    have r1 := HO3.out.frozenAt kk
    have hga : gad (some gb) = some ⟨gb, 0, none⟩ := rfl
    have e1 : at0 % (m : Int) = (kk : Int) := HKK.out
    have e2 : (0 : Int) ≤ (kk : Int) := by omega
    have e3 : (kk : Int) < (m : Int) := by omega
    clear hx
    have hm4 := Moved.setCell w3 gb kk (.int .u8 c)
    have hd4 := HD3.out.moved hm4 (fun h => HGP.out gb rfl h.symm) (fun k hk h => by
      subst h
      rcases HGT.out _ hk with h | h
      · cases h
      · have := HGL.out _ rfl; omega)
    have hb4 : Below w.heap.size w (w3.setCell ⟨gb, kk, none⟩ (.int .u8 c)) := HB3.out.setCell (p := ⟨gb, kk, none⟩) (by have := (HO3.out.lt gb rfl).1; dsimp only; omega) _
    have HH : Hid (DHold w (w3.setCell ⟨gb, kk, none⟩ (.int .u8 c)) w.heap.size (appendF (newD 100) b).2) := ⟨⟨g3, hd4⟩, hb4⟩
    clear hm4 hd4 hb4 HD3 HB3 HGT HGP HGL HO3
    go_wp2_with fail
    refine (awake_any _).mono ?_
    rintro e w5 ⟨rfl, hb5⟩
    have HH5 := Lib.hid (HH.out.next hb5)
    clear HH hb5 r0 r1
    go_wp2_with fail
    have hr := read_h HH5.out
    rw [HS2.out, HM.out] at hr
    refine hr.mono ?_
    rintro e w6 ⟨g6, c6, rfl, hy6, _, hb6⟩
    have hcv := bytes_string c6 HM.out hy6
    have HB6 : Hid (Below w.heap.size w w6) := HH5.out.2.trans (hb6.mono HH5.out.2.size)
    clear hr hy6 hb6 HH5
    go_wp2_with fail
    go_ret
    exact ⟨rfl, HB6.out⟩
end Go.Proofs.Ytkbdbinafjmjkaa
