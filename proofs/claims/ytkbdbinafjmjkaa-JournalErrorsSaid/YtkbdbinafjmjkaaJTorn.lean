/-
  Contract: whether a crash can have left bytes behind the last frame.
-/
import Derived.Test.YtkbdbinafjmjkaaJBegins
namespace Go.Proofs.Ytkbdbinafjmjkaa
open Go.RowKit

/-- Whether a crash can have left bytes behind the last frame. -/
def tornF (b : List Int) : Bool :=
  if beginsF b then true
  else if beginsF (flipLast b) then true
  else match firstF (flipLast b) with
    | none => false
    | some x => decide (x.2 = b.length)

set_option maxRecDepth 100000 in
set_option maxHeartbeats 4000000 in
theorem torn_any (ao : Option Addr) (cap n : Nat) (b : List Int) (w : World) (hn : b.length = n) (hB : Byt w ao b) (hb : Bytes b) (h1 : 1 ≤ n) (hc0 : n ≤ cap) (hc1 : cap ≤ 9223372036854775807) (hl : n ≤ 300000) :
    Calls Try.prog 43 #[.slice ao n cap] w fun e w' => e = .returned (.bool (tornF b)) ∧ Below w.heap.size w w' := by
  subst hn
  have HBE := Lib.hid (begins_any ao cap _ b w rfl hB hb h1 hc0 hc1 hl)
  have HC := Lib.hid fun (d : World) (hd : Below w.heap.size w d) => clone_any ao b.length cap b d rfl (hB.next hd) (by omega)
  have HBB := Lib.hid hb
  clear hB hb
  obtain ⟨R, hR⟩ : ∃ R, tornF b = R := ⟨_, rfl⟩
  rw [hR]
  unfold tornF at hR
  generalize beginsF b = Y at HBE hR
  cases Y with
  | true =>
    rw [if_pos rfl] at hR
    subst hR
    go_enter Try.func43, Try.ntmps43
    go_wp2_with fail
    refine HBE.out.mono ?_
    rintro e w2 ⟨rfl, hb2⟩
    have HB2 := Lib.hid hb2
    clear hb2
    go_wp2_with fail
    go_ret
    exact ⟨rfl, HB2.out⟩
  | false =>
    rw [if_neg (by simp)] at hR
    have HR := Lib.hid hR
    have hl0 : (1 : Int) ≤ (b.length : Int) := by omega
    have hl1 : (b.length : Int) ≤ 300000 := by omega
    clear hR
    go_enter Try.func43, Try.ntmps43
    go_wp2_with fail
    refine HBE.out.mono ?_
    rintro e w2 ⟨rfl, hb2⟩
    have HB2 := Lib.hid hb2
    clear hb2
    go_wp2_with fail
    refine (HC.out _ HB2.out).mono ?_
    rintro e w3 ⟨g, c, rfl, hown3, hb3⟩
    have HB3 := Lib.hid (HB2.out.trans (hb3.mono HB2.out.size))
    have hcap : c ≤ 9223372036854775807 ∧ b.length ≤ c := by
      rcases hown3.2 with ⟨hv, h0⟩ | ⟨_, _, _, hv, _, _, hn1, hn2, _⟩
      · omega
      · cases g <;> cases hv
        have hm : c ≤ maxLen := hn2
        unfold maxLen at hm
        exact ⟨by omega, hn1⟩
    cases g with
    | none =>
      exfalso
      rcases hown3.2 with ⟨_, h0⟩ | ⟨_, _, _, hv, _⟩
      · omega
      · cases hv
    | some gb =>
      change w3.ownsRow w2.heap.size 5 1 (.slice (some ⟨gb, 0, none⟩) b.length c) b.length (bcells b) at hown3
      have hx : (bcells b)[b.length - 1]? = some (.int .u8 (b.getD (b.length - 1) 0)) := bcells_get b _ (by omega)
      have r0 := hown3.cellAt (b.length - 1) (by omega)
      rw [hx] at r0
      have r1 := hown3.frozenAt (b.length - 1)
      obtain ⟨hst, hgr⟩ := hown3.stored (b.length - 1) (.int .u8 (bits .xor .u8 (b.getD (b.length - 1) 0) 85))
      have hfl : (bcells b).set (b.length - 1) (.int .u8 (bits .xor .u8 (b.getD (b.length - 1) 0) 85)) = bcells (flipLast b) := by
        rw [bcells_flip]; rfl
      rw [hfl] at hst
      have hgbs : w2.heap.size ≤ gb := (hown3.lt gb rfl).1
      have hb5 : Below w.heap.size w (w3.setCell ⟨gb, b.length - 1, none⟩ (.int .u8 (bits .xor .u8 (b.getD (b.length - 1) 0) 85))) := HB3.out.setCell (p := ⟨gb, b.length - 1, none⟩) (Nat.le_trans HB2.out.size hgbs) _
      have hlf := flipLast_length b
      have hy5 : Byt (w3.setCell ⟨gb, b.length - 1, none⟩ (.int .u8 (bits .xor .u8 (b.getD (b.length - 1) 0) 85))) (some ⟨gb, 0, none⟩) (flipLast b) := by
        have := (byt_own (bs := flipLast b) (v := .slice (some ⟨gb, 0, none⟩) b.length c) (by rw [hlf]; exact hst)).choose_spec.2.2.2
        exact this
      have hbf := bytes_flip HBB.out
      have HFI := Lib.hid (first_any (some ⟨gb, 0, none⟩) c b.length (flipLast b) _ hlf hy5 hbf hcap.2 hcap.1 hl)
      have HBG := Lib.hid fun (d : World) hd => begins_any (some ⟨gb, 0, none⟩) c b.length (flipLast b) d hlf (hy5.next hd) hbf h1 hcap.2 hcap.1 hl
      have HB5 := Lib.hid hb5
      have e1 : IntKind.i64.wrap ((b.length : Int) - 1) = (b.length : Int) - 1 := IntWalk.i64_in _ ⟨by omega, by omega⟩
      have e2 : (0 : Int) ≤ (b.length : Int) - 1 := by omega
      have e3 : ((b.length : Int) - 1).toNat = b.length - 1 := by omega
      have e4 : (b.length : Int) - 1 < (b.length : Int) := by omega
      generalize b.getD (b.length - 1) 0 = z at *
      obtain ⟨W5, hW5⟩ : ∃ W5, w3.setCell ⟨gb, b.length - 1, none⟩ (.int .u8 (bits .xor .u8 z 85)) = W5 := ⟨_, rfl⟩
      rw [hW5] at HFI HB5 HBG
      generalize flipLast b = F at HFI HBG HR hlf
      obtain ⟨q, hq⟩ : ∃ q, firstF F = q := ⟨_, rfl⟩
      rw [hq] at HFI HR
      obtain ⟨Y, hY⟩ : ∃ Y, beginsF F = Y := ⟨_, rfl⟩
      rw [hY] at HR
      simp only [hY] at HBG
      clear hown3 hx hst hgr hfl hy5 hbf hb3 hb5 hcap hq hY
      rw [show gad (some gb) = some ⟨gb, 0, none⟩ from rfl]
      go_wp2_with fail
      refine HFI.out.mono ?_
      rintro e w6 ⟨lo, lc, rfl, -, hb6⟩
      have HB6 := Lib.hid hb6
      clear hb6 r0 r1 e1 e2 e3 e4
      go_wp2_with fail
      refine (HBG.out _ HB6.out).mono ?_
      rintro e w7 ⟨rfl, hb7⟩
      have HB7 := Lib.hid (HB5.out.trans ((HB6.out.mono HB5.out.size).trans (hb7.mono (Nat.le_trans HB5.out.size HB6.out.size))))
      clear hb7
      cases Y with
      | true =>
        rw [if_pos rfl] at HR
        go_wp2_with fail
        go_ret
        exact ⟨by rw [← HR.out]; rfl, HB7.out⟩
      | false =>
        rw [if_neg (by simp)] at HR
        cases q with
        | none =>
          go_wp2_with fail
          go_ret
          exact ⟨by rw [← HR.out]; rfl, HB7.out⟩
        | some x =>
          obtain ⟨x1, x2⟩ := x
          go_wp2_with fail
          go_ret
          refine ⟨?_, HB7.out⟩
          rw [← HR.out, show ((x2 : Int) == (b.length : Int)) = decide (x2 = b.length) from by rw [Bool.eq_iff_iff]; simp; omega]
          rfl
end Go.Proofs.Ytkbdbinafjmjkaa
