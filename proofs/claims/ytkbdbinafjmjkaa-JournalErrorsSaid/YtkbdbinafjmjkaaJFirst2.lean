/-
  Contract: the first frame of some bytes, where there is one.
-/
import Derived.Test.YtkbdbinafjmjkaaJFirst
namespace Go.Proofs.Ytkbdbinafjmjkaa
open Go.RowKit

theorem Try.infoBytes : (Try.prog.info? 30).map (fun i => (i.zero, i.size, i.bytes)) = some (some (.slice none 0 0), 1, 24) := by kernel_rfl

/-- Ints of a slice. -/
def IntsAt (w : World) (ao : Option Addr) (L : List Int) : Prop := L = [] ∨ ∃ b, ao = some ⟨b, 0, none⟩ ∧ b < w.heap.size ∧ ∀ i, i < L.length → w.cell? ⟨b, i, none⟩ = some (.int .i64 (L.getD i 0))
theorem IntsAt.next {w w' : World} {ao : Option Addr} {L : List Int} (h : IntsAt w ao L) (hb : Below w.heap.size w w') : IntsAt w' ao L := by
  rcases h with h | ⟨b, rfl, hlt, hc⟩
  · exact .inl h
  · exact .inr ⟨b, rfl, Nat.lt_of_lt_of_le hlt hb.size, fun i hi => (hb.cell (p := ⟨b, i, none⟩) hlt).trans (hc i hi)⟩
theorem ints_of_owns {w : World} {base : Nat} {e : TypeId} {ao : Option Addr} {c : Nat} {L : List Int} (h : w.ownsRow base e 1 (.slice ao L.length c) L.length (icells L)) : IntsAt w ao L := by
  have h0 := h
  rcases h.2 with ⟨hv, hn⟩ | ⟨g, cap, cur, hv, hg, hh, hn, hcap, hsz, htake⟩
  · exact .inl (List.eq_nil_of_length_eq_zero hn)
  · cases hv
    refine .inr ⟨g, rfl, (Array.getElem?_eq_some_iff.1 hh).1, fun i hi => ?_⟩
    have hc := h0.cells (g := g) rfl i (.int .i64 (L.getD i 0)) (by simp [icells, List.getD, hi])
    rw [addr_off, Nat.zero_add] at hc
    exact hc

theorem RowN.pushed {w2 w5 : World} {N N' : Nat → Prop} {base k gg cap5 pc : Nat} {v : Value} {rs : List (List Int)} {r : List Int} {po : Option Addr} {vs : List Value} {o : Obj} (hk : rs.length = k)
    (h1 : w2.ownsRow base 30 1 v k vs) (h2 : ∀ k, v.ownBlock = some k → N k)
    (h3 : ∀ i, i < rs.length → ∃ po pc, vs[i]? = some (.slice po (rs.getD i []).length pc) ∧ BytN w2 (fun k => N k ∧ v.ownBlock ≠ some k) po (rs.getD i []))
    (hr : BytN w2 (fun k => N k ∧ v.ownBlock ≠ some k) po r)
    (hown : w5.ownsRow base 30 1 (.slice (some ⟨gg, 0, none⟩) (k + 1) cap5) (k + 1) (vs ++ [.slice po r.length pc])) (hg : (w2.alloc o).grownBy w5 v.ownBlock)
    (hv : v.ownBlock = some gg ∨ gg = w2.heap.size + 1) (hN : ∀ b, N b → N' b) (hN2 : ∀ b, w2.heap.size ≤ b → N' b) : RowN w5 base N' (.slice (some ⟨gg, 0, none⟩) (k + 1) cap5) (rs ++ [r]) := by
  subst hk
  have hm : Moved w2 w5 (fun k => v.ownBlock = some k) := (Moved.alloc w2 o fun k => v.ownBlock = some k).trans (Moved.of_grown hg) fun _ _ h => h
  refine RowN.push h1 h2 h3 hr hown hm ?_ hN fun b hb _ => hN2 b hb
  rcases hv with h | h
  · exact .inl h.symm
  · exact .inr ⟨gg, rfl, by omega⟩

theorem RowN.base {w : World} {base base' : Nat} {N : Nat → Prop} {v : Value} {rs : List (List Int)} (h : RowN w base N v rs) (hb : base' ≤ base) : RowN w base' N v rs := by
  obtain ⟨vs, h1, h2, h3⟩ := h
  exact ⟨vs, owns_base h1 fun k hk => Nat.le_trans hb (h1.lt k hk).1, h2, h3⟩
theorem sum_pos (L : List Int) (h : ∀ z ∈ L, 0 ≤ z) : 0 ≤ L.sum := by
  induction L with
  | nil => simp
  | cons a L ih =>
    rw [List.sum_cons]
    have h1 := ih fun z hz => h z (by simp [hz])
    have h2 := h a (by simp)
    omega
theorem byt_cloned {w : World} {H : Nat} {g : Option Nat} {c q : Nat} {r : List Int} (h : w.ownsRow H 5 1 (.slice (gad g) q c) q (bcells r)) (hq : r.length = q) (N : Nat → Prop) (hN : ∀ b, H ≤ b → N b) : BytN w N (gad g) r := by
  subst hq
  obtain ⟨cap, hv, _, _, hb⟩ := byt_of_owns h
  refine Byt.withN (by rw [gad_own] at hb; exact hb) fun b off hg _ => hN b ?_
  cases g with
  | none => cases hg
  | some j => cases hg; exact (h.lt b rfl).1

set_option maxRecDepth 100000 in
set_option maxHeartbeats 4000000 in
theorem first_good (w : World) (blk off cap n m : Nat) (L : List Int) (body : List Int) (x : Int) (hI : FirstIn w blk off cap m (some ⟨blk, off + 8, none⟩) (cap - 8) L (m : Int) true true x x)
    (h8i : (8 : Int) ≤ (n : Int)) (hci : (n : Int) ≤ (cap : Int)) (hc9 : (8 : Int) < (cap : Int)) (hc1 : cap ≤ 9223372036854775807) (hbig2 : (m : Int) ≤ 65569) (hshi : 8 + (m : Int) ≤ (n : Int))
    (hB : Byt w (some ⟨blk, off + 8, none⟩) body) (hbl : body.length = m) (hL0 : ∀ z ∈ L, 0 ≤ z) (hsum : 1 + 2 * (L.length : Int) + L.sum = m) :
    Calls Try.prog 42 #[.slice (some ⟨blk, off, none⟩) n cap] w (FirstTo w (some (cutsF body (1 + 2 * L.length) L, 8 + m))) := by
  obtain ⟨i0, hi, hz0, hz1, hz2⟩ := info_parts Try.infoBytes
  have hc4 : ¬ cap = 4 := by omega
  have hc4b : (cap == 4) = false := by simpa using hc4
  have h4c : (4 : Int) ≤ (cap : Int) := by omega
  have h8c : (8 : Int) ≤ (cap : Int) := by omega
  have n0 : (0 : Int) ≤ (m : Int) := by omega
  have hc10 : (cap : Int) ≤ 9223372036854775807 := by omega
  have HI := Lib.hid hI
  have HB := Lib.hid hB
  have HL0 := Lib.hid hL0
  have HSUM := Lib.hid hsum
  have HBL := Lib.hid hbl
  have hLl : (L.length : Int) ≤ 40000 := by
    have := sum_pos L HL0.out
    omega
  clear hI hB hL0 hsum hbl
  go_enter Try.func42, Try.ntmps42
  go_wp2_with fail
  refine HI.out.get0.mono ?_
  rintro e w2 ⟨rfl, rfl⟩
  go_wp2_with fail
  refine HI.out.lens.mono ?_
  rintro e w3 ⟨lo, lc, rfl, hrow, hb3⟩
  have HB3 := Lib.hid hb3
  have HROW := Lib.hid (ints_of_owns hrow)
  clear hb3 hrow
  go_wp2_with fail
  go_region_held3 (fun w' => Below w.heap.size w w')
    (first | exact HB3.out.drew | exact hb4 | exact hb4.drew | go_keep)
    (first
      | (go_at_call 50
         refine (HI.out.sum _ ?_).mono ?_
         exact HB3.out.drew
         rintro e w4 ⟨rfl, hb4'⟩
         have hb4 : Below w.heap.size w w4 := (HB3.out.drew).trans (hb4'.mono HB3.out.size))
      | (go_at_call 48
         refine (HI.out.get4 _ ?_).mono ?_
         exact hb4
         rintro e w5 ⟨rfl, rfl⟩))
  have HB4 := Lib.hid (HB3.out.drew.trans (hb4'.mono HB3.out.drew.size))
  have HROW4 := Lib.hid (HROW.out.next ((Below.refl _ _).drew.trans hb4'))
  clear hb4' HB3 HROW
  go_wp2_with fail
  go_loopw [11, 12, 69] (fun v at_ i wr => ∃ (k a : Nat) (rs : List (List Int)), k ≤ L.length ∧ i = .int .i64 k ∧ at_ = .int .i64 a ∧ (a : Int) + (L.drop k).sum = m ∧ rs.length = k ∧ rs ++ cutsF body a (L.drop k) = cutsF body (1 + 2 * L.length) L ∧
      RowN wr w4.heap.size (fun j => w4.heap.size ≤ j) v rs ∧ Below w4.heap.size w4 wr) (fun _ _ i _ => L.length - (intOf i).toNat)
  case atStart => exact ⟨0, 1 + 2 * L.length, [], Nat.zero_le _, rfl, by go_num, by rw [List.drop_zero, ← HSUM.out]; omega, rfl, rfl, RowN.nil _ _ _, Below.refl _ _⟩
  case round =>
    obtain ⟨k, a, rs, hk, rfl, rfl, hsk, hrl, hcut, hrn, hb⟩ := hrel
    by_cases hlt : k < L.length
    · rcases HROW4.out.next hb with h0 | ⟨g, rfl, hgw, hc0⟩
      · rw [h0] at hlt
        simp at hlt
      have hc := hc0 k hlt
      have hd : L.drop k = L.getD k 0 :: L.drop (k + 1) := by
        rw [List.drop_eq_getElem_cons hlt]
        simp [List.getD, hlt]
      have hz := HL0.out (L.getD k 0) (getD_mem0 L k hlt)
      have hds : 0 ≤ (L.drop (k + 1)).sum := sum_pos _ fun z hz => HL0.out z (List.mem_of_mem_drop hz)
      obtain ⟨q, hq⟩ : ∃ q : Nat, L.getD k 0 = q := ⟨(L.getD k 0).toNat, by omega⟩
      rw [hd, hq] at hsk hcut
      rw [hq] at hc hz
      rw [List.sum_cons] at hsk
      have hcf : cutsF body a ((q : Int) :: L.drop (k + 1)) = (body.drop a).take q :: cutsF body (a + q) (L.drop (k + 1)) := rfl
      rw [hcf] at hcut
      have haq : (a : Int) + q ≤ m := by omega
      have ha0 : (0 : Int) ≤ a := by omega
      have hq0 : (0 : Int) ≤ q := by omega
      have hk0 : (0 : Int) ≤ (k : Int) := Int.natCast_nonneg _
      have hk1 : (k : Int) < (L.length : Int) := by omega
      have hrq : ((body.drop a).take q).length = q := by have := HBL.out; simp; omega
      have hbw : Below w.heap.size w wr := HB4.out.trans (hb.mono HB4.out.size)
      have hby := (HB.out.next hbw).part a q (by have := HBL.out; omega)
      clear hq hcf
      by_cases hcap : a = cap - 8
      · obtain rfl : q = 0 := by omega
        have HC := Lib.hid (clone_any (some ⟨blk, off + 8, none⟩) 0 0 ((body.drop a).take 0) wr hrq (by have : (body.drop a).take 0 = [] := List.eq_nil_of_length_eq_zero (by omega); rw [this]; exact Byt.nil _ _) (by omega))
        have HR := Lib.hid hrn
        have HRB := Lib.hid hb
        have HCUT := Lib.hid hcut
        have HSK := Lib.hid hsk
        have HRL := Lib.hid hrl
        have HRQ := Lib.hid hrq
        have HW := Lib.hid hbw
        clear hc0 hd hz hds hrn hb hcut hsk hrl hrq hby hbw
        go_wp2_with fail
        refine HC.out.mono ?_
        rintro e w5 ⟨g5, c5, rfl, hown5, hb5⟩
        obtain ⟨vs, h1, h2, h3⟩ := HR.out.next hb5
        have hs5 : w.heap.size ≤ w5.heap.size := Nat.le_trans HW.out.size hb5.size
        have hvlt : ∀ j, u11.ownBlock = some j → j < wr.heap.size := by
          obtain ⟨_, h10, _, _⟩ := HR.out
          exact fun j hj => (h10.lt j hj).2
        have hbn := byt_cloned hown5 HRQ.out (fun j => w4.heap.size ≤ j ∧ u11.ownBlock ≠ some j) (fun b hbb => ⟨Nat.le_trans HRB.out.size hbb, fun e => by have := hvlt b e; omega⟩)
        rw [HRL.out] at h1
        have H1 := Lib.hid h1
        have H2 := Lib.hid h2
        have H3 := Lib.hid h3
        have HBN := Lib.hid hbn
        have HB5 := Lib.hid (HRB.out.trans (hb5.mono HRB.out.size))
        have HVL := Lib.hid hvlt
        have hs54 : w4.heap.size ≤ w5.heap.size := Nat.le_trans HRB.out.size hb5.size
        clear h1 h2 h3 hbn hown5 hb5 hvlt HC HR
        go_wp2_with (at_builtin
                     refine wpList_append_lies _ rfl (.tmp 73) (.tmp 81) 55 rfl w4.heap.size 30 i0 (.slice none 0 0) 1 24 Try.underlying55 hi hz0 hz1 hz2 rfl (by decide) _ k _ rfl (H1.out.alloc _) ⟨w5.heap.size, 0, none⟩ 1 1 [.slice (gad g5) 0 c5] rfl rfl (World.news_of_block (cs := #[.slice (gad g5) 0 c5]) (t := 30) (fr := (0, 0)) (heap_alloc_new w5 _)) (by simp [Value.oneCell']) (by omega) (by unfold maxLen; omega) (by omega) (by simp; omega) (w5.heap.size + 1) (by simp) ?_
                     intro gg cap6 w6 hown6 hg6 hat6 hlt6)
        go_roundw
        case rel =>
          have hp := RowN.pushed (N' := fun j => w4.heap.size ≤ j) (r := (body.drop a).take 0) HRL.out H1.out H2.out H3.out HBN.out (by rw [HRQ.out]; exact hown6) hg6 hat6 (fun b h => h) (fun b h => Nat.le_trans hs54 h)
          refine ⟨k + 1, a + 0, rs ++ [(body.drop a).take 0], hlt, by go_num, by go_num, by rw [← HSK.out]; omega, by simp [HRL.out], by rw [← HCUT.out]; simp, hp, ?_⟩
          exact (HB5.out.alloc hs54 _).grown hg6 (by simp; omega) (fun j hj => (H1.out.lt j hj).1)
        case measure => simp [intOf]; omega
      · have hcap3 : ¬ cap - 8 = a := fun e => hcap e.symm
        clear hcap
        have hcap2 : (a : Int) < cap - 8 := by omega
        have HC := Lib.hid (clone_any (some ⟨blk, off + 8 + a, none⟩) q (cap - 8 - a) ((body.drop a).take q) wr hrq (hby) (by omega))
        have HR := Lib.hid hrn
        have HRB := Lib.hid hb
        have HCUT := Lib.hid hcut
        have HSK := Lib.hid hsk
        have HRL := Lib.hid hrl
        have HRQ := Lib.hid hrq
        have HW := Lib.hid hbw
        clear hc0 hd hz hds hrn hb hcut hsk hrl hrq hby hbw
        go_wp2_with fail
        refine HC.out.mono ?_
        rintro e w5 ⟨g5, c5, rfl, hown5, hb5⟩
        obtain ⟨vs, h1, h2, h3⟩ := HR.out.next hb5
        have hs5 : w.heap.size ≤ w5.heap.size := Nat.le_trans HW.out.size hb5.size
        have hvlt : ∀ j, u11.ownBlock = some j → j < wr.heap.size := by
          obtain ⟨_, h10, _, _⟩ := HR.out
          exact fun j hj => (h10.lt j hj).2
        have hbn := byt_cloned hown5 HRQ.out (fun j => w4.heap.size ≤ j ∧ u11.ownBlock ≠ some j) (fun b hbb => ⟨Nat.le_trans HRB.out.size hbb, fun e => by have := hvlt b e; omega⟩)
        rw [HRL.out] at h1
        have H1 := Lib.hid h1
        have H2 := Lib.hid h2
        have H3 := Lib.hid h3
        have HBN := Lib.hid hbn
        have HB5 := Lib.hid (HRB.out.trans (hb5.mono HRB.out.size))
        have HVL := Lib.hid hvlt
        have hs54 : w4.heap.size ≤ w5.heap.size := Nat.le_trans HRB.out.size hb5.size
        clear h1 h2 h3 hbn hown5 hb5 hvlt HC HR
        go_wp2_with (at_builtin
                     refine wpList_append_lies _ rfl (.tmp 73) (.tmp 81) 55 rfl w4.heap.size 30 i0 (.slice none 0 0) 1 24 Try.underlying55 hi hz0 hz1 hz2 rfl (by decide) _ k _ rfl (H1.out.alloc _) ⟨w5.heap.size, 0, none⟩ 1 1 [.slice (gad g5) q c5] rfl rfl (World.news_of_block (cs := #[.slice (gad g5) q c5]) (t := 30) (fr := (0, 0)) (heap_alloc_new w5 _)) (by simp [Value.oneCell']) (by omega) (by unfold maxLen; omega) (by omega) (by simp; omega) (w5.heap.size + 1) (by simp) ?_
                     intro gg cap6 w6 hown6 hg6 hat6 hlt6)
        go_roundw
        case rel =>
          have hp := RowN.pushed (N' := fun j => w4.heap.size ≤ j) (r := (body.drop a).take q) HRL.out H1.out H2.out H3.out HBN.out (by rw [HRQ.out]; exact hown6) hg6 hat6 (fun b h => h) (fun b h => Nat.le_trans hs54 h)
          refine ⟨k + 1, a + q, rs ++ [(body.drop a).take q], hlt, by go_num, by go_num, by rw [← HSK.out]; omega, by simp [HRL.out], by rw [← HCUT.out]; simp, hp, ?_⟩
          exact (HB5.out.alloc hs54 _).grown hg6 (by simp; omega) (fun j hj => (H1.out.lt j hj).1)
        case measure => simp [intOf]; omega
    · obtain rfl : k = L.length := by omega
      rw [List.drop_length] at hcut
      have hcut2 : rs = cutsF body (1 + 2 * L.length) L := by rw [← hcut]; simp [cutsF]
      obtain ⟨ao, c, rfl, -⟩ := hrn.recs
      have HCUT := Lib.hid hcut2
      have HR := Lib.hid hrn
      have HBW := Lib.hid (HB4.out.trans (hb.mono HB4.out.size))
      clear hcut hcut2 hrn hb hsk hrl hlt
      go_wp2_with fail
      go_ret3
      refine ⟨ao, c, ?_, ?_, HBW.out⟩
      · rw [← HCUT.out]; rfl
      · rw [← HCUT.out]; exact (HR.out.base HB4.out.size).mono fun b _ hb => Nat.le_trans HB4.out.size hb
end Go.Proofs.Ytkbdbinafjmjkaa
