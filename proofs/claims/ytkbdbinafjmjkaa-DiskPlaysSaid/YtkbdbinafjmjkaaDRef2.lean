/-
  The reference's Append and Truncate.
-/
import Derived.Test.YtkbdbinafjmjkaaDRef
namespace Go.Proofs.Ytkbdbinafjmjkaa
open Go.RowKit

theorem ref_cap {w : World} {base : Nat} {g : Option Nat} {n cap : Nat} {bs : List Int} (hn : bs.length = n) (h : w.ownsRow base 5 1 (.slice (gad g) n cap) n (bcells bs)) : n ≤ cap ∧ cap ≤ 9223372036854775807 ∧ Byt w (gad g) bs := by
  subst hn
  obtain ⟨c, hc, hc1, hc2, hy⟩ := byt_own h
  rw [gad_own] at hy
  injection hc with _ _ hc
  subst hc
  unfold maxLen at hc2
  exact ⟨hc1, by omega, hy⟩

set_option maxHeartbeats 1000000 in
theorem appendR_any (base p : Nat) (g : Option Nat) (s : DS) (w : World) (h : RefIs w base p g s) (ao : Option Addr) (m c : Nat) (b : List Int) (hm : b.length = m) (hb : Byt w ao b) (hbb : Bytes b) (hap : ∀ k o, ao = some ⟨k, o, none⟩ → k ≠ p) (hlen : m ≤ 1000000) :
    Calls Try.prog 38 #[.pointer (some ⟨p, 0, none⟩), .slice ao m c] w (RefTo base p g w (.int .i64 (appendF s b).1) (appendF s b).2) := by
  subst hm
  have hok := append_ok h.ok hbb
  have hk := h.ok
  have HB := Lib.hid (off_any base p g s w h)
  obtain ⟨i0, hi, hz0, hz1, hz2⟩ := info_parts Try.infoByte
  rcases live_cases s with hl | hl
  · obtain ⟨k1, k2, k3, -, -, -⟩ := hk
    have e1 : IntKind.i64.wrap ((s.bs.length : Int) + (b.length : Int)) = (s.bs.length : Int) + (b.length : Int) := IntWalk.i64_in _ ⟨by omega, by omega⟩
    by_cases hr : s.room < (s.bs.length : Int) + (b.length : Int)
    · have hs : appendF s b = (43, begun s) := by
        have : s.room - (s.bs.length : Int) < (b.length : Int) := by omega
        simp [appendF, hl, this]
      rw [hs] at hok ⊢
      clear h hok hs
      go_enter Try.func38, Try.ntmps38
      go_wp2_with fail
      refine HB.out.mono ?_
      rintro e w1 ⟨rfl, hd1, hm1⟩
      rw [hl]
      have HD := Lib.hid hd1
      obtain ⟨cap, left, h1, h2, h3, h4, h5⟩ := hd1
      obtain ⟨⟨c0, c1, c2, c3, -⟩, -⟩ := ref_cells h2
      have HM := Lib.hid hm1
      change w1.cell? _ = some (.slice (gad g) s.bs.length cap) at c3
      change w1.cell? _ = some (.int .i64 s.room) at c0
      clear h2 h3 h4 h5 hm1 HB c1 c2
      go_wp2_with fail
      go_quiet (fail)
      go_wp2_with fail
      go_ret
      exact ⟨g, rfl, HD.out.moved (moved_drewN w1 _ fun _ => False) (fun h => h) fun _ _ h => h, (HM.out.trans (moved_drewN w1 _ _) fun _ _ h => h).mono fun _ _ h => .inl h, gto_same _ _⟩
    · have hs : appendF s b = (0, { begun s with bs := s.bs ++ b }) := by
        have : ¬ s.room - (s.bs.length : Int) < (b.length : Int) := by omega
        simp [appendF, hl, this]
      rw [hs] at hok ⊢
      have HK := Lib.hid hok
      have HBY := Lib.hid hb
      clear h hok hs hb
      go_enter Try.func38, Try.ntmps38
      go_wp2_with fail
      refine HB.out.mono ?_
      rintro e w1 ⟨rfl, hd1, hm1⟩
      rw [hl]
      have hg := hd1.row
      have hpl := hd1.lt
      obtain ⟨cap, left, h1, h2, h3, h4, h5⟩ := hd1
      obtain ⟨⟨c0, c1, c2, c3, -⟩, f1, f2, f3, -⟩ := ref_cells h2
      have HM := Lib.hid hm1
      have H2 := Lib.hid h2
      have HY1 : Hid (Byt w1 (gad g) s.bs) := (ref_cap rfl h3).2.2
      have H4 := Lib.hid h4
      have hsz := hm1.size
      have HY := Lib.hid (HBY.out.moved hm1 hap)
      change w1.cell? _ = some (.slice (gad g) s.bs.length cap) at c3
      change w1.cell? _ = some (.int .i64 s.room) at c0
      clear h2 h3 h4 h5 hm1 HB HBY hg c1 c2 f1 f2
      go_wp2_with fail
      go_quiet (fail)
      obtain ⟨w2, hw2⟩ : ∃ w2, w1.drewN nq = w2 := ⟨_, rfl⟩
      have hm2 : Moved w1 w2 (fun _ => False) := by rw [← hw2]; exact moved_drewN _ _ _
      have H2' := Lib.hid (H2.out.moved hm2 (fun h => h))
      have HY1' := Lib.hid (HY1.out.moved hm2 fun _ _ _ h => h)
      have HY' := Lib.hid (HY.out.moved hm2 fun _ _ _ h => h)
      have HM2 := Lib.hid hm2
      have c3' : w2.cell? ⟨p, 3, none⟩ = some (.slice (gad g) s.bs.length cap) := hm2.cell (fun h => h) c3
      have hsz2 : w1.heap.size ≤ w2.heap.size := hm2.size
      rw [hw2]
      have hpw : p < w2.heap.size := by omega
      clear hw2 hm2 c3 c0 f3 HY1 HY
      have HO : Hid ((w2.alloc (.cells #[] 5)).ownsRow w2.heap.size 5 1 (.slice (some ⟨w2.heap.size, 0, none⟩) 0 0) 0 []) := World.ownsRow_made w2 #[] 0 (Nat.le_refl _) (by decide) rfl
      have hba : Below w2.heap.size w2 (w2.alloc (.cells #[] 5)) := (Below.refl _ _).alloc (Nat.le_refl _) _
      have HS1 := Lib.hid (HY1'.out.next hba)
      have HBA := Lib.hid hba
      clear hba
      go_wp2_with (first
        | (at_builtin; refine wpList_append_byt _ rfl (.tmp 21) (.tmp 25) 30 rfl w2.heap.size 5 i0 (.int .u8 0) Try.underlying30 hi hz0 hz1 hz2 rfl (.slice (some ⟨w2.heap.size, 0, none⟩) 0 0) 0 [] rfl HO.out (gad g) s.bs.length cap s.bs rfl rfl HS1.out (by omega) (by simp) ?_; intro g3 c3 w3 hown3 hg3 hv3; clear HO HS1; have hb3 : Below w2.heap.size w2 w3 := HBA.out.grown hg3 (by simp) (fun k hk => by simp [Value.ownBlock] at hk; omega); rw [Nat.zero_add, List.nil_append] at hown3; have HO3 := Lib.hid hown3; have HS3 := Lib.hid (HY'.out.next hb3); have HB3 := Lib.hid hb3; have hz3 : w2.heap.size ≤ w3.heap.size := hb3.size; clear hg3 hv3 hown3 hb3)
        | (at_builtin; refine wpList_append_byt _ rfl (.tmp 26) (.tmp 27) 30 rfl w2.heap.size 5 i0 (.int .u8 0) Try.underlying30 hi hz0 hz1 hz2 rfl (.slice (gad g3) s.bs.length c3) s.bs.length (bcells s.bs) rfl HO3.out ao b.length c b rfl rfl HS3.out (by omega) hz3 ?_; intro g4 c4 w4 hown4 hg4 hv4; have hb4 : Below w2.heap.size w2 w4 := HB3.out.grown hg4 hz3 (fun k hk => (HO3.out.lt k hk).1); have HO4 := Lib.hid hown4; have HB4 := Lib.hid hb4; have hz4 : w2.heap.size ≤ w4.heap.size := hb4.size; have HQ4 := Lib.hid (H2'.out.next hb4); have q1 := (H2'.out.next hb4).cell 3; have q2 := (H2'.out.next hb4).frozen 3; clear hg4 hv4 hown4 hb4))
      have hne := owns_ne_box HO4.out HQ4.out (by decide)
      rw [gad_own] at hne
      have hge := fun k hk => (HO4.out.lt k (by rw [gad_own]; exact hk)).1
      have ho5 := owns_base (owns_moved HO4.out (Moved.setCell w4 p 3 (.slice (gad g4) (s.bs.length + b.length) c4)) (fun k hk e => hne (by rw [gad_own] at hk; rw [hk, e]))) (base' := base) (fun k hk => by have := hge k (by rw [gad_own] at hk; exact hk); omega)
      go_ret
      refine ⟨g4, rfl, RefIs.make (by simp) rfl h1 (HQ4.out.set 3 _) ho5 (by simp [bcells]) H4.out HK.out, ?_, ?_⟩
      · exact (((HM.out.mono fun k _ h => Or.inl h).trans HM2.out fun _ _ h => h.elim).trans (Moved.of_below HB4.out fun _ => False) fun _ _ h => h.elim).trans (Moved.setCell w4 p 3 _) fun k _ h => .inl h
      · intro k hk
        exact .inr (by have := hge k hk; omega)
  · have hs : appendF s b = (42, begun s) := by simp [appendF, hl]
    rw [hs]
    clear h hok hs hk
    go_enter Try.func38, Try.ntmps38
    go_wp2_with fail
    refine HB.out.mono ?_
    rintro e w1 ⟨rfl, hd1, hm1⟩
    rw [hl]
    have HD := Lib.hid hd1
    have HM := Lib.hid hm1
    clear hd1 hm1 HB
    go_wp2_with fail
    go_ret
    exact ⟨g, rfl, HD.out, HM.out.mono fun _ _ h => .inl h, gto_same _ _⟩
end Go.Proofs.Ytkbdbinafjmjkaa
