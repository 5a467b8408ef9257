/-
  The reference's Truncate.
-/
import Derived.Test.YtkbdbinafjmjkaaDRef2
namespace Go.Proofs.Ytkbdbinafjmjkaa
open Go.RowKit

set_option maxHeartbeats 1000000 in
theorem truncR_any (base p : Nat) (g : Option Nat) (s : DS) (n : Int) (w : World) (h : RefIs w base p g s) :
    Calls Try.prog 40 #[.pointer (some ⟨p, 0, none⟩), .int .i64 n] w (RefTo base p g w (.int .i64 (truncF s n).1) (truncF s n).2) := by
  have hok := trunc_ok (n := n) h.ok
  have hk := h.ok
  have HB := Lib.hid (off_any base p g s w h)
  obtain ⟨i0, hi, hz0, hz1, hz2⟩ := info_parts Try.infoByte
  rcases live_cases s with hl | hl
  · by_cases hn : n < 0 ∨ (s.bs.length : Int) < n
    · have hs : truncF s n = (1, begun s) := by simp [truncF, hl, hn]
      rw [hs] at hok ⊢
      clear h hok hs
      by_cases h0 : n < 0
      · clear hn
        go_enter Try.func40, Try.ntmps40
        go_wp2_with fail
        refine HB.out.mono ?_
        rintro e w1 ⟨rfl, hd1, hm1⟩
        rw [hl]
        have HD := Lib.hid hd1
        have HM := Lib.hid hm1
        clear hd1 hm1 HB
        go_wp2_with fail
        go_ret
        exact ⟨g, rfl, HD.out, HM.out.mono fun _ _ h => .inl h, gto_same _ _⟩
      · have h1 : (s.bs.length : Int) < n := by omega
        clear hn
        go_enter Try.func40, Try.ntmps40
        go_wp2_with fail
        refine HB.out.mono ?_
        rintro e w1 ⟨rfl, hd1, hm1⟩
        rw [hl]
        have HD := Lib.hid hd1
        obtain ⟨cap, left, g1, h2, h3, h4, h5⟩ := hd1
        obtain ⟨⟨c0, c1, c2, c3, -⟩, -⟩ := ref_cells h2
        change w1.cell? _ = some (.slice (gad g) s.bs.length cap) at c3
        have HM := Lib.hid hm1
        clear hm1 HB h2 h3 h4 h5 c0 c1 c2
        go_wp2_with fail
        go_ret
        exact ⟨g, rfl, HD.out, HM.out.mono fun _ _ h => .inl h, gto_same _ _⟩
    · obtain ⟨k, rfl⟩ : ∃ k : Nat, n = k := ⟨n.toNat, by omega⟩
      have hs : truncF s k = (0, { begun s with bs := s.bs.take k, dur := min s.dur k }) := by simp only [truncF, hl, if_true]; rw [if_neg hn]; simp
      rw [hs] at hok ⊢
      have hkl : (k : Int) ≤ s.bs.length := by omega
      have hk0 : (0 : Int) ≤ k := by omega
      have hll : s.bs.length ≤ 262144 := by have := hk.len; have := hk.room1; omega
      clear h hs hn
      have main : ∀ d : Nat, min s.dur k = d → ((k : Int) < s.dur ∧ k = d ∨ (s.dur : Int) ≤ k ∧ s.dur = d) → Calls Try.prog 40 #[.pointer (some ⟨p, 0, none⟩), .int .i64 k] w (RefTo base p g w (.int .i64 0) { begun s with bs := s.bs.take k, dur := d }) := by
       intro d hd hd2
       rw [hd] at hok
       have HK := Lib.hid hok
       clear hok hd
       rcases hd2 with ⟨hdk, hdd⟩ | ⟨hdk, hdd⟩
       all_goals
        subst hdd
        go_enter Try.func40, Try.ntmps40
        go_wp2_with fail
        refine HB.out.mono ?_
        rintro e w2 ⟨rfl, hd1, hm1⟩
        rw [hl]
        have hpw := hd1.lt
        obtain ⟨cap, left, g1, h2, h3, h4, h5⟩ := hd1
        obtain ⟨⟨c0, c1, c2, c3, -⟩, f1, f2, f3, -⟩ := ref_cells h2
        change w2.cell? _ = some (.slice (gad g) s.bs.length cap) at c3
        change w2.cell? _ = some (.int .i64 s.dur) at c1
        obtain ⟨hcap1, hcap2, -⟩ := ref_cap rfl h3
        change s.bs.length ≤ cap at hcap1
        have hkc : (k : Int) ≤ (cap : Int) := by omega
        have htl : (s.bs.take k).length = k := by simp; omega
        have hyt := (ref_cap htl (by
          have := owns_take (k := k) h3 (by exact (by omega : k ≤ s.bs.length))
          have e : bcells (s.bs.take k) = (bcells s.bs).take k := by simp [bcells, List.map_take]
          rw [e]
          exact this)).2.2
        have HM := Lib.hid hm1
        have H2 := Lib.hid h2
        have H4 := Lib.hid h4
        have HTL := Lib.hid htl
        have HO : Hid ((w2.alloc (.cells #[] 5)).ownsRow w2.heap.size 5 1 (.slice (some ⟨w2.heap.size, 0, none⟩) 0 0) 0 []) := World.ownsRow_made w2 #[] 0 (Nat.le_refl _) (by decide) rfl
        have hba : Below w2.heap.size w2 (w2.alloc (.cells #[] 5)) := (Below.refl _ _).alloc (Nat.le_refl _) _
        have HS1 := Lib.hid (hyt.next hba)
        have HBA := Lib.hid hba
        have hsz := hm1.size
        obtain ⟨hpw1, hpw2⟩ := hpw
        clear hm1 HB h2 h3 h4 h5 c0 c2 f1 f2 f3 htl hyt hba
        go_wp2_with (at_builtin; refine wpList_append_byt _ rfl (.tmp 19) (.tmp 25) 30 rfl w2.heap.size 5 i0 (.int .u8 0) Try.underlying30 hi hz0 hz1 hz2 rfl (.slice (some ⟨w2.heap.size, 0, none⟩) 0 0) 0 [] rfl HO.out (gad g) k cap (s.bs.take k) HTL.out rfl HS1.out (by omega) (by simp) ?_; intro g4 c4 w4 hown4 hg4 hv4; rw [Nat.zero_add, List.nil_append] at hown4; have hb4 : Below w2.heap.size w2 w4 := HBA.out.grown hg4 (by simp) (fun k hk => by simp [Value.ownBlock] at hk; omega); have HO4 := Lib.hid hown4; have HB4 := Lib.hid hb4; have hz4 : w2.heap.size ≤ w4.heap.size := hb4.size; have HQ4 := Lib.hid (H2.out.next hb4); obtain ⟨⟨q0, q1, q2, q3, -⟩, r1, r2, r3, -⟩ := ref_cells (H2.out.next hb4); change w4.cell? _ = some (.int .i64 s.dur) at q1; clear hg4 hv4 hown4 hb4 HS1 HO q0 q2 r2)
        have hne := owns_ne_box HO4.out HQ4.out (by decide)
        rw [gad_own] at hne
        have hge := fun k hk => (HO4.out.lt k (by rw [gad_own]; exact hk)).1
        have ho5 := fun x => owns_base (owns_moved HO4.out (moved_set2 w4 p 3 1 (.slice (gad g4) k c4) x) (fun k hk e => hne (by rw [gad_own] at hk; rw [hk, e]))) (base' := base) (fun k hk => by have := hge k (by rw [gad_own] at hk; exact hk); omega)
        go_ret
        refine ⟨g4, rfl, RefIs.make HTL.out rfl g1 ((HQ4.out.set 3 _).set 1 _) (ho5 _) rfl H4.out HK.out, ?_, ?_⟩
        · exact ((HM.out.mono fun k _ h => Or.inl h).trans (Moved.of_below HB4.out fun _ => False) fun _ _ h => h.elim).trans (moved_set2 w4 p 3 1 _ _) fun k _ h => .inl h
        · intro k hk
          exact .inr (by have := hge k hk; omega)
      by_cases hdk : (k : Int) < s.dur
      · exact main _ rfl (.inl ⟨hdk, by omega⟩)
      · exact main _ rfl (.inr ⟨by omega, by omega⟩)
  · have hs : truncF s n = (42, begun s) := by simp [truncF, hl]
    rw [hs]
    clear h hok hs hk
    go_enter Try.func40, Try.ntmps40
    go_wp2_with fail
    refine HB.out.mono ?_
    rintro e w1 ⟨rfl, hd1, hm1⟩
    rw [hl]
    have HD := Lib.hid hd1
    have HM := Lib.hid hm1
    clear hd1 hm1 HB
    go_wp2_with fail
    go_ret
    exact ⟨g, rfl, HD.out, HM.out.mono fun _ _ h => .inl h, gto_same _ _⟩
end Go.Proofs.Ytkbdbinafjmjkaa
