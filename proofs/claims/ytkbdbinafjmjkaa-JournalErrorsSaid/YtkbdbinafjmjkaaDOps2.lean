/-
  Truncate, Cut, Clone of bytes, Read.
-/
import Derived.Test.YtkbdbinafjmjkaaDOps
namespace Go.Proofs.Ytkbdbinafjmjkaa
open Go.RowKit

set_option maxHeartbeats 400000 in
theorem trunc_any (base p : Nat) (g : Option Nat) (s : DS) (n : Int) (w : World) (h : DiskIs w base p g s) :
    Calls Try.prog 26 #[.pointer (some ⟨p, 0, none⟩), .int .i64 n] w (DiskTo base p g w (.int .i64 (truncF s n).1) (truncF s n).2) := by
  have hok := trunc_ok (n := n) h.ok
  have hk := h.ok
  have HB := Lib.hid (begin_any base p g s w h)
  rcases live_cases s with hl | hl
  · by_cases hn : n < 0 ∨ (s.bs.length : Int) < n
    · have hs : truncF s n = (1, begun s) := by simp [truncF, hl, hn]
      rw [hs] at hok ⊢
      clear h hok hs
      by_cases h0 : n < 0
      · clear hn
        go_enter Try.func26, Try.ntmps26
        go_wp2_with fail
        refine HB.out.mono ?_
        rintro e w1 ⟨rfl, hd1, hm1⟩
        rw [hl]
        have HD := Lib.hid hd1
        have HM := Lib.hid hm1
        clear hd1 hm1 HB
        go_wp2_with fail
        go_ret
        exact ⟨g, rfl, HD.out, HM.out.mono fun _ _ h => .inl h, gto_same _ _⟩
      · have h1 : (s.bs.length : Int) < n := by omega
        clear hn
        go_enter Try.func26, Try.ntmps26
        go_wp2_with fail
        refine HB.out.mono ?_
        rintro e w1 ⟨rfl, hd1, hm1⟩
        rw [hl]
        have HD := Lib.hid hd1
        obtain ⟨cap, left, g1, h2, h3, h4, h5⟩ := hd1
        obtain ⟨⟨c0, c1, -⟩, -⟩ := disk_cells h2
        change w1.cell? _ = some (.slice (gad g) s.bs.length cap) at c1
        have HM := Lib.hid hm1
        clear hm1 HB h2 h3 h4 h5 c0
        go_wp2_with fail
        go_ret
        exact ⟨g, rfl, HD.out, HM.out.mono fun _ _ h => .inl h, gto_same _ _⟩
    · obtain ⟨k, rfl⟩ : ∃ k : Nat, n = k := ⟨n.toNat, by omega⟩
      have hs : truncF s k = (0, { begun s with bs := s.bs.take k, dur := min s.dur k }) := by simp only [truncF, hl, if_true]; rw [if_neg hn]; simp
      rw [hs] at hok ⊢
      have hkl : (k : Int) ≤ s.bs.length := by omega
      have hk0 : (0 : Int) ≤ k := by omega
      clear h hs hn
      have main : ∀ d : Nat, min s.dur k = d → ((k : Int) < s.dur ∧ k = d ∨ (s.dur : Int) ≤ k ∧ s.dur = d) → Calls Try.prog 26 #[.pointer (some ⟨p, 0, none⟩), .int .i64 k] w (DiskTo base p g w (.int .i64 0) { begun s with bs := s.bs.take k, dur := d }) := by
       intro d hd hd2
       rw [hd] at hok
       have HK := Lib.hid hok
       clear hok hd
       rcases hd2 with ⟨hdk, hdd⟩ | ⟨hdk, hdd⟩
       all_goals
        subst hdd
        go_enter Try.func26, Try.ntmps26
        go_wp2_with fail
        refine HB.out.mono ?_
        rintro e w1 ⟨rfl, hd1, hm1⟩
        rw [hl]
        obtain ⟨cap, left, g1, h2, h3, h4, h5⟩ := hd1
        obtain ⟨⟨c0, c1, c2, -⟩, f1, f2, -⟩ := disk_cells h2
        change w1.cell? _ = some (.slice (gad g) s.bs.length cap) at c1
        change w1.cell? _ = some (.int .i64 s.dur) at c2
        have hcap : s.bs.length ≤ cap ∧ cap ≤ 9223372036854775807 := by
          obtain ⟨c, hc, hc1, hc2, _⟩ := byt_own h3
          injection hc with _ _ hc
          subst hc
          unfold maxLen at hc2
          exact ⟨hc1, by omega⟩
        obtain ⟨hcap1, hcap2⟩ := hcap
        have hkc : (k : Int) ≤ (cap : Int) := by omega
        have HM := Lib.hid hm1
        have H2 := Lib.hid h2
        have H3 := Lib.hid h3
        have H4 := Lib.hid h4
        clear hm1 HB h2 h3 h4 h5 c0
        go_wp2_with fail
        have ho3 := owns_take H3.out (k := k) (by exact (by omega : k ≤ s.bs.length))
        have hne := owns_ne_box ho3 H2.out (by decide)
        go_ret
        refine ⟨g, rfl, DiskIs.make (cap := cap) (left' := left) (by simp; omega) rfl g1 ((H2.out.set 1 _).set 2 _) (owns_moved ho3 (moved_set2 w1 p 1 2 _ _) (fun j hj e => hne (by rw [hj, e]))) (by simp [bcells]; rfl) H4.out HK.out, (HM.out.trans (moved_set2 w1 p 1 2 _ _) fun _ _ h => h).mono fun _ _ h => .inl h, gto_same _ _⟩
      by_cases hdk : (k : Int) < s.dur
      · exact main _ rfl (.inl ⟨hdk, by omega⟩)
      · exact main _ rfl (.inr ⟨by omega, by omega⟩)
  · have hs : truncF s n = (42, begun s) := by simp [truncF, hl]
    rw [hs]
    clear h hok hs hk
    go_enter Try.func26, Try.ntmps26
    go_wp2_with fail
    refine HB.out.mono ?_
    rintro e w1 ⟨rfl, hd1, hm1⟩
    rw [hl]
    have HD := Lib.hid hd1
    have HM := Lib.hid hm1
    clear hd1 hm1 HB
    go_wp2_with fail
    go_ret
    exact ⟨g, rfl, HD.out, HM.out.mono fun _ _ h => .inl h, gto_same _ _⟩

set_option maxHeartbeats 400000 in
theorem cut_any (base p : Nat) (g : Option Nat) (s : DS) (n : Int) (w : World) (h : DiskIs w base p g s) (hn : n ≤ 9223372036854775807) :
    Calls Try.prog 25 #[.pointer (some ⟨p, 0, none⟩), .int .i64 n] w fun e w' => e = .returned (.tuple #[]) ∧ DiskIs w' base p g (cutF s n) ∧ Moved w w' (fun k => k = p) := by
  have hok := cut_ok h.ok hn
  obtain ⟨cap, left, h1, h2, h3, h4, h5⟩ := h
  obtain ⟨room, bs, dur, ops, cut⟩ := s
  obtain ⟨⟨c0, c1, c2, c3, c4, c5, c6⟩, f1, f2, f3, f4, f5, f6⟩ := disk_cells h2
  have H2 := Lib.hid h2
  have H3 := Lib.hid h3
  have H4 := Lib.hid h4
  have H5 := Lib.hid h5
  have HB := Lib.hid hok
  clear h3 h4 h5 hok h2
  have main : ∀ cut', cut = cut' → cut' ≠ some 0 → Calls Try.prog 25 #[.pointer (some ⟨p, 0, none⟩), .int .i64 n] w fun e w' => e = .returned (.tuple #[]) ∧ DiskIs w' base p g (cutF ⟨room, bs, dur, ops, cut'⟩ n) ∧ Moved w w' (fun k => k = p) := by
    rintro cut' rfl hne
    have hf : (cut == some 0) = false := by simpa using hne
    simp only [hf] at c6
    have hs : cutF ⟨room, bs, dur, ops, cut⟩ n = ⟨room, bs, dur, ops, some n.toNat⟩ := by simp [cutF, live, hne]
    rw [hs] at HB ⊢
    clear hs hf hne
    by_cases h0 : n < 1
    · have e0 : n.toNat = 0 := by omega
      rw [e0] at HB ⊢
      clear e0
      go_enter Try.func25, Try.ntmps25
      go_wp2_with fail
      go_end0
      exact ⟨rfl, DiskIs.put h1 H2.out H3.out (moved_set3 _ _ _ _ _ _ _ _) rfl (((H2.out.set 4 _).set 5 _).set 6 _) (by intro j hj h0; cases hj; omega) HB.out, moved_set3 _ _ _ _ _ _ _ _⟩
    · obtain ⟨j, rfl⟩ : ∃ j : Nat, n = ((j + 1 : Nat) : Int) := ⟨n.toNat - 1, by omega⟩
      rw [Int.toNat_natCast] at HB ⊢
      go_enter Try.func25, Try.ntmps25
      have hd : decide ((j : Int) + 1 < 1) = false := by simp; omega
      go_wp2_with fail
      go_end0
      exact ⟨rfl, DiskIs.put h1 H2.out H3.out (moved_set3 _ _ _ _ _ _ _ _) rfl (((H2.out.set 4 _).set 5 _).set 6 _) (by intro i hi h0; cases hi; rfl) HB.out, moved_set3 _ _ _ _ _ _ _ _⟩
  by_cases hc : cut = some 0
  · subst hc
    have c6' : w.cell? ⟨p, 6, none⟩ = some (.bool true) := c6
    have hs : cutF ⟨room, bs, dur, ops, some 0⟩ n = ⟨room, bs, dur, ops, some 0⟩ := rfl
    rw [hs]
    clear main c6 hs
    go_enter Try.func25, Try.ntmps25
    go_wp2_with fail
    refine bodyPost_ret (results_none rfl _ _ _) rfl ?_
    exact ⟨rfl, ⟨cap, left, h1, H2.out, H3.out, H4.out, H5.out⟩, Moved.refl _ _⟩
  · exact main cut rfl hc

set_option maxHeartbeats 400000 in
theorem clone_any (ao : Option Addr) (m c : Nat) (b : List Int) (w : World) (hm : b.length = m) (hb : Byt w ao b) (hlen : m ≤ 1000000) :
    Calls Try.prog 37 #[.slice ao m c] w fun e w' => ∃ g cap, e = .returned (.slice (gad g) m cap) ∧ w'.ownsRow w.heap.size 5 1 (.slice (gad g) m cap) m (bcells b) ∧ Below w.heap.size w w' := by
  subst hm
  obtain ⟨i0, hi, hz0, hz1, hz2⟩ := info_parts Try.infoByte
  have q : ∀ (w : World) (a : Option Addr) (n c n' c' : Nat), (binOp .eql 30 (.slice a n c) (.slice none n' c')).run Try.prog w = .ok (.bool a.isNone) w := fun w a n c n' c' => Lib.run_eql_slice_nil w _ _ a n c n' c' Try.underlying30
  cases ao with
  | none =>
    obtain rfl : b = [] := by
      rcases hb with h | ⟨_, _, h, _⟩
      · exact h
      · cases h
    go_enter Try.func37, Try.ntmps37
    go_wp2_with fail
    go_ret
    exact ⟨none, 0, rfl, World.ownsRow_nil _ _ _ _, Below.refl _ _⟩
  | some a =>
    have HB := Lib.hid hb
    clear hb
    go_enter Try.func37, Try.ntmps37
    have ho : Hid ((w.alloc (.cells #[] 5)).ownsRow w.heap.size 5 1 (.slice (some ⟨w.heap.size, 0, none⟩) 0 0) 0 []) := World.ownsRow_made w #[] 0 (Nat.le_refl _) (by decide) rfl
    have hy : Hid (Byt (w.alloc (.cells #[] 5)) (some a) b) := HB.out.next ((Below.refl _ _).alloc (Nat.le_refl _) _)
    go_wp2_with (at_builtin; refine wpList_append_byt _ rfl (.tmp 5) (.tmp 6) 30 rfl w.heap.size 5 i0 (.int .u8 0) Try.underlying30 hi hz0 hz1 hz2 rfl (.slice (some ⟨w.heap.size, 0, none⟩) 0 0) 0 [] rfl ho.out (some a) b.length c b rfl rfl hy.out (by omega) (by simp) ?_; intro g2 c2 w2 hown2 hg2 hv2)
    go_ret
    refine ⟨g2, c2, by simp, by simpa using hown2, ((Below.refl w.heap.size w).alloc (Nat.le_refl _) _).grown hg2 (by simp) (fun k hk => ?_)⟩
    simp [Value.ownBlock] at hk
    omega

/-- Read hands out a copy. -/
theorem read_any (base p : Nat) (g : Option Nat) (s : DS) (w : World) (h : DiskIs w base p g s) :
    Calls Try.prog 17 #[.pointer (some ⟨p, 0, none⟩)] w fun e w' => ∃ g' cap, e = .returned (.slice (gad g') s.bs.length cap) ∧ w'.ownsRow w.heap.size 5 1 (.slice (gad g') s.bs.length cap) s.bs.length (bcells s.bs) ∧ Below w.heap.size w w' := by
  obtain ⟨cap, left, h1, h2, h3, h4, h5⟩ := h
  obtain ⟨⟨c0, c1, -⟩, -⟩ := disk_cells h2
  have hl : s.bs.length ≤ 1000000 := by have := h5.len; have := h5.room1; omega
  have hy := (byt_own h3).choose_spec.2.2.2
  rw [gad_own] at hy
  have HC := Lib.hid (clone_any (gad g) s.bs.length cap s.bs w rfl hy hl)
  clear h2 h3 h4 h5 hy c0
  go_enter Try.func17, Try.ntmps17
  go_wp2_with fail
  refine HC.out.mono ?_
  rintro e w1 ⟨g2, c2, rfl, ho, hb⟩
  have HO := Lib.hid ho
  have HB := Lib.hid hb
  clear ho hb HC
  go_wp2_with fail
  go_ret
  exact ⟨g2, c2, rfl, HO.out, HB.out⟩
end Go.Proofs.Ytkbdbinafjmjkaa
