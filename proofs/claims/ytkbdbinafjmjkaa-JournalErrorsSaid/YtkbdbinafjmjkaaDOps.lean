/-
  The operations of a disk: each answers and leaves what the plain state says.
-/
import Derived.Test.YtkbdbinafjmjkaaDBegin
namespace Go.Proofs.Ytkbdbinafjmjkaa
open Go.RowKit

/-- The new block is the old one, or was made since. -/
def GTo (g g' : Option Nat) (H : Nat) : Prop := ∀ k, g' = some k → g = some k ∨ H ≤ k
theorem gto_same (g : Option Nat) (H : Nat) : GTo g g H := fun _ hk => .inl hk

/-- What an operation leaves: the answer, the disk's new state, where its bytes now lie. -/
def DiskTo (base p : Nat) (g : Option Nat) (w : World) (r : Value) (s' : DS) (e : Ending) (w' : World) : Prop :=
  ∃ g', e = .returned r ∧ DiskIs w' base p g' s' ∧ Moved w w' (fun k => k = p ∨ g = some k) ∧ GTo g g' w.heap.size

theorem live_cases (s : DS) : live s = true ∨ live s = false := by cases live s <;> simp

theorem Try.infoByte : (Try.prog.info? 5).map (fun i => (i.zero, i.size, i.bytes)) = some (some (.int .u8 0), 1, 1) := by kernel_rfl

theorem moved_drewN (w : World) (n : Nat) (S : Nat → Prop) : Moved w (w.drewN n) S := ⟨rfl, rfl, rfl, Nat.le_refl _, fun _ _ _ => rfl⟩

theorem size_any (base p : Nat) (g : Option Nat) (s : DS) (w : World) (h : DiskIs w base p g s) :
    Calls Try.prog 20 #[.pointer (some ⟨p, 0, none⟩)] w fun e w' => e = .returned (.int .i64 s.bs.length) ∧ w = w' := by
  obtain ⟨cap, left, h1, h2, h3, h4, h5⟩ := h
  obtain ⟨⟨c0, c1, c2, c3, c4, c5, c6⟩, -⟩ := disk_cells h2
  clear h2 h3 h4 h5
  go_enter Try.func20, Try.ntmps20
  go_wp2
  go_ret
  exact ⟨rfl, rfl⟩

theorem ops_any (base p : Nat) (g : Option Nat) (s : DS) (w : World) (h : DiskIs w base p g s) :
    Calls Try.prog 27 #[.pointer (some ⟨p, 0, none⟩)] w fun e w' => e = .returned (.int .i64 s.ops) ∧ w = w' := by
  obtain ⟨cap, left, h1, h2, h3, h4, h5⟩ := h
  obtain ⟨⟨c0, c1, c2, c3, c4, c5, c6⟩, -⟩ := disk_cells h2
  clear h2 h3 h4 h5
  go_enter Try.func27, Try.ntmps27
  go_wp2
  go_ret
  exact ⟨rfl, rfl⟩

/-- The state of a new disk. -/
def newD (room : Int) : DS := { room := room, bs := [], dur := 0, ops := 0, cut := none }
theorem newD_ok {room : Int} (h0 : 0 ≤ room) (h1 : room ≤ 262144) : DOk (newD room) :=
  ⟨h0, h1, (by simpa [newD] using h0), Nat.le_refl _, (fun k hk => by cases hk), (fun x hx => by cases hx)⟩

theorem new_any (room : Int) (w : World) (h0 : 0 ≤ room) (h1 : room ≤ 262144) :
    Calls Try.prog 14 #[.int .i64 room] w fun e w' => e = .returned (.tuple #[.pointer (some ⟨w.heap.size, 0, none⟩), .int .i64 0]) ∧ DiskIs w' w.heap.size w.heap.size none (newD room) ∧ Below w.heap.size w w' := by
  go_enter Try.func14, Try.ntmps14
  go_wp2
  go_ret2
  exact ⟨rfl, ⟨0, 0, Nat.le_refl _, Box.new _ _ _, World.ownsRow_nil _ _ _ _, (fun k hk => by cases hk), newD_ok h0 h1⟩, by go_grown⟩

theorem new_bad (room : Int) (w : World) (h : room < 0 ∨ 262144 < room) :
    Calls Try.prog 14 #[.int .i64 room] w fun e w' => e = .returned (.tuple #[.pointer none, .int .i64 1]) ∧ w = w' := by
  by_cases h0 : room < 0
  · go_enter Try.func14, Try.ntmps14
    go_wp2
    go_ret2
    exact ⟨rfl, rfl⟩
  · have h1 : 262144 < room := by omega
    clear h
    go_enter Try.func14, Try.ntmps14
    go_wp2
    go_ret2
    exact ⟨rfl, rfl⟩

set_option maxHeartbeats 400000 in
theorem sync_any (base p : Nat) (g : Option Nat) (s : DS) (w : World) (h : DiskIs w base p g s) :
    Calls Try.prog 16 #[.pointer (some ⟨p, 0, none⟩)] w (DiskTo base p g w (.int .i64 (syncF s).1) (syncF s).2) := by
  have hok := sync_ok h.ok
  have HB := Lib.hid (begin_any base p g s w h)
  rcases live_cases s with hl | hl
  · have hs : syncF s = (0, { begun s with dur := s.bs.length }) := by simp [syncF, hl]
    rw [hs] at hok ⊢
    have HK := Lib.hid hok
    clear h hok hs
    go_enter Try.func16, Try.ntmps16
    go_wp2_with fail
    refine HB.out.mono ?_
    rintro e w1 ⟨rfl, hd1, hm1⟩
    rw [hl]
    obtain ⟨cap, left, h1, h2, h3, h4, h5⟩ := hd1
    obtain ⟨⟨c0, c1, c2, c3, c4, c5, c6⟩, f1, f2, f3, f4, f5, f6⟩ := disk_cells h2
    have H2 := Lib.hid h2
    have H3 := Lib.hid h3
    have H4 := Lib.hid h4
    have HM := Lib.hid hm1
    clear h2 h3 h4 h5 hm1 HB c0 c3 c4 c5 c6 f1 f3 f4 f5 f6
    go_wp2_with fail
    go_ret
    exact ⟨g, rfl, DiskIs.put h1 H2.out H3.out (moved_set1 _ _ _ _) rfl (H2.out.set 2 _) H4.out HK.out, (HM.out.trans (moved_set1 w1 p 2 _) fun _ _ h => h).mono fun _ _ h => .inl h, gto_same _ _⟩
  · have hs : syncF s = (42, begun s) := by simp [syncF, hl]
    rw [hs]
    clear h hok hs
    go_enter Try.func16, Try.ntmps16
    go_wp2_with fail
    refine HB.out.mono ?_
    rintro e w1 ⟨rfl, hd1, hm1⟩
    rw [hl]
    have HD := Lib.hid hd1
    have HM := Lib.hid hm1
    clear hd1 hm1 HB
    go_wp2_with fail
    go_ret
    exact ⟨g, rfl, HD.out, HM.out.mono fun _ _ h => .inl h, gto_same _ _⟩

theorem byt_moved0 {w w' : World} {ao : Option Addr} {bs : List Int} {S : Nat → Prop} (h : Byt w ao bs) (hm : Moved w w' S) (hn : ∀ b off, ao = some ⟨b, off, none⟩ → bs = [] ∨ ¬ S b) : Byt w' ao bs := by
  by_cases hb : bs = []
  · exact .inl hb
  · exact h.moved hm fun b off e => (hn b off e).resolve_left hb

set_option maxHeartbeats 400000 in
theorem append_any0 (base p : Nat) (g : Option Nat) (s : DS) (w : World) (h : DiskIs w base p g s) (ao : Option Addr) (m c : Nat) (b : List Int) (hm : b.length = m) (hb : Byt w ao b) (hbb : Bytes b) (hap : ∀ k o, ao = some ⟨k, o, none⟩ → b = [] ∨ k ≠ p) (hlen : m ≤ 1000000) (hbase : base ≤ w.heap.size) :
    Calls Try.prog 15 #[.pointer (some ⟨p, 0, none⟩), .slice ao m c] w (DiskTo base p g w (.int .i64 (appendF s b).1) (appendF s b).2) := by
  subst hm
  have hok := append_ok h.ok hbb
  have hk := h.ok
  have HB := Lib.hid (begin_any base p g s w h)
  obtain ⟨i0, hi, hz0, hz1, hz2⟩ := info_parts Try.infoByte
  rcases live_cases s with hl | hl
  · obtain ⟨k1, k2, k3, -, -, -⟩ := hk
    have e1 : IntKind.i64.wrap (s.room - (s.bs.length : Int)) = s.room - (s.bs.length : Int) := IntWalk.i64_in _ ⟨by omega, by omega⟩
    by_cases hr : s.room - (s.bs.length : Int) < (b.length : Int)
    · have hs : appendF s b = (43, begun s) := by simp [appendF, hl, hr]
      rw [hs] at hok ⊢
      have HR := Lib.hid hr
      clear h hok hs
      go_enter Try.func15, Try.ntmps15
      go_wp2_with fail
      refine HB.out.mono ?_
      rintro e w1 ⟨rfl, hd1, hm1⟩
      rw [hl]
      have HD := Lib.hid hd1
      obtain ⟨cap, left, h1, h2, h3, h4, h5⟩ := hd1
      obtain ⟨⟨c0, c1, -⟩, -⟩ := disk_cells h2
      have HM := Lib.hid hm1
      change w1.cell? _ = some (.slice (gad g) s.bs.length cap) at c1
      change w1.cell? _ = some (.int .i64 s.room) at c0
      clear h2 h3 h4 h5 hm1 HB
      go_wp2_with fail
      go_quiet (fail)
      go_wp2_with fail
      go_ret
      exact ⟨g, rfl, HD.out.moved (moved_drewN w1 _ fun _ => False) (fun h => h) fun _ _ h => h, (HM.out.trans (moved_drewN w1 _ _) fun _ _ h => h).mono fun _ _ h => .inl h, gto_same _ _⟩
    · have hs : appendF s b = (0, { begun s with bs := s.bs ++ b }) := by simp [appendF, hl, hr]
      rw [hs] at hok ⊢
      have HK := Lib.hid hok
      have HBY := Lib.hid hb
      clear h hok hs hb
      go_enter Try.func15, Try.ntmps15
      go_wp2_with fail
      refine HB.out.mono ?_
      rintro e w1 ⟨rfl, hd1, hm1⟩
      rw [hl]
      have hg := hd1.row
      obtain ⟨cap, left, h1, h2, h3, h4, h5⟩ := hd1
      obtain ⟨⟨c0, c1, -⟩, f1, -⟩ := disk_cells h2
      have HM := Lib.hid hm1
      have H2 := Lib.hid h2
      have H3 := Lib.hid h3
      have H4 := Lib.hid h4
      have HG := Lib.hid hg
      have hsz := hm1.size
      have HY := Lib.hid (byt_moved0 HBY.out hm1 hap)
      change w1.cell? _ = some (.slice (gad g) s.bs.length cap) at c1
      change w1.cell? _ = some (.int .i64 s.room) at c0
      clear h2 h3 h4 h5 hm1 HB HBY hg
      go_wp2_with fail
      go_quiet (fail)
      go_wp2_with (at_builtin; refine wpList_append_byt _ rfl (.tmp 25) (.tmp 26) 30 rfl base 5 i0 (.int .u8 0) Try.underlying30 hi hz0 hz1 hz2 rfl (.slice (gad g) s.bs.length cap) s.bs.length (bcells s.bs) rfl H3.out ao b.length c b rfl rfl HY.out (by omega) (by exact Nat.le_trans hbase hsz) ?_; intro g2 c2 w2 hown2 hg2 hv2; have hm2 := Moved.of_grown hg2; have hb2 := Box.moved (w := w1.drewN _) H2.out hm2 (fun e => (HG.out p (by rwa [gad_own] at e)).2.2 rfl); have d1 := hb2.cell 1; have d2 := hb2.frozen 1)
      have hne := owns_ne_box hown2 hb2 (by decide)
      rw [gad_own] at hne hv2
      have ho3 := owns_moved hown2 (Moved.setCell w2 p 1 (.slice (gad g2) (s.bs.length + b.length) c2)) (fun k hk e => hne (by rw [gad_own] at hk; rw [hk, e]))
      go_ret
      refine ⟨g2, rfl, DiskIs.make (by simp) rfl h1 (hb2.set 1 _) ho3 (by simp [bcells]) H4.out HK.out, ?_, ?_⟩
      · exact (((HM.out.mono fun k _ h => Or.inl h).trans (moved_drewN w1 nq fun _ => False) fun _ _ h => h.elim).trans hm2 fun k _ h => .inr (by rwa [gad_own] at h)).trans (Moved.setCell w2 p 1 _) fun k _ h => .inl h
      · intro j hj
        rcases hv2 with h | ⟨k, hk, hlt⟩
        · exact .inl (h ▸ hj)
        · rw [hk] at hj
          cases hj
          exact .inr (Nat.le_trans hsz hlt)
  · have hs : appendF s b = (42, begun s) := by simp [appendF, hl]
    rw [hs]
    clear h hok hs hk
    go_enter Try.func15, Try.ntmps15
    go_wp2_with fail
    refine HB.out.mono ?_
    rintro e w1 ⟨rfl, hd1, hm1⟩
    rw [hl]
    have HD := Lib.hid hd1
    have HM := Lib.hid hm1
    clear hd1 hm1 HB
    go_wp2_with fail
    go_ret
    exact ⟨g, rfl, HD.out, HM.out.mono fun _ _ h => .inl h, gto_same _ _⟩
theorem append_any (base p : Nat) (g : Option Nat) (s : DS) (w : World) (h : DiskIs w base p g s) (ao : Option Addr) (m c : Nat) (b : List Int) (hm : b.length = m) (hb : Byt w ao b) (hbb : Bytes b) (hap : ∀ k o, ao = some ⟨k, o, none⟩ → k ≠ p) (hlen : m ≤ 1000000) (hbase : base ≤ w.heap.size) :
    Calls Try.prog 15 #[.pointer (some ⟨p, 0, none⟩), .slice ao m c] w (DiskTo base p g w (.int .i64 (appendF s b).1) (appendF s b).2) :=
  append_any0 base p g s w h ao m c b hm hb hbb (fun k o e => .inr (hap k o e)) hlen hbase
end Go.Proofs.Ytkbdbinafjmjkaa
