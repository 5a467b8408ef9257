/-
  A disk in memory; begin, Size, Ops and New do what the plain state says.
-/
import Derived.Test.YtkbdbinafjmjkaaChecked
import Derived.Test.YtkbdbinafjmjkaaDWords
import Derived.BigQuiet
import Derived.WalkSpells
namespace Go.Proofs.Ytkbdbinafjmjkaa
open Go.RowKit

theorem byt_own {w : World} {base : Nat} {e : TypeId} {v : Value} {bs : List Int} (h : w.ownsRow base e 1 v bs.length (bcells bs)) : ∃ cap, v = .slice (gad v.ownBlock) bs.length cap ∧ bs.length ≤ cap ∧ cap ≤ maxLen ∧ Byt w (gad v.ownBlock) bs := byt_of_owns h

/-- What the field 'left' holds. -/
def LeftOk (c : Option Nat) (left : Int) : Prop := ∀ k, c = some k → 0 < k → left = k

/-- The disk at block p; its bytes lie in block g. -/
def DiskIs (w : World) (base p : Nat) (g : Option Nat) (s : DS) : Prop :=
  ∃ (cap : Nat) (left : Int), base ≤ p ∧ Box w p 49 #[.int .i64 s.room, .slice (gad g) s.bs.length cap, .int .i64 s.dur, .int .i64 s.ops, .bool s.cut.isSome, .int .i64 left, .bool (s.cut == some 0)] ∧
    w.ownsRow base 5 1 (.slice (gad g) s.bs.length cap) s.bs.length (bcells s.bs) ∧ LeftOk s.cut left ∧ DOk s

section
variable {w w' : World} {base p : Nat} {g : Option Nat} {s : DS} {S : Nat → Prop}
theorem DiskIs.lt (h : DiskIs w base p g s) : base ≤ p ∧ p < w.heap.size := by
  obtain ⟨_, _, h1, h2, _⟩ := h
  exact ⟨h1, h2.lt⟩
theorem DiskIs.ok (h : DiskIs w base p g s) : DOk s := by
  obtain ⟨_, _, _, _, _, _, h⟩ := h
  exact h
theorem DiskIs.row (h : DiskIs w base p g s) : ∀ k, g = some k → base ≤ k ∧ k < w.heap.size ∧ k ≠ p := by
  obtain ⟨cap, left, h1, h2, h3, _⟩ := h
  intro k hk
  have hl := h3.lt k (by rw [gad_own]; exact hk)
  have hn := owns_ne_box h3 h2 (by decide)
  rw [gad_own, hk] at hn
  exact ⟨hl.1, hl.2, fun e => hn (by rw [e])⟩
theorem DiskIs.moved (h : DiskIs w base p g s) (hm : Moved w w' S) (hp : ¬ S p) (hg : ∀ k, g = some k → ¬ S k) : DiskIs w' base p g s := by
  obtain ⟨cap, left, h1, h2, h3, h4⟩ := h
  exact ⟨cap, left, h1, h2.moved hm hp, owns_moved h3 hm (by rw [gad_own]; exact hg), h4⟩
theorem DiskIs.next (h : DiskIs w base p g s) (hb : Below w.heap.size w w') : DiskIs w' base p g s := h.moved (Moved.of_below hb fun _ => False) (fun h => h) fun _ _ h => h
theorem DiskIs.make {s' : DS} {n cap : Nat} {left' d : Int} {xs : List Value} (hn : s'.bs.length = n) (hd : (s'.dur : Int) = d) (h1 : base ≤ p)
    (hb : Box w' p 49 #[.int .i64 s'.room, .slice (gad g) n cap, .int .i64 d, .int .i64 s'.ops, .bool s'.cut.isSome, .int .i64 left', .bool (s'.cut == some 0)])
    (h3 : w'.ownsRow base 5 1 (.slice (gad g) n cap) n xs) (hx : xs = bcells s'.bs) (hl : LeftOk s'.cut left') (hok : DOk s') : DiskIs w' base p g s' := by
  subst hn hx hd
  exact ⟨cap, left', h1, hb, h3, hl, hok⟩
/-- The block alone has turned. -/
theorem DiskIs.put {cs0 : Array Value} {bs : List Int} {s' : DS} {cap : Nat} {left' : Int} (h1 : base ≤ p) (h2 : Box w p 49 cs0)
    (h3 : w.ownsRow base 5 1 (.slice (gad g) bs.length cap) bs.length (bcells bs)) (hm : Moved w w' (fun k => k = p)) (hs : s'.bs = bs)
    (hb : Box w' p 49 #[.int .i64 s'.room, .slice (gad g) bs.length cap, .int .i64 s'.dur, .int .i64 s'.ops, .bool s'.cut.isSome, .int .i64 left', .bool (s'.cut == some 0)]) (hl : LeftOk s'.cut left') (hok : DOk s') : DiskIs w' base p g s' := by
  have hn := owns_ne_box h3 h2 (by decide)
  rw [gad_own] at hn
  have h4 := owns_moved h3 hm (by rw [gad_own]; intro k hk e; exact hn (by rw [hk, e]))
  rw [← hs] at hb h4
  exact ⟨cap, left', h1, hb, h4, hl, hok⟩
end

theorem moved_set1 (w : World) (p i : Nat) (a : Value) : Moved w (w.setCell ⟨p, i, none⟩ a) (fun k => k = p) := Moved.setCell w p i a
theorem moved_set2 (w : World) (p i j : Nat) (a b : Value) : Moved w ((w.setCell ⟨p, i, none⟩ a).setCell ⟨p, j, none⟩ b) (fun k => k = p) := (Moved.setCell w p i a).trans (Moved.setCell _ p j b) fun _ _ h => h
theorem moved_set3 (w : World) (p i j k : Nat) (a b c : Value) : Moved w (((w.setCell ⟨p, i, none⟩ a).setCell ⟨p, j, none⟩ b).setCell ⟨p, k, none⟩ c) (fun k => k = p) := (moved_set2 w p i j a b).trans (Moved.setCell _ p k c) fun _ _ h => h

/-- The cells of a disk's block, none of them frozen. -/
theorem disk_cells {w : World} {p : Nat} {t : TypeId} {a b c d e f g : Value} (h : Box w p t #[a, b, c, d, e, f, g]) :
    (w.cell? ⟨p, 0, none⟩ = some a ∧ w.cell? ⟨p, 1, none⟩ = some b ∧ w.cell? ⟨p, 2, none⟩ = some c ∧ w.cell? ⟨p, 3, none⟩ = some d ∧ w.cell? ⟨p, 4, none⟩ = some e ∧ w.cell? ⟨p, 5, none⟩ = some f ∧ w.cell? ⟨p, 6, none⟩ = some g) ∧
    w.frozen? ⟨p, 1, none⟩ = false ∧ w.frozen? ⟨p, 2, none⟩ = false ∧ w.frozen? ⟨p, 3, none⟩ = false ∧ w.frozen? ⟨p, 4, none⟩ = false ∧ w.frozen? ⟨p, 5, none⟩ = false ∧ w.frozen? ⟨p, 6, none⟩ = false :=
  ⟨⟨h.cell 0, h.cell 1, h.cell 2, h.cell 3, h.cell 4, h.cell 5, h.cell 6⟩, h.frozen 1, h.frozen 2, h.frozen 3, h.frozen 4, h.frozen 5, h.frozen 6⟩

set_option maxHeartbeats 400000 in
theorem begin_any (base p : Nat) (g : Option Nat) (s : DS) (w : World) (h : DiskIs w base p g s) :
    Calls Try.prog 36 #[.pointer (some ⟨p, 0, none⟩)] w fun e w' => e = .returned (.bool (live s)) ∧ DiskIs w' base p g (begun s) ∧ Moved w w' (fun k => k = p) := by
  obtain ⟨cap, left, h1, h2, h3, h4, h5⟩ := h
  have hb := begun_ok h5
  obtain ⟨room, bs, dur, ops, cut⟩ := s
  simp only at h2 h3 h4
  obtain ⟨⟨c0, c1, c2, c3, c4, c5, c6⟩, f1, f2, f3, f4, f5, f6⟩ := disk_cells h2
  have H2 := Lib.hid h2
  have H3 := Lib.hid h3
  have H4 := Lib.hid h4
  have H5 := Lib.hid h5
  have HB := Lib.hid hb
  clear h3 h4 h5 hb
  cases cut with
  | none =>
    simp only [Option.isSome] at c4 c6
    have c6' : w.cell? ⟨p, 6, none⟩ = some (.bool false) := c6
    clear c6 h2
    go_enter Try.func36, Try.ntmps36
    go_wp2
    go_ret
    exact ⟨rfl, DiskIs.put h1 H2.out H3.out (moved_set1 _ _ _ _) rfl (H2.out.set 3 _) H4.out HB.out, moved_set1 _ _ _ _⟩
  | some k =>
    have c4' : w.cell? ⟨p, 4, none⟩ = some (.bool true) := c4
    clear c4 h2
    match k with
    | 0 =>
      have c6' : w.cell? ⟨p, 6, none⟩ = some (.bool true) := c6
      clear c6
      go_enter Try.func36, Try.ntmps36
      go_wp2
      go_ret
      exact ⟨rfl, DiskIs.put h1 H2.out H3.out (moved_set1 _ _ _ _) rfl (H2.out.set 3 _) (by intro j hj h0; simp [begun] at hj; omega) HB.out, moved_set1 _ _ _ _⟩
    | 1 =>
      have c6' : w.cell? ⟨p, 6, none⟩ = some (.bool false) := c6
      obtain rfl : left = 1 := H4.out 1 rfl (by omega)
      clear c6
      go_enter Try.func36, Try.ntmps36
      go_wp2
      go_ret
      exact ⟨rfl, DiskIs.put h1 H2.out H3.out (moved_set3 _ _ _ _ _ _ _ _) rfl (((H2.out.set 3 _).set 5 _).set 6 _) (by intro j hj h0; simp [begun] at hj; omega) HB.out, moved_set3 _ _ _ _ _ _ _ _⟩
    | k + 2 =>
      have c6' : w.cell? ⟨p, 6, none⟩ = some (.bool false) := c6
      obtain rfl : left = ((k + 2 : Nat) : Int) := H4.out (k + 2) rfl (by omega)
      have hk := H5.out.cut (k + 2) rfl
      have hd : decide ((k : Int) + 2 - 1 < 1) = false := by simp; omega
      clear c6
      go_enter Try.func36, Try.ntmps36
      go_wp2
      go_ret
      exact ⟨rfl, DiskIs.put (left' := (k : Int) + 2 - 1) h1 H2.out H3.out (moved_set3 _ _ _ _ _ _ _ _) rfl (((H2.out.set 3 _).set 5 _).set 6 _) (by intro j hj h0; simp [begun] at hj; omega) HB.out, moved_set3 _ _ _ _ _ _ _ _⟩
end Go.Proofs.Ytkbdbinafjmjkaa
