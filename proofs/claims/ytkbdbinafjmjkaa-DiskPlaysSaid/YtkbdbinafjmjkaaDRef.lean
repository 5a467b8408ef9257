/-
  The reference's disk in memory; its operations do what the plain state says.
-/
import Derived.Test.YtkbdbinafjmjkaaDCrash
namespace Go.Proofs.Ytkbdbinafjmjkaa
open Go.RowKit

def LeftR (c : Option Nat) (left : Int) : Prop := ∀ k, c = some k → left = k

/-- The reference's disk at block p; its bytes lie in block g. -/
def RefIs (w : World) (base p : Nat) (g : Option Nat) (s : DS) : Prop :=
  ∃ (cap : Nat) (left : Int), base ≤ p ∧ Box w p 75 #[.int .i64 s.room, .int .i64 s.dur, .int .i64 s.ops, .slice (gad g) s.bs.length cap, .bool s.cut.isSome, .int .i64 left] ∧
    w.ownsRow base 5 1 (.slice (gad g) s.bs.length cap) s.bs.length (bcells s.bs) ∧ LeftR s.cut left ∧ DOk s

section
variable {w w' : World} {base p : Nat} {g : Option Nat} {s : DS} {S : Nat → Prop}
theorem RefIs.lt (h : RefIs w base p g s) : base ≤ p ∧ p < w.heap.size := by
  obtain ⟨_, _, h1, h2, _⟩ := h
  exact ⟨h1, h2.lt⟩
theorem RefIs.ok (h : RefIs w base p g s) : DOk s := by
  obtain ⟨_, _, _, _, _, _, h⟩ := h
  exact h
theorem RefIs.row (h : RefIs w base p g s) : ∀ k, g = some k → base ≤ k ∧ k < w.heap.size ∧ k ≠ p := by
  obtain ⟨cap, left, h1, h2, h3, _⟩ := h
  intro k hk
  have hl := h3.lt k (by rw [gad_own]; exact hk)
  have hn := owns_ne_box h3 h2 (by decide)
  rw [gad_own, hk] at hn
  exact ⟨hl.1, hl.2, fun e => hn (by rw [e])⟩
theorem RefIs.moved (h : RefIs w base p g s) (hm : Moved w w' S) (hp : ¬ S p) (hg : ∀ k, g = some k → ¬ S k) : RefIs w' base p g s := by
  obtain ⟨cap, left, h1, h2, h3, h4⟩ := h
  exact ⟨cap, left, h1, h2.moved hm hp, owns_moved h3 hm (by rw [gad_own]; exact hg), h4⟩
theorem RefIs.next (h : RefIs w base p g s) (hb : Below w.heap.size w w') : RefIs w' base p g s := h.moved (Moved.of_below hb fun _ => False) (fun h => h) fun _ _ h => h
theorem RefIs.make {s' : DS} {n cap : Nat} {left' d : Int} {xs : List Value} (hn : s'.bs.length = n) (hd : (s'.dur : Int) = d) (h1 : base ≤ p)
    (hb : Box w' p 75 #[.int .i64 s'.room, .int .i64 d, .int .i64 s'.ops, .slice (gad g) n cap, .bool s'.cut.isSome, .int .i64 left'])
    (h3 : w'.ownsRow base 5 1 (.slice (gad g) n cap) n xs) (hx : xs = bcells s'.bs) (hl : LeftR s'.cut left') (hok : DOk s') : RefIs w' base p g s' := by
  subst hn hx hd
  exact ⟨cap, left', h1, hb, h3, hl, hok⟩
theorem RefIs.put {cs0 : Array Value} {bs : List Int} {s' : DS} {cap : Nat} {left' : Int} (h1 : base ≤ p) (h2 : Box w p 75 cs0)
    (h3 : w.ownsRow base 5 1 (.slice (gad g) bs.length cap) bs.length (bcells bs)) (hm : Moved w w' (fun k => k = p)) (hs : s'.bs = bs)
    (hb : Box w' p 75 #[.int .i64 s'.room, .int .i64 s'.dur, .int .i64 s'.ops, .slice (gad g) bs.length cap, .bool s'.cut.isSome, .int .i64 left']) (hl : LeftR s'.cut left') (hok : DOk s') : RefIs w' base p g s' := by
  have hn := owns_ne_box h3 h2 (by decide)
  rw [gad_own] at hn
  have h4 := owns_moved h3 hm (by rw [gad_own]; intro k hk e; exact hn (by rw [hk, e]))
  rw [← hs] at hb h4
  exact ⟨cap, left', h1, hb, h4, hl, hok⟩
end

theorem ref_cells {w : World} {p : Nat} {t : TypeId} {a b c d e f : Value} (h : Box w p t #[a, b, c, d, e, f]) :
    (w.cell? ⟨p, 0, none⟩ = some a ∧ w.cell? ⟨p, 1, none⟩ = some b ∧ w.cell? ⟨p, 2, none⟩ = some c ∧ w.cell? ⟨p, 3, none⟩ = some d ∧ w.cell? ⟨p, 4, none⟩ = some e ∧ w.cell? ⟨p, 5, none⟩ = some f) ∧
    w.frozen? ⟨p, 1, none⟩ = false ∧ w.frozen? ⟨p, 2, none⟩ = false ∧ w.frozen? ⟨p, 3, none⟩ = false ∧ w.frozen? ⟨p, 4, none⟩ = false ∧ w.frozen? ⟨p, 5, none⟩ = false :=
  ⟨⟨h.cell 0, h.cell 1, h.cell 2, h.cell 3, h.cell 4, h.cell 5⟩, h.frozen 1, h.frozen 2, h.frozen 3, h.frozen 4, h.frozen 5⟩

def RefTo (base p : Nat) (g : Option Nat) (w : World) (r : Value) (s' : DS) (e : Ending) (w' : World) : Prop :=
  ∃ g', e = .returned r ∧ RefIs w' base p g' s' ∧ Moved w w' (fun k => k = p ∨ g = some k) ∧ GTo g g' w.heap.size

theorem newR_any (room : Int) (w : World) (h0 : 0 ≤ room) (h1 : room ≤ 262144) :
    Calls Try.prog 21 #[.int .i64 room] w fun e w' => e = .returned (.tuple #[.pointer (some ⟨w.heap.size, 0, none⟩), .int .i64 0]) ∧ RefIs w' w.heap.size w.heap.size none (newD room) ∧ Below w.heap.size w w' := by
  go_enter Try.func21, Try.ntmps21
  go_wp2
  go_ret2
  exact ⟨rfl, ⟨0, 0, Nat.le_refl _, Box.new _ _ _, World.ownsRow_nil _ _ _ _, (fun k hk => by cases hk), newD_ok h0 h1⟩, by go_grown⟩

theorem newR_bad (room : Int) (w : World) (h : room < 0 ∨ 262144 < room) :
    Calls Try.prog 21 #[.int .i64 room] w fun e w' => e = .returned (.tuple #[.pointer none, .int .i64 1]) ∧ w = w' := by
  by_cases h0 : room < 0
  · go_enter Try.func21, Try.ntmps21
    go_wp2
    go_ret2
    exact ⟨rfl, rfl⟩
  · have h1 : 262144 < room := by omega
    clear h
    go_enter Try.func21, Try.ntmps21
    go_wp2
    go_ret2
    exact ⟨rfl, rfl⟩

set_option maxHeartbeats 400000 in
theorem off_any (base p : Nat) (g : Option Nat) (s : DS) (w : World) (h : RefIs w base p g s) :
    Calls Try.prog 47 #[.pointer (some ⟨p, 0, none⟩)] w fun e w' => e = .returned (.bool (!live s)) ∧ RefIs w' base p g (begun s) ∧ Moved w w' (fun k => k = p) := by
  obtain ⟨cap, left, h1, h2, h3, h4, h5⟩ := h
  have hb := begun_ok h5
  obtain ⟨room, bs, dur, ops, cut⟩ := s
  simp only at h2 h3 h4
  obtain ⟨⟨c0, c1, c2, c3, c4, c5⟩, f1, f2, f3, f4, f5⟩ := ref_cells h2
  have H2 := Lib.hid h2
  have H3 := Lib.hid h3
  have H4 := Lib.hid h4
  have H5 := Lib.hid h5
  have HB := Lib.hid hb
  clear h3 h4 h5 hb
  cases cut with
  | none =>
    have c4' : w.cell? ⟨p, 4, none⟩ = some (.bool false) := c4
    clear c4 h2
    go_enter Try.func47, Try.ntmps47
    go_wp2
    go_ret
    exact ⟨rfl, RefIs.put h1 H2.out H3.out (moved_set1 _ _ _ _) rfl (H2.out.set 2 _) H4.out HB.out, moved_set1 _ _ _ _⟩
  | some k =>
    have c4' : w.cell? ⟨p, 4, none⟩ = some (.bool true) := c4
    clear c4 h2
    match k with
    | 0 =>
      obtain rfl : left = 0 := H4.out 0 rfl
      go_enter Try.func47, Try.ntmps47
      go_wp2
      go_ret
      exact ⟨rfl, RefIs.put h1 H2.out H3.out (moved_set1 _ _ _ _) rfl (H2.out.set 2 _) (by intro j hj; simp [begun] at hj; omega) HB.out, moved_set1 _ _ _ _⟩
    | k + 1 =>
      obtain rfl : left = ((k + 1 : Nat) : Int) := H4.out (k + 1) rfl
      have hk := H5.out.cut (k + 1) rfl
      have hd : ((k : Int) + 1 == 0) = false := by simp; omega
      go_enter Try.func47, Try.ntmps47
      go_wp2
      go_ret
      exact ⟨rfl, RefIs.put (left' := (k : Int)) h1 H2.out H3.out (moved_set2 _ _ _ _ _ _) rfl ((H2.out.set 2 _).set 5 _) (by intro j hj; simp [begun] at hj; omega) HB.out, moved_set2 _ _ _ _ _ _⟩

set_option maxHeartbeats 400000 in
theorem syncR_any (base p : Nat) (g : Option Nat) (s : DS) (w : World) (h : RefIs w base p g s) :
    Calls Try.prog 39 #[.pointer (some ⟨p, 0, none⟩)] w (RefTo base p g w (.int .i64 (syncF s).1) (syncF s).2) := by
  have hok := sync_ok h.ok
  have HB := Lib.hid (off_any base p g s w h)
  rcases live_cases s with hl | hl
  · have hs : syncF s = (0, { begun s with dur := s.bs.length }) := by simp [syncF, hl]
    rw [hs] at hok ⊢
    have HK := Lib.hid hok
    clear h hok hs
    go_enter Try.func39, Try.ntmps39
    go_wp2_with fail
    refine HB.out.mono ?_
    rintro e w1 ⟨rfl, hd1, hm1⟩
    rw [hl]
    obtain ⟨cap, left, h1, h2, h3, h4, h5⟩ := hd1
    obtain ⟨⟨c0, c1, c2, c3, c4, c5⟩, f1, f2, f3, f4, f5⟩ := ref_cells h2
    have H2 := Lib.hid h2
    have H3 := Lib.hid h3
    have H4 := Lib.hid h4
    have HM := Lib.hid hm1
    clear h2 h3 h4 h5 hm1 HB c0 c2 c4 c5 f2 f3 f4 f5
    go_wp2_with fail
    go_ret
    exact ⟨g, rfl, RefIs.put h1 H2.out H3.out (moved_set1 _ _ _ _) rfl (H2.out.set 1 _) H4.out HK.out, (HM.out.trans (moved_set1 w1 p 1 _) fun _ _ h => h).mono fun _ _ h => .inl h, gto_same _ _⟩
  · have hs : syncF s = (42, begun s) := by simp [syncF, hl]
    rw [hs]
    clear h hok hs
    go_enter Try.func39, Try.ntmps39
    go_wp2_with fail
    refine HB.out.mono ?_
    rintro e w1 ⟨rfl, hd1, hm1⟩
    rw [hl]
    have HD := Lib.hid hd1
    have HM := Lib.hid hm1
    clear hd1 hm1 HB
    go_wp2_with fail
    go_ret
    exact ⟨g, rfl, HD.out, HM.out.mono fun _ _ h => .inl h, gto_same _ _⟩

set_option maxHeartbeats 400000 in
theorem cutR_any (base p : Nat) (g : Option Nat) (s : DS) (n : Int) (w : World) (h : RefIs w base p g s) (hn : n ≤ 9223372036854775807) :
    Calls Try.prog 41 #[.pointer (some ⟨p, 0, none⟩), .int .i64 n] w fun e w' => e = .returned (.tuple #[]) ∧ RefIs w' base p g (cutF s n) ∧ Moved w w' (fun k => k = p) := by
  have hok := cut_ok h.ok hn
  obtain ⟨cap, left, h1, h2, h3, h4, h5⟩ := h
  obtain ⟨room, bs, dur, ops, cut⟩ := s
  obtain ⟨⟨c0, c1, c2, c3, c4, c5⟩, f1, f2, f3, f4, f5⟩ := ref_cells h2
  have H2 := Lib.hid h2
  have H3 := Lib.hid h3
  have H4 := Lib.hid h4
  have H5 := Lib.hid h5
  have HB := Lib.hid hok
  clear h3 h4 h5 hok h2
  have main : ∀ cut', cut = cut' → cut' ≠ some 0 → Calls Try.prog 41 #[.pointer (some ⟨p, 0, none⟩), .int .i64 n] w fun e w' => e = .returned (.tuple #[]) ∧ RefIs w' base p g (cutF ⟨room, bs, dur, ops, cut'⟩ n) ∧ Moved w w' (fun k => k = p) := by
    rintro cut' rfl hne
    have hs : cutF ⟨room, bs, dur, ops, cut⟩ n = ⟨room, bs, dur, ops, some n.toNat⟩ := by simp [cutF, live, hne]
    rw [hs] at HB ⊢
    clear hs
    have hz : ∃ m : Nat, n.toNat = m ∧ (n < 0 ∧ m = 0 ∨ 0 ≤ n ∧ n = (m : Int)) := ⟨n.toNat, rfl, by omega⟩
    obtain ⟨m, hm, hcase⟩ := hz
    rw [hm] at HB ⊢
    clear hm
    have hside : cut = none ∨ ∃ k, cut = some (k + 1) := by
      cases cut with
      | none => exact .inl rfl
      | some k =>
        cases k with
        | zero => exact absurd rfl hne
        | succ k => exact .inr ⟨k, rfl⟩
    clear hne
    rcases hside with rfl | ⟨k, rfl⟩
    · have c4' : w.cell? ⟨p, 4, none⟩ = some (.bool false) := c4
      clear c4
      rcases hcase with ⟨hn0, rfl⟩ | ⟨hn0, rfl⟩
      all_goals
        go_enter Try.func41, Try.ntmps41
        go_wp2_with fail
        go_end0
        exact ⟨rfl, RefIs.put h1 H2.out H3.out (moved_set2 _ _ _ _ _ _) rfl ((H2.out.set 4 _).set 5 _) (by intro j hj; cases hj; rfl) HB.out, moved_set2 _ _ _ _ _ _⟩
    · have c4' : w.cell? ⟨p, 4, none⟩ = some (.bool true) := c4
      obtain rfl : left = ((k + 1 : Nat) : Int) := H4.out (k + 1) rfl
      have hd : ((k : Int) + 1 == 0) = false := by simp; omega
      clear c4
      rcases hcase with ⟨hn0, rfl⟩ | ⟨hn0, rfl⟩
      all_goals
        go_enter Try.func41, Try.ntmps41
        go_wp2_with fail
        go_end0
        exact ⟨rfl, RefIs.put h1 H2.out H3.out (moved_set2 _ _ _ _ _ _) rfl ((H2.out.set 4 _).set 5 _) (by intro j hj; cases hj; rfl) HB.out, moved_set2 _ _ _ _ _ _⟩
  by_cases hc : cut = some 0
  · subst hc
    obtain rfl : left = 0 := H4.out 0 rfl
    have c4' : w.cell? ⟨p, 4, none⟩ = some (.bool true) := c4
    have hs : cutF ⟨room, bs, dur, ops, some 0⟩ n = ⟨room, bs, dur, ops, some 0⟩ := rfl
    rw [hs]
    clear main hs c4
    go_enter Try.func41, Try.ntmps41
    go_wp2_with fail
    refine bodyPost_ret (results_none rfl _ _ _) rfl ?_
    exact ⟨rfl, ⟨cap, 0, h1, H2.out, H3.out, H4.out, H5.out⟩, Moved.refl _ _⟩
  · exact main cut rfl hc
end Go.Proofs.Ytkbdbinafjmjkaa
