/-
  What the laws on crashes hold of a journal, its disk and the records that they keep themselves.
-/
import Derived.Test.YtkbdbinafjmjkaaJLaw
import Derived.Test.YtkbdbinafjmjkaaJTail2
namespace Go.Proofs.Ytkbdbinafjmjkaa
open Go.RowKit

/-- A journal of the records rs, its disk in a state of D, and the law's slice va of the records all. -/
structure GSt (D : DS → Prop) (w0 w : World) (q p : Nat) (va : Value) (rs all : List (List Int)) (dead : Bool) : Prop where
  ex : ∃ g v s, JIs w w0.heap.size (fun k => va.ownBlock = some k) q p g s v rs dead ∧ RowN w w0.heap.size (fun k => ¬ Foot q p g v k) va all ∧ D s
  below : Below w0.heap.size w0 w
/-- The same, and a second slice. -/
structure GMid (D : DS → Prop) (w0 w : World) (q p : Nat) (va vb : Value) (rs all recs : List (List Int)) (dead : Bool) : Prop where
  ex : ∃ g v s, JIs w w0.heap.size (fun k => va.ownBlock = some k) q p g s v rs dead ∧ RowN w w0.heap.size (fun k => ¬ Foot q p g v k) va all ∧ RowN w w0.heap.size (fun k => ¬ Foot q p g v k ∧ va.ownBlock ≠ some k) vb recs ∧ D s
  below : Below w0.heap.size w0 w
/-- A disk in a state of D, and two slices. -/
structure FX (D : DS → Prop) (w0 w : World) (p : Nat) (va vb : Value) (all recs : List (List Int)) : Prop where
  ex : ∃ g s, DiskIs w w0.heap.size p g s ∧ RowN w w0.heap.size (fun k => k ≠ p ∧ g ≠ some k) va all ∧ RowN w w0.heap.size (fun k => k ≠ p ∧ g ≠ some k) vb recs ∧ D s
  below : Below w0.heap.size w0 w

section
variable {D D' : DS → Prop} {w0 w w' : World} {q p : Nat} {va vb : Value} {rs all recs : List (List Int)} {dead : Bool}
theorem GSt.next (h : GSt D w0 w q p va rs all dead) (hb : Below w.heap.size w w') : GSt D w0 w' q p va rs all dead := by
  obtain ⟨⟨g, v, s, h1, h2, h3⟩, h4⟩ := h
  exact ⟨⟨g, v, s, h1.next hb, h2.next hb, h3⟩, h4.trans (hb.mono h4.size)⟩
theorem GMid.next (h : GMid D w0 w q p va vb rs all recs dead) (hb : Below w.heap.size w w') : GMid D w0 w' q p va vb rs all recs dead := by
  obtain ⟨⟨g, v, s, h1, h2, h5, h3⟩, h4⟩ := h
  exact ⟨⟨g, v, s, h1.next hb, h2.next hb, h5.next hb, h3⟩, h4.trans (hb.mono h4.size)⟩
theorem FX.next (h : FX D w0 w p va vb all recs) (hb : Below w.heap.size w w') : FX D w0 w' p va vb all recs := by
  obtain ⟨⟨g, s, h1, h2, h5, h3⟩, h4⟩ := h
  exact ⟨⟨g, s, h1.next hb, h2.next hb, h5.next hb, h3⟩, h4.trans (hb.mono h4.size)⟩
theorem GMid.mono (h : GMid D w0 w q p va vb rs all recs dead) (hD : ∀ s, D s → D' s) : GMid D' w0 w q p va vb rs all recs dead := by
  obtain ⟨⟨g, v, s, h1, h2, h5, h3⟩, h4⟩ := h
  exact ⟨⟨g, v, s, h1, h2, h5, hD s h3⟩, h4⟩
theorem GSt.mono (h : GSt D w0 w q p va rs all dead) (hD : ∀ s, D s → D' s) : GSt D' w0 w q p va rs all dead := by
  obtain ⟨⟨g, v, s, h1, h2, h3⟩, h4⟩ := h
  exact ⟨⟨g, v, s, h1, h2, hD s h3⟩, h4⟩
theorem FX.mono (h : FX D w0 w p va vb all recs) (hD : ∀ s, D s → D' s) : FX D' w0 w p va vb all recs := by
  obtain ⟨⟨g, s, h1, h2, h5, h3⟩, h4⟩ := h
  exact ⟨⟨g, s, h1, h2, h5, hD s h3⟩, h4⟩
theorem GMid.st (h : GMid D w0 w q p va vb rs all recs dead) : GSt D w0 w q p va rs all dead := by
  obtain ⟨⟨g, v, s, h1, h2, h5, h3⟩, h4⟩ := h
  exact ⟨⟨g, v, s, h1, h2, h3⟩, h4⟩
theorem GSt.mid (h : GSt D w0 w q p va rs all dead) : GMid D w0 w q p va (.slice none 0 0) rs all [] dead := by
  obtain ⟨⟨g, v, s, h1, h2, h3⟩, h4⟩ := h
  exact ⟨⟨g, v, s, h1, h2, RowN.nil _ _ _, h3⟩, h4⟩
theorem St.gst {R : Int} {L : List (List (List Int))} (h : St R w0 w q p va L) : GSt (fun s => Clean s L ∧ s.room = R ∧ s.dur = s.bs.length) w0 w q p va L.flatten L.flatten false := by
  obtain ⟨⟨g, v, s, h1, h2, h3⟩, h4⟩ := h
  exact ⟨⟨g, v, s, h1, h2, h3⟩, h4⟩
theorem GSt.st {R : Int} {L : List (List (List Int))} (h : GSt (fun s => Clean s L ∧ s.room = R ∧ s.dur = s.bs.length) w0 w q p va L.flatten L.flatten false) : St R w0 w q p va L := by
  obtain ⟨⟨g, v, s, h1, h2, h3⟩, h4⟩ := h
  exact ⟨⟨g, v, s, h1, h2, h3⟩, h4⟩
theorem GSt.isDead (h : GSt D w0 w q p va rs all dead) : Calls Try.prog 32 #[.pointer (some ⟨q, 0, none⟩)] w fun e w' => e = .returned (.bool dead) ∧ w = w' := by
  obtain ⟨⟨g, v, s, h1, _⟩, _⟩ := h
  exact dead_box q p v dead w h1.box
theorem GSt.read (h : GSt D w0 w q p va rs all dead) : JRead w q rs := by
  obtain ⟨⟨g, v, s, h1, _⟩, _⟩ := h
  exact h1.read
/-- Cut. -/
theorem GSt.cut (h : GSt D w0 w q p va rs all dead) (n : Int) (hn : n ≤ 9223372036854775807) :
    Calls Try.prog 25 #[.pointer (some ⟨p, 0, none⟩), .int .i64 n] w fun e w' => e = .returned (.tuple #[]) ∧ GSt (fun s' => ∃ s, D s ∧ s' = cutF s n) w0 w' q p va rs all dead := by
  obtain ⟨⟨g, v, s, h1, h2, h3⟩, h4⟩ := h
  have hva : ∀ k, va.ownBlock = some k → k < w.heap.size := by
    obtain ⟨vs, k1, _, _⟩ := h2
    exact fun k hk => (k1.lt k hk).2
  refine (cut_any _ p g s n w h1.disk hn).mono ?_
  rintro e w' ⟨rfl, hd, hm⟩
  have hm2 : Moved w w' (fun k => k = p ∨ g = some k) := hm.mono fun k _ e => .inl e
  exact ⟨rfl, ⟨g, v, _, h1.onDisk hva hm2 hd (gto_same g _), h2.moved hm fun b _ hN => ⟨fun e => hN (.inl e), hN⟩, s, h3, rfl⟩, h4.trans (hm.below h4.size fun k e => e ▸ h1.disk.lt.1)⟩
/-- Append of records that were made since. -/
theorem GSt.append (h : GSt D w0 w q p va rs all false) (hb : Below w.heap.size w w') (hr : RowN w' w.heap.size (fun k => w.heap.size ≤ k) vb recs) (hg : Good recs) (hrl : rs.length ≤ 1000000) :
    Calls Try.prog 30 #[.pointer (some ⟨q, 0, none⟩), vb] w' fun e w2 => ∃ s, D s ∧ e = .returned (.int .i64 (appJ s rs recs).1) ∧ GMid (fun s' => s' = (appJ s rs recs).2.1) w0 w2 q p va vb (appJ s rs recs).2.2.1 all recs (appJ s rs recs).2.2.2 := by
  obtain ⟨⟨g, v, s, h1, h2, h3⟩, h6⟩ := h
  have hf0 := h1.foot
  have hva : ∀ k, va.ownBlock = some k → k < w.heap.size := by
    obtain ⟨vs, k1, _, _⟩ := h2
    exact fun k hk => (k1.lt k hk).2
  have hr2 : RowN w' w.heap.size (fun k => ¬ Foot q p g v k ∧ va.ownBlock ≠ some k) vb recs := hr.mono fun b _ hb => ⟨fun e => by have := (hf0 b e).2.1; omega, fun e => by have := hva b e; omega⟩
  obtain ⟨ao, c, rfl, hre⟩ := hr2.recsN
  have hre1 : RecsN w' (fun k => ¬ Foot q p g v k) ao recs := hre.moved (Moved.refl w' fun _ => False) fun b _ hN => ⟨fun h => h, hN.1⟩
  refine (append_j w' w0.heap.size _ q p g s v rs recs ao recs.length c (h1.next hb) (fun k hk => Nat.lt_of_lt_of_le (hva k hk) hb.size) rfl hre1 hg.2.2.2 hg.1 hg.2.1 hg.2.2.1 hrl).mono ?_
  rintro e w2 ⟨g', v', rfl, hj, hm, hf⟩
  refine ⟨s, h3, rfl, ⟨g', v', _, hj, ?_, ?_, rfl⟩, (h6.trans (hb.mono h6.size)).trans (hm.below (Nat.le_trans h6.size hb.size) fun k hk => (hf0 k hk).1)⟩
  · refine (h2.next hb).moved hm fun b hlt hN => ⟨hN, fun e => ?_⟩
    rcases hf b e with e | e
    · exact hN e
    · omega
  · refine (hr2.base h6.size).moved hm fun b hlt hN => ⟨hN.1, fun e => ?_, hN.2⟩
    rcases hf b e with e | e
    · exact hN.1 e
    · omega
/-- The law's slice is extended. -/
theorem GMid.join (h : GMid D w0 w q p va vb rs all recs dead) (hlen : all.length + recs.length ≤ 1000000) : ∃ va' w', (∀ ty, (Builtin.append_ #[55, 55] ty #[va, vb]).run Try.prog w = .ok va' w') ∧ GSt D w0 w' q p va' rs (all ++ recs) dead := by
  obtain ⟨i0, hi, hz0, hz1, hz2⟩ := info_parts Try.infoBytes
  obtain ⟨⟨g, v, s, h1, h2, h3, h4⟩, h6⟩ := h
  obtain ⟨vs, k1, k2, k3⟩ := h2
  obtain ⟨vs2, m1, m2, m3⟩ := h3
  have hone : ∀ u ∈ vs2, u.oneCell' = true := fun u hu => by
    obtain ⟨j, hj, rfl⟩ := List.getElem_of_mem hu
    have hjl : j < recs.length := by have := m1.1; omega
    obtain ⟨po, pc, e1, _⟩ := m3 j hjl
    rw [List.getElem?_eq_getElem hj] at e1
    injection e1 with e1
    rw [e1]
    rfl
  have hvb : ∃ ao c, vb = .slice ao recs.length c ∧ (recs.length = 0 ∨ ∃ ad, ao = some ad ∧ ∀ j u, vs2[j]? = some u → w.cell? (ad.add j) = some u) ∧ (ao = none → recs.length = 0) := by
    have m0 := m1
    rcases m1.2 with ⟨rfl, hn⟩ | ⟨gl, cap, cur, rfl, _⟩
    · exact ⟨none, 0, by rw [hn], .inl hn, fun _ => hn⟩
    · exact ⟨some ⟨gl, 0, none⟩, cap, rfl, .inr ⟨_, rfl, fun j u hu => m0.cells (g := gl) rfl j u hu⟩, fun e => by cases e⟩
  obtain ⟨ao, c, hvbe, hno, h0⟩ := hvb
  have run : ∀ ty, _ := fun ty => run_append_recs (P := Try.prog) w w0.heap.size 55 ty 30 i0 (.slice none 0 0) Try.underlying55 hi hz0 hz1 hz2 rfl va all.length vs k1 ao recs.length c vs2 (by have := m1.1; omega) hno h0 hone (by omega) h6.size
  obtain ⟨va', w', r1, r2, r3, r4⟩ := run 0
  refine ⟨va', w', fun ty => ?_, ?_⟩
  · rw [hvbe]
    exact r1
  · have hm : Moved w w' (fun k => va.ownBlock = some k) := Moved.of_grown r3
    have hj := h1.grow (X' := fun k => va'.ownBlock = some k) hm (fun _ h => h) fun k e => by
      rcases r4 with h | ⟨k', hk, hlt⟩
      · exact .inl (h ▸ e)
      · rw [hk] at e; cases e; exact .inr hlt
    have hrow := RowN.join (N := fun k => ¬ Foot q p g v k) (N' := fun k => ¬ Foot q p g v k) k1 k2 k3 (fun i hi => by
      obtain ⟨po, pc, e1, e2⟩ := m3 i hi
      exact ⟨po, pc, e1, e2.mono fun b _ hN => hN.1⟩) r2 hm r4 (fun _ h => h) (fun b hb _ e => by have := (h1.foot b e).2.1; omega)
    exact ⟨⟨g, v, s, hj, hrow, h4⟩, h6.trans (hm.below h6.size fun k hk => (k1.lt k hk).1)⟩
/-- A crash. -/
theorem GMid.crash (h : GMid D w0 w q p va vb rs all recs dead) (keep flip : Int) :
    Calls Try.prog 18 #[.pointer (some ⟨p, 0, none⟩), .int .i64 keep, .int .i64 flip] w fun e w' => ∃ p2, e = .returned (.pointer (some ⟨p2, 0, none⟩)) ∧ FX (fun s' => ∃ s, D s ∧ DOk s ∧ s' = crashF s keep flip) w0 w' p2 va vb all recs ∧ Below w.heap.size w w' := by
  obtain ⟨⟨g, v, s, h1, h2, h5, h3⟩, h6⟩ := h
  refine (crash_any _ p g s keep flip w h1.disk).mono ?_
  rintro e w' ⟨p2, g2, rfl, hd, hb⟩
  have hn : ∀ b, b < w.heap.size → b ≠ p2 ∧ g2 ≠ some b := fun b hlt => ⟨by have := hd.lt.1; omega, fun e => by have := (hd.row b e).1; omega⟩
  exact ⟨p2, rfl, ⟨⟨g2, _, hd.base h6.size, h2.moved (Moved.of_below hb fun _ => False) fun b hlt _ => ⟨fun h => h, hn b hlt⟩, h5.moved (Moved.of_below hb fun _ => False) fun b hlt _ => ⟨fun h => h, hn b hlt⟩, s, h3, h1.disk.ok, rfl⟩, h6.trans (hb.mono h6.size)⟩, hb⟩
theorem FX.crash (h : FX D w0 w p va vb all recs) (keep flip : Int) :
    Calls Try.prog 18 #[.pointer (some ⟨p, 0, none⟩), .int .i64 keep, .int .i64 flip] w fun e w' => ∃ p2, e = .returned (.pointer (some ⟨p2, 0, none⟩)) ∧ FX (fun s' => ∃ s, D s ∧ DOk s ∧ s' = crashF s keep flip) w0 w' p2 va vb all recs ∧ Below w.heap.size w w' := by
  obtain ⟨⟨g, s, h1, h2, h5, h3⟩, h6⟩ := h
  refine (crash_any _ p g s keep flip w h1).mono ?_
  rintro e w' ⟨p2, g2, rfl, hd, hb⟩
  have hn : ∀ b, b < w.heap.size → b ≠ p2 ∧ g2 ≠ some b := fun b hlt => ⟨by have := hd.lt.1; omega, fun e => by have := (hd.row b e).1; omega⟩
  exact ⟨p2, rfl, ⟨⟨g2, _, hd.base h6.size, h2.moved (Moved.of_below hb fun _ => False) fun b hlt _ => ⟨fun h => h, hn b hlt⟩, h5.moved (Moved.of_below hb fun _ => False) fun b hlt _ => ⟨fun h => h, hn b hlt⟩, s, h3, h1.ok, rfl⟩, h6.trans (hb.mono h6.size)⟩, hb⟩
theorem FX.cut (h : FX D w0 w p va vb all recs) (n : Int) (hn : n ≤ 9223372036854775807) :
    Calls Try.prog 25 #[.pointer (some ⟨p, 0, none⟩), .int .i64 n] w fun e w' => e = .returned (.tuple #[]) ∧ FX (fun s' => ∃ s, D s ∧ s' = cutF s n) w0 w' p va vb all recs := by
  obtain ⟨⟨g, s, h1, h2, h5, h3⟩, h4⟩ := h
  refine (cut_any _ p g s n w h1 hn).mono ?_
  rintro e w' ⟨rfl, hd, hm⟩
  exact ⟨rfl, ⟨g, _, hd, h2.moved hm fun b _ hN => ⟨hN.1, hN⟩, h5.moved hm fun b _ hN => ⟨hN.1, hN⟩, s, h3, rfl⟩, h4.trans (hm.below h4.size fun k e => e ▸ h1.lt.1)⟩
/-- Open, whatever comes of it. -/
theorem FX.reopen (h : FX D w0 w p va vb all recs) :
    Calls Try.prog 28 #[.pointer (some ⟨p, 0, none⟩)] w fun e w' => ∃ x y, e = .returned (.tuple #[x, y]) ∧ FX (fun s' => ∃ s, D s ∧ s' = (openF s).2.2) w0 w' p va vb all recs := by
  obtain ⟨⟨g, s, h1, h2, h5, h3⟩, h6⟩ := h
  refine (open_any w0.heap.size p (fun _ => False) g s w h1 h6.size (fun _ h => h.elim) (fun h => h) (fun _ _ h => h)).mono ?_
  rintro e w' ⟨g', hm, hg, ho⟩
  have hn : ∀ b, b < w.heap.size → (b ≠ p ∧ g ≠ some b) → ¬ (b = p ∨ g = some b) ∧ (b ≠ p ∧ g' ≠ some b) := fun b hlt hN => ⟨fun e => by rcases e with e | e; exact hN.1 e; exact hN.2 e, hN.1, fun e => by rcases hg b e with e | e; exact hN.2 e; omega⟩
  have hb : Below w0.heap.size w0 w' := h6.trans (hm.below h6.size fun k hk => by
    rcases hk with hk | hk
    · rw [hk]; exact h1.lt.1
    · exact (h1.row k hk).1)
  rcases ho with ⟨_, he, hd⟩ | ⟨_, q, v, _, _, he, hj⟩
  · exact ⟨_, _, he, ⟨g', _, hd, h2.moved hm hn, h5.moved hm hn, s, h3, rfl⟩, hb⟩
  · exact ⟨_, _, he, ⟨g', _, hj.disk, h2.moved hm hn, h5.moved hm hn, s, h3, rfl⟩, hb⟩
/-- Open that succeeds. -/
theorem FX.openJ {rs' : List (List Int)} (h : FX D w0 w p va vb all recs) (hD : ∀ s, D s → ∃ s', openF s = (0, rs', s') ∧ D' s') :
    Calls Try.prog 28 #[.pointer (some ⟨p, 0, none⟩)] w fun e w' => ∃ q, e = .returned (.tuple #[.pointer (some ⟨q, 0, none⟩), .int .i64 0]) ∧ JRead w' q rs' ∧ FX D' w0 w' p va vb all recs := by
  obtain ⟨⟨g, s, h1, h2, h5, h3⟩, h6⟩ := h
  obtain ⟨s', ho, hd'⟩ := hD s h3
  have H := open_any w0.heap.size p (fun _ => False) g s w h1 h6.size (fun _ h => h.elim) (fun h => h) (fun _ _ h => h)
  rw [ho] at H
  refine H.mono ?_
  rintro e w' ⟨g', hm, hg, h | ⟨-, q, v, _, _, he, hj⟩⟩
  · exact absurd rfl h.1
  · have hn : ∀ b, b < w.heap.size → (b ≠ p ∧ g ≠ some b) → ¬ (b = p ∨ g = some b) ∧ (b ≠ p ∧ g' ≠ some b) := fun b hlt hN => ⟨fun e => by rcases e with e | e; exact hN.1 e; exact hN.2 e, hN.1, fun e => by rcases hg b e with e | e; exact hN.2 e; omega⟩
    have hb : Below w0.heap.size w0 w' := h6.trans (hm.below h6.size fun k hk => by
      rcases hk with hk | hk
      · rw [hk]; exact h1.lt.1
      · exact (h1.row k hk).1)
    exact ⟨q, he, hj.read, ⟨g', _, hj.disk, h2.moved hm hn, h5.moved hm hn, hd'⟩, hb⟩
/-- Open that succeeds, the law's slice being nil. -/
theorem FX.openSt {rs' : List (List Int)} (h : FX D w0 w p va vb all recs) (hD : ∀ s, D s → ∃ s', openF s = (0, rs', s') ∧ D' s') :
    Calls Try.prog 28 #[.pointer (some ⟨p, 0, none⟩)] w fun e w' => ∃ q, e = .returned (.tuple #[.pointer (some ⟨q, 0, none⟩), .int .i64 0]) ∧ GSt D' w0 w' q p (.slice none 0 0) rs' [] false := by
  obtain ⟨⟨g, s, h1, h2, h5, h3⟩, h6⟩ := h
  obtain ⟨s', ho, hd'⟩ := hD s h3
  have H := open_any w0.heap.size p (fun k => (Value.slice none 0 0).ownBlock = some k) g s w h1 h6.size (fun _ h => by cases h) (fun h => by cases h) (fun _ _ h => by cases h)
  rw [ho] at H
  refine H.mono ?_
  rintro e w' ⟨g', hm, hg, h | ⟨-, q, v, _, _, he, hj⟩⟩
  · exact absurd rfl h.1
  · have hb : Below w0.heap.size w0 w' := h6.trans (hm.below h6.size fun k hk => by
      rcases hk with hk | hk
      · rw [hk]; exact h1.lt.1
      · exact (h1.row k hk).1)
    exact ⟨q, he, ⟨g', v, _, hj, RowN.nil _ _ _, hd'⟩, hb⟩
theorem RowN.news {base : Nat} {N : Nat → Prop} (h : RowN w base N vb recs) : ∃ (ao : Option Addr) (c : Nat) (vs2 : List Value), vb = .slice ao recs.length c ∧ vs2.length = recs.length ∧ (recs.length = 0 ∨ ∃ ad, ao = some ad ∧ ∀ j u, vs2[j]? = some u → w.cell? (ad.add j) = some u) ∧ (ao = none → recs.length = 0) ∧ (∀ u ∈ vs2, u.oneCell' = true) ∧
    (∀ i, i < recs.length → ∃ po pc, vs2[i]? = some (.slice po (recs.getD i []).length pc) ∧ BytN w N po (recs.getD i [])) := by
  obtain ⟨vs2, m1, m2, m3⟩ := h
  have hone : ∀ u ∈ vs2, u.oneCell' = true := fun u hu => by
    obtain ⟨j, hj, rfl⟩ := List.getElem_of_mem hu
    have hjl : j < recs.length := by have := m1.1; omega
    obtain ⟨po, pc, e1, _⟩ := m3 j hjl
    rw [List.getElem?_eq_getElem hj] at e1
    injection e1 with e1
    rw [e1]
    rfl
  have hel : ∀ i, i < recs.length → ∃ po pc, vs2[i]? = some (.slice po (recs.getD i []).length pc) ∧ BytN w N po (recs.getD i []) := fun i hi => by
    obtain ⟨po, pc, e1, e2⟩ := m3 i hi
    exact ⟨po, pc, e1, e2.mono fun b _ hN => hN.1⟩
  have hl : vs2.length = recs.length := by have := m1.1; omega
  have m0 := m1
  rcases m1.2 with ⟨rfl, hn⟩ | ⟨gl, cap, cur, rfl, _⟩
  · exact ⟨none, 0, vs2, by rw [hn], hl, .inl hn, fun _ => hn, hone, hel⟩
  · exact ⟨some ⟨gl, 0, none⟩, cap, vs2, rfl, hl, .inr ⟨_, rfl, fun j u hu => m0.cells (g := gl) rfl j u hu⟩, (fun e => by cases e), hone, hel⟩
/-- append(append([][]byte{}, all...), last...). -/
theorem double_append {base : Nat} {N : Nat → Prop} (ha : RowN w base N va all) (hb : RowN w base N vb recs) (hlen : all.length + recs.length ≤ 1000000) :
    ∃ v1 w1 v2 w2, (∀ ty, (Builtin.append_ #[55, 55] ty #[.slice (some ⟨w.heap.size, 0, none⟩) 0 0, va]).run Try.prog (w.alloc (.cells #[] 30)) = .ok v1 w1) ∧ (∀ ty, (Builtin.append_ #[55, 55] ty #[v1, vb]).run Try.prog w1 = .ok v2 w2) ∧
      (∃ ao c, v2 = .slice ao (all ++ recs).length c ∧ Recs w2 ao (all ++ recs)) ∧ Below w.heap.size w w2 := by
  obtain ⟨i0, hi, hz0, hz1, hz2⟩ := info_parts Try.infoBytes
  have hE : Below w.heap.size w (w.alloc (.cells #[] 30)) := (Below.refl _ _).alloc (Nat.le_refl _) _
  have hsz : (w.alloc (.cells #[] 30)).heap.size = w.heap.size + 1 := by simp
  have o0 : (w.alloc (.cells #[] 30)).ownsRow w.heap.size 30 1 (.slice (some ⟨w.heap.size, 0, none⟩) 0 0) 0 [] := World.ownsRow_made w #[] 0 (Nat.le_refl _) (by decide) rfl
  have ha1 : RowN (w.alloc (.cells #[] 30)) base (fun k => k < w.heap.size) va all := ha.moved (Moved.of_below hE fun _ => False) fun b hlt _ => ⟨fun h => h, hlt⟩
  obtain ⟨ao, c, vs1, hva, l1, n1, z1, one1, el1⟩ := ha1.news
  have run1 : ∀ ty, _ := fun ty => run_append_recs (P := Try.prog) (w.alloc (.cells #[] 30)) w.heap.size 55 ty 30 i0 (.slice none 0 0) Try.underlying55 hi hz0 hz1 hz2 rfl _ 0 [] o0 ao all.length c vs1 l1 n1 z1 one1 (by omega) (by omega)
  obtain ⟨v1, w1, r1, r2, r3, r4⟩ := run1 0
  have hm1 : Moved (w.alloc (.cells #[] 30)) w1 (fun k => some w.heap.size = some k) := Moved.of_grown r3
  have j1 := RowN.join (rs := []) (rs2 := all) (N := fun _ => True) (N' := fun _ => True) o0 (fun _ _ => trivial) (fun i hi => by cases hi) (fun i hi => by
    obtain ⟨po, pc, e1, e2⟩ := el1 i hi
    exact ⟨po, pc, e1, e2.mono fun b _ hlt => ⟨trivial, fun e => by have e2 : some w.heap.size = some b := e; cases e2; omega⟩⟩) r2 hm1 r4 (fun _ _ => trivial) (fun _ _ _ => trivial)
  rw [List.nil_append] at j1
  have hb1 : RowN w1 base (fun k => k < w.heap.size) vb recs := (hb.moved (Moved.of_below hE fun _ => False) (N' := fun k => k < w.heap.size) fun b hlt _ => ⟨fun h => h, hlt⟩).moved hm1 fun b _ hlt => ⟨fun e => by cases e; omega, hlt⟩
  have hw1 : Below w.heap.size w w1 := hE.trans (hm1.below hE.size fun k e => by cases e; exact Nat.le_refl _)
  have hv1 : ∀ b, v1.ownBlock = some b → w.heap.size ≤ b := fun b e => by
    rcases r4 with h | ⟨k, h, hlt⟩
    · rw [h] at e
      have e2 : some w.heap.size = some b := e
      cases e2
      exact Nat.le_refl _
    · rw [h] at e
      cases e
      omega
  obtain ⟨ao2, c2, vs2, hvb, l2, n2, z2, one2, el2⟩ := hb1.news
  obtain ⟨xs, x1, x2, x3⟩ := j1
  have run2 : ∀ ty, _ := fun ty => run_append_recs (P := Try.prog) w1 w.heap.size 55 ty 30 i0 (.slice none 0 0) Try.underlying55 hi hz0 hz1 hz2 rfl v1 all.length xs x1 ao2 recs.length c2 vs2 l2 n2 z2 one2 (by omega) hw1.size
  obtain ⟨v2, w2, s1, s2, s3, s4⟩ := run2 0
  have hm2 : Moved w1 w2 (fun k => v1.ownBlock = some k) := Moved.of_grown s3
  have j2 := RowN.join (N := fun _ => True) (N' := fun _ => True) x1 x2 x3 (fun i hi => by
    obtain ⟨po, pc, e1, e2⟩ := el2 i hi
    exact ⟨po, pc, e1, e2.mono fun b _ hlt => ⟨trivial, fun e => by have := hv1 b e; omega⟩⟩) s2 hm2 s4 (fun _ _ => trivial) (fun _ _ _ => trivial)
  refine ⟨v1, w1, v2, w2, fun ty => ?_, fun ty => ?_, j2.recs, hw1.trans (hm2.below hw1.size fun k e => hv1 k e)⟩
  · rw [hva]; exact r1
  · rw [hvb]; exact s1
end
end Go.Proofs.Ytkbdbinafjmjkaa
