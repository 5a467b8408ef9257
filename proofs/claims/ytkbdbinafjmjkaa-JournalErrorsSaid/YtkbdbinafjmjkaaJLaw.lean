/-
  What the laws hold of a journal, its disk and the records that they keep themselves.
-/
import Derived.Test.YtkbdbinafjmjkaaJBatch
namespace Go.Proofs.Ytkbdbinafjmjkaa
open Go.RowKit

theorem JIs.grow {w w' : World} {base q p : Nat} {X X' S : Nat → Prop} {g : Option Nat} {s : DS} {v : Value} {rs : List (List Int)} {dead : Bool} (h : JIs w base X q p g s v rs dead) (hm : Moved w w' S) (hS : ∀ k, S k → X k) (hX : ∀ k, X' k → X k ∨ w.heap.size ≤ k) : JIs w' base X' q p g s v rs dead := by
  have h1 := h.reX (X' := fun k => X k ∨ X' k) fun k hk e => by
    rcases e with e | e
    · exact e
    · rcases hX k e with e | e
      · exact e
      · omega
  have h2 := h1.moved hm fun k _ e => .inl (hS k e)
  exact h2.reX fun k _ e => .inr e

theorem run_append_recs {P : Program} (w : World) (base : Nat) (t ty e : TypeId) (i : TypeInfo) (z : Value) (ht : P.underlying t = some (.slice e)) (hi : P.info? e = some i) (hz : i.zero = some z)
    (hsize : i.size = 1) (hby : i.bytes = 24) (hzs : z.cells.size = 1)
    (v : Value) (n : Nat) (xs : List Value) (hown : w.ownsRow base e 1 v n xs) (ao : Option Addr) (m c : Nat) (news : List Value) (hnl : news.length = m) (hno : m = 0 ∨ ∃ ad, ao = some ad ∧ ∀ j u, news[j]? = some u → w.cell? (ad.add j) = some u) (h0 : ao = none → m = 0)
    (h1 : ∀ u ∈ news, u.oneCell' = true) (h63 : n + m ≤ 1000000000) (hbase : base ≤ w.heap.size) :
    ∃ v' w', (Builtin.append_ #[t, t] ty #[v, .slice ao m c]).run P w = .ok v' w' ∧ w'.ownsRow base e 1 v' (n + m) (xs ++ news) ∧ w.grownBy w' v.ownBlock ∧
      (v'.ownBlock = v.ownBlock ∨ ∃ k, v'.ownBlock = some k ∧ w.heap.size ≤ k) := by
  cases ao with
  | none =>
    obtain rfl := h0 rfl
    obtain rfl : news = [] := List.eq_nil_of_length_eq_zero hnl
    refine ⟨v, w, ?_, by simpa using hown, World.grownBy.refl w _, .inl rfl⟩
    rcases hown.2 with ⟨rfl, rfl⟩ | ⟨g, cap, cur, rfl, _, _, hnc, _⟩
    · simp [Builtin.append_, run_underlying ht, sizeOf, typeInfo, hi, Builtin.lenOf, Builtin.firstCells]
    · simp [Builtin.append_, run_underlying ht, sizeOf, typeInfo, hi, Builtin.lenOf, Builtin.firstCells, hnc, storeCells]
  | some ad =>
    have hcells : ∀ j u, news[j]? = some u → w.cell? (ad.add j) = some u := fun j u hu => by
      rcases hno with h | ⟨ad', h, hc⟩
      · have := (List.getElem?_eq_some_iff.1 hu).1
        omega
      · cases h; exact hc j u hu
    subst hnl
    obtain ⟨v', w', hr, h2, h3, _, h5⟩ := run_append_own_at (P := P) w base t ty e i z 1 24 ht hi hz hsize hby hzs (by omega) v n xs hown ad news.length c news (by omega) hcells h1 (by unfold maxLen; omega) (by omega) hbase
    exact ⟨v', w', hr, h2, h3, h5.imp id fun h => ⟨_, h, Nat.le_refl _⟩⟩

/-- What the laws hold: the journal at q on the disk at p holds the records of L, and so does the slice va of the law's own. -/
structure St (R : Int) (w0 w : World) (q p : Nat) (va : Value) (L : List (List (List Int))) : Prop where
  ex : ∃ g v s, JIs w w0.heap.size (fun k => va.ownBlock = some k) q p g s v L.flatten false ∧ RowN w w0.heap.size (fun k => ¬ Foot q p g v k) va L.flatten ∧ Clean s L ∧ s.room = R ∧ s.dur = s.bs.length
  below : Below w0.heap.size w0 w
/-- The same between an append to the journal and one to the law's slice: vb holds the records that were appended. -/
structure Mid (R : Int) (w0 w : World) (q p : Nat) (va vb : Value) (L : List (List (List Int))) (recs : List (List Int)) : Prop where
  ex : ∃ g v s, JIs w w0.heap.size (fun k => va.ownBlock = some k) q p g s v (L ++ [recs]).flatten false ∧ RowN w w0.heap.size (fun k => ¬ Foot q p g v k) va L.flatten ∧
    RowN w w0.heap.size (fun k => ¬ Foot q p g v k ∧ va.ownBlock ≠ some k) vb recs ∧ Clean s (L ++ [recs]) ∧ s.room = R ∧ s.dur = s.bs.length
  below : Below w0.heap.size w0 w
/-- A disk without a journal, and the law's slice. -/
structure Fallen (R : Int) (w0 w : World) (p : Nat) (va : Value) (L : List (List (List Int))) : Prop where
  ex : ∃ g s, DiskIs w w0.heap.size p g s ∧ RowN w w0.heap.size (fun k => k ≠ p ∧ g ≠ some k) va L.flatten ∧ Clean s L ∧ s.room = R ∧ s.dur = s.bs.length
  below : Below w0.heap.size w0 w

theorem frames_ge (L : List (List (List Int))) : L.flatten.length ≤ (framesF L).length := by
  induction L with
  | nil => simp
  | cons b L ih =>
    have := frame_len b
    have h : (framesF (b :: L)).length = (frameF b).length + (framesF L).length := by simp [framesF]
    rw [h, List.flatten_cons, List.length_append]
    omega
theorem getD_memL (l : List (List Int)) (k : Nat) (h : k < l.length) : l.getD k [] ∈ l := by simp [List.getD, h]
theorem flat_short {L : List (List (List Int))} (h : ∀ b ∈ L, Good b) (k : Nat) (hk : k < L.flatten.length) : (L.flatten.getD k []).length ≤ 1000000 := by
  have h1 := getD_memL L.flatten k hk
  obtain ⟨b, hb, hr⟩ := List.mem_flatten.1 h1
  obtain ⟨i, hi, he⟩ := List.getElem_of_mem hr
  have := one_long b (h b hb).2.2.1 i hi
  rw [← he]
  simp [List.getD, hi] at this
  omega

section
variable {R : Int} {w0 w w' : World} {q p : Nat} {va vb : Value} {L : List (List (List Int))} {recs : List (List Int)}
theorem St.next (h : St R w0 w q p va L) (hb : Below w.heap.size w w') : St R w0 w' q p va L := by
  obtain ⟨⟨g, v, s, h1, h2, h3⟩, h4⟩ := h
  exact ⟨⟨g, v, s, h1.next hb, h2.next hb, h3⟩, h4.trans (hb.mono h4.size)⟩
theorem Fallen.next (h : Fallen R w0 w p va L) (hb : Below w.heap.size w w') : Fallen R w0 w' p va L := by
  obtain ⟨⟨g, s, h1, h2, h3⟩, h4⟩ := h
  exact ⟨⟨g, s, h1.next hb, h2.next hb, h3⟩, h4.trans (hb.mono h4.size)⟩
theorem St.dead (h : St R w0 w q p va L) : Calls Try.prog 32 #[.pointer (some ⟨q, 0, none⟩)] w fun e w' => e = .returned (.bool false) ∧ w = w' := by
  obtain ⟨⟨g, v, s, h1, _⟩, _⟩ := h
  exact dead_box q p v false w h1.box
theorem St.shape (h : St R w0 w q p va L) : ∃ ao c, va = .slice ao L.flatten.length c ∧ L.flatten.length ≤ 262144 := by
  obtain ⟨⟨g, v, s, h1, h2, h3, h4, _⟩, _⟩ := h
  obtain ⟨ao, c, h, _⟩ := h2.recs
  refine ⟨ao, c, h, ?_⟩
  have hok := h1.disk.ok
  have k1 := hok.len
  have k2 := hok.room1
  have k3 := frames_ge L
  rw [← h3.bs] at k3
  omega
theorem St.holds (h : St R w0 w q p va L) : Calls Try.prog 31 #[.pointer (some ⟨q, 0, none⟩), va] w fun e w' => e = .returned (.bool true) ∧ Below w.heap.size w w' := by
  obtain ⟨_, _, hv0, hl⟩ := h.shape
  obtain ⟨⟨g, v, s, h1, h2, h3, h4, _⟩, _⟩ := h
  obtain ⟨ao, c, rfl, hr⟩ := h2.recs
  exact holds_yes ao q _ c _ w h1.read rfl hr (fun k hk => flat_short h3.good k hk) (by omega)
theorem St.crash (h : St R w0 w q p va L) (keep flip : Int) :
    Calls Try.prog 18 #[.pointer (some ⟨p, 0, none⟩), .int .i64 keep, .int .i64 flip] w fun e w' => ∃ p2, e = .returned (.pointer (some ⟨p2, 0, none⟩)) ∧ Fallen R w0 w' p2 va L ∧ Below w.heap.size w w' := by
  obtain ⟨⟨g, v, s, h1, h2, h3, h4, h5⟩, h6⟩ := h
  obtain ⟨c1, c2, c3⟩ := crash_clean h3 h1.disk.ok h5 keep flip
  refine (crash_any _ p g s keep flip w h1.disk).mono ?_
  rintro e w' ⟨p2, g2, rfl, hd, hb⟩
  refine ⟨p2, rfl, ⟨⟨g2, _, hd.base h6.size, ?_, c1, by rw [c2, h4], c3⟩, h6.trans (hb.mono h6.size)⟩, hb⟩
  refine h2.moved (Moved.of_below hb fun _ => False) fun b hlt _ => ⟨fun h => h, ?_, fun e => ?_⟩
  · have := hd.lt.1; omega
  · have := (hd.row b e).1; omega
theorem Fallen.open (h : Fallen R w0 w p va L) :
    Calls Try.prog 28 #[.pointer (some ⟨p, 0, none⟩)] w fun e w' => ∃ q, e = .returned (.tuple #[.pointer (some ⟨q, 0, none⟩), .int .i64 0]) ∧ St R w0 w' q p va L := by
  obtain ⟨⟨g, s, h1, h2, h3, h4, h5⟩, h6⟩ := h
  obtain ⟨vs, k1, k2, k3⟩ := h2
  refine (open_live w0.heap.size p (fun k => va.ownBlock = some k) g s w L h1 h3 (fun k hk => (k1.lt k hk).2) (fun e => (k2 p e).1 rfl) (fun k hk e => (k2 k e).2 hk)).mono ?_
  rintro e w' ⟨g', q, v, s', rfl, hj, hc, hr, hdu, hm, hf⟩
  refine ⟨q, rfl, ⟨⟨g', v, s', hj, ?_, hc, by rw [hr, h4], ?_⟩, h6.trans (hm.below h6.size fun k hk => ?_)⟩⟩
  · refine RowN.moved ⟨vs, k1, k2, k3⟩ hm fun b hlt hN => ⟨fun e => ?_, fun e => ?_⟩
    · rcases e with e | e
      · exact hN.1 e
      · exact hN.2 e
    · rcases hf b e with e | e | e
      · exact hN.1 e
      · exact hN.2 e
      · omega
  · rw [hdu]
    split
    · rw [hc.bs, ← h3.bs]; omega
    · rfl
  · rcases hk with hk | hk
    · rw [hk]; exact h1.lt.1
    · exact (h1.row k hk).1
/-- Append of records that were made since. -/
theorem St.append (h : St R w0 w q p va L) (hb : Below w.heap.size w w') (hr : RowN w' w.heap.size (fun k => w.heap.size ≤ k) vb recs) (hg : Good recs) (hl : ((framesF L).length : Int) + (frameF recs).length ≤ R) :
    Calls Try.prog 30 #[.pointer (some ⟨q, 0, none⟩), vb] w' fun e w2 => e = .returned (.int .i64 0) ∧ Mid R w0 w2 q p va vb L recs := by
  obtain ⟨_, _, hv0, hl2⟩ := h.shape
  obtain ⟨⟨g, v, s, h1, h2, h3, h4, h5⟩, h6⟩ := h
  have hf0 := h1.foot
  have hva : ∀ k, va.ownBlock = some k → k < w.heap.size := by
    obtain ⟨vs, k1, _, _⟩ := h2
    exact fun k hk => (k1.lt k hk).2
  have hr2 : RowN w' w.heap.size (fun k => ¬ Foot q p g v k ∧ va.ownBlock ≠ some k) vb recs := hr.mono fun b _ hb => ⟨fun e => by have := (hf0 b e).2.1; omega, fun e => by have := hva b e; omega⟩
  obtain ⟨ao, c, rfl, hre⟩ := hr2.recsN
  have hre1 : RecsN w' (fun k => ¬ Foot q p g v k) ao recs := hre.moved (Moved.refl w' fun _ => False) fun b _ hN => ⟨fun h => h, hN.1⟩
  refine (append_live w' w0.heap.size _ q p g s v L.flatten recs L ao recs.length c (h1.next hb) h3 (fun k hk => Nat.lt_of_lt_of_le (hva k hk) hb.size) rfl hre1 hg (by omega) (by rw [h3.bs, h4]; exact hl)).mono ?_
  rintro e w2 ⟨g', v', s', rfl, hj, hc, hro, hdu, hm, hf⟩
  refine ⟨rfl, ⟨g', v', s', by rw [List.flatten_append]; simpa using hj, ?_, ?_, hc, by rw [hro, h4], hdu⟩, (h6.trans (hb.mono h6.size)).trans (hm.below (Nat.le_trans h6.size hb.size) fun k hk => (hf0 k hk).1)⟩
  · refine (h2.next hb).moved hm fun b hlt hN => ⟨hN, fun e => ?_⟩
    rcases hf b e with e | e
    · exact hN e
    · omega
  · refine (hr2.base h6.size).moved hm fun b hlt hN => ⟨hN.1, fun e => ?_, hN.2⟩
    rcases hf b e with e | e
    · exact hN.1 e
    · omega
/-- The law's slice is extended as the journal was. -/
theorem Mid.join (h : Mid R w0 w q p va vb L recs) : ∃ va' w', (∀ ty, (Builtin.append_ #[55, 55] ty #[va, vb]).run Try.prog w = .ok va' w') ∧ St R w0 w' q p va' (L ++ [recs]) := by
  obtain ⟨i0, hi, hz0, hz1, hz2⟩ := info_parts Try.infoBytes
  obtain ⟨⟨g, v, s, h1, h2, h3, h4, h5, h7⟩, h6⟩ := h
  obtain ⟨vs, k1, k2, k3⟩ := h2
  obtain ⟨vs2, m1, m2, m3⟩ := h3
  have hlen : (L ++ [recs]).flatten.length ≤ 262144 := by
    have hok := h1.disk.ok
    have e1 := hok.len
    have e2 := hok.room1
    have e3 := frames_ge (L ++ [recs])
    rw [← h4.bs] at e3
    omega
  rw [List.flatten_append, List.length_append] at hlen
  simp only [List.flatten_cons, List.flatten_nil, List.append_nil] at hlen
  have hone : ∀ u ∈ vs2, u.oneCell' = true := fun u hu => by
    obtain ⟨j, hj, rfl⟩ := List.getElem_of_mem hu
    have hjl : j < recs.length := by have := m1.1; omega
    obtain ⟨po, pc, e1, _⟩ := m3 j hjl
    rw [List.getElem?_eq_getElem hj] at e1
    injection e1 with e1
    rw [e1]
    rfl
  have hvb : ∃ ao c, vb = .slice ao recs.length c ∧ (recs.length = 0 ∨ ∃ ad, ao = some ad ∧ ∀ j u, vs2[j]? = some u → w.cell? (ad.add j) = some u) ∧ (ao = none → recs.length = 0) := by
    have m0 := m1
    rcases m1.2 with ⟨rfl, hn⟩ | ⟨gl, cap, cur, rfl, _⟩
    · exact ⟨none, 0, by rw [hn], .inl hn, fun _ => hn⟩
    · exact ⟨some ⟨gl, 0, none⟩, cap, rfl, .inr ⟨_, rfl, fun j u hu => m0.cells (g := gl) rfl j u hu⟩, fun e => by cases e⟩
  obtain ⟨ao, c, hvbe, hno, h0⟩ := hvb
  have run : ∀ ty, _ := fun ty => run_append_recs (P := Try.prog) w w0.heap.size 55 ty 30 i0 (.slice none 0 0) Try.underlying55 hi hz0 hz1 hz2 rfl va L.flatten.length vs k1 ao recs.length c vs2 (by have := m1.1; omega) hno h0 hone (by omega) h6.size
  obtain ⟨va', w', r1, r2, r3, r4⟩ := run 0
  refine ⟨va', w', fun ty => ?_, ?_⟩
  · rw [hvbe]
    exact r1
  · have hm : Moved w w' (fun k => va.ownBlock = some k) := Moved.of_grown r3
    have hj := h1.grow (X' := fun k => va'.ownBlock = some k) hm (fun _ h => h) fun k e => by
      rcases r4 with h | ⟨k', hk, hlt⟩
      · exact .inl (h ▸ e)
      · rw [hk] at e; cases e; exact .inr hlt
    have hrow := RowN.join (N := fun k => ¬ Foot q p g v k) (N' := fun k => ¬ Foot q p g v k) k1 k2 k3 (fun i hi => by
      obtain ⟨po, pc, e1, e2⟩ := m3 i hi
      exact ⟨po, pc, e1, e2.mono fun b _ hN => hN.1⟩) r2 hm r4 (fun _ h => h) (fun b hb _ e => by have := (h1.foot b e).2.1; omega)
    refine ⟨⟨g, v, s, hj, ?_, h4, h5, h7⟩, h6.trans (hm.below h6.size fun k hk => (k1.lt k hk).1)⟩
    rw [List.flatten_append]
    simpa using hrow
/-- Nothing is appended. -/
theorem St.joinNil (h : St R w0 w q p va L) (hr : RowN w w0.heap.size (fun _ => True) vb []) : ∃ va' w', (∀ ty, (Builtin.append_ #[55, 55] ty #[va, vb]).run Try.prog w = .ok va' w') ∧ St R w0 w' q p va' L := by
  obtain ⟨i0, hi, hz0, hz1, hz2⟩ := info_parts Try.infoBytes
  obtain ⟨_, _, _, hl⟩ := h.shape
  obtain ⟨⟨g, v, s, h1, h2, h4, h5, h7⟩, h6⟩ := h
  obtain ⟨vs, k1, k2, k3⟩ := h2
  obtain ⟨ao, c, hvbe, _⟩ := hr.recs
  have run : ∀ ty, _ := fun ty => run_append_recs (P := Try.prog) w w0.heap.size 55 ty 30 i0 (.slice none 0 0) Try.underlying55 hi hz0 hz1 hz2 rfl va L.flatten.length vs k1 ao 0 c [] rfl (.inl rfl) (fun _ => rfl) (fun u hu => by cases hu) (by omega) h6.size
  obtain ⟨va', w', r1, r2, r3, r4⟩ := run 0
  refine ⟨va', w', fun ty => ?_, ?_⟩
  · rw [hvbe]
    exact r1
  · have hm : Moved w w' (fun k => va.ownBlock = some k) := Moved.of_grown r3
    have hj := h1.grow (X' := fun k => va'.ownBlock = some k) hm (fun _ h => h) fun k e => by
      rcases r4 with h | ⟨k', hk, hlt⟩
      · exact .inl (h ▸ e)
      · rw [hk] at e; cases e; exact .inr hlt
    have hrow := RowN.join (N := fun k => ¬ Foot q p g v k) (N' := fun k => ¬ Foot q p g v k) (rs2 := []) (vs2 := []) k1 k2 k3 (fun i hi => by cases hi) r2 hm r4 (fun _ h => h) (fun b hb _ e => by have := (h1.foot b e).2.1; omega)
    rw [List.append_nil] at hrow
    exact ⟨⟨g, v, s, hj, hrow, h4, h5, h7⟩, h6.trans (hm.below h6.size fun k hk => (k1.lt k hk).1)⟩
end

/-- A new disk, and the law's slice that is nil. -/
theorem fallen_new {R : Int} {w w1 : World} (hd : DiskIs w1 w.heap.size w.heap.size none (newD R)) (hb : Below w.heap.size w w1) : Fallen R w w1 w.heap.size (.slice none 0 0) [] :=
  ⟨⟨none, newD R, hd, RowN.nil _ _ _, new_clean R, rfl, rfl⟩, hb⟩

theorem batch_flat (a b c : Int) : (batchB a b c).flatten.length ≤ 87 := by
  have h1 := batch_le a b c
  have h2 : ∀ l : List (List Int), (∀ r ∈ l, r.length ≤ 29) → l.flatten.length ≤ 29 * l.length := by
    intro l
    induction l with
    | nil => intro _; simp
    | cons r l ih =>
      intro hl
      have h3 := ih fun x hx => hl x (by simp [hx])
      have h4 := hl r (by simp)
      rw [List.flatten_cons, List.length_append, List.length_cons]
      omega
  have h3 := h2 _ fun r hr => (batch_row a b c r hr).2
  omega
theorem batch_frame (a b c : Int) : (frameF (batchB a b c)).length ≤ 102 := by
  have h1 := frame_len (batchB a b c)
  have h2 := batch_flat a b c
  have h3 := batch_le a b c
  omega
theorem batch_good (a b c : Int) (h : 1 ≤ (batchB a b c).length) : Good (batchB a b c) := by
  refine ⟨h, by have := batch_le a b c; omega, ?_, fun r hr => (batch_row a b c r hr).1⟩
  unfold longF
  rw [List.any_eq_false]
  intro r hr
  have := (batch_row a b c r hr).2
  simp
  omega
end Go.Proofs.Ytkbdbinafjmjkaa
