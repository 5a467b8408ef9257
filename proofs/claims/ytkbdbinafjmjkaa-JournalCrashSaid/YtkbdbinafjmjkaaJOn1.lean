/-
  The journal before the crash.
-/
import Derived.Test.YtkbdbinafjmjkaaJOn0
import Derived.Test.YtkbdbinafjmjkaaDArgs
namespace Go.Proofs.Ytkbdbinafjmjkaa
open Go.RowKit

/-- A triple that lies among others, read. -/
theorem trip_look {w W : World} {so : Option Addr} {ss : List (Int × Int × Int)} (hs : LiesAt w so 3 ss.length (tripCell ss)) (hsr : ∀ i, TripOk (ss.getD i (0, 0, 0))) (hb : Below w.heap.size w W) (k : Nat) (hk : k < ss.length) :
    ∃ b off a x c, so = some ⟨b, off, none⟩ ∧ W.cell? ⟨b, off + k * 3, none⟩ = some (.int .u8 a) ∧ W.cell? ⟨b, off + k * 3 + 1, none⟩ = some (.int .u8 x) ∧ W.cell? ⟨b, off + k * 3 + 2, none⟩ = some (.int .u8 c) ∧ 0 ≤ a ∧ a ≤ 255 ∧ 0 ≤ x ∧ x ≤ 255 ∧ b < w.heap.size := by
  rcases hs with h0 | ⟨b, off, rfl, hbw, hc⟩
  · omega
  have hcr : ∀ j, j < 3 → W.cell? ⟨b, off + k * 3 + j, none⟩ = some (tripCell ss k j) := fun j hj => by
    rw [hb.cell (p := ⟨b, off + k * 3 + j, none⟩) hbw]; exact hc k hk j hj
  obtain ⟨⟨x00, x01⟩, ⟨x10, x11⟩, -⟩ := hsr k
  exact ⟨b, off, _, _, _, rfl, hcr 0 (by omega), hcr 1 (by omega), hcr 2 (by omega), x00, x01, x10, x11, hbw⟩


/-- The journal before the crash. -/
def Old (w wr : World) (q : Nat) (k : Nat) : Prop :=
  ∃ (L : List (List (List Int))), (framesF L).length ≤ 102 * k ∧
    (GSt (fun s => Half s L ∧ s.room = 20000) w wr q w.heap.size (.slice none 0 0) L.flatten [] false ∨
      ∃ recs rs, (frameF recs).length ≤ 102 ∧ GSt (fun s => Pre s L recs ∧ s.room = 20000) w wr q w.heap.size (.slice none 0 0) rs [] true)
theorem Old.next {w wr w' : World} {q k : Nat} (h : Old w wr q k) (hb : Below wr.heap.size wr w') : Old w w' q k := by
  obtain ⟨L, h1, h2 | ⟨recs, rs, h2, h3⟩⟩ := h
  · exact ⟨L, h1, .inl (h2.next hb)⟩
  · exact ⟨L, h1, .inr ⟨recs, rs, h2, h3.next hb⟩⟩
theorem Old.up {w wr : World} {q k : Nat} (h : Old w wr q k) : Old w wr q (k + 1) := by
  obtain ⟨L, h1, h2⟩ := h
  exact ⟨L, by omega, h2⟩
theorem Old.below {w wr : World} {q k : Nat} (h : Old w wr q k) : Below w.heap.size w wr := by
  obtain ⟨L, h1, h2 | ⟨recs, rs, h2, h3⟩⟩ := h
  · exact h2.below
  · exact h3.below
/-- One call of Append before the crash, whatever comes of it. -/
theorem Old.append {w wr w1 : World} {q k : Nat} {vb : Value} {a b c : Int} (h : Old w wr q k) (hk : k ≤ 16) (hb : Below wr.heap.size wr w1) (hr : RowN w1 wr.heap.size (fun j => wr.heap.size ≤ j) vb (batchB a b c)) :
    Calls Try.prog 30 #[.pointer (some ⟨q, 0, none⟩), vb] w1 fun e w2 => ∃ n : Int, e = .returned (.int .i64 n) ∧ Old w w2 q (k + 1) := by
  have hbf := batch_frame a b c
  have hbg := batch_good a b c
  have hbl := batch_le a b c
  generalize batchB a b c = BB at hr hbf hbg hbl
  by_cases h0 : BB.length = 0
  · obtain ⟨ao, cc, rfl, -⟩ := hr.recs
    rw [h0]
    refine (app_empty _ ao cc w1).mono ?_
    rintro e w2 ⟨rfl, rfl⟩
    exact ⟨_, rfl, (h.next hb).up⟩
  have hg := hbg (by omega)
  obtain ⟨L, h1, h2 | ⟨recs, rs, h2, h3⟩⟩ := h
  · have hfl : L.flatten.length ≤ 1000000 := by
      have := frames_ge L
      omega
    refine (h2.append hb hr hg hfl).mono ?_
    rintro e w2 ⟨s, ⟨hs, hro⟩, rfl, hm⟩
    refine ⟨_, rfl, ?_⟩
    have hrm := room_app s L.flatten BB
    rcases app_half (rs := L.flatten) hs hg (by rw [hs.bs, hro]; omega) with ⟨s', e1, e2⟩ | ⟨s', e1, e2⟩
    · rw [e1] at hm hrm
      refine ⟨L ++ [BB], by rw [frames_snoc, List.length_append]; omega, .inl ?_⟩
      rw [List.flatten_append]
      have := (hm.mono (D' := fun s => Half s (L ++ [BB]) ∧ s.room = 20000) fun t ht => by subst ht; exact ⟨e2, by rw [← hro]; exact hrm⟩).st
      simpa using this
    · rw [e1] at hm hrm
      exact ⟨L, by omega, .inr ⟨BB, _, hbf, (hm.mono (D' := fun s => Pre s L BB ∧ s.room = 20000) fun t ht => by subst ht; exact ⟨e2, by rw [← hro]; exact hrm⟩).st⟩⟩
  · obtain ⟨ao, cc, rfl, hre⟩ := hr.recs
    have h4 := h3.next hb
    refine (app_dead _ ao BB.length cc BB w1 rfl hre (by omega) (by omega) hg.2.2.1 (Lib.hid h4.isDead)).mono ?_
    rintro e w2 ⟨rfl, rfl⟩
    exact ⟨_, rfl, L, by omega, .inr ⟨recs, rs, h2, h4⟩⟩
/-- The crash that ends it. -/
theorem Old.crash {w wr : World} {q k : Nat} (h : Old w wr q k) (hk : k ≤ 12) (keep flip : Int) :
    Calls Try.prog 18 #[.pointer (some ⟨w.heap.size, 0, none⟩), .int .i64 keep, .int .i64 flip] wr fun e w' => ∃ p2 L', e = .returned (.pointer (some ⟨p2, 0, none⟩)) ∧ (framesF L').length ≤ 1326 ∧ FX (fun s => Rest s L' ∧ s.cut = none ∧ s.room = 20000) w w' p2 (.slice none 0 0) (.slice none 0 0) [] [] := by
  obtain ⟨L, h1, h2⟩ := h
  have key : ∃ recs rs dead, (frameF recs).length ≤ 102 ∧ GSt (fun s => Pre s L recs ∧ s.room = 20000) w wr q w.heap.size (.slice none 0 0) rs [] dead := by
    rcases h2 with h2 | ⟨recs, rs, h2, h3⟩
    · exact ⟨[], _, _, by decide, pre_of_half h2⟩
    · exact ⟨recs, rs, _, h2, h3⟩
  obtain ⟨recs, rs, dead, hf, hs⟩ := key
  refine (hs.mid.crash keep flip).mono ?_
  rintro e w' ⟨p2, rfl, hx, -⟩
  obtain ⟨L', -, h5, h6⟩ := crash_rest hx (by omega) hf
  exact ⟨p2, L', rfl, h5, h6⟩

end Go.Proofs.Ytkbdbinafjmjkaa
