/-
  What the law on crashes needs besides.
-/
import Derived.Test.YtkbdbinafjmjkaaJOn1
namespace Go.Proofs.Ytkbdbinafjmjkaa
open Go.RowKit

theorem and_bd (x : Int) : bits .and .i64 x 3 ≤ 9223372036854775807 := by
  unfold bits
  simp only [IntKind.wrap, IntKind.bits, IntKind.signed]
  simp only [Bool.true_and]
  split
  · omega
  · rename_i h
    refine Decidable.byContradiction fun hc => h (decide_eq_true ?_)
    omega

/-- An append under a guard that holds. -/
theorem wpList_made_g {P : Program} {ops : Array Oper} {rest : List Oper} {o : Oper} {a : Act} {w w' : World} {Q : Exit → Act → World → Prop} {v : Value} (hw : Region.wanted o (yielded ops a.tmps) = true) (s x : Operand) (t ti : TypeId)
    (ho : o.op = .call { callee := .builtin .append, args := #[s, x], argTypes := #[t, ti] }) (vs vx : Value) (hs : a.eval s = vs) (hx : a.eval x = vx)
    (hrun : (Builtin.append_ #[t, ti] o.type #[vs, vx]).run P w = .ok v w') (h : wpList P ops Q rest (a.put o.dst v) w') : wpList P ops Q (o :: rest) a w :=
  wpList_step fun K hK => by
    rw [if_pos hw]
    unfold Oper.wp
    simp [execOp, ho, resolve, invoke, builtin, hs, hx, hrun, Result.andThen]
    exact hK _ _ h

/-- A triple of small ints that lies among others, read. -/
theorem itrip_look {w W : World} {so : Option Addr} {ss : List (Int × Int × Int)} (hs : LiesAt w so 3 ss.length (itripCell ss)) (hb : Below w.heap.size w W) (k : Nat) (hk : k < ss.length) :
    ∃ b off a x c, so = some ⟨b, off, none⟩ ∧ W.cell? ⟨b, off + k * 3, none⟩ = some (.int .i8 a) ∧ W.cell? ⟨b, off + k * 3 + 1, none⟩ = some (.int .i8 x) ∧ W.cell? ⟨b, off + k * 3 + 2, none⟩ = some (.int .i8 c) ∧ b < w.heap.size := by
  rcases hs with h0 | ⟨b, off, rfl, hbw, hc⟩
  · omega
  have hcr : ∀ j, j < 3 → W.cell? ⟨b, off + k * 3 + j, none⟩ = some (itripCell ss k j) := fun j hj => by
    rw [hb.cell (p := ⟨b, off + k * 3 + j, none⟩) hbw]; exact hc k hk j hj
  exact ⟨b, off, _, _, _, rfl, hcr 0 (by omega), hcr 1 (by omega), hcr 2 (by omega), hbw⟩

/-- Whole frames, with the last call's records or without, and at most one torn tail. -/
def Two (s : DS) (L : List (List (List Int))) (recs : List (List Int)) : Prop := Rest s L ∨ (Good recs ∧ Rest s (L ++ [recs]))
def Ere (s : DS) (L : List (List (List Int))) (recs : List (List Int)) : Prop := Pre s L recs ∨ Two s L recs
theorem crash_ere {s : DS} {L : List (List (List Int))} {recs : List (List Int)} (hk : DOk s) (h : Ere s L recs) (a b : Int) : Two (crashF s a b) L recs ∧ (crashF s a b).cut = none := by
  have main : ∀ M rc, Pre s M rc → ∃ L', (L' = M ∨ (Good rc ∧ L' = M ++ [rc])) ∧ Rest (crashF s a b) L' := fun M rc h => by
    obtain ⟨L', h1, h2, _⟩ := crash_pre hk h a b
    exact ⟨L', h1, h2⟩
  refine ⟨?_, rfl⟩
  rcases h with h | h | ⟨hg, h⟩
  · obtain ⟨L', rfl | ⟨hg, rfl⟩, h2⟩ := main _ _ h
    · exact .inl h2
    · exact .inr ⟨hg, h2⟩
  · obtain ⟨L', rfl | ⟨hg, rfl⟩, h2⟩ := main L [] (.inl h)
    · exact .inl h2
    · exact absurd hg.1 (by simp)
  · obtain ⟨L', rfl | ⟨hg2, rfl⟩, h2⟩ := main (L ++ [recs]) [] (.inl h)
    · exact .inr ⟨hg, h2⟩
    · exact absurd hg2.1 (by simp)
theorem cut_two {s : DS} {L : List (List (List Int))} {recs : List (List Int)} (h : Two s L recs) (n : Int) : Two (cutF s n) L recs := by
  rcases h with h | ⟨hg, h⟩
  · exact .inl (cut_rest h n)
  · exact .inr ⟨hg, cut_rest h n⟩
theorem open_two {s : DS} {L : List (List (List Int))} {recs : List (List Int)} (h : Two s L recs) : Two (openF s).2.2 L recs := by
  rcases h with h | ⟨hg, h⟩
  · exact .inl (open_rest h)
  · exact .inr ⟨hg, open_rest h⟩

section
variable {D : DS → Prop} {w0 w w' : World} {q p : Nat} {va vb : Value} {rs all recs : List (List Int)} {dead : Bool} {L : List (List (List Int))}
theorem GMid.fx (h : GMid D w0 w q p va vb rs all recs dead) : FX D w0 w p va vb all recs := by
  obtain ⟨⟨g, v, s, h1, h2, h5, h3⟩, h4⟩ := h
  exact ⟨⟨g, s, h1.disk, h2.mono fun b _ hN => ⟨fun e => hN (.inl e), fun e => hN (.inr (.inr (.inl e)))⟩, h5.mono fun b _ hN => ⟨fun e => hN.1 (.inl e), fun e => hN.1 (.inr (.inr (.inl e)))⟩, h3⟩, h4⟩
/-- The law's state once the appends are over. -/
def CX (w0 w : World) (p : Nat) (va vb : Value) (L : List (List (List Int))) (recs : List (List Int)) : Prop := FX (fun s => Ere s L recs) w0 w p va vb L.flatten recs
theorem CX.crash (h : CX w0 w p va vb L recs) (a b : Int) :
    Calls Try.prog 18 #[.pointer (some ⟨p, 0, none⟩), .int .i64 a, .int .i64 b] w fun e w' => ∃ p2, e = .returned (.pointer (some ⟨p2, 0, none⟩)) ∧ FX (fun s => Two s L recs ∧ s.cut = none) w0 w' p2 va vb L.flatten recs ∧ Below w.heap.size w w' := by
  refine (FX.crash h a b).mono ?_
  rintro e w' ⟨p2, he, hx, hb⟩
  exact ⟨p2, he, hx.mono fun s' ⟨s, h1, h2, h3⟩ => by subst h3; exact crash_ere h2 h1 a b, hb⟩
theorem two_cut (h : FX (fun s => Two s L recs ∧ s.cut = none) w0 w p va vb all recs) (n : Int) (hn : n ≤ 9223372036854775807) :
    Calls Try.prog 25 #[.pointer (some ⟨p, 0, none⟩), .int .i64 n] w fun e w' => e = .returned (.tuple #[]) ∧ FX (fun s => Two s L recs) w0 w' p va vb all recs := by
  refine (h.cut n hn).mono ?_
  rintro e w' ⟨he, hx⟩
  exact ⟨he, hx.mono fun s' ⟨s, h1, h3⟩ => by subst h3; exact cut_two h1.1 n⟩
theorem two_open (h : FX (fun s => Two s L recs) w0 w p va vb L.flatten recs) :
    Calls Try.prog 28 #[.pointer (some ⟨p, 0, none⟩)] w fun e w' => ∃ x y, e = .returned (.tuple #[x, y]) ∧ CX w0 w' p va vb L recs := by
  refine h.reopen.mono ?_
  rintro e w' ⟨x, y, he, hx⟩
  exact ⟨x, y, he, hx.mono fun s' ⟨s, h1, h3⟩ => by subst h3; exact .inr (open_two h1)⟩
theorem two_last (h : FX (fun s => Two s L recs ∧ s.cut = none) w0 w p va vb all recs) :
    ∃ L', (L' = L ∨ (Good recs ∧ L' = L ++ [recs])) ∧ (∀ b ∈ L', Good b) ∧ Calls Try.prog 28 #[.pointer (some ⟨p, 0, none⟩)] w fun e w' => ∃ q, e = .returned (.tuple #[.pointer (some ⟨q, 0, none⟩), .int .i64 0]) ∧ JRead w' q L'.flatten ∧ FX (fun _ => True) w0 w' p va vb all recs := by
  obtain ⟨⟨g, s, h1, h2, h5, h3, hc⟩, h4⟩ := h
  rcases h3 with h3 | ⟨hg, h3⟩
  · exact ⟨L, .inl rfl, h3.good, FX.openJ (D := fun s => Rest s L ∧ s.cut = none) ⟨⟨g, s, h1, h2, h5, h3, hc⟩, h4⟩ fun s ⟨a, b⟩ => by
      obtain ⟨s', e1, _⟩ := open_rest_live a b
      exact ⟨s', e1, trivial⟩⟩
  · exact ⟨L ++ [recs], .inr ⟨hg, rfl⟩, h3.good, FX.openJ (D := fun s => Rest s (L ++ [recs]) ∧ s.cut = none) ⟨⟨g, s, h1, h2, h5, h3, hc⟩, h4⟩ fun s ⟨a, b⟩ => by
      obtain ⟨s', e1, _⟩ := open_rest_live a b
      exact ⟨s', e1, trivial⟩⟩
theorem FX.lists (h : FX D w0 w p va vb all recs) : ∃ N, RowN w w0.heap.size N va all ∧ RowN w w0.heap.size N vb recs := by
  obtain ⟨⟨g, s, h1, h2, h5, h3⟩, h4⟩ := h
  exact ⟨_, h2, h5⟩
end

/-- The appends: the records of L are kept; frames so long. -/
def Up (w wr : World) (q : Nat) (va : Value) (L : List (List (List Int))) : Prop := GSt (fun s => Half s L ∧ s.room = 20000) w wr q w.heap.size va L.flatten L.flatten false
theorem Up.append {w wr w1 : World} {q : Nat} {va vb : Value} {L : List (List (List Int))} {BB : List (List Int)} (h : Up w wr q va L) (hfr : (framesF L).length ≤ 1632) (hb : Below wr.heap.size wr w1) (hr : RowN w1 wr.heap.size (fun j => wr.heap.size ≤ j) vb BB) (hg : Good BB) (hbf : (frameF BB).length ≤ 102) :
    Calls Try.prog 30 #[.pointer (some ⟨q, 0, none⟩), vb] w1 fun e w2 =>
      (e = .returned (.int .i64 0) ∧ GMid (fun s => Half s (L ++ [BB]) ∧ s.room = 20000) w w2 q w.heap.size va vb (L.flatten ++ BB) L.flatten BB false) ∨
      (e = .returned (.int .i64 42) ∧ ∃ rs, GMid (fun s => Pre s L BB) w w2 q w.heap.size va vb rs L.flatten BB true) := by
  have hfl : L.flatten.length ≤ 1000000 := by
    have := frames_ge L
    omega
  refine (GSt.append h hb hr hg hfl).mono ?_
  rintro e w2 ⟨s, ⟨hs, hro⟩, rfl, hm⟩
  have hrm := room_app s L.flatten BB
  rcases app_half (rs := L.flatten) hs hg (by rw [hs.bs, hro]; omega) with ⟨s', e1, e2⟩ | ⟨s', e1, e2⟩
  · rw [e1] at hm hrm
    exact .inl ⟨by rw [e1], hm.mono fun t ht => by subst ht; exact ⟨e2, by rw [← hro]; exact hrm⟩⟩
  · rw [e1] at hm
    exact .inr ⟨by rw [e1], _, hm.mono fun t ht => by subst ht; exact e2⟩
theorem Up.join {w w2 : World} {q : Nat} {va vb : Value} {L : List (List (List Int))} {BB : List (List Int)} (h : GMid (fun s => Half s (L ++ [BB]) ∧ s.room = 20000) w w2 q w.heap.size va vb (L.flatten ++ BB) L.flatten BB false) (hfr : (framesF L).length ≤ 1632) (hb : BB.length ≤ 16) :
    ∃ va' w', (∀ ty, (Builtin.append_ #[55, 55] ty #[va, vb]).run Try.prog w2 = .ok va' w') ∧ Up w w' q va' (L ++ [BB]) := by
  obtain ⟨va', w', h1, h2⟩ := h.join (by have := frames_ge L; omega)
  refine ⟨va', w', h1, ?_⟩
  unfold Up
  rw [List.flatten_append]
  simpa using h2
theorem Up.over {w wr : World} {q : Nat} {va : Value} {L : List (List (List Int))} (h : Up w wr q va L) : CX w wr w.heap.size va (.slice none 0 0) L [] :=
  (GSt.mid h).fx.mono fun _ hs => .inl (.inl hs.1.rest)
end Go.Proofs.Ytkbdbinafjmjkaa
