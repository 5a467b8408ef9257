/-
  What the laws make out of numbers, in plain lists: filings, matters; how their arguments lie.
  A law's variables: dockets, rulings; what the calls leave in them.
  Contracts: the filings that the laws make out of numbers.
-/
import Derived.Test.YtpddpdkdlodniaaOPlay2
import Derived.Test.YtpddpdkdlodniaaOPlayR
import Derived.Test.YtpddpdkdlodniaaOSame
import Derived.Maps.Own
import Derived.Maps.OwnOps
import Derived.WalkArith
namespace Go.Proofs.Ytpddpdkdlodniaa
open Go.RowKit

/-- Four bytes. -/
structure Q4 where
  a : Int
  b : Int
  c : Int
  d : Int
instance : Inhabited Q4 := ⟨⟨0, 0, 0, 0⟩⟩
def Q4Ok (q : Q4) : Prop := (0 ≤ q.a ∧ q.a ≤ 255) ∧ (0 ≤ q.b ∧ q.b ≤ 255) ∧ (0 ≤ q.c ∧ q.c ≤ 255) ∧ (0 ≤ q.d ∧ q.d ≤ 255)
/-- Rows of four bytes lie at an address. -/
def Q4s (w : World) (ao : Option Addr) (l : List Q4) : Prop := (∀ q ∈ l, Q4Ok q) ∧ (l = [] ∨ ∃ b off, ao = some ⟨b, off, none⟩ ∧ b < w.heap.size ∧ ∀ i, i < l.length →
  w.cell? ⟨b, off + i * 4, none⟩ = some (.int .u8 (l.getD i default).a) ∧ w.cell? ⟨b, off + i * 4 + 1, none⟩ = some (.int .u8 (l.getD i default).b) ∧ w.cell? ⟨b, off + i * 4 + 2, none⟩ = some (.int .u8 (l.getD i default).c) ∧ w.cell? ⟨b, off + i * 4 + 3, none⟩ = some (.int .u8 (l.getD i default).d))
theorem Q4s.next {w w' : World} {ao : Option Addr} {l : List Q4} (h : Q4s w ao l) (hb : Below w.heap.size w w') : Q4s w' ao l := by
  obtain ⟨h0, h⟩ := h
  refine ⟨h0, ?_⟩
  rcases h with h | ⟨b, off, rfl, hlt, hc⟩
  · exact .inl h
  · refine .inr ⟨b, off, rfl, Nat.lt_of_lt_of_le hlt hb.size, fun i hi => ?_⟩
    obtain ⟨h0, h1, h2, h3⟩ := hc i hi
    exact ⟨(hb.cell (p := ⟨b, off + i * 4, none⟩) hlt).trans h0, (hb.cell (p := ⟨b, off + i * 4 + 1, none⟩) hlt).trans h1, (hb.cell (p := ⟨b, off + i * 4 + 2, none⟩) hlt).trans h2, (hb.cell (p := ⟨b, off + i * 4 + 3, none⟩) hlt).trans h3⟩
theorem Q4s.cells {w : World} {ao : Option Addr} {l : List Q4} (h : Q4s w ao l) (hl : 0 < l.length) : ∃ b off, ao = some ⟨b, off, none⟩ ∧ b < w.heap.size ∧ ∀ i, i < l.length →
    w.cell? ⟨b, off + i * 4, none⟩ = some (.int .u8 (l.getD i default).a) ∧ w.cell? ⟨b, off + i * 4 + 1, none⟩ = some (.int .u8 (l.getD i default).b) ∧ w.cell? ⟨b, off + i * 4 + 2, none⟩ = some (.int .u8 (l.getD i default).c) ∧ w.cell? ⟨b, off + i * 4 + 3, none⟩ = some (.int .u8 (l.getD i default).d) := by
  rcases h.2 with h | h
  · rw [h] at hl; simp at hl
  · exact h
theorem Q4s.ok {w : World} {ao : Option Addr} {l : List Q4} (h : Q4s w ao l) {i : Nat} (hi : i < l.length) : Q4Ok (l.getD i default) := by
  refine h.1 _ ?_
  simp [List.getD, hi]
theorem take_snoc4 {l : List Q4} {k : Nat} (h : k < l.length) : l.take (k + 1) = l.take k ++ [l.getD k default] := by
  rw [List.take_succ_eq_append_getElem h]
  simp [List.getD, h]

/-- The cells of a filing. -/
def flCells (f : Fl) : List Value := [.int .i64 f.kind, .int .i64 f.day, .int .i64 f.id, .int .i64 f.opt]
theorem owns_fls {w : World} {base e n cap : Nat} {ao : Option Addr} {l : List Fl} (h : w.ownsRow base e 4 (.slice ao n cap) n (l.flatMap flCells)) : Fls w ao l := by
  have hl := h.1
  rw [flat_len flCells 4 (fun _ => rfl)] at hl
  rcases h.2 with ⟨h1, h2⟩ | ⟨g, cap', cur, h1, hg, hh, r⟩
  · exact .inl (List.length_eq_zero_iff.1 (by omega))
  · cases h1
    refine .inr ⟨g, 0, rfl, (Array.getElem?_eq_some_iff.1 hh).1, fun i hi => ?_⟩
    have hc : ∀ j, j < 4 → w.cell? ⟨g, 0 + i * 4 + j, none⟩ = (flCells (l.getD i default))[j]? := fun j hj => by
      rw [Nat.zero_add, h.cellAt (i * 4 + j) (by omega), flat_get flCells 4 (fun _ => rfl) default l i j hi hj]
    exact ⟨hc 0 (by omega), hc 1 (by omega), hc 2 (by omega), hc 3 (by omega)⟩

/-- Filings on days that do not decrease. -/
def filStep (s : Int × List Fl) (q : Q4) : Int × List Fl := (s.1 + q.b % 5, s.2 ++ [⟨1 + q.a % 6, s.1 + q.b % 5, q.c % 4, q.d % 5⟩])
def filAt (l : List Q4) (k : Nat) : Int × List Fl := (l.take k).foldl filStep (0, [])
def filingsF (l : List Q4) : List Fl := (filAt l (min l.length 24)).2
theorem filAt_zero (l : List Q4) : filAt l 0 = (0, []) := rfl
theorem filAt_succ {l : List Q4} {k : Nat} (h : k < l.length) : filAt l (k + 1) = filStep (filAt l k) (l.getD k default) := by
  unfold filAt
  rw [take_snoc4 h, List.foldl_append]
  rfl
theorem filAt_len (l : List Q4) : ∀ k, k ≤ l.length → (filAt l k).2.length = k
  | 0, _ => rfl
  | k + 1, h => by
    rw [filAt_succ (by omega)]
    simp [filStep, filAt_len l k (by omega)]
theorem filAt_day {l : List Q4} (hl : ∀ q ∈ l, Q4Ok q) : ∀ k, k ≤ l.length → 0 ≤ (filAt l k).1 ∧ (filAt l k).1 ≤ 4 * k
  | 0, _ => ⟨Int.le_refl _, by simp [filAt_zero]⟩
  | k + 1, h => by
    have ih := filAt_day hl k (by omega)
    rw [filAt_succ (by omega)]
    simp only [filStep]
    omega
theorem filings_len (l : List Q4) : (filingsF l).length ≤ 24 := by
  unfold filingsF
  rw [filAt_len l _ (by omega)]
  omega

/-- Filings that follow the usual course of some matters: the day, how far each matter is, the filings. -/
def matStep (s : Int × (Int → Int) × List Fl) (q : Q4) : Int × (Int → Int) × List Fl :=
  if 6 ≤ s.2.1 (q.c % 4) then (s.1 + q.b % 4, s.2.1, s.2.2)
  else (s.1 + q.b % 4, fun j => if j = q.c % 4 then s.2.1 (q.c % 4) + 1 else s.2.1 j, s.2.2 ++ [⟨1 + s.2.1 (q.c % 4), s.1 + q.b % 4, q.c % 4, q.d % 4⟩])
def matAt (l : List Q4) (k : Nat) : Int × (Int → Int) × List Fl := (l.take k).foldl matStep (0, fun _ => 0, [])
def mattersF' (l : List Q4) : List Fl := (matAt l (min l.length 24)).2.2
theorem matAt_zero (l : List Q4) : matAt l 0 = (0, fun _ => 0, []) := rfl
theorem matAt_succ {l : List Q4} {k : Nat} (h : k < l.length) : matAt l (k + 1) = matStep (matAt l k) (l.getD k default) := by
  unfold matAt
  rw [take_snoc4 h, List.foldl_append]
  rfl
theorem matAt_ok {l : List Q4} : ∀ k, k ≤ l.length → (0 ≤ (matAt l k).1 ∧ (matAt l k).1 ≤ 3 * k) ∧ (∀ j, 0 ≤ (matAt l k).2.1 j ∧ (matAt l k).2.1 j ≤ 6) ∧ (matAt l k).2.2.length ≤ k ∧ ∀ f ∈ (matAt l k).2.2, 0 ≤ f.day ∧ f.day ≤ 3 * k
  | 0, _ => ⟨⟨Int.le_refl _, by simp [matAt_zero]⟩, fun j => by simp [matAt_zero], by simp [matAt_zero], by simp [matAt_zero]⟩
  | k + 1, h => by
    obtain ⟨h1, h2, h3, h4⟩ := matAt_ok (l := l) k (by omega)
    rw [matAt_succ (by omega)]
    generalize matAt l k = s at *
    generalize l.getD k default = q at *
    obtain ⟨dy, st, fs⟩ := s
    simp only at h1 h2 h3 h4
    unfold matStep
    simp only
    split
    · exact ⟨by simp only; omega, h2, by simp only; omega, fun f hf => by have := h4 f hf; omega⟩
    · rename_i h6
      refine ⟨by simp only; omega, fun j => ?_, by simp only [List.length_append, List.length_cons, List.length_nil]; omega, fun f hf => ?_⟩
      · simp only
        split
        · have := h2 (q.c % 4); omega
        · exact h2 j
      · rcases List.mem_append.1 hf with hf | hf
        · have := h4 f hf; omega
        · obtain rfl : f = ⟨1 + st (q.c % 4), dy + q.b % 4, q.c % 4, q.d % 4⟩ := by simpa using hf
          simp only
          omega
theorem matters_len (l : List Q4) : (mattersF' l).length ≤ 24 := by
  have := (matAt_ok (l := l) (min l.length 24) (by omega)).2.2.1
  unfold mattersF'
  omega
theorem matters_day (l : List Q4) : ∀ f ∈ mattersF' l, 0 ≤ f.day ∧ f.day ≤ 72 := fun f hf => by
  have := (matAt_ok (l := l) (min l.length 24) (by omega)).2.2.2 f hf
  omega

/-- The docket behind some filings; those that return an error are left out. -/
def builtStep (d : Dk) (f : Fl) : Dk := if (fileF d f).2.2 = 0 then (fileF d f).1 else d
def builtAt (d : Dk) (fs : List Fl) (k : Nat) : Dk := (fs.take k).foldl builtStep d
theorem builtAt_zero (d : Dk) (fs : List Fl) : builtAt d fs 0 = d := rfl
theorem builtAt_succ (d : Dk) {fs : List Fl} {k : Nat} (h : k < fs.length) : builtAt d fs (k + 1) = builtStep (builtAt d fs k) (fs.getD k default) := by
  unfold builtAt
  rw [List.take_succ_eq_append_getElem h, List.foldl_append]
  simp [List.getD, h]
/-- A docket that the laws begin with. -/
def GoodB (d : Dk) : Prop := Good d ∧ 0 ≤ d.day ∧ d.day ≤ 72
theorem goodB_step {d : Dk} {f : Fl} (h : GoodB d) (hf : 0 ≤ f.day ∧ f.day ≤ 72) : GoodB (builtStep d f) := by
  unfold builtStep
  split
  · rename_i he
    obtain ⟨h1, h2⟩ := file_good he
    exact ⟨h1, by omega, by omega⟩
  · exact h
theorem goodB_at {d : Dk} {fs : List Fl} (h : GoodB d) (hf : ∀ f ∈ fs, 0 ≤ f.day ∧ f.day ≤ 72) : ∀ k, k ≤ fs.length → GoodB (builtAt d fs k)
  | 0, _ => h
  | k + 1, hk => by
    rw [builtAt_succ d (by omega)]
    refine goodB_step (goodB_at h hf k (by omega)) (hf _ ?_)
    have : k < fs.length := by omega
    simp [List.getD, this]
theorem goodB_new {ans app : Int} {H : List Int} (h1 : 1 ≤ ans ∧ ans ≤ 8) (h2 : 1 ≤ app ∧ app ≤ 8) (h3 : H.length ≤ 6) : newF 0 ans app H = (⟨0, ans, app, H, []⟩, 0) ∧ GoodB ⟨0, ans, app, H, []⟩ := by
  have ht : termsF 0 ans app H.length = 0 := terms_zero.2 (by omega)
  refine ⟨by unfold newF; rw [if_pos ht], new_good ht, by simp, by simp⟩
end Go.Proofs.Ytpddpdkdlodniaa

namespace Go.Proofs.Ytpddpdkdlodniaa
open Go.RowKit

/-- A docket's variable in block b: its slices, and what they read as. -/
structure Dv (w : World) (b : Nat) (d : Dk) (ro : Option Addr) (rc : Nat) (mo : Option Addr) (mc : Nat) : Prop where
  hp : w.heap[b]? = some (dkObj d.day d.ans d.app ro d.hol.length rc mo d.mts.length mc)
  hI : Ints w ro d.hol
  hM : Mts w mo d.mts
  hn : ro = none → rc = 0
  mn : mo = none → mc = 0
  cap : d.mts.length ≤ mc
theorem Dv.next {w w2 : World} {b : Nat} {d : Dk} {ro mo : Option Addr} {rc mc : Nat} (h : Dv w b d ro rc mo mc) (hb : Below w.heap.size w w2) : Dv w2 b d ro rc mo mc :=
  ⟨keep_heap hb h.hp, h.hI.next hb, h.hM.next hb, h.hn, h.mn, h.cap⟩
theorem Dv.cells {w : World} {b : Nat} {d : Dk} {ro mo : Option Addr} {rc mc : Nat} (h : Dv w b d ro rc mo mc) : w.cell? ⟨b, 0, none⟩ = some (.int .i64 d.day) ∧ w.cell? ⟨b, 1, none⟩ = some (.int .i64 d.ans) ∧ w.cell? ⟨b, 2, none⟩ = some (.int .i64 d.app) ∧ w.cell? ⟨b, 3, none⟩ = some (.slice ro d.hol.length rc) ∧ w.cell? ⟨b, 4, none⟩ = some (.slice mo d.mts.length mc) := five_cells h.hp
theorem Dv.lt {w : World} {b : Nat} {d : Dk} {ro mo : Option Addr} {rc mc : Nat} (h : Dv w b d ro rc mo mc) : b < w.heap.size := (Array.getElem?_eq_some_iff.1 h.hp).1
/-- A new variable takes a docket that a call has left. -/
theorem Dv.made {B : Nat} {w : World} {d : Dk} {ro mo : Option Addr} {rc mc : Nat} (h1 : w.ownsRow B 3 1 (.slice ro d.hol.length rc) d.hol.length (d.hol.map (Value.int .i64))) (h2 : w.ownsRow B 50 5 (.slice mo d.mts.length mc) d.mts.length (d.mts.flatMap mtCells)) :
    Dv (w.alloc (dkObj d.day d.ans d.app ro d.hol.length rc mo d.mts.length mc)) w.heap.size d ro rc mo mc := by
  obtain ⟨_, _, e1, hn1⟩ := owns_form h2
  cases e1
  exact ⟨heap_alloc_new w _, owns_ints (h1.alloc _), owns_mts (h2.alloc _), owns_nil h1, owns_nil h2, hn1⟩
theorem Rls.next' {w w' : World} {ao : Option Addr} {l : List Rl} (h : Rls w ao l) (hb : Below w.heap.size w w') : Rls w' ao l := h.next hb

/-- Dockets that Play leaves are short. -/
theorem file_short {d : Dk} {f : Fl} : (fileF d f).1.mts.length ≤ 32 ∧ (fileF d f).1.hol.length ≤ 1000 := by
  by_cases h : (fileF d f).2.2 = 0
  · obtain ⟨⟨h1, h2, -⟩, -⟩ := file_good h
    exact ⟨h2, (terms_zero.1 h1).2.2.1⟩
  · have key : fileF d f = noAns (fileF d f).2.2 := by
      unfold fileF at *
      split at h
      · rename_i h1
        rw [if_pos h1]
        unfold actF at *
        split
        · rfl
        · rename_i h2
          rw [if_neg h2] at h
          split
          · rename_i h3
            rw [if_pos h3] at h
            split
            · rename_i h4
              rw [if_pos h4] at h
              exact absurd rfl h
            · rfl
          · rename_i h3
            rw [if_neg h3] at h
            split
            · rfl
            · rename_i h4
              rw [if_neg h4] at h
              simp only at h ⊢
              split
              · rename_i h5
                rw [if_pos h5] at h
                exact absurd rfl h
              · rfl
      · rename_i h1
        rw [if_neg h1]
        rfl
    rw [key]
    simp [noAns, zeroDk]
theorem playGo_short : ∀ (fs : List Fl) (d : Dk) (l : List Rl) (i : Int), d.mts.length ≤ 32 ∧ d.hol.length ≤ 1000 → ((playGo fs d l i).1.mts.length ≤ 32 ∧ (playGo fs d l i).1.hol.length ≤ 1000) ∧ (playGo fs d l i).2.1.length ≤ l.length + 33 * fs.length
  | [], d, l, i, h => ⟨h, by simp [playGo]⟩
  | f :: fs, d, l, i, h => by
    unfold playGo
    split
    · have ih := playGo_short fs (fileF d f).1 (l ++ (fileF d f).2.1) (i + 1) file_short
      have h2 := file_rl_len d f
      rw [List.length_append] at ih
      refine ⟨ih.1, ?_⟩
      rw [List.length_cons]
      omega
    · exact ⟨by simp [zeroDk], by simp⟩
theorem play_short (day ans app : Int) (H : List Int) (fs : List Fl) : ((playF day ans app H fs).1.mts.length ≤ 32 ∧ (playF day ans app H fs).1.hol.length ≤ 1000) ∧ (playF day ans app H fs).2.1.length ≤ 33 * fs.length := by
  unfold playF
  split
  · have h := playGo_short fs (newF day ans app H).1 [] 0 (by
      unfold newF
      split
      · rename_i h; exact ⟨by simp, (terms_zero.1 h).2.2.1⟩
      · simp [zeroDk])
    simpa using h
  · simp [zeroDk]
theorem adv_short {d : Dk} {day : Int} : (advF d day).1.mts.length ≤ 32 ∧ (advF d day).1.hol.length ≤ 1000 ∧ (advF d day).2.1.length ≤ 32 := by
  unfold advF
  split
  · rename_i h
    have h1 := good_len h
    have h2 := advR_le h
    exact ⟨by simpa [advD] using h1.1, by simpa [advD] using h1.2, h2⟩
  · simp [noAns, zeroDk]
end Go.Proofs.Ytpddpdkdlodniaa

namespace Go.Proofs.Ytpddpdkdlodniaa
open Go.RowKit

theorem Try.infoFiling : (Try.prog.info? 47).map (fun i => (i.zero, i.size, i.bytes)) = some (some (.agg #[.int .i64 0, .int .i64 0, .int .i64 0, .int .i64 0]), 4, 32) := by kernel_rfl
abbrev q4Obj (q : Q4) : Obj := .cells #[.int .u8 q.a, .int .u8 q.b, .int .u8 q.c, .int .u8 q.d] 83
abbrev flObj (f : Fl) : Obj := .cells #[.int .i64 f.kind, .int .i64 f.day, .int .i64 f.id, .int .i64 f.opt] 47

/-- A list of filings comes back. -/
def FlsPost (fs : List Fl) (w : World) (e : Ending) (w' : World) : Prop := ∃ ro rc, e = .returned (.slice ro fs.length rc) ∧ w'.ownsRow w.heap.size 47 4 (.slice ro fs.length rc) fs.length (fs.flatMap flCells) ∧ Below w.heap.size w w'
theorem fls_post {B k c : Nat} {fs gs : List Fl} {w w' : World} {ro : Option Addr} (ho : w'.ownsRow B 47 4 (.slice ro k c) k (fs.flatMap flCells)) (hB : w.heap.size ≤ B) (h : gs = fs) (hb : Below w.heap.size w w') : FlsPost gs w (.returned (.slice ro k c)) w' := by
  subst h
  have hl := ho.1
  rw [flat_len flCells 4 (fun _ => rfl)] at hl
  obtain rfl : k = gs.length := by omega
  exact ⟨ro, c, rfl, ho.mono hB, hb⟩

/-- What the loop of Filings keeps. -/
def FilRel (w : World) (l : List Q4) (k : Nat) (v dy : Value) (wr : World) : Prop :=
  dy = .int .i64 (filAt l k).1 ∧ wr.ownsRow w.heap.size 47 4 v k ((filAt l k).2.flatMap flCells) ∧ Below w.heap.size w wr

set_option maxRecDepth 100000 in
set_option maxHeartbeats 2000000 in
theorem filings_any (ao : Option Addr) (cap : Nat) (l : List Q4) (w : World) (hQ : Q4s w ao l) :
    Calls Try.prog 30 #[.slice ao l.length cap] w (FlsPost (filingsF l) w) := by
  obtain ⟨i0, hi, hz0, hz1, hz2⟩ := info_split Try.infoFiling
  have HQ := Lib.hid hQ
  clear hQ
  go_enter Try.func30, Try.ntmps30
  go_wp2_with fail
  go_loopw [3, 4, 5] (fun v dy i wr => ∃ k : Nat, k ≤ l.length ∧ k ≤ 24 ∧ i = .int .i64 k ∧ FilRel w l k v dy wr) (fun _ _ i _ => 24 - (intOf i).toNat)
  case atStart => exact ⟨0, Nat.zero_le _, by omega, rfl, rfl, World.ownsRow_nil _ _ _ _, Below.refl _ _⟩
  case round =>
    obtain ⟨k, hk, hk24, rfl, hdy, hown, hb⟩ := hrel
    have hsr := hb.size
    by_cases hlt : k < l.length ∧ k < 24
    · obtain ⟨hlt, h24⟩ := hlt
      have hq := HQ.out.next hb
      obtain ⟨b, off, rfl, hbw, hc0⟩ := hq.cells (by omega)
      obtain ⟨c0, c1, c2, c3⟩ := hc0 k hlt
      have hok := hq.ok hlt
      have hst := filAt_succ hlt
      have hd := filAt_day HQ.out.1 k hk
      generalize l.getD k default = q at c0 c1 c2 c3 hok hst
      generalize filAt l k = s at hst hd hown hdy
      obtain ⟨dy, o⟩ := s
      obtain ⟨qa, qb, qc, qd⟩ := q
      unfold Q4Ok at hok
      simp only at c0 c1 c2 c3 hok hst hd hown hdy
      subst hdy
      obtain ⟨⟨a0, a1⟩, ⟨b0, b1⟩, ⟨e0, e1⟩, ⟨f0, f1⟩⟩ := hok
      obtain ⟨d0, d1⟩ := hd
      have hnew : ((wr.alloc (q4Obj ⟨qa, qb, qc, qd⟩)).alloc (flObj ⟨1 + qa % 6, dy + qb % 5, qc % 4, qd % 5⟩)).heap[wr.heap.size + 1]? = some (flObj ⟨1 + qa % 6, dy + qb % 5, qc % 4, qd % 5⟩) := by
        have := heap_alloc_new (wr.alloc (q4Obj ⟨qa, qb, qc, qd⟩)) (flObj ⟨1 + qa % 6, dy + qb % 5, qc % 4, qd % 5⟩)
        rwa [World.size_alloc] at this
      have HNW := Lib.hid hnew
      have HST := Lib.hid hst
      have HO := Lib.hid hown
      have HB := Lib.hid hb
      have hk0 : (0 : Int) ≤ (k : Int) := Int.natCast_nonneg _
      have hk1 : (k : Int) < (l.length : Int) := by omega
      have hk2 : (k : Int) < 24 := by omega
      have hd2 : dy ≤ 96 := by omega
      clear hc0 hq hst hown hb hnew d1
      go_wp2_with (at_builtin
                   refine wpList_append_lies _ rfl (.tmp 27) (.tmp 43) 43 rfl w.heap.size 47 i0 (.agg #[.int .i64 0, .int .i64 0, .int .i64 0, .int .i64 0]) 4 32 Try.underlying43 hi hz0 hz1 hz2 rfl (by decide) _ k _ rfl ((HO.out.alloc _).alloc _) ⟨wr.heap.size + 1, 0, none⟩ 1 1 [.int .i64 (1 + qa % 6), .int .i64 (dy + qb % 5), .int .i64 (qc % 4), .int .i64 (qd % 5)] rfl rfl (World.news_of_block HNW.out) (by simp [Value.oneCell']) (by omega) (by unfold maxLen; omega) (by omega) (by simp; omega) (wr.heap.size + 1 + 1) (by simp) ?_
                   intro gg cap5 w5 hown5 hg5 hat5 hlt5
                   have hb5 : Below w.heap.size w w5 := ((HB.out.alloc hsr _).alloc (by simp; omega) _).grown hg5 (by simp; omega) (fun j hj => (HO.out.lt j hj).1))
      go_roundw
      case rel =>
        refine ⟨k + 1, hlt, h24, by go_num, by rw [HST.out]; rfl, ?_, hb5⟩
        rw [HST.out]
        simp only [filStep, List.flatMap_append]
        exact hown5
      case measure => simp [intOf]; omega
    · have hside : ¬ k < l.length ∨ k < l.length ∧ ¬ k < 24 := by omega
      have hkm : min l.length 24 = k := by omega
      obtain ⟨ro, rc, rfl, _⟩ := owns_form hown
      have HP : Hid (FlsPost (filingsF l) w (.returned (.slice ro k rc)) wr) := Lib.hid (fls_post hown (Nat.le_refl _) (by unfold filingsF; rw [hkm]) hb)
      clear hown hkm hlt hb hdy
      rcases hside with hs1 | ⟨hs1, hs2⟩
      all_goals
        go_wp2_with fail
        go_ret
        exact HP.out

theorem laws_int : Maps.Keyed Try.prog 3 := Maps.int_keyed Try.underlying3
theorem laws_zero (w : World) : (zeroValue 3).run Try.prog w = .ok (.int .i64 0) w := by kernel_rfl
theorem own_ne {w : World} {base e size n M : Nat} {v : Value} {xs : List Value} (h : w.ownsRow base e size v n xs) (hM : M < base) : v.ownBlock = none ∨ v.ownBlock ≠ some M := by
  cases hv : v.ownBlock with
  | none => exact .inl rfl
  | some g =>
    right
    intro e1
    have := (h.lt g hv).1
    cases e1
    omega
/-- What the loop of Matters keeps: the day, the filings; how far each matter is. -/
def MatRel (w : World) (l : List Q4) (k : Nat) (v dy : Value) (wr : World) : Prop :=
  dy = .int .i64 (matAt l k).1 ∧ wr.ownsRow (w.heap.size + 1) 47 4 v (matAt l k).2.2.length ((matAt l k).2.2.flatMap flCells) ∧
    (∃ D, wr.ownsMap Try.prog 3 (plainElem (H := Unit) Try.prog 3) w.heap.size k D ∧ Maps.IsMap D ∧ ∀ j : Int, D.atKey (.int .i64 j) (.lit (.int .i64 0)) = .lit (.int .i64 ((matAt l k).2.1 j))) ∧ Below w.heap.size w wr

set_option maxRecDepth 100000 in
set_option maxHeartbeats 2000000 in
theorem matters_any (ao : Option Addr) (cap : Nat) (l : List Q4) (w : World) (hQ : Q4s w ao l) :
    Calls Try.prog 19 #[.slice ao l.length cap] w (FlsPost (mattersF' l) w) := by
  obtain ⟨i0, hi, hz0, hz1, hz2⟩ := info_split Try.infoFiling
  have HQ := Lib.hid hQ
  clear hQ
  have hmm := @run_makeMap Try.prog
  go_enter Try.func19, Try.ntmps19
  go_wp2_with fail
  go_loopw [3, 4, 6] (fun v dy i wr => ∃ k : Nat, k ≤ l.length ∧ k ≤ 24 ∧ i = .int .i64 k ∧ MatRel w l k v dy wr) (fun _ _ i _ => 24 - (intOf i).toNat)
  case atStart => exact ⟨0, Nat.zero_le _, by omega, rfl, rfl, World.ownsRow_nil _ _ _ _, ⟨.map [], World.ownsMap_made _ _ _ _, Maps.isMap_empty, fun j => rfl⟩, (Below.refl _ _).alloc (Nat.le_refl _) _⟩
  case round =>
    obtain ⟨k, hk, hk24, rfl, hdy, hown, ⟨D, hmap, hD, hst⟩, hb⟩ := hrel
    have hsr := hb.size
    by_cases hlt : k < l.length ∧ k < 24
    · obtain ⟨hlt, h24⟩ := hlt
      have hq := HQ.out.next hb
      obtain ⟨b, off, rfl, hbw, hc0⟩ := hq.cells (by omega)
      obtain ⟨c0, c1, c2, c3⟩ := hc0 k hlt
      have hok := hq.ok hlt
      have hstep := matAt_succ hlt
      have hdd := matAt_ok (l := l) k hk
      generalize l.getD k default = q at c0 c1 c2 c3 hok hstep
      generalize matAt l k = s at hstep hdd hown hdy hst
      obtain ⟨dy, st, o⟩ := s
      obtain ⟨qa, qb, qc, qd⟩ := q
      unfold Q4Ok at hok
      simp only at c0 c1 c2 c3 hok hstep hdd hown hdy hst
      subst hdy
      obtain ⟨⟨a0, a1⟩, ⟨b0, b1⟩, ⟨e0, e1⟩, ⟨f0, f1⟩⟩ := hok
      obtain ⟨⟨d0, d1⟩, hs6, hol, -⟩ := hdd
      have hkey : keyOf Try.prog 3 (.int .i64 (qc % 4)) = some (.int .i64 (qc % 4)) := Maps.keyOf_int_mk Try.underlying3 (WalkArith.wf_i64 ⟨by omega, by omega⟩)
      obtain ⟨c, hrun, hat, hwc⟩ := (hmap.alloc (q4Obj ⟨qa, qb, qc, qd⟩)).lookup_int (t := 82) laws_int Try.underlying82 Try.underlying3 (laws_zero _) hkey
      rw [hst] at hat
      have hc : st (qc % 4) = c := by simpa using hat
      have hcb := hs6 (qc % 4)
      rw [hc] at hcb
      obtain ⟨nl, hnl⟩ : ∃ nl, o.length = nl := ⟨_, rfl⟩
      rw [hnl] at hown hol
      have HST := Lib.hid hstep
      have HC := Lib.hid hc
      have HA := Lib.hid hst
      have HK := Lib.hid hkey
      have HNL := Lib.hid hnl
      have HO := Lib.hid hown
      have HB := Lib.hid hb
      have HM := Lib.hid hmap
      have HD := Lib.hid hD
      have hk0 : (0 : Int) ≤ (k : Int) := Int.natCast_nonneg _
      have hk1 : (k : Int) < (l.length : Int) := by omega
      have hk2 : (k : Int) < 24 := by omega
      have hd2 : dy ≤ 96 := by omega
      obtain ⟨hcb0, hcb1⟩ := hcb
      have hne : HO.out = HO.out := rfl
      clear hne hc0 hq hstep hown hb hmap hD hst hc hat hwc hs6 hkey hnl d1
      by_cases h6 : 6 ≤ c
      · have HAL : Hid (Below wr.heap.size wr (wr.alloc (q4Obj ⟨qa, qb, qc, qd⟩))) := Lib.hid ((Below.refl _ _).alloc (Nat.le_refl _) _)
        go_wp2_with fail
        go_roundw
        case rel =>
          refine ⟨k + 1, hlt, h24, by go_num, ?_⟩
          rw [MatRel, HST.out, matStep, if_pos (by simp only; rw [HC.out]; exact h6)]
          refine ⟨rfl, ?_, ⟨D, (HM.out.alloc _).mono (Nat.le_succ _), HD.out, HA.out⟩, HB.out.alloc HB.out.size _⟩
          simp only
          rw [HNL.out]
          exact HO.out.alloc _
        case measure => simp [intOf]; omega
      · have hc5 : c < 6 := by omega
        obtain ⟨w1, hrunU, hown1, hgrow1⟩ := (HM.out.alloc (q4Obj ⟨qa, qb, qc, qd⟩)).update (t := 82) laws_int Try.underlying82 (by unfold maxLen; omega) HK.out (plainElem_int Try.underlying3 (a := c + 1) (WalkArith.wf_i64 ⟨by omega, by omega⟩))
        have x3 : w1.cell? ⟨wr.heap.size, 3, none⟩ = some (.int .u8 qd) := hgrow1.cell (by rw [cell_of_row _ _ _ _ _ _ (heap_alloc_new wr (q4Obj ⟨qa, qb, qc, qd⟩))]; rfl) (by have := HM.out.lt; simp; omega)
        have HM1 := Lib.hid hown1
        have HO1 := Lib.hid ((HO.out.alloc (q4Obj ⟨qa, qb, qc, qd⟩)).kept hgrow1 (own_ne HO.out (Nat.lt_succ_self _)))
        have HB1 : Hid (Below w.heap.size w w1) := Lib.hid ((HB.out.alloc hsr _).grown hgrow1 (by simp; omega) (fun j hj => by cases hj; exact Nat.le_refl _))
        have hs1 : w.heap.size + 1 ≤ w1.heap.size := by have := hgrow1.size; simp at this; omega
        clear hown1 hgrow1
        go_wp2_with (at_builtin
                     refine wpList_append_lies _ rfl (.tmp 44) (.tmp 54) 43 rfl (w.heap.size + 1) 47 i0 (.agg #[.int .i64 0, .int .i64 0, .int .i64 0, .int .i64 0]) 4 32 Try.underlying43 hi hz0 hz1 hz2 rfl (by decide) _ nl _ rfl (HO1.out.alloc _) ⟨w1.heap.size, 0, none⟩ 1 1 [.int .i64 (1 + c), .int .i64 (dy + qb % 4), .int .i64 (qc % 4), .int .i64 (qd % 4)] rfl rfl (World.news_of_block (cs := #[.int .i64 (1 + c), .int .i64 (dy + qb % 4), .int .i64 (qc % 4), .int .i64 (qd % 4)]) (t := 47) (fr := (0, 0)) (heap_alloc_new w1 _)) (by simp [Value.oneCell']) (by omega) (by unfold maxLen; omega) (by omega) (by simp; omega) (w1.heap.size + 1) (by simp) ?_
                     intro gg cap5 w5 hown5 hg5 hat5 hlt5
                     have hb5 : Below w.heap.size w w5 := (HB1.out.alloc (by omega) _).grown hg5 (by simp; omega) (fun j hj => Nat.le_of_succ_le (HO1.out.lt j hj).1)
                     have HM5 := Lib.hid ((HM1.out.alloc (flObj ⟨1 + c, dy + qb % 4, qc % 4, qd % 4⟩)).kept hg5 (fun e => by have := (HO1.out.lt _ e.symm).1; omega)))
        go_roundw
        case rel =>
          refine ⟨k + 1, hlt, h24, by go_num, ?_⟩
          rw [MatRel, HST.out, matStep, if_neg (by simp only; rw [HC.out]; omega)]
          simp only [HC.out]
          refine ⟨trivial, ?_, ⟨_, HM5.out, HD.out.put _ _, fun j => ?_⟩, hb5⟩
          · rw [List.length_append, HNL.out, List.flatMap_append]
            exact hown5
          · by_cases hj : j = qc % 4
            · subst hj
              rw [if_pos rfl, Maps.atKey_put_same HD.out (by simp [WideAt.IsKeyLit])]
            · rw [if_neg hj, Maps.atKey_put_other (by intro e; simp at e; exact hj e)]
              exact HA.out j
        case measure => simp [intOf]; omega
    · have hside : ¬ k < l.length ∨ k < l.length ∧ ¬ k < 24 := by omega
      have hkm : min l.length 24 = k := by omega
      obtain ⟨n, hn⟩ : ∃ n, (matAt l k).2.2.length = n := ⟨_, rfl⟩
      rw [hn] at hown
      obtain ⟨ro, rc, rfl, _⟩ := owns_form hown
      have HP : Hid (FlsPost (mattersF' l) w (.returned (.slice ro n rc)) wr) := Lib.hid (fls_post hown (Nat.le_succ _) (by unfold mattersF'; rw [hkm]) hb)
      clear hown hkm hlt hb hdy hn hmap hD hst
      rcases hside with hs1 | ⟨hs1, hs2⟩
      all_goals
        go_wp2_with fail
        go_ret
        exact HP.out
end Go.Proofs.Ytpddpdkdlodniaa
