/-
  File: what it makes first; what it answers.
-/
import Derived.Test.YtpddpdkdlodniaaOChange
import Derived.Laws.AppendOwnNone
import Derived.Deep.DeepCutAuto
namespace Go.Proofs.Ytpddpdkdlodniaa
open Go.RowKit

abbrev fiObj (fk fd fi fo : Int) : Obj := .cells #[.int .i64 fk, .int .i64 fd, .int .i64 fi, .int .i64 fo] 47
theorem file_made {w W : World} {day ans app fk fd fi fo : Int} {ho mo : Option Addr} {hn hc mn mc : Nat} (hW : ((w.alloc (dkObj day ans app ho hn hc mo mn mc)).alloc (fiObj fk fd fi fo)).alloc dkZero = W) :
    Below w.heap.size w W ∧ W.heap[w.heap.size + 1]? = some (fiObj fk fd fi fo) ∧ W.heap[w.heap.size + 1 + 1]? = some dkZero ∧ W.heap.size = w.heap.size + 3 := by
  refine ⟨by rw [← hW]; go_grown, ?_, ?_, by rw [← hW]; simp⟩
  · have := heap_alloc_new (w.alloc (dkObj day ans app ho hn hc mo mn mc)) (fiObj fk fd fi fo)
    rw [World.size_alloc] at this
    rw [← hW]
    exact alloc_heap this
  · have := heap_alloc_new ((w.alloc (dkObj day ans app ho hn hc mo mn mc)).alloc (fiObj fk fd fi fo)) dkZero
    rw [World.size_alloc, World.size_alloc] at this
    rw [← hW]
    exact this
theorem advF_ok {d : Dk} {day : Int} (h : advE d day = 0) : advF d day = (advD d day, advR d day, 0) := by unfold advF; rw [if_pos h]
theorem adv_post {B : Nat} {w w' : World} {day ans app day' : Int} {H : List Int} {l : List Mt} {e : Ending} (hE : advE ⟨day, ans, app, H, l⟩ day' = 0) (h : AnsPost B w (advF ⟨day, ans, app, H, l⟩ day') e w') :
    ∃ ro rc mo mc v L, L = l.map (lapseF day') ∧ e = .returned (.tuple #[.agg #[.int .i64 day', .int .i64 ans, .int .i64 app, .slice ro H.length rc, .slice mo (List.length L) mc], v, .int .i64 0]) ∧ w'.ownsRow B 3 1 (.slice ro H.length rc) H.length (H.map (Value.int .i64)) ∧
      w'.ownsRow B 50 5 (.slice mo L.length mc) L.length (L.flatMap mtCells) ∧ RlOwn B w' v (advR ⟨day, ans, app, H, l⟩ day') ∧ Below B w w' := by
  rw [advF_ok hE] at h
  obtain ⟨dv, rv, rfl, ⟨ro, rc, mo, mc, rfl, h1, h2⟩, h3, hb⟩ := h
  exact ⟨ro, rc, mo, mc, rv, _, rfl, rfl, h1, h2, h3, hb⟩
theorem adv_err_post {B : Nat} {w w' : World} {c : Int} {e : Ending} (h : AnsPost B w (noAns c) e w') :
    ∃ ro rc mo mc v, e = .returned (.tuple #[.agg #[.int .i64 0, .int .i64 0, .int .i64 0, .slice ro 0 rc, .slice mo 0 mc], v, .int .i64 c]) ∧ Below B w w' := by
  obtain ⟨dv, rv, rfl, ⟨ro, rc, mo, mc, rfl, h1, h2⟩, h3, hb⟩ := h
  exact ⟨ro, rc, mo, mc, rv, rfl, hb⟩
theorem file_noadv {d : Dk} {f : Fl} {e : Int} (h : advE d f.day = e) (he : ¬ e = 0) : fileF d f = noAns e := by
  unfold fileF
  rw [h, if_neg he]
theorem file_act {d : Dk} {f : Fl} (h : advE d f.day = 0) : fileF d f = actF (advD d f.day) (advR d f.day) f := by
  unfold fileF
  rw [if_pos h]
theorem good_len {d : Dk} {day : Int} (h : advE d day = 0) : d.mts.length ≤ 32 ∧ d.hol.length ≤ 1000 := by
  obtain ⟨hg, -⟩ := (adv_zero d day).1 h
  exact ⟨hg.2.1, (terms_zero.1 hg.1).2.2.1⟩
theorem advR_le {d : Dk} {day : Int} (h : advE d day = 0) : (advR d day).length ≤ 32 := by
  have := rules_len day d.mts
  have := (good_len h).1
  rw [advR_len]
  omega
/-- A docket, rulings: what a filing that goes through leaves. -/
theorem ans_file {B : Nat} {w w' : World} {day ans app : Int} {H : List Int} {L : List Mt} {R : List Rl} {ro mo : Option Addr} {rc mc n : Nat} {v : Value} (hn : L.length = n)
    (h1 : w'.ownsRow B 3 1 (.slice ro H.length rc) H.length (H.map (Value.int .i64))) (h2 : w'.ownsRow B 50 5 (.slice mo n mc) n (L.flatMap mtCells)) (h3 : RlOwn B w' v R) (hb : Below B w w') :
    AnsPost B w (⟨day, ans, app, H, L⟩, R, 0) (.returned (.tuple #[.agg #[.int .i64 day, .int .i64 ans, .int .i64 app, .slice ro H.length rc, .slice mo n mc], v, .int .i64 0])) w' := by
  subst hn
  exact ⟨_, _, rfl, ⟨ro, rc, mo, mc, rfl, h1, h2⟩, h3, hb⟩
end Go.Proofs.Ytpddpdkdlodniaa
