/-
  JournalPlays, proved: for every input the law returns true, and each argument reads afterwards as before.
-/
import Derived.Test.YtkbdbinafjmjkaaJPlays
import Derived.Test.YtkbdbinafjmjkaaDArgs
namespace Go.Proofs.Ytkbdbinafjmjkaa
open Go.ChangeShapes Go.WideShapes Go.ChangeAt Go.RowKit

theorem journalPlays_spec {H : Type} (ds : List (DataW H)) (h : ds.length = 3) : ∃ e0 e1 e2, ds = [e0, e1, e2] := by
  match ds, h with
  | [e0, e1, e2], _ => exact ⟨e0, e1, e2, rfl⟩

set_option maxRecDepth 100000 in
theorem journalPlays_lifted (os : Os) (started : os.Started) (H : Type) (enc : TypeId × Value → H) :
    ReturnsInHanded {} Try.checked os 7 .any (Rows.journalPlaysSpec.pre6 enc Try.prog Try.f7 [] false) (Rows.journalPlaysSpec.post enc Try.prog Try.f7 false true false false) := by
  refine law_lifted (tb := 4) Try.own started (by kernel_rfl) Try.func7
    (ChangeSpec.witness6 (enc := enc) (C := Try.checked) false ⟨#[], #[.slice none 0 0, .int .i64 0, .int .i64 0], []⟩ 8 (by kernel_rfl) (by kernel_rfl) (by kernel_rfl) (by kernel_rfl))
    Try.laidOut (by kernel_rfl) (by kernel_rfl) Try.underlying4 rfl ?_ ?_
  · intro ds hd
    obtain ⟨e0, e1, e2, rfl⟩ := journalPlays_spec ds hd
    exact ⟨rfl, rfl, rfl⟩
  intro W base args ds ps hval0 hA0 _
  have hval : ∀ (j : Nat) t v, Try.f7.params[j]? = some t → args[j]? = some v → Value.okWide Try.prog W .any base t v := hval0
  have hA : DataW.TrodAll enc Try.prog W 0 (fun _ => true) true Try.f7.params.toList args.toList ds ps := hA0
  rw [Try.params7] at hA hval
  clear hval0 hA0
  obtain ⟨v0, vs0, d0, ds0, p0, q0, hargs, rfl, rfl, h0, r0⟩ := trodAll_cons hA
  obtain ⟨v1, vs1, d1, ds1, p1, q1, rfl, rfl, rfl, h1, r1⟩ := trodAll_cons r0
  obtain ⟨v2, vs2, d2, ds2, p2, q2, rfl, rfl, rfl, h2, r2⟩ := trodAll_cons r1
  obtain ⟨rfl, rfl, rfl⟩ := trodAll_nil r2
  obtain rfl : args = #[v0, v1, v2] := by cases args; simp_all
  obtain ⟨so, sc, s, rfl, sr, sl⟩ := open_trips (hval 0 _ v0 rfl rfl) h0
  obtain ⟨k, rfl, _, rfl, wk⟩ := open_int Try.underlying3 (hval 1 _ v1 rfl rfl) h1
  obtain ⟨f, rfl, _, rfl, wf⟩ := open_int Try.underlying3 (hval 2 _ v2 rfl rfl) h2
  exact jplays_walk so sc s k f W sl sr

theorem journalPlays_holds : Rows.JournalPlaysSaid :=
  OpenClaim.holds_of_wide 7 Try.f7 rfl rfl rfl rfl rfl rfl rfl ⟨rfl, rfl, rfl, rfl, rfl⟩ rfl rfl rfl rfl rfl (by kernel_rfl) Try.func7 (by kernel_rfl)
    (of_decide_eq_true (by kernel_rfl)) (by unfold Func.isWrapper; rw [if_neg (of_decide_eq_false (by kernel_rfl))]; exact ⟨rfl, rfl⟩)
    (fun os started H enc _ => journalPlays_lifted os started H enc)
#print axioms journalPlays_holds
end Go.Proofs.Ytkbdbinafjmjkaa
