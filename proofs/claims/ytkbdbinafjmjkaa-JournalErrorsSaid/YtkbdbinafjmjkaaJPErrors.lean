/-
  JournalErrors, proved: for every input the law returns true, and each argument reads afterwards as before.
-/
import Derived.Test.YtkbdbinafjmjkaaJErr
import Derived.Test.YtkbdbinafjmjkaaDArgs
namespace Go.Proofs.Ytkbdbinafjmjkaa
open Go.ChangeShapes Go.WideShapes Go.ChangeAt Go.RowKit

theorem journalErrors_spec {H : Type} (ds : List (DataW H)) (h : ds.length = 3) : ∃ e0 e1 e2, ds = [e0, e1, e2] := by
  match ds, h with
  | [e0, e1, e2], _ => exact ⟨e0, e1, e2, rfl⟩

set_option maxRecDepth 100000 in
theorem journalErrors_lifted (os : Os) (started : os.Started) (H : Type) (enc : TypeId × Value → H) :
    ReturnsInHanded {} Try.checked os 8 .any (Rows.journalErrorsSpec.pre6 enc Try.prog Try.f8 [] false) (Rows.journalErrorsSpec.post enc Try.prog Try.f8 false true false false) := by
  refine law_lifted (tb := 4) Try.own started (by kernel_rfl) Try.func8
    (ChangeSpec.witness6 (enc := enc) (C := Try.checked) false ⟨#[], #[.int .u16 0, .int .u16 0, .int .u8 0], []⟩ 8 (by kernel_rfl) (by kernel_rfl) (by kernel_rfl) (by kernel_rfl))
    Try.laidOut (by kernel_rfl) (by kernel_rfl) Try.underlying4 rfl ?_ ?_
  · intro ds hd
    obtain ⟨e0, e1, e2, rfl⟩ := journalErrors_spec ds hd
    exact ⟨rfl, rfl, rfl⟩
  intro W base args ds ps hval0 hA0 _
  have hval : ∀ (j : Nat) t v, Try.f8.params[j]? = some t → args[j]? = some v → Value.okWide Try.prog W .any base t v := hval0
  have hA : DataW.TrodAll enc Try.prog W 0 (fun _ => true) true Try.f8.params.toList args.toList ds ps := hA0
  rw [Try.params8] at hA hval
  clear hval0 hA0
  obtain ⟨v0, vs0, d0, ds0, p0, q0, hargs, rfl, rfl, h0, r0⟩ := trodAll_cons hA
  obtain ⟨v1, vs1, d1, ds1, p1, q1, rfl, rfl, rfl, h1, r1⟩ := trodAll_cons r0
  obtain ⟨v2, vs2, d2, ds2, p2, q2, rfl, rfl, rfl, h2, r2⟩ := trodAll_cons r1
  obtain ⟨rfl, rfl, rfl⟩ := trodAll_nil r2
  obtain rfl : args = #[v0, v1, v2] := by cases args; simp_all
  obtain ⟨x, rfl, _, rfl, wx⟩ := open_int Try.underlying60 (hval 0 _ v0 rfl rfl) h0
  obtain ⟨x0, x1⟩ := bounds_u16 wx
  obtain ⟨y, rfl, _, rfl, wy⟩ := open_int Try.underlying60 (hval 1 _ v1 rfl rfl) h1
  obtain ⟨y0, y1⟩ := bounds_u16 wy
  obtain ⟨z, rfl, _, rfl, wz⟩ := open_int Try.underlying5 (hval 2 _ v2 rfl rfl) h2
  obtain ⟨z0, z1⟩ := bounds_u8 wz
  exact err_walk x y z W x0 y0 z0 z1

theorem journalErrors_holds : Rows.JournalErrorsSaid :=
  OpenClaim.holds_of_wide 8 Try.f8 rfl rfl rfl rfl rfl rfl rfl ⟨rfl, rfl, rfl, rfl, rfl⟩ rfl rfl rfl rfl rfl (by kernel_rfl) Try.func8 (by kernel_rfl)
    (of_decide_eq_true (by kernel_rfl)) (by unfold Func.isWrapper; rw [if_neg (of_decide_eq_false (by kernel_rfl))]; exact ⟨rfl, rfl⟩)
    (fun os started H enc _ => journalErrors_lifted os started H enc)
#print axioms journalErrors_holds
end Go.Proofs.Ytkbdbinafjmjkaa
