/-
  CalendarMany, proved: for every input the law returns true, and each argument reads afterwards as before.
-/
import Derived.Test.YtgabecolmldbjaaKLawC
import Derived.Test.YtgabecolmldbjaaKArgs
namespace Go.Proofs.Ytgabecolmldbjaa
open Go.ChangeShapes Go.WideShapes Go.ChangeAt Go.RowKit

theorem calendarMany_spec {H : Type} (ds : List (DataW H)) (h : ds.length = 1) : ∃ e0, ds = [e0] := by
  match ds, h with
  | [e0], _ => exact ⟨e0, rfl⟩

set_option maxRecDepth 100000 in
theorem calendarMany_lifted (os : Os) (started : os.Started) (H : Type) (enc : TypeId × Value → H) :
    ReturnsInHanded {} Try.checked os 8 .any (Rows.calendarManySpec.pre6 enc Try.prog Try.f8 [] false) (Rows.calendarManySpec.post enc Try.prog Try.f8 false true false false) := by
  refine law_lifted (tb := 4) Try.own started (by kernel_rfl) Try.func8
    (ChangeSpec.witness6 (enc := enc) (C := Try.checked) false ⟨#[], #[.int .u16 0], []⟩ 8 (by kernel_rfl) (by kernel_rfl) (by kernel_rfl) (by kernel_rfl))
    Try.laidOut (by kernel_rfl) (by kernel_rfl) Try.underlying4 rfl ?_ ?_
  · intro ds hd
    obtain ⟨e0, rfl⟩ := calendarMany_spec ds hd
    exact ⟨rfl, rfl, rfl⟩
  intro W base args ds ps hval0 hA0 _
  have hval : ∀ (j : Nat) t v, Try.f8.params[j]? = some t → args[j]? = some v → Value.okWide Try.prog W .any base t v := hval0
  have hA : DataW.TrodAll enc Try.prog W 0 (fun _ => true) true Try.f8.params.toList args.toList ds ps := hA0
  rw [Try.params8] at hA hval
  clear hval0 hA0
  obtain ⟨v0, vs0, d0, ds0, p0, q0, hargs, rfl, rfl, h0, r0⟩ := trodAll_cons hA
  obtain ⟨rfl, rfl, rfl⟩ := trodAll_nil r0
  obtain rfl : args = #[v0] := by cases args; simp_all
  obtain ⟨x, rfl, _, rfl, wx⟩ := open_int Try.underlying38 (hval 0 _ v0 rfl rfl) h0
  obtain ⟨x0, x1⟩ := bounds_u16 wx
  exact calendarMany_walk x W x0 x1

theorem calendarMany_holds : Rows.CalendarManySaid :=
  OpenClaim.holds_of_wide 8 Try.f8 rfl rfl rfl rfl rfl rfl rfl ⟨rfl, rfl, rfl, rfl, rfl⟩ rfl rfl rfl rfl rfl (by kernel_rfl) Try.func8 (by kernel_rfl)
    (of_decide_eq_true (by kernel_rfl)) (by unfold Func.isWrapper; rw [if_neg (of_decide_eq_false (by kernel_rfl))]; exact ⟨rfl, rfl⟩)
    (fun os started H enc _ => calendarMany_lifted os started H enc)
#print axioms calendarMany_holds
end Go.Proofs.Ytgabecolmldbjaa
