/-
  DocketMany, proved: for every input the law returns true, and each argument reads afterwards as before.
-/
import Derived.Test.YtpddpdkdlodniaaOMany
import Derived.Test.YtpddpdkdlodniaaOArgs
namespace Go.Proofs.Ytpddpdkdlodniaa
open Go.ChangeShapes Go.WideShapes Go.ChangeAt Go.RowKit

theorem docketMany_spec {H : Type} (ds : List (DataW H)) (h : ds.length = 1) : ∃ e0, ds = [e0] := by
  match ds, h with
  | [e0], _ => exact ⟨e0, rfl⟩

set_option maxRecDepth 100000 in
theorem docketMany_lifted (os : Os) (started : os.Started) (H : Type) (enc : TypeId × Value → H) :
    ReturnsInHanded {} Try.checked os 11 .any (Rows.docketManySpec.pre6 enc Try.prog Try.f11 [] false) (Rows.docketManySpec.post enc Try.prog Try.f11 false true false false) := by
  refine law_lifted (tb := 4) Try.own started (by kernel_rfl) Try.func11
    (ChangeSpec.witness6 (enc := enc) (C := Try.checked) false ⟨#[], #[.int .u8 0], []⟩ 8 (by kernel_rfl) (by kernel_rfl) (by kernel_rfl) (by kernel_rfl))
    Try.laidOut (by kernel_rfl) (by kernel_rfl) Try.underlying4 rfl ?_ ?_
  · intro ds hd
    obtain ⟨e0, rfl⟩ := docketMany_spec ds hd
    exact ⟨rfl, rfl, rfl⟩
  intro W base args ds ps hval0 hA0 _
  have hval : ∀ (j : Nat) t v, Try.f11.params[j]? = some t → args[j]? = some v → Value.okWide Try.prog W .any base t v := hval0
  have hA : DataW.TrodAll enc Try.prog W 0 (fun _ => true) true Try.f11.params.toList args.toList ds ps := hA0
  rw [Try.params11] at hA hval
  clear hval0 hA0
  obtain ⟨v0, vs0, d0, ds0, p0, q0, hargs, rfl, rfl, h0, r0⟩ := trodAll_cons hA
  obtain ⟨rfl, rfl, rfl⟩ := trodAll_nil r0
  obtain rfl : args = #[v0] := by cases args; simp_all
  obtain ⟨n, rfl, _, rfl, wn⟩ := open_int Try.underlying5 (hval 0 _ v0 rfl rfl) h0
  obtain ⟨n0, n1⟩ := bounds_u8 wn
  exact docketMany_walk n W n0 n1

theorem docketMany_holds : Rows.DocketManySaid :=
  OpenClaim.holds_of_wide 11 Try.f11 rfl rfl rfl rfl rfl rfl rfl ⟨rfl, rfl, rfl, rfl, rfl⟩ rfl rfl rfl rfl rfl (by kernel_rfl) Try.func11 (by kernel_rfl)
    (of_decide_eq_true (by kernel_rfl)) (by unfold Func.isWrapper; rw [if_neg (of_decide_eq_false (by kernel_rfl))]; exact ⟨rfl, rfl⟩)
    (fun os started H enc _ => docketMany_lifted os started H enc)
#print axioms docketMany_holds
end Go.Proofs.Ytpddpdkdlodniaa
