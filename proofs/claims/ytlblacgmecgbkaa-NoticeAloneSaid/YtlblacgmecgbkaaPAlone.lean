/-
  NoticeAlone, proved: for every input the law returns true, and each argument reads afterwards as before.
-/
import Derived.Test.YtlblacgmecgbkaaLawAlone
import Derived.Test.YtlblacgmecgbkaaArgs
namespace Go.Proofs.Ytlblacgmecgbkaa
open Go.ChangeShapes Go.WideShapes Go.ChangeAt Go.RowKit

theorem noticeAlone_spec {H : Type} (ds : List (DataW H)) (h : ds.length = 4) : ∃ e0 e1 e2 e3, ds = [e0, e1, e2, e3] := by
  match ds, h with
  | [e0, e1, e2, e3], _ => exact ⟨e0, e1, e2, e3, rfl⟩

set_option maxRecDepth 100000 in
theorem noticeAlone_lifted (os : Os) (started : os.Started) (H : Type) (enc : TypeId × Value → H) :
    ReturnsInHanded {} Try.checked os 8 .any (Rows.noticeAloneSpec.pre6 enc Try.prog Try.f8 [] false) (Rows.noticeAloneSpec.post enc Try.prog Try.f8 false true false false) := by
  refine law_lifted (tb := 4) Try.own started (by kernel_rfl) Try.func8
    (ChangeSpec.witness6 (enc := enc) (C := Try.checked) false ⟨#[], #[.agg #[.int .u8 0, .int .u8 0, .int .u8 0], .slice none 0 0, .slice none 0 0, .int .u8 0], []⟩ 8 (by kernel_rfl) (by kernel_rfl) (by kernel_rfl) (by kernel_rfl))
    Try.laidOut (by kernel_rfl) (by kernel_rfl) Try.underlying4 rfl ?_ ?_
  · intro ds hd
    obtain ⟨e0, e1, e2, e3, rfl⟩ := noticeAlone_spec ds hd
    exact ⟨rfl, rfl, rfl⟩
  intro W base args ds ps hval0 hA0 _
  have hval : ∀ (j : Nat) t v, Try.f8.params[j]? = some t → args[j]? = some v → Value.okWide Try.prog W .any base t v := hval0
  have hA : DataW.TrodAll enc Try.prog W 0 (fun _ => true) true Try.f8.params.toList args.toList ds ps := hA0
  rw [Try.params8] at hA hval
  clear hval0 hA0
  obtain ⟨v0, vs0, d0, ds0, p0, q0, hargs, rfl, rfl, h0, r0⟩ := trodAll_cons hA
  obtain ⟨v1, vs1, d1, ds1, p1, q1, rfl, rfl, rfl, h1, r1⟩ := trodAll_cons r0
  obtain ⟨v2, vs2, d2, ds2, p2, q2, rfl, rfl, rfl, h2, r2⟩ := trodAll_cons r1
  obtain ⟨v3, vs3, d3, ds3, p3, q3, rfl, rfl, rfl, h3, r3⟩ := trodAll_cons r2
  obtain ⟨rfl, rfl, rfl⟩ := trodAll_nil r3
  obtain rfl : args = #[v0, v1, v2, v3] := by cases args; simp_all
  obtain ⟨a, b, d, rfl, ⟨a0, a1⟩, ⟨b0, b1⟩, c0, c1⟩ := open_bytes3 (hval 0 _ v0 rfl rfl) h0
  obtain ⟨zo, zc, zs, rfl, hzr, hz⟩ := open_u16s (hval 1 _ v1 rfl rfl) h1
  obtain ⟨lo, lc, xs, rfl, hxr, hx⟩ := open_triples (hval 2 _ v2 rfl rfl) h2
  obtain ⟨n, rfl, _, rfl, wn⟩ := open_int Try.underlying5 (hval 3 _ v3 rfl rfl) h3
  obtain ⟨n0, n1⟩ := bounds_u8 wn
  exact noticeAlone_walk a b d n zo lo zc lc zs xs W hz hzr hx hxr a0 a1 b0 b1 c0 c1 n0 n1

theorem noticeAlone_holds : Rows.NoticeAloneSaid :=
  OpenClaim.holds_of_wide 8 Try.f8 rfl rfl rfl rfl rfl rfl rfl ⟨rfl, rfl, rfl, rfl, rfl⟩ rfl rfl rfl rfl rfl (by kernel_rfl) Try.func8 (by kernel_rfl)
    (of_decide_eq_true (by kernel_rfl)) (by unfold Func.isWrapper; rw [if_neg (of_decide_eq_false (by kernel_rfl))]; exact ⟨rfl, rfl⟩)
    (fun os started H enc _ => noticeAlone_lifted os started H enc)
#print axioms noticeAlone_holds
end Go.Proofs.Ytlblacgmecgbkaa
