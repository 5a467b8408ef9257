/-
  NoticeCheck, proved: for every input the law returns true, and each argument reads afterwards as before.
-/
import Derived.Test.YtlblacgmecgbkaaLawCheck
import Derived.Test.YtlblacgmecgbkaaArgs
namespace Go.Proofs.Ytlblacgmecgbkaa
open Go.ChangeShapes Go.WideShapes Go.ChangeAt Go.RowKit

theorem noticeCheck_spec {H : Type} (ds : List (DataW H)) (h : ds.length = 6) : ∃ e0 e1 e2 e3 e4 e5, ds = [e0, e1, e2, e3, e4, e5] := by
  match ds, h with
  | [e0, e1, e2, e3, e4, e5], _ => exact ⟨e0, e1, e2, e3, e4, e5, rfl⟩

set_option maxRecDepth 100000 in
theorem noticeCheck_lifted (os : Os) (started : os.Started) (H : Type) (enc : TypeId × Value → H) :
    ReturnsInHanded {} Try.checked os 3 .any (Rows.noticeCheckSpec.pre6 enc Try.prog Try.f3 [] false) (Rows.noticeCheckSpec.post enc Try.prog Try.f3 false true false false) := by
  refine law_lifted (tb := 4) Try.own started (by kernel_rfl) Try.func3
    (ChangeSpec.witness6 (enc := enc) (C := Try.checked) false ⟨#[], #[.agg #[.int .i64 0, .int .i64 0, .int .i64 0], .slice none 0 0, .slice none 0 0, .agg #[.int .u8 0, .int .u8 0, .int .u8 0], .int .u16 0, .int .u16 0], []⟩ 8 (by kernel_rfl) (by kernel_rfl) (by kernel_rfl) (by kernel_rfl))
    Try.laidOut (by kernel_rfl) (by kernel_rfl) Try.underlying4 rfl ?_ ?_
  · intro ds hd
    obtain ⟨e0, e1, e2, e3, e4, e5, rfl⟩ := noticeCheck_spec ds hd
    exact ⟨rfl, rfl, rfl⟩
  intro W base args ds ps hval0 hA0 _
  have hval : ∀ (j : Nat) t v, Try.f3.params[j]? = some t → args[j]? = some v → Value.okWide Try.prog W .any base t v := hval0
  have hA : DataW.TrodAll enc Try.prog W 0 (fun _ => true) true Try.f3.params.toList args.toList ds ps := hA0
  rw [Try.params3] at hA hval
  clear hval0 hA0
  obtain ⟨v0, vs0, d0, ds0, p0, q0, hargs, rfl, rfl, h0, r0⟩ := trodAll_cons hA
  obtain ⟨v1, vs1, d1, ds1, p1, q1, rfl, rfl, rfl, h1, r1⟩ := trodAll_cons r0
  obtain ⟨v2, vs2, d2, ds2, p2, q2, rfl, rfl, rfl, h2, r2⟩ := trodAll_cons r1
  obtain ⟨v3, vs3, d3, ds3, p3, q3, rfl, rfl, rfl, h3, r3⟩ := trodAll_cons r2
  obtain ⟨v4, vs4, d4, ds4, p4, q4, rfl, rfl, rfl, h4, r4⟩ := trodAll_cons r3
  obtain ⟨v5, vs5, d5, ds5, p5, q5, rfl, rfl, rfl, h5, r5⟩ := trodAll_cons r4
  obtain ⟨rfl, rfl, rfl⟩ := trodAll_nil r5
  obtain rfl : args = #[v0, v1, v2, v3, v4, v5] := by cases args; simp_all
  obtain ⟨ev, tr, pu, rfl⟩ := open_post (hval 0 _ v0 rfl rfl) h0
  obtain ⟨ao, cap, l, rfl, hl, hm⟩ := open_notices (hval 1 _ v1 rfl rfl) h1
  obtain ⟨bo, cap', lost, rfl, _, _, hm', _⟩ := open_losses (hval 2 _ v2 rfl rfl) h2
  obtain ⟨a, b, c, rfl, ⟨a0, a1⟩, ⟨b0, b1⟩, c0, c1⟩ := open_bytes3 (hval 3 _ v3 rfl rfl) h3
  obtain ⟨x, rfl, _, rfl, wx⟩ := open_int Try.underlying27 (hval 4 _ v4 rfl rfl) h4
  obtain ⟨y, rfl, _, rfl, wy⟩ := open_int Try.underlying27 (hval 5 _ v5 rfl rfl) h5
  obtain ⟨x0, x1⟩ := bounds_u16 wx
  obtain ⟨y0, y1⟩ := bounds_u16 wy
  by_cases hlong : 12 < l.length ∨ 12 < lost.length
  · exact noticeCheck_long _ ao bo _ _ _ _ ev tr pu a b c x y W hlong hm hm' rfl
  · exact noticeCheck_short ev tr pu a b c x y ao bo _ _ _ l W hl (by omega) (by omega) a0 a1 b0 b1 c0 c1 x0 x1 y0 y1

theorem noticeCheck_holds : Rows.NoticeCheckSaid :=
  OpenClaim.holds_of_wide 3 Try.f3 rfl rfl rfl rfl rfl rfl rfl ⟨rfl, rfl, rfl, rfl, rfl⟩ rfl rfl rfl rfl rfl (by kernel_rfl) Try.func3 (by kernel_rfl)
    (of_decide_eq_true (by kernel_rfl)) (by unfold Func.isWrapper; rw [if_neg (of_decide_eq_false (by kernel_rfl))]; exact ⟨rfl, rfl⟩)
    (fun os started H enc _ => noticeCheck_lifted os started H enc)
#print axioms noticeCheck_holds
end Go.Proofs.Ytlblacgmecgbkaa
