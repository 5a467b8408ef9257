/-
  DocketNew, proved: for every input the law returns true, and each argument reads afterwards as before.
-/
import Derived.Test.YtpddpdkdlodniaaOLawNew
import Derived.Test.YtpddpdkdlodniaaOArgs
namespace Go.Proofs.Ytpddpdkdlodniaa
open Go.ChangeShapes Go.WideShapes Go.ChangeAt Go.RowKit

theorem docketNew_spec {H : Type} (ds : List (DataW H)) (h : ds.length = 5) : ∃ e0 e1 e2 e3 e4, ds = [e0, e1, e2, e3, e4] := by
  match ds, h with
  | [e0, e1, e2, e3, e4], _ => exact ⟨e0, e1, e2, e3, e4, rfl⟩

set_option maxRecDepth 100000 in
theorem docketNew_lifted (os : Os) (started : os.Started) (H : Type) (enc : TypeId × Value → H) :
    ReturnsInHanded {} Try.checked os 5 .any (Rows.docketNewSpec.pre6 enc Try.prog Try.f5 [] false) (Rows.docketNewSpec.post enc Try.prog Try.f5 false true false false) := by
  refine law_lifted (tb := 4) Try.own started (by kernel_rfl) Try.func5
    (ChangeSpec.witness6 (enc := enc) (C := Try.checked) false ⟨#[], #[.int .i64 0, .agg #[.int .i64 0, .int .i64 0, .slice none 0 0], .int .u8 0, .int .u8 0, .int .u16 0], []⟩ 8 (by kernel_rfl) (by kernel_rfl) (by kernel_rfl) (by kernel_rfl))
    Try.laidOut (by kernel_rfl) (by kernel_rfl) Try.underlying4 rfl ?_ ?_
  · intro ds hd
    obtain ⟨e0, e1, e2, e3, e4, rfl⟩ := docketNew_spec ds hd
    exact ⟨rfl, rfl, rfl⟩
  intro W base args ds ps hval0 hA0 _
  have hval : ∀ (j : Nat) t v, Try.f5.params[j]? = some t → args[j]? = some v → Value.okWide Try.prog W .any base t v := hval0
  have hA : DataW.TrodAll enc Try.prog W 0 (fun _ => true) true Try.f5.params.toList args.toList ds ps := hA0
  rw [Try.params5] at hA hval
  clear hval0 hA0
  obtain ⟨v0, vs0, d0, ds0, p0, q0, hargs, rfl, rfl, h0, r0⟩ := trodAll_cons hA
  obtain ⟨v1, vs1, d1, ds1, p1, q1, rfl, rfl, rfl, h1, r1⟩ := trodAll_cons r0
  obtain ⟨v2, vs2, d2, ds2, p2, q2, rfl, rfl, rfl, h2, r2⟩ := trodAll_cons r1
  obtain ⟨v3, vs3, d3, ds3, p3, q3, rfl, rfl, rfl, h3, r3⟩ := trodAll_cons r2
  obtain ⟨v4, vs4, d4, ds4, p4, q4, rfl, rfl, rfl, h4, r4⟩ := trodAll_cons r3
  obtain ⟨rfl, rfl, rfl⟩ := trodAll_nil r4
  obtain rfl : args = #[v0, v1, v2, v3, v4] := by cases args; simp_all
  obtain ⟨x, rfl, _, rfl, wx⟩ := open_int Try.underlying3 (hval 0 _ v0 rfl rfl) h0
  obtain ⟨y, z, so, sc, s, rfl, sl, sn⟩ := open_terms (hval 1 _ v1 rfl rfl) h1
  obtain ⟨a, rfl, _, rfl, wa⟩ := open_int Try.underlying5 (hval 2 _ v2 rfl rfl) h2
  obtain ⟨a0, a1⟩ := bounds_u8 wa
  obtain ⟨b, rfl, _, rfl, wb⟩ := open_int Try.underlying5 (hval 3 _ v3 rfl rfl) h3
  obtain ⟨b0, b1⟩ := bounds_u8 wb
  obtain ⟨n, rfl, _, rfl, wn⟩ := open_int Try.underlying54 (hval 4 _ v4 rfl rfl) h4
  obtain ⟨n0, n1⟩ := bounds_u16 wn
  by_cases h0 : (20 : Int) < (s.length : Int)
  · exact docketNew_end x y z a b n so sc s.length W h0
  · exact docketNew_walk x y z a b n so sc s W sl sn h0 a0 a1 b0 b1 n0

theorem docketNew_holds : Rows.DocketNewSaid :=
  OpenClaim.holds_of_wide 5 Try.f5 rfl rfl rfl rfl rfl rfl rfl ⟨rfl, rfl, rfl, rfl, rfl⟩ rfl rfl rfl rfl rfl (by kernel_rfl) Try.func5 (by kernel_rfl)
    (of_decide_eq_true (by kernel_rfl)) (by unfold Func.isWrapper; rw [if_neg (of_decide_eq_false (by kernel_rfl))]; exact ⟨rfl, rfl⟩)
    (fun os started H enc _ => docketNew_lifted os started H enc)
#print axioms docketNew_holds
end Go.Proofs.Ytpddpdkdlodniaa
