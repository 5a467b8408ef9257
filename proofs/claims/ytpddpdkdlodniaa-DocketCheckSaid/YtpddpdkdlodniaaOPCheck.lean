/-
  DocketCheck, proved: for every input the law returns true, and each argument reads afterwards as before.
-/
import Derived.Test.YtpddpdkdlodniaaOLCheck
import Derived.Test.YtpddpdkdlodniaaOArgs2
namespace Go.Proofs.Ytpddpdkdlodniaa
open Go.ChangeShapes Go.WideShapes Go.ChangeAt Go.RowKit

theorem docketCheck_spec {H : Type} (ds : List (DataW H)) (h : ds.length = 6) : ∃ e0 e1 e2 e3 e4 e5, ds = [e0, e1, e2, e3, e4, e5] := by
  match ds, h with
  | [e0, e1, e2, e3, e4, e5], _ => exact ⟨e0, e1, e2, e3, e4, e5, rfl⟩

set_option maxRecDepth 100000 in
theorem docketCheck_lifted (os : Os) (started : os.Started) (H : Type) (enc : TypeId × Value → H) :
    ReturnsInHanded {} Try.checked os 6 .any (Rows.docketCheckSpec.pre6 enc Try.prog Try.f6 [] false) (Rows.docketCheckSpec.post enc Try.prog Try.f6 false true false false) := by
  refine law_lifted (tb := 4) Try.own started (by kernel_rfl) Try.func6
    (ChangeSpec.witness6 (enc := enc) (C := Try.checked) false ⟨#[], #[.agg #[.int .i64 0, .int .i64 0, .int .i64 0, .slice none 0 0, .slice none 0 0], .agg #[.int .u8 0, .int .u8 0], .slice none 0 0, .slice none 0 0, .int .u8 0, .int .u8 0], []⟩ 8 (by kernel_rfl) (by kernel_rfl) (by kernel_rfl) (by kernel_rfl))
    Try.laidOut (by kernel_rfl) (by kernel_rfl) Try.underlying4 rfl ?_ ?_
  · intro ds hd
    obtain ⟨e0, e1, e2, e3, e4, e5, rfl⟩ := docketCheck_spec ds hd
    exact ⟨rfl, rfl, rfl⟩
  intro W base args ds ps hval0 hA0 _
  have hval : ∀ (j : Nat) t v, Try.f6.params[j]? = some t → args[j]? = some v → Value.okWide Try.prog W .any base t v := hval0
  have hA : DataW.TrodAll enc Try.prog W 0 (fun _ => true) true Try.f6.params.toList args.toList ds ps := hA0
  rw [Try.params6] at hA hval
  clear hval0 hA0
  obtain ⟨v0, vs0, d0, ds0, p0, q0, hargs, rfl, rfl, h0, r0⟩ := trodAll_cons hA
  obtain ⟨v1, vs1, d1, ds1, p1, q1, rfl, rfl, rfl, h1, r1⟩ := trodAll_cons r0
  obtain ⟨v2, vs2, d2, ds2, p2, q2, rfl, rfl, rfl, h2, r2⟩ := trodAll_cons r1
  obtain ⟨v3, vs3, d3, ds3, p3, q3, rfl, rfl, rfl, h3, r3⟩ := trodAll_cons r2
  obtain ⟨v4, vs4, d4, ds4, p4, q4, rfl, rfl, rfl, h4, r4⟩ := trodAll_cons r3
  obtain ⟨v5, vs5, d5, ds5, p5, q5, rfl, rfl, rfl, h5, r5⟩ := trodAll_cons r4
  obtain ⟨rfl, rfl, rfl⟩ := trodAll_nil r5
  obtain rfl : args = #[v0, v1, v2, v3, v4, v5] := by cases args; simp_all
  obtain ⟨raw, ra, ca, ma, ka, rfl, hDA⟩ := open_docket (hval 0 _ v0 rfl rfl) h0
  obtain ⟨x, y, rfl, ⟨x0, x1⟩, ⟨y0, y1⟩⟩ := open_bytes2 (hval 1 _ v1 rfl rfl) h1
  obtain ⟨uo, uc, hs, rfl, hL, hr⟩ := open_u16s (hval 2 _ v2 rfl rfl) h2
  obtain ⟨lo, lc, l, rfl, hQ⟩ := open_q4s (hval 3 _ v3 rfl rfl) h3
  obtain ⟨ai, rfl, _, rfl, wai⟩ := open_int Try.underlying5 (hval 4 _ v4 rfl rfl) h4
  obtain ⟨ai0, ai1⟩ := bounds_u8 wai
  obtain ⟨wh, rfl, _, rfl, wwh⟩ := open_int Try.underlying5 (hval 5 _ v5 rfl rfl) h5
  obtain ⟨wh0, wh1⟩ := bounds_u8 wwh
  by_cases hf : raw.hol.length ≤ 12 ∧ raw.mts.length ≤ 10
  case neg => exact docketCheck_end raw ra ma ca ka x y uo lo uc lc hs l ai wh W hDA hf
  by_cases hn : 0 < (builtD x y hs l).mts.length
  case neg => exact docketCheck_none raw ra ma ca ka x y uo lo uc lc hs l ai wh W hDA hf hL hr hQ x0 x1 y0 y1 hn
  have hs12 : wh % 12 = 0 ∨ wh % 12 = 1 ∨ wh % 12 = 2 ∨ wh % 12 = 3 ∨ wh % 12 = 4 ∨ wh % 12 = 5 ∨ wh % 12 = 6 ∨ wh % 12 = 7 ∨ wh % 12 = 8 ∨ wh % 12 = 9 ∨ wh % 12 = 10 ∨ wh % 12 = 11 := by omega
  rcases hs12 with hq | hq | hq | hq | hq | hq | hq | hq | hq | hq | hq | hq
  · exact docketCheck_q0 raw ra ma ca ka x y uo lo uc lc hs l ai wh W hDA hf hL hr hQ x0 x1 y0 y1 hn ai0 ai1 wh0 wh1 hq
  · exact docketCheck_q1 raw ra ma ca ka x y uo lo uc lc hs l ai wh W hDA hf hL hr hQ x0 x1 y0 y1 hn ai0 ai1 wh0 wh1 hq
  · exact docketCheck_q2 raw ra ma ca ka x y uo lo uc lc hs l ai wh W hDA hf hL hr hQ x0 x1 y0 y1 hn ai0 ai1 wh0 wh1 hq
  · exact docketCheck_q3 raw ra ma ca ka x y uo lo uc lc hs l ai wh W hDA hf hL hr hQ x0 x1 y0 y1 hn ai0 ai1 wh0 wh1 hq
  · exact docketCheck_q4 raw ra ma ca ka x y uo lo uc lc hs l ai wh W hDA hf hL hr hQ x0 x1 y0 y1 hn ai0 ai1 wh0 wh1 hq
  · exact docketCheck_q5 raw ra ma ca ka x y uo lo uc lc hs l ai wh W hDA hf hL hr hQ x0 x1 y0 y1 hn ai0 ai1 wh0 wh1 hq
  · exact docketCheck_q6 raw ra ma ca ka x y uo lo uc lc hs l ai wh W hDA hf hL hr hQ x0 x1 y0 y1 hn ai0 ai1 wh0 wh1 hq
  · exact docketCheck_q7 raw ra ma ca ka x y uo lo uc lc hs l ai wh W hDA hf hL hr hQ x0 x1 y0 y1 hn ai0 ai1 wh0 wh1 hq
  · exact docketCheck_q8 raw ra ma ca ka x y uo lo uc lc hs l ai wh W hDA hf hL hr hQ x0 x1 y0 y1 hn ai0 ai1 wh0 wh1 hq
  · exact docketCheck_q9 raw ra ma ca ka x y uo lo uc lc hs l ai wh W hDA hf hL hr hQ x0 x1 y0 y1 hn ai0 ai1 wh0 wh1 hq
  · exact docketCheck_q10 raw ra ma ca ka x y uo lo uc lc hs l ai wh W hDA hf hL hr hQ x0 x1 y0 y1 hn ai0 ai1 wh0 wh1 hq
  · exact docketCheck_q11 raw ra ma ca ka x y uo lo uc lc hs l ai wh W hDA hf hL hr hQ x0 x1 y0 y1 hn ai0 ai1 wh0 wh1 hq

theorem docketCheck_holds : Rows.DocketCheckSaid :=
  OpenClaim.holds_of_wide 6 Try.f6 rfl rfl rfl rfl rfl rfl rfl ⟨rfl, rfl, rfl, rfl, rfl⟩ rfl rfl rfl rfl rfl (by kernel_rfl) Try.func6 (by kernel_rfl)
    (of_decide_eq_true (by kernel_rfl)) (by unfold Func.isWrapper; rw [if_neg (of_decide_eq_false (by kernel_rfl))]; exact ⟨rfl, rfl⟩)
    (fun os started H enc _ => docketCheck_lifted os started H enc)
#print axioms docketCheck_holds
end Go.Proofs.Ytpddpdkdlodniaa
