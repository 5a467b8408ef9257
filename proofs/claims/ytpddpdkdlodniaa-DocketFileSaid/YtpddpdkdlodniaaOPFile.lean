/-
  DocketFile, proved: for every input the law returns true, and each argument reads afterwards as before.
-/
import Derived.Test.YtpddpdkdlodniaaOLFile
import Derived.Test.YtpddpdkdlodniaaOArgs2
namespace Go.Proofs.Ytpddpdkdlodniaa
open Go.ChangeShapes Go.WideShapes Go.ChangeAt Go.RowKit

theorem docketFile_spec {H : Type} (ds : List (DataW H)) (h : ds.length = 9) : ∃ e0 e1 e2 e3 e4 e5 e6 e7 e8, ds = [e0, e1, e2, e3, e4, e5, e6, e7, e8] := by
  match ds, h with
  | [e0, e1, e2, e3, e4, e5, e6, e7, e8], _ => exact ⟨e0, e1, e2, e3, e4, e5, e6, e7, e8, rfl⟩

set_option maxRecDepth 100000 in
theorem docketFile_lifted (os : Os) (started : os.Started) (H : Type) (enc : TypeId × Value → H) :
    ReturnsInHanded {} Try.checked os 9 .any (Rows.docketFileSpec.pre6 enc Try.prog Try.f9 [] false) (Rows.docketFileSpec.post enc Try.prog Try.f9 false true false false) := by
  refine law_lifted (tb := 4) Try.own started (by kernel_rfl) Try.func9
    (ChangeSpec.witness6 (enc := enc) (C := Try.checked) false ⟨#[], #[.agg #[.int .u8 0, .int .u8 0], .slice none 0 0, .slice none 0 0, .agg #[.int .i64 0, .int .i64 0, .int .i64 0, .int .i64 0], .int .u8 0, .int .u8 0, .int .u8 0, .int .i8 0, .bool false], []⟩ 8 (by kernel_rfl) (by kernel_rfl) (by kernel_rfl) (by kernel_rfl))
    Try.laidOut (by kernel_rfl) (by kernel_rfl) Try.underlying4 rfl ?_ ?_
  · intro ds hd
    obtain ⟨e0, e1, e2, e3, e4, e5, e6, e7, e8, rfl⟩ := docketFile_spec ds hd
    exact ⟨rfl, rfl, rfl⟩
  intro W base args ds ps hval0 hA0 _
  have hval : ∀ (j : Nat) t v, Try.f9.params[j]? = some t → args[j]? = some v → Value.okWide Try.prog W .any base t v := hval0
  have hA : DataW.TrodAll enc Try.prog W 0 (fun _ => true) true Try.f9.params.toList args.toList ds ps := hA0
  rw [Try.params9] at hA hval
  clear hval0 hA0
  obtain ⟨v0, vs0, d0, ds0, p0, q0, hargs, rfl, rfl, h0, r0⟩ := trodAll_cons hA
  obtain ⟨v1, vs1, d1, ds1, p1, q1, rfl, rfl, rfl, h1, r1⟩ := trodAll_cons r0
  obtain ⟨v2, vs2, d2, ds2, p2, q2, rfl, rfl, rfl, h2, r2⟩ := trodAll_cons r1
  obtain ⟨v3, vs3, d3, ds3, p3, q3, rfl, rfl, rfl, h3, r3⟩ := trodAll_cons r2
  obtain ⟨v4, vs4, d4, ds4, p4, q4, rfl, rfl, rfl, h4, r4⟩ := trodAll_cons r3
  obtain ⟨v5, vs5, d5, ds5, p5, q5, rfl, rfl, rfl, h5, r5⟩ := trodAll_cons r4
  obtain ⟨v6, vs6, d6, ds6, p6, q6, rfl, rfl, rfl, h6, r6⟩ := trodAll_cons r5
  obtain ⟨v7, vs7, d7, ds7, p7, q7, rfl, rfl, rfl, h7, r7⟩ := trodAll_cons r6
  obtain ⟨v8, vs8, d8, ds8, p8, q8, rfl, rfl, rfl, h8, r8⟩ := trodAll_cons r7
  obtain ⟨rfl, rfl, rfl⟩ := trodAll_nil r8
  obtain rfl : args = #[v0, v1, v2, v3, v4, v5, v6, v7, v8] := by cases args; simp_all
  obtain ⟨x, y, rfl, ⟨x0, x1⟩, ⟨y0, y1⟩⟩ := open_bytes2 (hval 0 _ v0 rfl rfl) h0
  obtain ⟨uo, uc, hs, rfl, hL, hr⟩ := open_u16s (hval 1 _ v1 rfl rfl) h1
  obtain ⟨lo, lc, l, rfl, hQ⟩ := open_q4s (hval 2 _ v2 rfl rfl) h2
  obtain ⟨fl, rfl⟩ := open_filing (hval 3 _ v3 rfl rfl) h3
  obtain ⟨kd, rfl, _, rfl, wkd⟩ := open_int Try.underlying5 (hval 4 _ v4 rfl rfl) h4
  obtain ⟨kd0, kd1⟩ := bounds_u8 wkd
  obtain ⟨id, rfl, _, rfl, wid⟩ := open_int Try.underlying5 (hval 5 _ v5 rfl rfl) h5
  obtain ⟨id0, id1⟩ := bounds_u8 wid
  obtain ⟨op, rfl, _, rfl, wop⟩ := open_int Try.underlying5 (hval 6 _ v6 rfl rfl) h6
  obtain ⟨op0, op1⟩ := bounds_u8 wop
  obtain ⟨z, rfl, _, rfl, wz⟩ := open_int Try.underlying65 (hval 7 _ v7 rfl rfl) h7
  obtain ⟨late, rfl, _, rfl⟩ := open_bool Try.underlying4 (hval 8 _ v8 rfl rfl) h8
  cases late
  · exact docketFile_soon x y uo lo uc lc hs l fl kd id op z W hL hr hQ x0 x1 y0 y1 kd0 kd1 id0 id1 op0 op1
  · exact docketFile_late x y uo lo uc lc hs l fl kd id op z W hL hr hQ x0 x1 y0 y1 kd0 kd1 id0 id1 op0 op1

theorem docketFile_holds : Rows.DocketFileSaid :=
  OpenClaim.holds_of_wide 9 Try.f9 rfl rfl rfl rfl rfl rfl rfl ⟨rfl, rfl, rfl, rfl, rfl⟩ rfl rfl rfl rfl rfl (by kernel_rfl) Try.func9 (by kernel_rfl)
    (of_decide_eq_true (by kernel_rfl)) (by unfold Func.isWrapper; rw [if_neg (of_decide_eq_false (by kernel_rfl))]; exact ⟨rfl, rfl⟩)
    (fun os started H enc _ => docketFile_lifted os started H enc)
#print axioms docketFile_holds
end Go.Proofs.Ytpddpdkdlodniaa
