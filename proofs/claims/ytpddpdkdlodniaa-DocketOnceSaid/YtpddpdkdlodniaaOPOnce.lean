/-
  DocketOnce, proved: for every input the law returns true, and each argument reads afterwards as before.
-/
import Derived.Test.YtpddpdkdlodniaaOLOnce
import Derived.Test.YtpddpdkdlodniaaOArgs2
namespace Go.Proofs.Ytpddpdkdlodniaa
open Go.ChangeShapes Go.WideShapes Go.ChangeAt Go.RowKit

theorem docketOnce_spec {H : Type} (ds : List (DataW H)) (h : ds.length = 4) : ∃ e0 e1 e2 e3, ds = [e0, e1, e2, e3] := by
  match ds, h with
  | [e0, e1, e2, e3], _ => exact ⟨e0, e1, e2, e3, rfl⟩

set_option maxRecDepth 100000 in
theorem docketOnce_lifted (os : Os) (started : os.Started) (H : Type) (enc : TypeId × Value → H) :
    ReturnsInHanded {} Try.checked os 4 .any (Rows.docketOnceSpec.pre6 enc Try.prog Try.f4 [] false) (Rows.docketOnceSpec.post enc Try.prog Try.f4 false true false false) := by
  refine law_lifted (tb := 4) Try.own started (by kernel_rfl) Try.func4
    (ChangeSpec.witness6 (enc := enc) (C := Try.checked) false ⟨#[], #[.agg #[.int .u8 0, .int .u8 0], .slice none 0 0, .slice none 0 0, .int .u8 0], []⟩ 8 (by kernel_rfl) (by kernel_rfl) (by kernel_rfl) (by kernel_rfl))
    Try.laidOut (by kernel_rfl) (by kernel_rfl) Try.underlying4 rfl ?_ ?_
  · intro ds hd
    obtain ⟨e0, e1, e2, e3, rfl⟩ := docketOnce_spec ds hd
    exact ⟨rfl, rfl, rfl⟩
  intro W base args ds ps hval0 hA0 _
  have hval : ∀ (j : Nat) t v, Try.f4.params[j]? = some t → args[j]? = some v → Value.okWide Try.prog W .any base t v := hval0
  have hA : DataW.TrodAll enc Try.prog W 0 (fun _ => true) true Try.f4.params.toList args.toList ds ps := hA0
  rw [Try.params4] at hA hval
  clear hval0 hA0
  obtain ⟨v0, vs0, d0, ds0, p0, q0, hargs, rfl, rfl, h0, r0⟩ := trodAll_cons hA
  obtain ⟨v1, vs1, d1, ds1, p1, q1, rfl, rfl, rfl, h1, r1⟩ := trodAll_cons r0
  obtain ⟨v2, vs2, d2, ds2, p2, q2, rfl, rfl, rfl, h2, r2⟩ := trodAll_cons r1
  obtain ⟨v3, vs3, d3, ds3, p3, q3, rfl, rfl, rfl, h3, r3⟩ := trodAll_cons r2
  obtain ⟨rfl, rfl, rfl⟩ := trodAll_nil r3
  obtain rfl : args = #[v0, v1, v2, v3] := by cases args; simp_all
  obtain ⟨x, y, rfl, ⟨x0, x1⟩, ⟨y0, y1⟩⟩ := open_bytes2 (hval 0 _ v0 rfl rfl) h0
  obtain ⟨uo, uc, hs, rfl, hL, hr⟩ := open_u16s (hval 1 _ v1 rfl rfl) h1
  obtain ⟨lo, lc, l, rfl, hQ⟩ := open_q4s (hval 2 _ v2 rfl rfl) h2
  obtain ⟨z, rfl, _, rfl, wz⟩ := open_int Try.underlying5 (hval 3 _ v3 rfl rfl) h3
  obtain ⟨z0, z1⟩ := bounds_u8 wz
  exact docketOnce_walk x y uo lo uc lc hs l z W hL hr hQ x0 x1 y0 y1 z0 z1

theorem docketOnce_holds : Rows.DocketOnceSaid :=
  OpenClaim.holds_of_wide 4 Try.f4 rfl rfl rfl rfl rfl rfl rfl ⟨rfl, rfl, rfl, rfl, rfl⟩ rfl rfl rfl rfl rfl (by kernel_rfl) Try.func4 (by kernel_rfl)
    (of_decide_eq_true (by kernel_rfl)) (by unfold Func.isWrapper; rw [if_neg (of_decide_eq_false (by kernel_rfl))]; exact ⟨rfl, rfl⟩)
    (fun os started H enc _ => docketOnce_lifted os started H enc)
#print axioms docketOnce_holds
end Go.Proofs.Ytpddpdkdlodniaa
