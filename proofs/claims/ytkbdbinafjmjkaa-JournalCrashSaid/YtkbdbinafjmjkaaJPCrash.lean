/-
  JournalCrash, proved: for every input the law returns true, and each argument reads afterwards as before.
-/
import Derived.Test.YtkbdbinafjmjkaaJCrash
import Derived.Test.YtkbdbinafjmjkaaDArgs
namespace Go.Proofs.Ytkbdbinafjmjkaa
open Go.ChangeShapes Go.WideShapes Go.ChangeAt Go.RowKit

theorem journalCrash_spec {H : Type} (ds : List (DataW H)) (h : ds.length = 3) : ∃ e0 e1 e2, ds = [e0, e1, e2] := by
  match ds, h with
  | [e0, e1, e2], _ => exact ⟨e0, e1, e2, rfl⟩

set_option maxRecDepth 100000 in
theorem journalCrash_lifted (os : Os) (started : os.Started) (H : Type) (enc : TypeId × Value → H) :
    ReturnsInHanded {} Try.checked os 12 .any (Rows.journalCrashSpec.pre6 enc Try.prog Try.f12 [] false) (Rows.journalCrashSpec.post enc Try.prog Try.f12 false true false false) := by
  refine law_lifted (tb := 4) Try.own started (by kernel_rfl) Try.func12
    (ChangeSpec.witness6 (enc := enc) (C := Try.checked) false ⟨#[], #[.slice none 0 0, .int .u8 0, .slice none 0 0], []⟩ 8 (by kernel_rfl) (by kernel_rfl) (by kernel_rfl) (by kernel_rfl))
    Try.laidOut (by kernel_rfl) (by kernel_rfl) Try.underlying4 rfl ?_ ?_
  · intro ds hd
    obtain ⟨e0, e1, e2, rfl⟩ := journalCrash_spec ds hd
    exact ⟨rfl, rfl, rfl⟩
  intro W base args ds ps hval0 hA0 _
  have hval : ∀ (j : Nat) t v, Try.f12.params[j]? = some t → args[j]? = some v → Value.okWide Try.prog W .any base t v := hval0
  have hA : DataW.TrodAll enc Try.prog W 0 (fun _ => true) true Try.f12.params.toList args.toList ds ps := hA0
  rw [Try.params12] at hA hval
  clear hval0 hA0
  obtain ⟨v0, vs0, d0, ds0, p0, q0, hargs, rfl, rfl, h0, r0⟩ := trodAll_cons hA
  obtain ⟨v1, vs1, d1, ds1, p1, q1, rfl, rfl, rfl, h1, r1⟩ := trodAll_cons r0
  obtain ⟨v2, vs2, d2, ds2, p2, q2, rfl, rfl, rfl, h2, r2⟩ := trodAll_cons r1
  obtain ⟨rfl, rfl, rfl⟩ := trodAll_nil r2
  obtain rfl : args = #[v0, v1, v2] := by cases args; simp_all
  obtain ⟨so, sc, s, rfl, sr, sl⟩ := open_trips (hval 0 _ v0 rfl rfl) h0
  obtain ⟨z, rfl, _, rfl, wz⟩ := open_int Try.underlying5 (hval 1 _ v1 rfl rfl) h1
  obtain ⟨z0, z1⟩ := bounds_u8 wz
  obtain ⟨mo, mc, m, rfl, mr, ml⟩ := open_itrips (hval 2 _ v2 rfl rfl) h2
  exact crash_walk so mo sc mc z s m W z0 sl sr ml

theorem journalCrash_holds : Rows.JournalCrashSaid :=
  OpenClaim.holds_of_wide 12 Try.f12 rfl rfl rfl rfl rfl rfl rfl ⟨rfl, rfl, rfl, rfl, rfl⟩ rfl rfl rfl rfl rfl (by kernel_rfl) Try.func12 (by kernel_rfl)
    (of_decide_eq_true (by kernel_rfl)) (by unfold Func.isWrapper; rw [if_neg (of_decide_eq_false (by kernel_rfl))]; exact ⟨rfl, rfl⟩)
    (fun os started H enc _ => journalCrash_lifted os started H enc)
#print axioms journalCrash_holds
end Go.Proofs.Ytkbdbinafjmjkaa
