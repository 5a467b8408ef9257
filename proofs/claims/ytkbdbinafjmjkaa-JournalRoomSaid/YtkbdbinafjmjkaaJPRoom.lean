/-
  JournalRoom, proved: for every input the law returns true, and each argument reads afterwards as before.
-/
import Derived.Test.YtkbdbinafjmjkaaJRoom
import Derived.Test.YtkbdbinafjmjkaaDArgs
namespace Go.Proofs.Ytkbdbinafjmjkaa
open Go.ChangeShapes Go.WideShapes Go.ChangeAt Go.RowKit

theorem journalRoom_spec {H : Type} (ds : List (DataW H)) (h : ds.length = 2) : ∃ e0 e1, ds = [e0, e1] := by
  match ds, h with
  | [e0, e1], _ => exact ⟨e0, e1, rfl⟩

set_option maxRecDepth 100000 in
theorem journalRoom_lifted (os : Os) (started : os.Started) (H : Type) (enc : TypeId × Value → H) :
    ReturnsInHanded {} Try.checked os 9 .any (Rows.journalRoomSpec.pre6 enc Try.prog Try.f9 [] false) (Rows.journalRoomSpec.post enc Try.prog Try.f9 false true false false) := by
  refine law_lifted (tb := 4) Try.own started (by kernel_rfl) Try.func9
    (ChangeSpec.witness6 (enc := enc) (C := Try.checked) false ⟨#[], #[.int .u16 0, .slice none 0 0], []⟩ 8 (by kernel_rfl) (by kernel_rfl) (by kernel_rfl) (by kernel_rfl))
    Try.laidOut (by kernel_rfl) (by kernel_rfl) Try.underlying4 rfl ?_ ?_
  · intro ds hd
    obtain ⟨e0, e1, rfl⟩ := journalRoom_spec ds hd
    exact ⟨rfl, rfl, rfl⟩
  intro W base args ds ps hval0 hA0 _
  have hval : ∀ (j : Nat) t v, Try.f9.params[j]? = some t → args[j]? = some v → Value.okWide Try.prog W .any base t v := hval0
  have hA : DataW.TrodAll enc Try.prog W 0 (fun _ => true) true Try.f9.params.toList args.toList ds ps := hA0
  rw [Try.params9] at hA hval
  clear hval0 hA0
  obtain ⟨v0, vs0, d0, ds0, p0, q0, hargs, rfl, rfl, h0, r0⟩ := trodAll_cons hA
  obtain ⟨v1, vs1, d1, ds1, p1, q1, rfl, rfl, rfl, h1, r1⟩ := trodAll_cons r0
  obtain ⟨rfl, rfl, rfl⟩ := trodAll_nil r1
  obtain rfl : args = #[v0, v1] := by cases args; simp_all
  obtain ⟨y, rfl, _, rfl, wy⟩ := open_int Try.underlying60 (hval 0 _ v0 rfl rfl) h0
  obtain ⟨y0, y1⟩ := bounds_u16 wy
  obtain ⟨so, sc, s, rfl, sr, sl⟩ := open_bytes (hval 1 _ v1 rfl rfl) h1
  exact room_walk so sc y s W sl sr y0

theorem journalRoom_holds : Rows.JournalRoomSaid :=
  OpenClaim.holds_of_wide 9 Try.f9 rfl rfl rfl rfl rfl rfl rfl ⟨rfl, rfl, rfl, rfl, rfl⟩ rfl rfl rfl rfl rfl (by kernel_rfl) Try.func9 (by kernel_rfl)
    (of_decide_eq_true (by kernel_rfl)) (by unfold Func.isWrapper; rw [if_neg (of_decide_eq_false (by kernel_rfl))]; exact ⟨rfl, rfl⟩)
    (fun os started H enc _ => journalRoom_lifted os started H enc)
#print axioms journalRoom_holds
end Go.Proofs.Ytkbdbinafjmjkaa
