/-
  Contracts: the checksum of a frame; the frame of records.
-/
import Derived.Test.YtkbdbinafjmjkaaJConcat2
namespace Go.Proofs.Ytkbdbinafjmjkaa
open Go.RowKit

/-- The body of a frame: the number of records, their lengths, the records. -/
def bodyF (rs : List (List Int)) : List Int := ((rs.length : Int) % 256) :: (rs.flatMap fun r => putF (r.length : Int) 2) ++ rs.flatten
/-- A frame. -/
def frameF (rs : List (List Int)) : List Int :=
  putF ((bodyF rs).length : Int) 4 ++ (putF (sumF (putF ((bodyF rs).length : Int) 4 ++ bodyF rs)) 4 ++ bodyF rs)

theorem recs_two (w : World) (t : TypeId) (so bo : Option Addr) (sc bc : Nat) (s b : List Int) (hs : Byt w so s) (hb : Byt w bo b) : Recs (w.alloc (.cells #[.slice so s.length sc, .slice bo b.length bc] t)) (some ⟨w.heap.size, 0, none⟩) [s, b] := by
  have hn : Below w.heap.size w (w.alloc (.cells #[.slice so s.length sc, .slice bo b.length bc] t)) := (Below.refl _ _).alloc (Nat.le_refl _) _
  refine .inr ⟨w.heap.size, 0, rfl, by simp, fun i hi => ?_⟩
  match i, hi with
  | 0, _ => exact ⟨so, sc, by rw [cell_of_row _ _ _ _ _ _ (heap_alloc_new w _)]; rfl, hs.next hn⟩
  | 1, _ => exact ⟨bo, bc, by rw [cell_of_row _ _ _ _ _ _ (heap_alloc_new w _)]; rfl, hb.next hn⟩
theorem recs_three (w : World) (t : TypeId) (so bo po : Option Addr) (sc bc pc : Nat) (s b p : List Int) (hs : Byt w so s) (hb : Byt w bo b) (hp : Byt w po p) : Recs (w.alloc (.cells #[.slice so s.length sc, .slice bo b.length bc, .slice po p.length pc] t)) (some ⟨w.heap.size, 0, none⟩) [s, b, p] := by
  have hn : Below w.heap.size w (w.alloc (.cells #[.slice so s.length sc, .slice bo b.length bc, .slice po p.length pc] t)) := (Below.refl _ _).alloc (Nat.le_refl _) _
  refine .inr ⟨w.heap.size, 0, rfl, by simp, fun i hi => ?_⟩
  match i, hi with
  | 0, _ => exact ⟨so, sc, by rw [cell_of_row _ _ _ _ _ _ (heap_alloc_new w _)]; rfl, hs.next hn⟩
  | 1, _ => exact ⟨bo, bc, by rw [cell_of_row _ _ _ _ _ _ (heap_alloc_new w _)]; rfl, hb.next hn⟩
  | 2, _ => exact ⟨po, pc, by rw [cell_of_row _ _ _ _ _ _ (heap_alloc_new w _)]; rfl, hp.next hn⟩

theorem bytes_append {a b : List Int} (ha : Bytes a) (hb : Bytes b) : Bytes (a ++ b) := fun x hx => by
  rcases List.mem_append.1 hx with h | h
  · exact ha x h
  · exact hb x h

set_option maxHeartbeats 1000000 in
theorem jsum_any (so bo : Option Addr) (sc bc n m : Nat) (s b : List Int) (w : World) (hn : s.length = n) (hm : b.length = m) (hs : Byt w so s) (hb : Byt w bo b) (hsb : Bytes s) (hbb : Bytes b) (hl : n + m ≤ 1000000) :
    Calls Try.prog 50 #[.slice so n sc, .slice bo m bc] w fun e w' => e = .returned (.int .u32 (sumF (s ++ b))) ∧ Below w.heap.size w w' := by
  subst hn hm
  have hfl : [s, b].flatten = s ++ b := by simp
  have hal : Below w.heap.size w (w.alloc (.cells #[.slice so s.length sc, .slice bo b.length bc] 30)) := (Below.refl _ _).alloc (Nat.le_refl _) _
  have hC := concat_any (some ⟨w.heap.size, 0, none⟩) 2 2 [s, b] _ rfl (recs_two w 30 so bo sc bc s b hs hb) (by rw [hfl, List.length_append]; exact hl) (by omega)
  rw [hfl] at hC
  have HC := Lib.hid hC
  have HB := Lib.hid (bytes_append hsb hbb)
  have hlen : (s ++ b).length = s.length + b.length := List.length_append
  generalize s ++ b = F at HC HB hlen ⊢
  clear hC hs hb hsb hbb hfl
  go_enter Try.func50, Try.ntmps50
  go_wp2_with fail
  refine HC.out.mono ?_
  rintro e w2 ⟨go, gc, rfl, hy, -, hb2⟩
  have hb22 := hal.trans (hb2.mono hal.size)
  have HS := Lib.hid (sum_any go gc F.length F w2 rfl hy HB.out (by omega))
  have HB2 := Lib.hid hb22
  clear hy hb2 hb22 hlen HC
  go_wp2_with fail
  refine HS.out.mono ?_
  rintro e w3 ⟨rfl, rfl⟩
  go_wp2_with fail
  go_ret
  exact ⟨rfl, HB2.out⟩
end Go.Proofs.Ytkbdbinafjmjkaa
