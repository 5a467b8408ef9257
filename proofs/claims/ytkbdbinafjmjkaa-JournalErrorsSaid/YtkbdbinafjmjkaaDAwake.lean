/-
  The sanity check of the disk's chapter: true in every world.
-/
import Derived.Test.YtkbdbinafjmjkaaDHold
import Derived.Lib.SlBytesConst
namespace Go.Proofs.Ytkbdbinafjmjkaa
open Go.RowKit

theorem byt_lit (w : World) (t : TypeId) (fr : Nat × Nat) (l : List Int) (cs : Array Value) (h : cs = (bcells l).toArray) : Byt (w.alloc (.cells cs t fr)) (some ⟨w.heap.size, 0, none⟩) l := by
  subst h
  refine .inr ⟨_, 0, rfl, by simp, fun i hi => ?_⟩
  rw [Nat.zero_add, cell_of_row _ _ _ (bcells l).toArray t fr (heap_alloc_new w _)]
  simpa using bcells_get l i hi

def aw0 : DS := newD 10
def aw1 : DS := (appendF aw0 [97, 98, 99]).2
def aw2 : DS := (syncF aw1).2
def aw3 : DS := (appendF aw2 [100, 101]).2
def aw4 : DS := crashF aw3 1 0
theorem aw_a : (appendF aw0 [97, 98, 99]).1 = 0 := by decide +kernel
theorem aw_b : (syncF aw1).1 = 0 := by decide +kernel
theorem aw_c : (appendF aw2 [100, 101]).1 = 0 := by decide +kernel
theorem aw_d : aw4.bs = [97, 98, 99, 100] := by decide +kernel

set_option maxRecDepth 100000 in
set_option maxHeartbeats 1000000 in
theorem awake_any (w : World) : Calls Try.prog 19 #[] w fun e w' => e = .returned (.bool true) ∧ Below w.heap.size w w' := by
  have kc := fun (w : World) (C : Array Value) (n c : Nat) => Lib.run_convert_bytes_const (P := Try.prog) w 30 5 C n c Try.underlying30 Try.underlying5
  go_enter Try.func19, Try.ntmps19
  go_wp2_with fail
  refine (new_h 10 w (by omega) (by omega)).mono ?_
  rintro e w1 ⟨rfl, hd1⟩
  have HD1 : Hid (DHold w w1 w.heap.size aw0) := hd1
  have hl1 := hd1.lt.2
  clear hd1
  go_wp2_with fail
  have ha := append_h (HD1.out.next ((Below.refl _ _).alloc (Nat.le_refl _) (.cells #[.int .u8 97, .int .u8 98, .int .u8 99] 5 (3, 4)))) (some ⟨w1.heap.size, 0, none⟩) 3 3 [97, 98, 99] rfl (byt_lit w1 5 (3, 4) [97, 98, 99] _ rfl) (by intro x hx; simp at hx; omega) (fun k o h => by cases h; omega) (by omega)
  rw [aw_a] at ha
  refine ha.mono ?_
  rintro e w2 ⟨rfl, hd2⟩
  have HD2 : Hid (DHold w w2 w.heap.size aw1) := hd2
  clear hd2 ha HD1 hl1
  go_wp2_with fail
  have hs := sync_h HD2.out
  rw [aw_b] at hs
  refine hs.mono ?_
  rintro e w3 ⟨rfl, hd3⟩
  have HD3 : Hid (DHold w w3 w.heap.size aw2) := hd3
  have hl3 := hd3.lt.2
  clear hd3 hs HD2
  go_wp2_with fail
  have ha := append_h (HD3.out.next ((Below.refl _ _).alloc (Nat.le_refl _) (.cells #[.int .u8 100, .int .u8 101] 5 (2, 3)))) (some ⟨w3.heap.size, 0, none⟩) 2 2 [100, 101] rfl (byt_lit w3 5 (2, 3) [100, 101] _ rfl) (by intro x hx; simp at hx; omega) (fun k o h => by cases h; omega) (by omega)
  rw [aw_c] at ha
  refine ha.mono ?_
  rintro e w4 ⟨rfl, hd4⟩
  have HD4 : Hid (DHold w w4 w.heap.size aw3) := hd4
  clear hd4 ha HD3 hl3
  go_wp2_with fail
  refine (crash_h HD4.out 1 0).mono ?_
  rintro e w5 ⟨q, rfl, hd5⟩
  have HD5 : Hid (DHold w4 w5 q aw4) := hd5
  clear hd5
  go_wp2_with fail
  have hr := read_h HD5.out
  rw [aw_d] at hr
  refine hr.mono ?_
  rintro e w6 ⟨g, cap, rfl, hy, _, hb6⟩
  have hcv : (convert 30 9 (.slice (gad g) 4 cap)).run Try.prog w6 = .ok (.string ⟨#[97, 98, 99, 100]⟩) w6 := byt_string (P := Try.prog) hy 30 5 9 Try.underlying30 Try.underlying5 Try.underlying9 cap
  have HD6 := Lib.hid (HD5.out.next hb6)
  have HB6 : Hid (Below w.heap.size w w6) := HD4.out.2.trans (HD6.out.2.mono HD4.out.2.size)
  clear hy hb6 hr HD5 HD4
  go_wp2_with fail
  have hz := size_h HD6.out
  rw [aw_d] at hz
  refine hz.mono ?_
  rintro e w7 ⟨rfl, rfl⟩
  clear hz
  go_wp2_with fail
  go_ret
  exact ⟨rfl, HB6.out⟩
end Go.Proofs.Ytkbdbinafjmjkaa
