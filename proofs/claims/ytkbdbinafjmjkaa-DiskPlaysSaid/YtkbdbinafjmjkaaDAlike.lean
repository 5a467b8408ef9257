/-
  alike says true of a disk and its model in one state.
-/
import Derived.Test.YtkbdbinafjmjkaaDPlays0
import Derived.Deep.RegionWith
import Derived.Deep.DrawnRows
namespace Go.Proofs.Ytkbdbinafjmjkaa
open Go.RowKit

attribute [local go_sem ↓] Go.wp_at_zero Go.wp_at_succ
set_option maxHeartbeats 8000000 in
theorem alike_any (w0 w : World) (p q : Nat) (s : DS) (h : Pair w0 w p q s) :
    Calls Try.prog 23 #[.pointer (some ⟨p, 0, none⟩), .pointer (some ⟨q, 0, none⟩)] w fun e w' => e = .returned (.bool true) ∧ Below w.heap.size w w' := by
  have hd := h.hold
  obtain ⟨⟨g, i, -, hr, -⟩, -⟩ := h
  obtain ⟨cap, left, h1, h2, h3, h4, h5⟩ := hr
  have hq := h2.lt
  obtain ⟨⟨-, -, c2, c3, -⟩, -⟩ := ref_cells h2
  obtain ⟨-, -, hy⟩ := ref_cap rfl h3
  have HCV : Hid (∀ W, Below w.heap.size w W → (convert 30 9 (.slice (gad i) s.bs.length cap)).run Try.prog W = .ok (.string (strOfNums s.bs)) W) := fun W hW => bytes_string cap rfl (hy.next hW)
  have HS : Hid (∀ W, Below w.heap.size w W → Calls Try.prog 20 #[.pointer (some ⟨p, 0, none⟩)] W fun e w' => e = .returned (.int .i64 s.bs.length) ∧ W = w') := fun W hW => size_h (hd.next hW)
  have HO : Hid (∀ W, Below w.heap.size w W → Calls Try.prog 27 #[.pointer (some ⟨p, 0, none⟩)] W fun e w' => e = .returned (.int .i64 s.ops) ∧ W = w') := fun W hW => opsD_h (hd.next hW)
  have HR : Hid (∀ W, Below w.heap.size w W → Calls Try.prog 17 #[.pointer (some ⟨p, 0, none⟩)] W fun e w' => ∃ g cap', e = .returned (.slice (gad g) s.bs.length cap') ∧
      Below w.heap.size w w' ∧ (convert 30 9 (.slice (gad g) s.bs.length cap')).run Try.prog w' = .ok (.string (strOfNums s.bs)) w' ∧ (convert 30 9 (.slice (gad i) s.bs.length cap)).run Try.prog w' = .ok (.string (strOfNums s.bs)) w') :=
    fun W hW => (read_h (hd.next hW)).mono fun e w' ⟨g', c', he, hy', _, hb⟩ => by
      have hb2 := hW.trans (hb.mono hW.size)
      exact ⟨g', c', he, hb2, bytes_string c' rfl hy', bytes_string cap rfl (hy.next hb2)⟩
  clear h2 h3 h4 h5 hy hd
  go_enter Try.func23, Try.ntmps23
  go_wp2_with fail
  have hcv1 : (convert 30 9 (.slice (gad i) s.bs.length cap)).run Try.prog w.drew = .ok (.string (strOfNums s.bs)) w.drew := HCV.out w.drew ⟨rfl, rfl, rfl, Nat.le_refl _, fun _ _ => rfl⟩
  go_region_with (first
      | (go_at_call 20
         refine (HS.out _ ?_).mono ?_
         exact ⟨rfl, rfl, rfl, Nat.le_refl _, fun _ _ => rfl⟩
         rintro e w3 ⟨rfl, rfl⟩)
      | (go_at_call 17
         refine (HR.out _ ?_).mono ?_
         exact ⟨rfl, rfl, rfl, Nat.le_refl _, fun _ _ => rfl⟩
         rintro e w4 ⟨g4, c4, rfl, hb4, hv4, hv5⟩
         have d3 := (hb4.cell (p := ⟨q, 3, none⟩) hq).trans c3
         have d2 := (hb4.cell (p := ⟨q, 2, none⟩) hq).trans c2)
      | (go_at_call 27
         refine (HO.out _ ?_).mono ?_
         first | exact hb4 | exact ⟨rfl, rfl, rfl, Nat.le_refl _, fun _ _ => rfl⟩
         rintro e w5 ⟨rfl, rfl⟩))
  all_goals
    go_wp2_with fail
    go_ret
    exact ⟨rfl, hb4⟩
end Go.Proofs.Ytkbdbinafjmjkaa
