/-
  Contracts: the least last day, in the program's and in the document's words; where a matter stands, in the document's words.
-/
import Derived.Test.YtpddpdkdlodniaaOFind
namespace Go.Proofs.Ytpddpdkdlodniaa
open Go.RowKit

theorem due_take (l : List Mt) (k : Nat) (h : k < l.length) : dueF (l.take (k + 1)) = dueStep (dueF (l.take k)) (l.getD k default) := by
  rw [take_snoc' h]
  simp [dueF, List.foldl_append]
theorem running_at {m : Mt} {b : Bool} (h : runsF m = b) (w : World) : Calls Try.prog 42 #[.agg #[.int .i64 m.id, .int .i64 m.st, .int .i64 m.due, .int .i64 m.opt, .bool m.df]] w fun e w' => e = .returned (.bool b) ∧ w' = w.alloc (mtBox m) := by
  have := running_any m w
  rwa [h] at this
theorem runs_at {m : Mt} {b : Bool} (h : runsF m = b) (w : World) : Calls Try.prog 43 #[.agg #[.int .i64 m.id, .int .i64 m.st, .int .i64 m.due, .int .i64 m.opt, .bool m.df]] w fun e w' => e = .returned (.bool b) ∧ w' = w.alloc (mtBox m) := by
  have := runs_any m w
  rwa [h] at this
theorem below_box {w w' : World} {o : Obj} (h : Below (w.heap.size + 1) (w.alloc o) w') : Below w.heap.size w w' :=
  ((Below.refl w.heap.size w).alloc (Nat.le_refl _) o).trans (h.mono (Nat.le_succ _))
/-- The five cells of a boxed docket, in every world in which nothing below has turned. -/
theorem box5 {w w' : World} {a b c d x : Value} {T : TypeId} (h : Below (w.heap.size + 1) (w.alloc (.cells #[a, b, c, d, x] T)) w') :
    w'.cell? ⟨w.heap.size, 0, none⟩ = some a ∧ w'.cell? ⟨w.heap.size, 1, none⟩ = some b ∧ w'.cell? ⟨w.heap.size, 2, none⟩ = some c ∧ w'.cell? ⟨w.heap.size, 3, none⟩ = some d ∧ w'.cell? ⟨w.heap.size, 4, none⟩ = some x ∧ w.heap.size + 1 ≤ w'.heap.size := by
  have hs := h.size
  simp only [World.size_alloc] at hs
  refine ⟨?_, ?_, ?_, ?_, ?_, hs⟩ <;> rw [h.cell (by simp), World.cell?_alloc_at _ _ _ _ rfl] <;> rfl

set_option maxRecDepth 100000 in
set_option maxHeartbeats 4000000 in
theorem due_any (day ans app : Int) (ho mo : Option Addr) (hn hc mc : Nat) (l : List Mt) (w : World) (hM : Mts w mo l) (hl : l.length ≤ 1000) :
    Calls Try.prog 25 #[.agg #[.int .i64 day, .int .i64 ans, .int .i64 app, .slice ho hn hc, .slice mo l.length mc]] w fun e w' => e = .returned (.tuple #[.int .i64 (dueF l).1, .bool (dueF l).2]) ∧ Below w.heap.size w w' := by
  have HM := Lib.hid hM
  clear hM
  go_enter Try.func25, Try.ntmps25
  go_wp2_with fail
  go_loopw [4, 5, 11] (fun out ok i wr => ∃ (k : Nat) (o : Int) (b : Bool), k ≤ l.length ∧ i = .int .i64 k ∧ out = .int .i64 o ∧ ok = .bool b ∧ Hid (dueF (l.take k) = (o, b)) ∧ Below (w.heap.size + 1) (w.alloc (.cells #[.int .i64 day, .int .i64 ans, .int .i64 app, .slice ho hn hc, .slice mo l.length mc] 30)) wr) (fun _ _ i _ => l.length - (intOf i).toNat)
  case atStart => exact ⟨0, 0, false, Nat.zero_le _, rfl, rfl, rfl, Lib.hid rfl, Below.refl _ _⟩
  case round =>
    obtain ⟨k, o, b, hk, rfl, rfl, rfl, hd, hb⟩ := hrel
    obtain ⟨x0, x1, x2, x3, x4, hsr⟩ := box5 hb
    by_cases hlt : k < l.length
    · obtain ⟨bm, off, rfl, hbw, hc0⟩ := (HM.out.next (below_box hb)).cells (by omega)
      obtain ⟨m0, m1, m2, m3, m4⟩ := hc0 k hlt
      have hds := due_take l k hlt
      obtain ⟨m, hm⟩ : ∃ m, l.getD k default = m := ⟨_, rfl⟩
      rw [hm] at m0 m1 m2 m3 m4 hds
      rw [hd.out] at hds
      have HDS := Lib.hid hds
      have HB := Lib.hid hb
      have hk0 : (0 : Int) ≤ (k : Int) := Int.natCast_nonneg _
      have hk1 : (k : Int) < (l.length : Int) := by omega
      clear hc0 hm hds hb
      cases hr : runsF m
      · have HR := Lib.hid (running_at hr)
        have HE : Hid (dueStep (o, b) m = (o, b)) := Lib.hid (by unfold dueStep; rw [if_neg (by simp [hr])])
        clear hr
        go_wp2_with (go_at_call 42
                     go_must (refine (HR.out _).mono ?_)
                     rintro e w3 ⟨rfl, rfl⟩)
        go_roundw
        case rel => exact ⟨k + 1, o, b, hlt, by go_num, rfl, rfl, Lib.hid (HDS.out.trans HE.out), by go_grown; exact HB.out⟩
        case measure => simp [intOf]; omega
      · have HR := Lib.hid (running_at hr)
        by_cases hc : b = false ∨ m.due < o
        · have HE : Hid (dueStep (o, b) m = (m.due, true)) := Lib.hid (by unfold dueStep; rw [if_pos ⟨hr, hc⟩])
          clear hr
          have hcc : b = false ∨ (b = true ∧ m.due < o) := by cases b <;> simp_all
          clear hc
          rcases hcc with rfl | ⟨rfl, hc⟩
          all_goals
            go_wp2_with (go_at_call 42
                         go_must (refine (HR.out _).mono ?_)
                         rintro e w3 ⟨rfl, rfl⟩)
            go_roundw
            case rel => exact ⟨k + 1, m.due, true, hlt, by go_num, rfl, rfl, Lib.hid (HDS.out.trans HE.out), by go_grown; exact HB.out⟩
            case measure => simp [intOf]; omega
        · have HE : Hid (dueStep (o, b) m = (o, b)) := Lib.hid (by unfold dueStep; rw [if_neg (fun h => hc h.2)])
          clear hr
          have hcc : b = true ∧ ¬ m.due < o := by cases b <;> simp_all
          clear hc
          obtain ⟨rfl, hc⟩ := hcc
          have hc2 : decide (m.due < o) = false := decide_eq_false hc
          go_wp2_with (go_at_call 42
                       go_must (refine (HR.out _).mono ?_)
                       rintro e w3 ⟨rfl, rfl⟩)
          go_roundw
          case rel => exact ⟨k + 1, o, true, hlt, by go_num, rfl, rfl, Lib.hid (HDS.out.trans HE.out), by go_grown; exact HB.out⟩
          case measure => simp [intOf]; omega
    · obtain rfl : k = l.length := by omega
      rw [List.take_length] at hd
      go_wp2_with fail
      go_ret2
      exact ⟨by rw [hd.out]; rfl, below_box hb⟩

set_option maxRecDepth 100000 in
set_option maxHeartbeats 4000000 in
theorem dueR_any (day ans app : Int) (ho mo : Option Addr) (hn hc mc : Nat) (l : List Mt) (w : World) (hM : Mts w mo l) (hl : l.length ≤ 1000) :
    Calls Try.prog 26 #[.agg #[.int .i64 day, .int .i64 ans, .int .i64 app, .slice ho hn hc, .slice mo l.length mc]] w fun e w' => e = .returned (.tuple #[.int .i64 (dueF l).1, .bool (dueF l).2]) ∧ Below w.heap.size w w' := by
  have HM := Lib.hid hM
  clear hM
  go_enter Try.func26, Try.ntmps26
  go_wp2_with fail
  go_loopw [4, 5, 6] (fun out ok i wr => ∃ (k : Nat) (o : Int) (b : Bool), k ≤ l.length ∧ i = .int .i64 k ∧ out = .int .i64 o ∧ ok = .bool b ∧ Hid (dueF (l.take k) = (o, b)) ∧ Below (w.heap.size + 1) (w.alloc (.cells #[.int .i64 day, .int .i64 ans, .int .i64 app, .slice ho hn hc, .slice mo l.length mc] 30)) wr) (fun _ _ i _ => l.length - (intOf i).toNat)
  case atStart => exact ⟨0, 0, false, Nat.zero_le _, rfl, rfl, rfl, Lib.hid rfl, Below.refl _ _⟩
  case round =>
    obtain ⟨k, o, b, hk, rfl, rfl, rfl, hd, hb⟩ := hrel
    obtain ⟨x0, x1, x2, x3, x4, hsr⟩ := box5 hb
    by_cases hlt : k < l.length
    · obtain ⟨bm, off, rfl, hbw, hc0⟩ := (HM.out.next (below_box hb)).cells (by omega)
      obtain ⟨m0, m1, m2, m3, m4⟩ := hc0 k hlt
      have hds := due_take l k hlt
      obtain ⟨m, hm⟩ : ∃ m, l.getD k default = m := ⟨_, rfl⟩
      rw [hm] at m0 m1 m2 m3 m4 hds
      rw [hd.out] at hds
      have HDS := Lib.hid hds
      have HB := Lib.hid hb
      have hk0 : (0 : Int) ≤ (k : Int) := Int.natCast_nonneg _
      have hk1 : (k : Int) < (l.length : Int) := by omega
      clear hc0 hm hds hb
      cases hr : runsF m
      · have HR := Lib.hid (runs_at hr)
        have HE : Hid (dueStep (o, b) m = (o, b)) := Lib.hid (by unfold dueStep; rw [if_neg (by simp [hr])])
        clear hr
        go_wp2_with (go_at_call 43
                     go_must (refine (HR.out _).mono ?_)
                     rintro e w3 ⟨rfl, rfl⟩)
        go_roundw
        case rel => exact ⟨k + 1, o, b, hlt, by go_num, rfl, rfl, Lib.hid (HDS.out.trans HE.out), by go_grown; exact HB.out⟩
        case measure => simp [intOf]; omega
      · have HR := Lib.hid (runs_at hr)
        by_cases hc : b = false ∨ m.due < o
        · have HE : Hid (dueStep (o, b) m = (m.due, true)) := Lib.hid (by unfold dueStep; rw [if_pos ⟨hr, hc⟩])
          clear hr
          have hcc : b = false ∨ (b = true ∧ m.due < o) := by cases b <;> simp_all
          clear hc
          rcases hcc with rfl | ⟨rfl, hc⟩
          all_goals
            go_wp2_with (go_at_call 43
                         go_must (refine (HR.out _).mono ?_)
                         rintro e w3 ⟨rfl, rfl⟩)
            go_roundw
            case rel => exact ⟨k + 1, m.due, true, hlt, by go_num, rfl, rfl, Lib.hid (HDS.out.trans HE.out), by go_grown; exact HB.out⟩
            case measure => simp [intOf]; omega
        · have HE : Hid (dueStep (o, b) m = (o, b)) := Lib.hid (by unfold dueStep; rw [if_neg (fun h => hc h.2)])
          clear hr
          have hcc : b = true ∧ ¬ m.due < o := by cases b <;> simp_all
          clear hc
          obtain ⟨rfl, hc⟩ := hcc
          have hc2 : decide (m.due < o) = false := decide_eq_false hc
          go_wp2_with (go_at_call 43
                       go_must (refine (HR.out _).mono ?_)
                       rintro e w3 ⟨rfl, rfl⟩)
          go_roundw
          case rel => exact ⟨k + 1, o, true, hlt, by go_num, rfl, rfl, Lib.hid (HDS.out.trans HE.out), by go_grown; exact HB.out⟩
          case measure => simp [intOf]; omega
    · obtain rfl : k = l.length := by omega
      rw [List.take_length] at hd
      go_wp2_with fail
      go_ret2
      exact ⟨by rw [hd.out]; rfl, below_box hb⟩
end Go.Proofs.Ytpddpdkdlodniaa
