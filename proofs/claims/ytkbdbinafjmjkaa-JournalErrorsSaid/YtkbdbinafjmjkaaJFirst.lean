/-
  Contract: the first frame of some bytes.
-/
import Derived.Test.YtkbdbinafjmjkaaJBase
import Derived.Deep.RegionHeld3
namespace Go.Proofs.Ytkbdbinafjmjkaa
open Go.RowKit

theorem getF_four (b : List Int) (hb : Bytes b) (i : Nat) : 0 ≤ getF ((b.drop i).take 4) ∧ getF ((b.drop i).take 4) < 4294967296 := by
  have h := getF_bd ((b.drop i).take 4) (fun x hx => hb x (List.mem_of_mem_drop (List.mem_of_mem_take hx)))
  have hl : ((b.drop i).take 4).length ≤ 4 := by simp; omega
  have : (256 : Int) ^ ((b.drop i).take 4).length ≤ 4294967296 := by
    have h5 : ((b.drop i).take 4).length = 0 ∨ ((b.drop i).take 4).length = 1 ∨ ((b.drop i).take 4).length = 2 ∨ ((b.drop i).take 4).length = 3 ∨ ((b.drop i).take 4).length = 4 := by omega
    rcases h5 with h | h | h | h | h <;> rw [h] <;> decide
  omega

/-- What 'first' yields. -/
def FirstTo (w : World) (r : Option (List (List Int) × Nat)) (e : Ending) (w' : World) : Prop :=
  ∃ go gc, e = .returned (.tuple #[.slice go ((r.map fun x => x.1.length).getD 0) gc, .int .i64 (((r.map fun x => x.2).getD 0 : Nat) : Int), .bool r.isSome]) ∧
    RowN w' w.heap.size (fun k => w.heap.size ≤ k) (.slice go ((r.map fun x => x.1.length).getD 0) gc) ((r.map fun x => x.1).getD []) ∧ Below w.heap.size w w'
theorem first_none {w w' : World} (h : Below w.heap.size w w') : FirstTo w none (.returned (.tuple #[.slice none 0 0, .int .i64 0, .bool false])) w' :=
  ⟨none, 0, rfl, RowN.nil _ _ _, h⟩


theorem below_draws {B : Nat} {w w' : World} (h : Below B w w') (n : Nat) : Below B w (w'.drewN n) := ⟨h.os, h.tape, h.output, h.size, h.block⟩
/-- What the walk knows of the calls that it makes. -/
structure FirstIn (w : World) (blk off cap m : Nat) (bo : Option Addr) (bc : Nat) (L : List Int) (tot : Int) (wh ok : Bool) (x y : Int) : Prop where
  get0 : Calls Try.prog 48 #[.slice (some ⟨blk, off, none⟩) 4 cap] w fun e w' => e = .returned (.int .u32 (m : Int)) ∧ w = w'
  lens : Calls Try.prog 49 #[.slice bo m bc] w fun e w' => ∃ go gc, e = .returned (.tuple #[.slice go L.length gc, .int .i64 tot, .bool wh, .bool ok]) ∧ w'.ownsRow w.heap.size 3 1 (.slice go L.length gc) L.length (icells L) ∧ Below w.heap.size w w'
  sum : ∀ d, Below w.heap.size w d → Calls Try.prog 50 #[.slice (some ⟨blk, off, none⟩) 4 cap, .slice bo m bc] d fun e w' => e = .returned (.int .u32 x) ∧ Below d.heap.size d w'
  get4 : ∀ d, Below w.heap.size w d → Calls Try.prog 48 #[.slice (some ⟨blk, off + 4, none⟩) 4 (cap - 4)] d fun e w' => e = .returned (.int .u32 y) ∧ d = w'

set_option maxRecDepth 100000 in
set_option maxHeartbeats 4000000 in
theorem first_notok (w : World) (blk off cap n m : Nat) (L : List Int) (tot x y : Int) (wh : Bool) (hI : FirstIn w blk off cap m (some ⟨blk, off + 8, none⟩) (cap - 8) L tot wh false x y)
    (h8i : (8 : Int) ≤ (n : Int)) (hci : (n : Int) ≤ (cap : Int)) (hc9 : (8 : Int) < (cap : Int)) (hc1 : cap ≤ 9223372036854775807) (hbig2 : (m : Int) ≤ 65569) (hshi : 8 + (m : Int) ≤ (n : Int)) :
    Calls Try.prog 42 #[.slice (some ⟨blk, off, none⟩) n cap] w (FirstTo w none) := by
  have n0 : (0 : Int) ≤ (m : Int) := by omega
  have HI := Lib.hid hI
  clear hI
  go_enter Try.func42, Try.ntmps42
  go_wp2_with fail
  refine HI.out.get0.mono ?_
  rintro e w2 ⟨rfl, rfl⟩
  go_wp2_with fail
  refine HI.out.lens.mono ?_
  rintro e w3 ⟨lo, lc, rfl, hrow, hb3⟩
  have HB3 := Lib.hid hb3
  have HROW := Lib.hid hrow
  clear hb3 hrow
  go_wp2_with fail
  go_quiet (fail)
  go_wp2_with fail
  go_ret3
  exact first_none (below_draws HB3.out _)

set_option maxRecDepth 100000 in
set_option maxHeartbeats 4000000 in
theorem first_notwhole (w : World) (blk off cap n m : Nat) (L : List Int) (tot x y : Int) (hI : FirstIn w blk off cap m (some ⟨blk, off + 8, none⟩) (cap - 8) L tot false true x y)
    (h8i : (8 : Int) ≤ (n : Int)) (hci : (n : Int) ≤ (cap : Int)) (hc9 : (8 : Int) < (cap : Int)) (hc1 : cap ≤ 9223372036854775807) (hbig2 : (m : Int) ≤ 65569) (hshi : 8 + (m : Int) ≤ (n : Int)) :
    Calls Try.prog 42 #[.slice (some ⟨blk, off, none⟩) n cap] w (FirstTo w none) := by
  have n0 : (0 : Int) ≤ (m : Int) := by omega
  have HI := Lib.hid hI
  clear hI
  go_enter Try.func42, Try.ntmps42
  go_wp2_with fail
  refine HI.out.get0.mono ?_
  rintro e w2 ⟨rfl, rfl⟩
  go_wp2_with fail
  refine HI.out.lens.mono ?_
  rintro e w3 ⟨lo, lc, rfl, hrow, hb3⟩
  have HB3 := Lib.hid hb3
  have HROW := Lib.hid hrow
  clear hb3 hrow
  go_wp2_with fail
  go_quiet (fail)
  go_wp2_with fail
  go_ret3
  exact first_none (below_draws HB3.out _)

set_option maxRecDepth 100000 in
set_option maxHeartbeats 4000000 in
theorem first_nobody (w : World) (blk off cap n m : Nat) (L : List Int) (tot x y : Int) (hI : FirstIn w blk off cap m (some ⟨blk, off, none⟩) 0 L tot false true x y)
    (h8i : (8 : Int) ≤ (n : Int)) (hci : (n : Int) ≤ (cap : Int)) (hc9 : cap = 8) (hc1 : cap ≤ 9223372036854775807) (hbig2 : (m : Int) ≤ 65569) (hshi : 8 + (m : Int) ≤ (n : Int)) :
    Calls Try.prog 42 #[.slice (some ⟨blk, off, none⟩) n cap] w (FirstTo w none) := by
  have n0 : (0 : Int) ≤ (m : Int) := by omega
  have HI := Lib.hid hI
  clear hI
  subst hc9
  go_enter Try.func42, Try.ntmps42
  go_wp2_with fail
  refine HI.out.get0.mono ?_
  rintro e w2 ⟨rfl, rfl⟩
  go_wp2_with fail
  refine HI.out.lens.mono ?_
  rintro e w3 ⟨lo, lc, rfl, hrow, hb3⟩
  have HB3 := Lib.hid hb3
  have HROW := Lib.hid hrow
  clear hb3 hrow
  go_wp2_with fail
  go_quiet (fail)
  go_wp2_with fail
  go_ret3
  exact first_none (below_draws HB3.out _)

set_option maxRecDepth 100000 in
set_option maxHeartbeats 4000000 in
theorem first_nottot (w : World) (blk off cap n m : Nat) (L : List Int) (tot x y : Int) (hI : FirstIn w blk off cap m (some ⟨blk, off + 8, none⟩) (cap - 8) L tot true true x y)
    (h8i : (8 : Int) ≤ (n : Int)) (hci : (n : Int) ≤ (cap : Int)) (hc9 : (8 : Int) < (cap : Int)) (hc1 : cap ≤ 9223372036854775807) (hbig2 : (m : Int) ≤ 65569) (hshi : 8 + (m : Int) ≤ (n : Int)) (ht : (tot == (m : Int)) = false) :
    Calls Try.prog 42 #[.slice (some ⟨blk, off, none⟩) n cap] w (FirstTo w none) := by
  have n0 : (0 : Int) ≤ (m : Int) := by omega
  have HI := Lib.hid hI
  clear hI
  go_enter Try.func42, Try.ntmps42
  go_wp2_with fail
  refine HI.out.get0.mono ?_
  rintro e w2 ⟨rfl, rfl⟩
  go_wp2_with fail
  refine HI.out.lens.mono ?_
  rintro e w3 ⟨lo, lc, rfl, hrow, hb3⟩
  have HB3 := Lib.hid hb3
  have HROW := Lib.hid hrow
  clear hb3 hrow
  go_wp2_with fail
  have ht1 : (tot != (m : Int)) = true := by simpa using ht
  have ht2 : decide (tot = (m : Int)) = false := by simpa using ht
  have ht3 : ¬ tot = (m : Int) := by simpa using ht
  go_quiet (fail)
  go_wp2_with fail
  go_ret3
  exact first_none (below_draws HB3.out _)

set_option maxRecDepth 100000 in
set_option maxHeartbeats 4000000 in
theorem first_notsum (w : World) (blk off cap n m : Nat) (L : List Int) (tot x y : Int) (hI : FirstIn w blk off cap m (some ⟨blk, off + 8, none⟩) (cap - 8) L tot true true x y)
    (h8i : (8 : Int) ≤ (n : Int)) (hci : (n : Int) ≤ (cap : Int)) (hc9 : (8 : Int) < (cap : Int)) (hc1 : cap ≤ 9223372036854775807) (hbig2 : (m : Int) ≤ 65569) (hshi : 8 + (m : Int) ≤ (n : Int)) (ht : (m : Int) = tot) (hxy : (x == y) = false) :
    Calls Try.prog 42 #[.slice (some ⟨blk, off, none⟩) n cap] w (FirstTo w none) := by
  have hc4 : ¬ cap = 4 := by omega
  have hc4b : (cap == 4) = false := by simpa using hc4
  have h4c : (4 : Int) ≤ (cap : Int) := by omega
  have h8c : (8 : Int) ≤ (cap : Int) := by omega
  have n0 : (0 : Int) ≤ (m : Int) := by omega
  have HI := Lib.hid hI
  clear hI
  subst ht
  go_enter Try.func42, Try.ntmps42
  go_wp2_with fail
  refine HI.out.get0.mono ?_
  rintro e w2 ⟨rfl, rfl⟩
  go_wp2_with fail
  refine HI.out.lens.mono ?_
  rintro e w3 ⟨lo, lc, rfl, hrow, hb3⟩
  have HB3 := Lib.hid hb3
  have HROW := Lib.hid hrow
  clear hb3 hrow
  go_wp2_with fail
  go_region_held3 (fun w' => Below w.heap.size w w')
    (first | exact HB3.out.drew | exact hb4 | exact hb4.drew | go_keep)
    (first
      | (go_at_call 50
         refine (HI.out.sum _ ?_).mono ?_
         exact HB3.out.drew
         rintro e w4 ⟨rfl, hb4'⟩
         have hb4 : Below w.heap.size w w4 := (HB3.out.drew).trans (hb4'.mono HB3.out.size))
      | (go_at_call 48
         refine (HI.out.get4 _ ?_).mono ?_
         exact hb4
         rintro e w5 ⟨rfl, rfl⟩))
  go_wp2_with fail
  go_ret3
  exact first_none (HB3.out.drew.trans (hb4'.mono HB3.out.drew.size))

end Go.Proofs.Ytkbdbinafjmjkaa
