/-
  Contracts: Deadlines, the document's answer, and the comparison of lists of days.
-/
import Derived.Test.YtpddpdkdlodniaaNKAddR
import Derived.Deep.RegionHeld3
namespace Go.Proofs.Ytpddpdkdlodniaa
open Go.RowKit

/-- The days of services that lie in memory: cell 0 of each element of four. -/
def DaysAt (w : World) (ao : Option Addr) (ds : List Int) : Prop := ds = [] ∨ ∃ b off, ao = some ⟨b, off, none⟩ ∧ b < w.heap.size ∧ ∀ i, i < ds.length → ∃ (x y : Int) (z : Bool), w.cell? ⟨b, off + i * 4, none⟩ = some (.int .i64 (ds.getD i 0)) ∧ w.cell? ⟨b, off + i * 4 + 1, none⟩ = some (.int .i64 x) ∧ w.cell? ⟨b, off + i * 4 + 2, none⟩ = some (.int .i64 y) ∧ w.cell? ⟨b, off + i * 4 + 3, none⟩ = some (.bool z)
theorem DaysAt.next {w w' : World} {ao : Option Addr} {ds : List Int} (h : DaysAt w ao ds) (hb : Below w.heap.size w w') : DaysAt w' ao ds := by
  rcases h with h | ⟨b, off, rfl, hlt, hc⟩
  · exact .inl h
  · refine .inr ⟨b, off, rfl, Nat.lt_of_lt_of_le hlt hb.size, fun i hi => ?_⟩
    obtain ⟨x, y, z, h0, h1, h2, h3⟩ := hc i hi
    exact ⟨x, y, z, (hb.cell (p := ⟨b, off + i * 4, none⟩) hlt).trans h0, (hb.cell (p := ⟨b, off + i * 4 + 1, none⟩) hlt).trans h1, (hb.cell (p := ⟨b, off + i * 4 + 2, none⟩) hlt).trans h2, (hb.cell (p := ⟨b, off + i * 4 + 3, none⟩) hlt).trans h3⟩

/-- What Deadlines answers: the days that Add gives, up to the first error. -/
def DeadIs (H : List Int) (n : Int) (ds out : List Int) (e : Int) : Prop :=
  (∀ i, i < ds.length → AddIs H (ds.getD i 0) n (out.getD i 0) 0) ∧ out.length = ds.length ∧ e = 0 ∨
  (∃ k d, k < ds.length ∧ (∀ i, i < k → ∃ x, AddIs H (ds.getD i 0) n x 0) ∧ AddIs H (ds.getD k 0) n d e ∧ e ≠ 0 ∧ out = [])
theorem dead_unique {H : List Int} {n : Int} {ds out out' : List Int} {e e' : Int} (h : DeadIs H n ds out e) (h' : DeadIs H n ds out' e') : out = out' ∧ e = e' := by
  rcases h with ⟨h1, h2, rfl⟩ | ⟨k, d, hk, h1, h2, h3, rfl⟩ <;> rcases h' with ⟨k1, k2, rfl⟩ | ⟨j, d', hj, k1, k2, k3, rfl⟩
  · refine ⟨?_, rfl⟩
    apply List.ext_getElem (by omega)
    intro i hi hi'
    have a := (add_unique (h1 i (by omega)) (k1 i (by omega))).1
    simpa [List.getD, hi, hi'] using a
  · exact absurd (add_unique (h1 j hj) k2).2.symm k3
  · exact absurd (add_unique (k1 k hk) h2).2.symm h3
  · refine ⟨rfl, ?_⟩
    rcases Nat.lt_trichotomy k j with h | h | h
    · obtain ⟨x, hx⟩ := k1 k h
      exact absurd (add_unique hx h2).2.symm h3
    · subst h
      exact (add_unique h2 k2).2
    · obtain ⟨x, hx⟩ := h1 j h
      exact absurd (add_unique hx k2).2.symm k3

set_option maxHeartbeats 1000000 in
theorem sameInts_any (ao bo : Option Addr) (ac bc : Nat) (l : List Int) (w : World) (hA : Ints w ao l) (hB : Ints w bo l) (hl : l.length ≤ 1000000) :
    Calls Try.prog 33 #[.slice ao l.length ac, .slice bo l.length bc] w fun e w' => e = .returned (.bool true) ∧ Below w.heap.size w w' := by
  have HA := Lib.hid hA
  have HB := Lib.hid hB
  clear hA hB
  go_enter Try.func33, Try.ntmps33
  go_wp2_with fail
  go_loopw [5] (fun i wr => ∃ k : Nat, k ≤ l.length ∧ i = .int .i64 k ∧ Below w.heap.size w wr) (fun i _ => l.length - (intOf i).toNat)
  case atStart => exact ⟨0, Nat.zero_le _, rfl, Below.refl _ _⟩
  case round =>
    obtain ⟨k, hk, rfl, hb⟩ := hrel
    by_cases hlt : k < l.length
    · obtain ⟨b, off, rfl, hbw, hc0⟩ := HA.out.cells (by omega)
      obtain ⟨b2, off2, rfl, hbw2, hc2⟩ := HB.out.cells (by omega)
      have c1 : wr.cell? ⟨b, off + k, none⟩ = some (.int .i64 (l.getD k 0)) := (hb.cell (p := ⟨b, off + k, none⟩) hbw).trans (hc0 k hlt)
      have c2 : wr.cell? ⟨b2, off2 + k, none⟩ = some (.int .i64 (l.getD k 0)) := (hb.cell (p := ⟨b2, off2 + k, none⟩) hbw2).trans (hc2 k hlt)
      generalize l.getD k 0 = z at c1 c2
      have hk0 : (0 : Int) ≤ (k : Int) := Int.natCast_nonneg _
      have hk1 : (k : Int) < (l.length : Int) := by omega
      have HBl := Lib.hid hb
      clear hc0 hc2 hb
      go_wp2_with fail
      go_region_held3 (fun w' => w'.cell? ⟨b, off + k, none⟩ = some (.int .i64 z) ∧ w'.cell? ⟨b2, off2 + k, none⟩ = some (.int .i64 z)) (go_keep) (fail)
      go_wp2_with fail
      go_roundw
      case rel => exact ⟨k + 1, hlt, by go_num, HBl.out.drew⟩
      case measure => simp [intOf]; omega
    · go_wp2_with fail
      go_ret
      exact ⟨rfl, hb⟩
end Go.Proofs.Ytpddpdkdlodniaa
