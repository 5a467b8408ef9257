/-
  Contract: whether a journal contains exactly some records.
-/
import Derived.Test.YtkbdbinafjmjkaaJOwn
import Derived.BigQuiet
namespace Go.Proofs.Ytkbdbinafjmjkaa
open Go.RowKit

/-- What the laws read of a journal. -/
structure JRead (w : World) (q : Nat) (rs : List (List Int)) : Prop where
  ex : ∃ a dead ro rc, Box w q 64 #[a, .slice ro rs.length rc, dead] ∧ Recs w ro rs
theorem JRead.next {w w' : World} {q : Nat} {rs : List (List Int)} (h : JRead w q rs) (hb : Below w.heap.size w w') : JRead w' q rs := by
  obtain ⟨a, dead, ro, rc, h1, h2⟩ := h.ex
  exact ⟨a, dead, ro, rc, h1.next hb, h2.next hb⟩
theorem JIs.read {w : World} {base q p : Nat} {X : Nat → Prop} {g : Option Nat} {s : DS} {v : Value} {rs : List (List Int)} {dead : Bool} (h : JIs w base X q p g s v rs dead) : JRead w q rs := by
  obtain ⟨ro, rc, rv, hrr⟩ := h.row.recs
  exact ⟨_, _, ro, rc, rv ▸ h.box, hrr⟩
theorem JRead.len {w : World} {q : Nat} {rs : List (List Int)} (h : JRead w q rs) : Calls Try.prog 34 #[.pointer (some ⟨q, 0, none⟩)] w fun e w' => e = .returned (.int .i64 (rs.length : Nat)) ∧ w = w' := by
  obtain ⟨a, dead, ro, rc, h1, h2⟩ := h.ex
  exact len_box q a ro _ rc dead w h1
theorem JRead.record {w : World} {q k : Nat} {rs : List (List Int)} (h : JRead w q rs) (hk : k < rs.length) (hl : (rs.getD k []).length ≤ 1000000) :
    Calls Try.prog 35 #[.pointer (some ⟨q, 0, none⟩), .int .i64 k] w fun e w' => ∃ g cap, e = .returned (.tuple #[.slice (gad g) (rs.getD k []).length cap, .int .i64 0]) ∧ w'.ownsRow w.heap.size 5 1 (.slice (gad g) (rs.getD k []).length cap) (rs.getD k []).length (bcells (rs.getD k [])) ∧ Below w.heap.size w w' := by
  obtain ⟨a, dead, ro, rc, h1, h2⟩ := h.ex
  exact record_some q k _ rc a dead ro rs w h1 rfl h2 hk hl
theorem JRead.none {w : World} {q : Nat} {k : Int} {rs : List (List Int)} (h : JRead w q rs) (hk : k < 0 ∨ (rs.length : Int) ≤ k) :
    Calls Try.prog 35 #[.pointer (some ⟨q, 0, none⟩), .int .i64 k] w fun e w' => e = .returned (.tuple #[.slice none 0 0, .int .i64 45]) ∧ w = w' :=
  record_none _ k _ w hk (Lib.hid h.len)

set_option maxHeartbeats 1000000 in
theorem holds_no (ao : Option Addr) (q n cap : Nat) (rs : List (List Int)) (w : World) (hJ : JRead w q rs) (hn : rs.length ≠ n) :
    Calls Try.prog 31 #[.pointer (some ⟨q, 0, none⟩), .slice ao n cap] w fun e w' => e = .returned (.bool false) ∧ Below w.heap.size w w' := by
  have HL := Lib.hid hJ.len
  have h1 : ((rs.length : Int) != (n : Int)) = true := by simp; omega
  generalize rs.length = m at HL h1
  clear hJ hn
  go_enter Try.func31, Try.ntmps31
  go_wp2_with fail
  refine HL.out.mono ?_
  rintro e w2 ⟨rfl, rfl⟩
  go_wp2_with fail
  go_ret
  exact ⟨rfl, Below.refl _ _⟩

set_option maxRecDepth 100000 in
set_option maxHeartbeats 4000000 in
theorem holds_yes (ao : Option Addr) (q n cap : Nat) (rs : List (List Int)) (w : World) (hJ : JRead w q rs) (hn : rs.length = n) (hR : Recs w ao rs) (hl : ∀ k, k < n → (rs.getD k []).length ≤ 1000000) (hl2 : n ≤ 1000000) :
    Calls Try.prog 31 #[.pointer (some ⟨q, 0, none⟩), .slice ao n cap] w fun e w' => e = .returned (.bool true) ∧ Below w.heap.size w w' := by
  have HL := Lib.hid hJ.len
  have HJ := Lib.hid hJ
  have HR := Lib.hid hR
  have HLL := Lib.hid hl
  rw [hn] at HL
  have HN := Lib.hid hn
  have hl3 : (n : Int) ≤ 1000000 := by omega
  clear hJ hR hl hn hl2
  go_enter Try.func31, Try.ntmps31
  go_wp2_with fail
  refine HL.out.mono ?_
  rintro e w2 ⟨rfl, rfl⟩
  go_wp2_with fail
  go_loopw [5] (fun i wr => ∃ k : Nat, k ≤ n ∧ i = .int .i64 k ∧ Below w.heap.size w wr) (fun i _ => n - (intOf i).toNat)
  case atStart => exact ⟨0, Nat.zero_le _, rfl, Below.refl _ _⟩
  case round =>
    obtain ⟨k, hk, rfl, hb⟩ := hrel
    have HB := Lib.hid hb
    clear hb
    by_cases hlt : k < n
    · have hk0 : (0 : Int) ≤ (k : Int) := Int.natCast_nonneg _
      have hk1 : (k : Int) < (n : Int) := by omega
      have hRC := (HJ.out.next HB.out).record (k := k) (by have := HN.out; omega) (HLL.out k hlt)
      rcases HR.out.next HB.out with h0 | ⟨b, off, rfl, hbw, hc0⟩
      · have := HN.out
        rw [h0] at this
        simp at this
        omega
      obtain ⟨po, pc, hc, hy⟩ := hc0 k (by have := HN.out; omega)
      generalize rs.getD k [] = r at hRC hc hy
      have HRC := Lib.hid hRC
      have HY := Lib.hid hy
      clear hRC hc0 hy
      go_wp2_with fail
      refine HRC.out.mono ?_
      rintro e w3 ⟨g, cp, rfl, hown, hb3⟩
      have hy3 : Byt w3 (gad g) r := by
        have := (byt_own (bs := r) (v := .slice (gad g) r.length cp) hown).choose_spec.2.2.2
        rwa [gad_own] at this
      have k1 := fun (W : World) (hW : Below w3.heap.size w3 W) => bytes_string cp rfl (hy3.next hW)
      have k2 := fun (W : World) (hW : Below w3.heap.size w3 W) => bytes_string pc rfl ((HY.out.next hb3).next hW)
      have cv1 := fun n => k1 (w3.drewN n) (below_draws (Below.refl _ _) n)
      have cv2 := fun n => k2 (w3.drewN n) (below_draws (Below.refl _ _) n)
      have hc3 : w3.cell? ⟨b, off + k, none⟩ = some (.slice po r.length pc) := (hb3.cell (p := ⟨b, off + k, none⟩) hbw).trans hc
      have HB3 := Lib.hid (HB.out.trans (hb3.mono HB.out.size))
      clear hown hb3 hy3 k1 k2 hc
      go_wp2_with fail
      go_quiet (fail)
      go_wp2_with fail
      go_roundw
      case rel => exact ⟨k + 1, hlt, by go_num, below_draws HB3.out _⟩
      case measure => simp [intOf]; omega
    · obtain rfl : k = n := by omega
      have HN1 := Lib.hid ((HJ.out.next HB.out).none (k := (k : Int)) (.inr (by have := HN.out; omega)))
      have HN2 := Lib.hid ((HJ.out.next HB.out).none (k := -1) (.inl (by omega)))
      clear hlt
      go_wp2_with fail
      refine HN1.out.mono ?_
      rintro e w3 ⟨rfl, rfl⟩
      go_wp2_with fail
      refine HN2.out.mono ?_
      rintro e w3 ⟨rfl, rfl⟩
      go_wp2_with fail
      go_ret
      exact ⟨rfl, HB.out⟩
end Go.Proofs.Ytkbdbinafjmjkaa
