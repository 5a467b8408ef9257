/-
  Contracts: Record; the ways of Append on which nothing happens.
-/
import Derived.Test.YtkbdbinafjmjkaaJFunc
namespace Go.Proofs.Ytkbdbinafjmjkaa
open Go.RowKit

/-- A slice of records to read, all its blocks such that N holds of them. -/
def RecsN (w : World) (N : Nat → Prop) (ao : Option Addr) (rs : List (List Int)) : Prop := rs = [] ∨ ∃ b off, ao = some ⟨b, off, none⟩ ∧ b < w.heap.size ∧ N b ∧
  ∀ i, i < rs.length → ∃ po pc, w.cell? ⟨b, off + i, none⟩ = some (.slice po (rs.getD i []).length pc) ∧ BytN w N po (rs.getD i [])
section
variable {w w' : World} {N N' S : Nat → Prop} {ao : Option Addr} {rs : List (List Int)} {base : Nat} {v : Value}
theorem RecsN.moved (h : RecsN w N ao rs) (hm : Moved w w' S) (hn : ∀ b, b < w.heap.size → N b → ¬ S b ∧ N' b) : RecsN w' N' ao rs := by
  rcases h with h | ⟨b, off, rfl, h1, h2, h3⟩
  · exact .inl h
  · obtain ⟨n1, n2⟩ := hn b h1 h2
    refine .inr ⟨b, off, rfl, Nat.lt_of_lt_of_le h1 hm.size, n2, fun i hi => ?_⟩
    obtain ⟨po, pc, e1, e2⟩ := h3 i hi
    exact ⟨po, pc, hm.cell n1 e1, e2.moved hm hn⟩
theorem RecsN.next (h : RecsN w N ao rs) (hb : Below w.heap.size w w') : RecsN w' N ao rs := h.moved (Moved.of_below hb fun _ => False) fun _ _ hN => ⟨fun h => h, hN⟩
theorem RecsN.recs (h : RecsN w N ao rs) : Recs w ao rs := by
  rcases h with h | ⟨b, off, rfl, h1, _, h3⟩
  · exact .inl h
  · refine .inr ⟨b, off, rfl, h1, fun i hi => ?_⟩
    obtain ⟨po, pc, e1, e2⟩ := h3 i hi
    exact ⟨po, pc, e1, e2.byt⟩
theorem RowN.recsN (h : RowN w base N v rs) : ∃ ao c, v = .slice ao rs.length c ∧ RecsN w N ao rs := by
  obtain ⟨vs, h1, h2, h3⟩ := h
  have h0 := h1
  rcases h1.2 with ⟨rfl, hn⟩ | ⟨g, cap, cur, rfl, hg, hh, hn, hcap, hsz, htake⟩
  · exact ⟨none, 0, by rw [hn], .inl (List.eq_nil_of_length_eq_zero hn)⟩
  · refine ⟨_, cap, rfl, .inr ⟨g, 0, rfl, (Array.getElem?_eq_some_iff.1 hh).1, h2 g rfl, fun i hi => ?_⟩⟩
    obtain ⟨po, pc, e1, e2⟩ := h3 i hi
    have hc := h0.cells (g := g) rfl i _ e1
    rw [addr_off] at hc
    exact ⟨po, pc, hc, e2.mono fun b _ hN => hN.1⟩
end

theorem app_empty (jv : Value) (ao : Option Addr) (c : Nat) (w : World) :
    Calls Try.prog 30 #[jv, .slice ao 0 c] w fun e w' => e = .returned (.int .i64 21) ∧ w = w' := by
  go_enter Try.func30, Try.ntmps30
  go_wp2_with fail
  go_ret
  exact ⟨rfl, rfl⟩
theorem app_many (jv : Value) (ao : Option Addr) (n c : Nat) (w : World) (h : 16 < (n : Int)) :
    Calls Try.prog 30 #[jv, .slice ao n c] w fun e w' => e = .returned (.int .i64 2) ∧ w = w' := by
  have h0 : ((n : Int) == 0) = false := by rw [beq_eq_false_iff_ne]; omega
  go_enter Try.func30, Try.ntmps30
  go_wp2_with fail
  go_ret
  exact ⟨rfl, rfl⟩
theorem app_long (jv : Value) (ao : Option Addr) (n c : Nat) (rs : List (List Int)) (w : World) (hn : rs.length = n) (hR : Recs w ao rs) (h1 : 1 ≤ n) (h : n ≤ 16) (hlg : longF rs = true) :
    Calls Try.prog 30 #[jv, .slice ao n c] w fun e w' => e = .returned (.int .i64 2) ∧ w = w' := by
  have HC := Lib.hid (contains_any ao c n rs w hn hR (by omega))
  rw [hlg] at HC
  have h0 : ((n : Int) == 0) = false := by rw [beq_eq_false_iff_ne]; omega
  have h2 : (n : Int) ≤ 16 := by omega
  clear hR hn hlg
  go_enter Try.func30, Try.ntmps30
  go_wp2_with fail
  refine HC.out.mono ?_
  rintro e w2 ⟨rfl, rfl⟩
  go_wp2_with fail
  go_ret
  exact ⟨rfl, rfl⟩
theorem app_dead (jv : Value) (ao : Option Addr) (n c : Nat) (rs : List (List Int)) (w : World) (hn : rs.length = n) (hR : Recs w ao rs) (h1 : 1 ≤ n) (h : n ≤ 16) (hlg : longF rs = false)
    (HD : Hid (Calls Try.prog 32 #[jv] w fun e w' => e = .returned (.bool true) ∧ w = w')) :
    Calls Try.prog 30 #[jv, .slice ao n c] w fun e w' => e = .returned (.int .i64 42) ∧ w = w' := by
  have HC := Lib.hid (contains_any ao c n rs w hn hR (by omega))
  rw [hlg] at HC
  have h0 : ((n : Int) == 0) = false := by rw [beq_eq_false_iff_ne]; omega
  have h2 : (n : Int) ≤ 16 := by omega
  clear hR hn hlg
  go_enter Try.func30, Try.ntmps30
  go_wp2_with fail
  refine HC.out.mono ?_
  rintro e w2 ⟨rfl, rfl⟩
  go_wp2_with fail
  refine HD.out.mono ?_
  rintro e w3 ⟨rfl, rfl⟩
  go_wp2_with fail
  go_ret
  exact ⟨rfl, rfl⟩

theorem record_none (jv : Value) (k : Int) (n : Nat) (w : World) (h : k < 0 ∨ (n : Int) ≤ k) (HL : Hid (Calls Try.prog 34 #[jv] w fun e w' => e = .returned (.int .i64 n) ∧ w = w')) :
    Calls Try.prog 35 #[jv, .int .i64 k] w fun e w' => e = .returned (.tuple #[.slice none 0 0, .int .i64 45]) ∧ w = w' := by
  by_cases hk : k < 0
  · clear h HL
    go_enter Try.func35, Try.ntmps35
    go_wp2_with fail
    go_ret2
    exact ⟨rfl, rfl⟩
  · have hk2 : (n : Int) ≤ k := by omega
    have hk3 : 0 ≤ k := by omega
    clear h
    go_enter Try.func35, Try.ntmps35
    go_wp2_with fail
    refine HL.out.mono ?_
    rintro e w3 ⟨rfl, rfl⟩
    go_wp2_with fail
    go_ret2
    exact ⟨rfl, rfl⟩

theorem record_some (q k n c : Nat) (a dead : Value) (ao : Option Addr) (rs : List (List Int)) (w : World) (h : Box w q 64 #[a, .slice ao n c, dead]) (hn : rs.length = n) (hR : Recs w ao rs) (hk : k < n) (hl : (rs.getD k []).length ≤ 1000000) :
    Calls Try.prog 35 #[.pointer (some ⟨q, 0, none⟩), .int .i64 k] w fun e w' => ∃ g cap, e = .returned (.tuple #[.slice (gad g) (rs.getD k []).length cap, .int .i64 0]) ∧ w'.ownsRow w.heap.size 5 1 (.slice (gad g) (rs.getD k []).length cap) (rs.getD k []).length (bcells (rs.getD k [])) ∧ Below w.heap.size w w' := by
  subst hn
  have c1 : w.cell? ⟨q, 1, none⟩ = some (.slice ao rs.length c) := h.cell 1
  have HL := Lib.hid (len_box q a ao _ c dead w h)
  rcases hR with h0 | ⟨b, off, rfl, hbw, hc0⟩
  · rw [h0] at hk
    simp at hk
  obtain ⟨po, pc, hc, hy⟩ := hc0 k hk
  generalize rs.getD k [] = r at hc hy hl ⊢
  have HC := Lib.hid (clone_any po _ pc r w rfl hy hl)
  have hk0 : (0 : Int) ≤ (k : Int) := Int.natCast_nonneg _
  have hk1 : (k : Int) < (rs.length : Int) := by omega
  clear h hc0 hy
  go_enter Try.func35, Try.ntmps35
  go_wp2_with fail
  refine HL.out.mono ?_
  rintro e w3 ⟨rfl, rfl⟩
  go_wp2_with fail
  refine HC.out.mono ?_
  rintro e w4 ⟨g, cap, rfl, hown, hb⟩
  have HO := Lib.hid hown
  have HB := Lib.hid hb
  clear hown hb
  go_wp2_with fail
  go_ret2
  exact ⟨g, cap, rfl, HO.out, HB.out⟩
end Go.Proofs.Ytkbdbinafjmjkaa
