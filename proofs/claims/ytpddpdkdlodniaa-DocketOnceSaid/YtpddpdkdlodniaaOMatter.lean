/-
  Contract: where a matter stands, in the document's words.
-/
import Derived.Test.YtpddpdkdlodniaaODue
namespace Go.Proofs.Ytpddpdkdlodniaa
open Go.RowKit

theorem find_hit {l : List Mt} {id : Int} {k : Nat} (hk : k < l.length) (h : (l.getD k default).id = id) (hlow : findF (l.take k) id = -1) : findF l id = k := by
  have h2 : hasF (l.take k) id = false := find_neg.1 (by omega)
  have hne : ∀ j, j < k → decide ((l[j]!).id = id) = false := fun j hj => by
    rw [decide_eq_false_iff_not]
    intro e
    have : hasF (l.take k) id = true := (has_iff _ _).2 ⟨l[j]!, by
      rw [show l[j]! = l[j]'(by omega) by simp [show j < l.length by omega]]
      rw [List.mem_take_iff_getElem]
      exact ⟨j, by omega, rfl⟩, e⟩
    rw [this] at h2
    cases h2
  have := Lib.idxBy_hit (fun _ m : Mt => decide (m.id = id)) l l.length k default hk (Nat.le_refl _) (by simpa [List.getD, hk] using h) hne
  rw [List.take_length] at this
  exact this
theorem find_snoc {l : List Mt} {id : Int} {k : Nat} (hk : k < l.length) (h : ¬ (l.getD k default).id = id) (hlow : findF (l.take k) id = -1) : findF (l.take (k + 1)) id = -1 := by
  have h2 : hasF (l.take k) id = false := find_neg.1 (by omega)
  have h3 : findF (l.take (k + 1)) id < 0 := by
    rw [find_neg, take_snoc' hk]
    simp only [hasF, List.any_append, List.any_cons, List.any_nil, Bool.or_false] at h2 ⊢
    rw [h2]
    simpa using h
  have := find_ge (l.take (k + 1)) id
  omega

set_option maxRecDepth 100000 in
set_option maxHeartbeats 4000000 in
theorem matterOf_any (day ans app id : Int) (ho mo : Option Addr) (hn hc mc : Nat) (l : List Mt) (w : World) (hM : Mts w mo l) (hl : l.length ≤ 1000) :
    Calls Try.prog 47 #[.agg #[.int .i64 day, .int .i64 ans, .int .i64 app, .slice ho hn hc, .slice mo l.length mc], .int .i64 id] w fun e w' => e = .returned (.int .i64 (findF l id)) ∧ Below w.heap.size w w' := by
  have HM := Lib.hid hM
  clear hM
  go_enter Try.func47, Try.ntmps47
  go_wp2_with fail
  go_loopw [5] (fun i wr => ∃ (k : Nat), k ≤ l.length ∧ i = .int .i64 k ∧ Hid (findF (l.take k) id = -1) ∧ Below (w.heap.size + 1) (w.alloc (.cells #[.int .i64 day, .int .i64 ans, .int .i64 app, .slice ho hn hc, .slice mo l.length mc] 30)) wr) (fun i _ => l.length - (intOf i).toNat)
  case atStart => exact ⟨0, Nat.zero_le _, rfl, Lib.hid rfl, Below.refl _ _⟩
  case round =>
    obtain ⟨k, hk, rfl, hf, hb⟩ := hrel
    obtain ⟨x0, x1, x2, x3, x4, hsr⟩ := box5 hb
    by_cases hlt : k < l.length
    · obtain ⟨bm, off, rfl, hbw, hc0⟩ := (HM.out.next (below_box hb)).cells (by omega)
      obtain ⟨m0, m1, m2, m3, m4⟩ := hc0 k hlt
      have hh := fun h => find_hit hlt (id := id) h hf.out
      have hs := fun h => find_snoc hlt (id := id) h hf.out
      obtain ⟨m, hm⟩ : ∃ m, l.getD k default = m := ⟨_, rfl⟩
      rw [hm] at m0 m1 m2 m3 m4 hh hs
      have HB := Lib.hid hb
      have hk0 : (0 : Int) ≤ (k : Int) := Int.natCast_nonneg _
      have hk1 : (k : Int) < (l.length : Int) := by omega
      clear hc0 hm hb
      by_cases he : m.id = id
      · have HH := Lib.hid (hh he)
        clear hh hs
        have hq : (m.id == id) = true := by simpa using he
        clear he
        go_wp2_with fail
        go_ret
        exact ⟨by rw [HH.out]; rfl, below_box HB.out⟩
      · have HS := Lib.hid (hs he)
        clear hh hs
        have hq : (m.id == id) = false := by simpa using he
        go_wp2_with fail
        go_roundw
        case rel => exact ⟨k + 1, hlt, by go_num, HS, HB.out⟩
        case measure => simp [intOf]; omega
    · obtain rfl : k = l.length := by omega
      rw [List.take_length] at hf
      go_wp2_with fail
      go_ret
      exact ⟨by rw [hf.out]; rfl, below_box hb⟩
end Go.Proofs.Ytpddpdkdlodniaa
