/-
  Contracts: lists of matters in memory; where a matter stands in a list.
-/
import Derived.Test.YtpddpdkdlodniaaOBase
import Derived.Test.YtpddpdkdlodniaaOShelf
import Derived.Shelf.Abstract
namespace Go.Proofs.Ytpddpdkdlodniaa
open Go.RowKit Go.Shelf

def mtCells (m : Mt) : List Value := [.int .i64 m.id, .int .i64 m.st, .int .i64 m.due, .int .i64 m.opt, .bool m.df]
/-- A matter lies in five cells. -/
def MtAt (w : World) (b o : Nat) (m : Mt) : Prop :=
  w.cell? ⟨b, o, none⟩ = some (.int .i64 m.id) ∧ w.cell? ⟨b, o + 1, none⟩ = some (.int .i64 m.st) ∧ w.cell? ⟨b, o + 2, none⟩ = some (.int .i64 m.due) ∧ w.cell? ⟨b, o + 3, none⟩ = some (.int .i64 m.opt) ∧ w.cell? ⟨b, o + 4, none⟩ = some (.bool m.df)
/-- A list of matters lies at an address. -/
def Mts (w : World) (ao : Option Addr) (l : List Mt) : Prop := l = [] ∨ ∃ b off, ao = some ⟨b, off, none⟩ ∧ b < w.heap.size ∧ ∀ i, i < l.length → MtAt w b (off + i * 5) (l.getD i default)

theorem MtAt.same {w w' : World} {b o : Nat} {m : Mt} (h : MtAt w b o m) (hc : ∀ x, w'.cell? ⟨b, x, none⟩ = w.cell? ⟨b, x, none⟩) : MtAt w' b o m := by
  obtain ⟨h0, h1, h2, h3, h4⟩ := h
  exact ⟨(hc _).trans h0, (hc _).trans h1, (hc _).trans h2, (hc _).trans h3, (hc _).trans h4⟩
theorem Mts.next {w w' : World} {ao : Option Addr} {l : List Mt} (h : Mts w ao l) (hb : Below w.heap.size w w') : Mts w' ao l := by
  rcases h with h | ⟨b, off, rfl, hlt, hc⟩
  · exact .inl h
  · exact .inr ⟨b, off, rfl, Nat.lt_of_lt_of_le hlt hb.size, fun i hi => (hc i hi).same fun x => hb.cell (p := ⟨b, x, none⟩) hlt⟩
theorem Mts.cells {w : World} {ao : Option Addr} {l : List Mt} (h : Mts w ao l) (hl : 0 < l.length) : ∃ b off, ao = some ⟨b, off, none⟩ ∧ b < w.heap.size ∧ ∀ i, i < l.length → MtAt w b (off + i * 5) (l.getD i default) := by
  rcases h with h | h
  · rw [h] at hl; simp at hl
  · exact h

/-- The closure of find. -/
theorem findPred (id : Int) (B : Nat) (w : World) (hB : B < w.heap.size) (hcell : w.cell? ⟨B, 0, none⟩ = some (.int .i64 id)) :
    PredBelow Try.prog 57 #[.pointer (some ⟨B, 0, none⟩)] (fun m => .agg (mtCells m).toArray) (fun m => decide (m.id = id)) w := fun W m hb => by
  have hc : W.cell? ⟨B, 0, none⟩ = some (.int .i64 id) := (hb.cell (p := ⟨B, 0, none⟩) hB).trans hcell
  have hBW : B < W.heap.size := Nat.lt_of_lt_of_le hB hb.size
  have hne : B ≠ W.heap.size := by omega
  show Calls Try.prog 57 #[.agg #[.int .i64 m.id, .int .i64 m.st, .int .i64 m.due, .int .i64 m.opt, .bool m.df], .pointer (some ⟨B, 0, none⟩)] W _
  obtain ⟨mi, st, due, opt, df⟩ := m
  simp only
  clear hcell
  cases hq : decide (mi = id)
  all_goals
    have hq2 : (mi == id) = _ := hq
    clear hq
    go_enter Try.func57, Try.ntmps57
    go_wp2
    go_ret
    exact ⟨by simp [*], hb.alloc hb.size _⟩

set_option maxHeartbeats 1000000 in
theorem index_empty (a : Option Addr) (c : Nat) (fv : Value) (w : World) : Calls Try.prog 56 #[.slice a 0 c, fv] w fun e w' => e = .returned (.int .i64 (-1)) ∧ w' = w := by
  go_enter Try.func56, Try.ntmps56
  go_wp2
  go_loopg [5, 8] 0 (fun _ _ s8 wr => s8 = .int .i64 0 ∧ wr = w)
  case atStart => exact ⟨rfl, rfl⟩
  case round =>
    obtain ⟨rfl, rfl⟩ := hrel
    go_wp2
    go_ret
    exact ⟨rfl, rfl⟩

set_option maxHeartbeats 1000000 in
theorem find_any (ao : Option Addr) (n c : Nat) (l : List Mt) (id : Int) (w : World) (hM : Mts w ao l) (hn : n ≤ l.length) (hl : l.length ≤ 9223372036854775807) :
    Calls Try.prog 37 #[.slice ao n c, .int .i64 id] w fun e w' => e = .returned (.int .i64 (findF (l.take n) id)) ∧ Below w.heap.size w w' := by
  by_cases h0 : n = 0
  · subst h0
    have HE := Lib.hid fun (lb : Array Value) (W : World) => index_empty ao c (.func (.func 57) #[] lb) W
    clear hM hn hl
    go_enter Try.func37, Try.ntmps37
    go_wp2_with fail
    refine (HE.out _ _).mono ?_
    rintro e w3 ⟨rfl, rfl⟩
    go_wp2_with fail
    go_ret
    exact ⟨rfl, by go_grown⟩
  obtain ⟨b, off, rfl, hb, hc⟩ := hM.cells (by omega)
  have eg : ∀ args w, (callFunc 57 args).run Try.prog w = .ok (.enter 57 args) w := enters_of Try.func57 (by kernel_rfl) rfl
  have hcon := AnyQ.slices_IndexFunc Ytpddpdkdlodniaa.laysIndex 5 Try.isAgg50 Try.sizeOf50 mtCells (fun _ => rfl) (fun m => decide (m.id = id)) 57 #[.pointer (some ⟨w.heap.size, 0, none⟩)] eg b off n c l (w.alloc (.cells #[.int .i64 id] 3))
    (findPred id w.heap.size _ (by simp) (by simp)) hn (by omega) (by simp; omega) (fun j hj i v hi => by
      refine Lib.cell?_alloc_some _ ?_
      have h1 := hc j hj
      rw [show l[j]! = l.getD j default by simp [List.getD, hj]] at hi
      generalize l.getD j default = y at hi h1
      obtain ⟨k0, k1, k2, k3, k4⟩ := h1
      match i, hi with
      | 0, hi => simp [mtCells] at hi; rw [← hi]; exact k0
      | 1, hi => simp [mtCells] at hi; rw [← hi]; exact k1
      | 2, hi => simp [mtCells] at hi; rw [← hi]; exact k2
      | 3, hi => simp [mtCells] at hi; rw [← hi]; exact k3
      | 4, hi => simp [mtCells] at hi; rw [← hi]; exact k4
      | i + 5, hi => simp [mtCells] at hi)
  change Calls Try.prog 56 _ _ _ at hcon
  clear hc
  unfold findF
  generalize Lib.idxBy (fun _ (y : Mt) => decide (y.id = id)) (l.take n) default = r at hcon ⊢
  have HC := Lib.hid hcon
  clear hcon hM eg
  go_enter Try.func37, Try.ntmps37
  go_wp2_with fail
  refine HC.out.mono ?_
  rintro e w3 ⟨rfl, hb3⟩
  go_wp2_with fail
  go_ret
  exact ⟨rfl, ((Below.refl _ w).alloc (Nat.le_refl _) _).trans (hb3.mono (by simp))⟩
end Go.Proofs.Ytpddpdkdlodniaa
