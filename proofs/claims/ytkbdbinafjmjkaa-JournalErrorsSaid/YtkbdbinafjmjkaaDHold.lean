/-
  Contracts of the disk's operations in the form that the laws use: a disk that the call itself holds.
-/
import Derived.Test.YtkbdbinafjmjkaaDCrash
namespace Go.Proofs.Ytkbdbinafjmjkaa
open Go.RowKit

/-- A disk that was made since w0; nothing that was there in w0 has turned. -/
def DHold (w0 w : World) (p : Nat) (s : DS) : Prop := (∃ g, DiskIs w w0.heap.size p g s) ∧ Below w0.heap.size w0 w

theorem DiskIs.base {w : World} {base base' p : Nat} {g : Option Nat} {s : DS} (h : DiskIs w base p g s) (hb : base' ≤ base) : DiskIs w base' p g s := by
  obtain ⟨cap, left, h1, h2, h3, h4⟩ := h
  exact ⟨cap, left, Nat.le_trans hb h1, h2, owns_base h3 (fun k hk => Nat.le_trans hb (h3.lt k hk).1), h4⟩

section
variable {w0 w w' : World} {p : Nat} {s : DS}
theorem DHold.next (h : DHold w0 w p s) (hb : Below w.heap.size w w') : DHold w0 w' p s := by
  obtain ⟨⟨g, hd⟩, h0⟩ := h
  exact ⟨⟨g, hd.next hb⟩, h0.trans (hb.mono h0.size)⟩
theorem DHold.ok (h : DHold w0 w p s) : DOk s := by
  obtain ⟨⟨g, hd⟩, _⟩ := h
  exact hd.ok
theorem DHold.lt (h : DHold w0 w p s) : w0.heap.size ≤ p ∧ p < w.heap.size := by
  obtain ⟨⟨g, hd⟩, _⟩ := h
  exact hd.lt
theorem DHold.since {v : World} (h : DHold w w' p s) (hb : Below v.heap.size v w) : DHold v w' p s := by
  obtain ⟨⟨g, hd⟩, h0⟩ := h
  exact ⟨⟨g, hd.base hb.size⟩, hb.trans (h0.mono hb.size)⟩
theorem moved_own {base p : Nat} {g : Option Nat} {S : Nat → Prop} (hd : DiskIs w base p g s) (hm : Moved w w' S) (hS : ∀ k, S k → k = p ∨ g = some k) : Moved w w' (fun k => base ≤ k) :=
  hm.mono fun k _ hs => by
    rcases hS k hs with rfl | h
    · exact hd.lt.1
    · exact (hd.row k h).1
theorem hold_to {g : Option Nat} {r : Value} {s' : DS} {e : Ending} (hd : DiskIs w w0.heap.size p g s) (h0 : Below w0.heap.size w0 w) (h : DiskTo w0.heap.size p g w r s' e w') : e = .returned r ∧ DHold w0 w' p s' := by
  obtain ⟨g', he, h1, h2, _⟩ := h
  exact ⟨he, ⟨g', h1⟩, h0.trans ((moved_own hd h2 fun _ h => h).old h0.size)⟩

theorem new_h (room : Int) (w : World) (h0 : 0 ≤ room) (h1 : room ≤ 262144) :
    Calls Try.prog 14 #[.int .i64 room] w fun e w' => e = .returned (.tuple #[.pointer (some ⟨w.heap.size, 0, none⟩), .int .i64 0]) ∧ DHold w w' w.heap.size (newD room) :=
  (new_any room w h0 h1).mono fun _ _ ⟨he, hd, hb⟩ => ⟨he, ⟨none, hd⟩, hb⟩

theorem append_h (h : DHold w0 w p s) (ao : Option Addr) (m c : Nat) (b : List Int) (hm : b.length = m) (hb : Byt w ao b) (hbb : Bytes b) (hap : ∀ k o, ao = some ⟨k, o, none⟩ → k ≠ p) (hlen : m ≤ 1000000) :
    Calls Try.prog 15 #[.pointer (some ⟨p, 0, none⟩), .slice ao m c] w fun e w' => e = .returned (.int .i64 (appendF s b).1) ∧ DHold w0 w' p (appendF s b).2 := by
  obtain ⟨⟨g, hd⟩, h0⟩ := h
  exact (append_any _ p g s w hd ao m c b hm hb hbb hap hlen h0.size).mono fun _ _ h => hold_to hd h0 h

theorem sync_h (h : DHold w0 w p s) :
    Calls Try.prog 16 #[.pointer (some ⟨p, 0, none⟩)] w fun e w' => e = .returned (.int .i64 (syncF s).1) ∧ DHold w0 w' p (syncF s).2 := by
  obtain ⟨⟨g, hd⟩, h0⟩ := h
  exact (sync_any _ p g s w hd).mono fun _ _ h => hold_to hd h0 h

theorem trunc_h (h : DHold w0 w p s) (n : Int) :
    Calls Try.prog 26 #[.pointer (some ⟨p, 0, none⟩), .int .i64 n] w fun e w' => e = .returned (.int .i64 (truncF s n).1) ∧ DHold w0 w' p (truncF s n).2 := by
  obtain ⟨⟨g, hd⟩, h0⟩ := h
  exact (trunc_any _ p g s n w hd).mono fun _ _ h => hold_to hd h0 h

theorem cut_h (h : DHold w0 w p s) (n : Int) (hn : n ≤ 9223372036854775807) :
    Calls Try.prog 25 #[.pointer (some ⟨p, 0, none⟩), .int .i64 n] w fun e w' => e = .returned (.tuple #[]) ∧ DHold w0 w' p (cutF s n) := by
  obtain ⟨⟨g, hd⟩, h0⟩ := h
  exact (cut_any _ p g s n w hd hn).mono fun _ _ ⟨he, h1, h2⟩ => ⟨he, ⟨g, h1⟩, h0.trans ((moved_own hd h2 fun _ h => .inl h).old h0.size)⟩

theorem read_h (h : DHold w0 w p s) :
    Calls Try.prog 17 #[.pointer (some ⟨p, 0, none⟩)] w fun e w' => ∃ g cap, e = .returned (.slice (gad g) s.bs.length cap) ∧ Byt w' (gad g) s.bs ∧ (∀ k, g = some k → w.heap.size ≤ k) ∧ Below w.heap.size w w' := by
  obtain ⟨⟨g, hd⟩, h0⟩ := h
  refine (read_any _ p g s w hd).mono fun _ _ ⟨g', cap, he, ho, hb⟩ => ⟨g', cap, he, ?_, fun k hk => (ho.lt k (by rw [gad_own]; exact hk)).1, hb⟩
  have hy := (byt_own ho).choose_spec.2.2.2
  rwa [gad_own] at hy

theorem size_h (h : DHold w0 w p s) : Calls Try.prog 20 #[.pointer (some ⟨p, 0, none⟩)] w fun e w' => e = .returned (.int .i64 s.bs.length) ∧ w = w' := by
  obtain ⟨⟨g, hd⟩, h0⟩ := h
  exact size_any _ p g s w hd

theorem opsD_h (h : DHold w0 w p s) : Calls Try.prog 27 #[.pointer (some ⟨p, 0, none⟩)] w fun e w' => e = .returned (.int .i64 s.ops) ∧ w = w' := by
  obtain ⟨⟨g, hd⟩, h0⟩ := h
  exact ops_any _ p g s w hd

theorem crash_h (h : DHold w0 w p s) (keep flip : Int) :
    Calls Try.prog 18 #[.pointer (some ⟨p, 0, none⟩), .int .i64 keep, .int .i64 flip] w fun e w' => ∃ q, e = .returned (.pointer (some ⟨q, 0, none⟩)) ∧ DHold w w' q (crashF s keep flip) := by
  obtain ⟨⟨g, hd⟩, h0⟩ := h
  exact (crash_any _ p g s keep flip w hd).mono fun _ _ ⟨q, g', he, h1, h2⟩ => ⟨q, he, ⟨g', h1⟩, h2⟩
end
end Go.Proofs.Ytkbdbinafjmjkaa
