/-
  A disk and its model side by side: step does the same to both, alike says true of them.
-/
import Derived.Test.YtkbdbinafjmjkaaDKept0
import Derived.Test.YtkbdbinafjmjkaaDRef4
import Derived.Deep.RegionHeld3
namespace Go.Proofs.Ytkbdbinafjmjkaa
open Go.RowKit

/-- A disk and the reference's disk, both made since w0, of one state; nothing that was there in w0 has turned. -/
def Pair (w0 w : World) (p q : Nat) (s : DS) : Prop :=
  (∃ g h, DiskIs w w0.heap.size p g s ∧ RefIs w w0.heap.size q h s ∧ ∀ k, g = some k → h ≠ some k) ∧ Below w0.heap.size w0 w

theorem RefIs.base {w : World} {base base' p : Nat} {g : Option Nat} {s : DS} (h : RefIs w base p g s) (hb : base' ≤ base) : RefIs w base' p g s := by
  obtain ⟨cap, left, h1, h2, h3, h4⟩ := h
  exact ⟨cap, left, Nat.le_trans hb h1, h2, owns_base h3 (fun k hk => Nat.le_trans hb (h3.lt k hk).1), h4⟩

theorem box_ne {w : World} {base p q : Nat} {g h : Option Nat} {s t : DS} (hd : DiskIs w base p g s) (hr : RefIs w base q h t) : p ≠ q ∧ g ≠ some q ∧ h ≠ some p := by
  obtain ⟨cap, left, h1, h2, h3, _⟩ := hd
  obtain ⟨cap', left', i1, i2, i3, _⟩ := hr
  have a := owns_ne_box h3 i2 (by decide)
  have b := owns_ne_box i3 h2 (by decide)
  rw [gad_own] at a b
  exact ⟨h2.ne i2 (by decide), a, b⟩

section
variable {w0 w w' : World} {p q : Nat} {s : DS}
theorem Pair.next (h : Pair w0 w p q s) (hb : Below w.heap.size w w') : Pair w0 w' p q s := by
  obtain ⟨⟨g, i, hd, hr, hn⟩, h0⟩ := h
  exact ⟨⟨g, i, hd.next hb, hr.next hb, hn⟩, h0.trans (hb.mono h0.size)⟩
theorem Pair.ok (h : Pair w0 w p q s) : DOk s := by
  obtain ⟨⟨g, i, hd, hr, hn⟩, h0⟩ := h
  exact hd.ok
theorem Pair.lt (h : Pair w0 w p q s) : (w0.heap.size ≤ p ∧ p < w.heap.size) ∧ w0.heap.size ≤ q ∧ q < w.heap.size := by
  obtain ⟨⟨g, i, hd, hr, hn⟩, h0⟩ := h
  exact ⟨hd.lt, hr.lt⟩
theorem Pair.hold (h : Pair w0 w p q s) : DHold w0 w p s := by
  obtain ⟨⟨g, i, hd, hr, hn⟩, h0⟩ := h
  exact ⟨⟨g, hd⟩, h0⟩

/-- An operation on the disk, the other one being left as it is: what is known in between. -/
def Half (w0 w : World) (p q : Nat) (s t : DS) : Prop := (∃ g h, DiskIs w w0.heap.size p g s ∧ RefIs w w0.heap.size q h t ∧ ∀ k, g = some k → h ≠ some k) ∧ Below w0.heap.size w0 w
theorem half_of (h : Pair w0 w p q s) : Half w0 w p q s s := h
theorem pair_of (h : Half w0 w p q s s) : Pair w0 w p q s := h

theorem half_disk {s' t : DS} {r : Value} {e : Ending} {g i : Option Nat} (hd : DiskIs w w0.heap.size p g s) (hr : RefIs w w0.heap.size q i t) (hn : ∀ k, g = some k → i ≠ some k) (h0 : Below w0.heap.size w0 w) (h : DiskTo w0.heap.size p g w r s' e w') : e = .returned r ∧ Half w0 w' p q s' t := by
  obtain ⟨g', he, h1, h2, h3⟩ := h
  obtain ⟨n1, n2, n3⟩ := box_ne hd hr
  refine ⟨he, ⟨g', i, h1, hr.moved h2 (fun hs => ?_) (fun k hk hs => ?_), fun k hk hi => ?_⟩, h0.trans ((moved_own hd h2 fun _ h => h).old h0.size)⟩
  · rcases hs with h | h
    · exact n1 h.symm
    · exact n2 h
  · rcases hs with h | h
    · exact n3 (by rw [hk, h])
    · exact hn k h hk
  · rcases h3 k hk with h | h
    · exact hn k h hi
    · have := (hr.row k hi).2.1
      omega

theorem moved_ownR {base : Nat} {g : Option Nat} {S : Nat → Prop} (hd : RefIs w base q g s) (hm : Moved w w' S) (hS : ∀ k, S k → k = q ∨ g = some k) : Moved w w' (fun k => base ≤ k) :=
  hm.mono fun k _ hs => by
    rcases hS k hs with rfl | h
    · exact hd.lt.1
    · exact (hd.row k h).1

theorem half_ref {t t' : DS} {r : Value} {e : Ending} {g i : Option Nat} (hd : DiskIs w w0.heap.size p g s) (hr : RefIs w w0.heap.size q i t) (hn : ∀ k, g = some k → i ≠ some k) (h0 : Below w0.heap.size w0 w) (h : RefTo w0.heap.size q i w r t' e w') : e = .returned r ∧ Half w0 w' p q s t' := by
  obtain ⟨g', he, h1, h2, h3⟩ := h
  obtain ⟨n1, n2, n3⟩ := box_ne hd hr
  refine ⟨he, ⟨g, g', hd.moved h2 (fun hs => ?_) (fun k hk hs => ?_), h1, fun k hk hi => ?_⟩, h0.trans ((moved_ownR hr h2 fun _ h => h).old h0.size)⟩
  · rcases hs with h | h
    · exact n1 h
    · exact n3 h
  · rcases hs with h | h
    · exact n2 (by rw [hk, h])
    · exact hn k hk h
  · rcases h3 k hi with h | h
    · exact hn k hk h
    · have := (hd.row k hk).2.1
      omega

theorem append_p (h : Half w0 w p q s s) (ao : Option Addr) (m c : Nat) (b : List Int) (hm : b.length = m) (hb : Byt w ao b) (hbb : Bytes b) (hap : ∀ k o, ao = some ⟨k, o, none⟩ → k ≠ p) (hlen : m ≤ 1000000) :
    Calls Try.prog 15 #[.pointer (some ⟨p, 0, none⟩), .slice ao m c] w fun e w' => e = .returned (.int .i64 (appendF s b).1) ∧ Half w0 w' p q (appendF s b).2 s := by
  obtain ⟨⟨g, i, hd, hr, hn⟩, h0⟩ := h
  exact (append_any _ p g s w hd ao m c b hm hb hbb hap hlen h0.size).mono fun _ _ h => half_disk hd hr hn h0 h
theorem appendR_p {t : DS} (h : Half w0 w p q t s) (ao : Option Addr) (m c : Nat) (b : List Int) (hm : b.length = m) (hb : Byt w ao b) (hbb : Bytes b) (hap : ∀ k o, ao = some ⟨k, o, none⟩ → k ≠ q) (hlen : m ≤ 1000000) :
    Calls Try.prog 38 #[.pointer (some ⟨q, 0, none⟩), .slice ao m c] w fun e w' => e = .returned (.int .i64 (appendF s b).1) ∧ Half w0 w' p q t (appendF s b).2 := by
  obtain ⟨⟨g, i, hd, hr, hn⟩, h0⟩ := h
  exact (appendR_any _ q i s w hr ao m c b hm hb hbb hap hlen).mono fun _ _ h => half_ref hd hr hn h0 h
theorem sync_p (h : Half w0 w p q s s) :
    Calls Try.prog 16 #[.pointer (some ⟨p, 0, none⟩)] w fun e w' => e = .returned (.int .i64 (syncF s).1) ∧ Half w0 w' p q (syncF s).2 s := by
  obtain ⟨⟨g, i, hd, hr, hn⟩, h0⟩ := h
  exact (sync_any _ p g s w hd).mono fun _ _ h => half_disk hd hr hn h0 h
theorem syncR_p {t : DS} (h : Half w0 w p q t s) :
    Calls Try.prog 39 #[.pointer (some ⟨q, 0, none⟩)] w fun e w' => e = .returned (.int .i64 (syncF s).1) ∧ Half w0 w' p q t (syncF s).2 := by
  obtain ⟨⟨g, i, hd, hr, hn⟩, h0⟩ := h
  exact (syncR_any _ q i s w hr).mono fun _ _ h => half_ref hd hr hn h0 h
theorem trunc_p (h : Half w0 w p q s s) (n : Int) :
    Calls Try.prog 26 #[.pointer (some ⟨p, 0, none⟩), .int .i64 n] w fun e w' => e = .returned (.int .i64 (truncF s n).1) ∧ Half w0 w' p q (truncF s n).2 s := by
  obtain ⟨⟨g, i, hd, hr, hn⟩, h0⟩ := h
  exact (trunc_any _ p g s n w hd).mono fun _ _ h => half_disk hd hr hn h0 h
theorem truncR_p {t : DS} (h : Half w0 w p q t s) (n : Int) :
    Calls Try.prog 40 #[.pointer (some ⟨q, 0, none⟩), .int .i64 n] w fun e w' => e = .returned (.int .i64 (truncF s n).1) ∧ Half w0 w' p q t (truncF s n).2 := by
  obtain ⟨⟨g, i, hd, hr, hn⟩, h0⟩ := h
  exact (truncR_any _ q i s n w hr).mono fun _ _ h => half_ref hd hr hn h0 h
theorem cut_p (h : Half w0 w p q s s) (n : Int) (hk : n ≤ 9223372036854775807) :
    Calls Try.prog 25 #[.pointer (some ⟨p, 0, none⟩), .int .i64 n] w fun e w' => e = .returned (.tuple #[]) ∧ Half w0 w' p q (cutF s n) s := by
  obtain ⟨⟨g, i, hd, hr, hn⟩, h0⟩ := h
  exact (cut_any _ p g s n w hd hk).mono fun _ _ ⟨he, h1, h2⟩ => half_disk hd hr hn h0 ⟨g, he, h1, h2.mono fun _ _ h => .inl h, gto_same _ _⟩
theorem cutR_p {t : DS} (h : Half w0 w p q t s) (n : Int) (hk : n ≤ 9223372036854775807) :
    Calls Try.prog 41 #[.pointer (some ⟨q, 0, none⟩), .int .i64 n] w fun e w' => e = .returned (.tuple #[]) ∧ Half w0 w' p q t (cutF s n) := by
  obtain ⟨⟨g, i, hd, hr, hn⟩, h0⟩ := h
  exact (cutR_any _ q i s n w hr hk).mono fun _ _ ⟨he, h1, h2⟩ => half_ref hd hr hn h0 ⟨i, he, h1, h2.mono fun _ _ h => .inl h, gto_same _ _⟩
end
end Go.Proofs.Ytkbdbinafjmjkaa
