/-
  The disk in plain words: its state, what each operation makes of it. No program is in sight here.
-/
import Derived.WalkKit
import Derived.Handy
namespace Go.Proofs.Ytkbdbinafjmjkaa
open Go.RowKit

/-- The state of a disk: its room, its bytes, how many of them are durable, the operations so far, and, if the power was cut, how many operations may still take place. -/
structure DS where
  room : Int
  bs : List Int
  dur : Nat
  ops : Int
  cut : Option Nat

def live (s : DS) : Bool := s.cut != some 0
def begun (s : DS) : DS := { s with ops := wrap64 (s.ops + 1), cut := s.cut.map (· - 1) }
/-- What an operation answers and leaves. -/
def appendF (s : DS) (b : List Int) : Int × DS :=
  if live s then (if s.room - s.bs.length < b.length then (43, begun s) else (0, { begun s with bs := s.bs ++ b })) else (42, begun s)
def truncF (s : DS) (n : Int) : Int × DS :=
  if live s then (if n < 0 ∨ (s.bs.length : Int) < n then (1, begun s) else (0, { begun s with bs := s.bs.take n.toNat, dur := min s.dur n.toNat })) else (42, begun s)
def syncF (s : DS) : Int × DS := if live s then (0, { begun s with dur := s.bs.length }) else (42, begun s)
def cutF (s : DS) (n : Int) : DS := if live s then { s with cut := some n.toNat } else s

/-- A byte that is combined with 85. -/
def flipB (x : Int) : Int := bits .xor .u8 x 85
/-- The last byte of a list is combined with 85. -/
def flipLast (l : List Int) : List Int := l.set (l.length - 1) (flipB (l.getD (l.length - 1) 0))
/-- How many bytes that are not durable survive a crash. -/
def keptOf (s : DS) (keep : Int) : Nat := (keep % ((s.bs.length - s.dur + 1 : Nat) : Int)).toNat
def crashB (s : DS) (keep flip : Int) : List Int :=
  if 0 < keptOf s keep ∧ flip % 2 ≠ 0 then flipLast (s.bs.take (s.dur + keptOf s keep)) else s.bs.take (s.dur + keptOf s keep)
def crashF (s : DS) (keep flip : Int) : DS := { room := s.room, bs := crashB s keep flip, dur := (crashB s keep flip).length, ops := 0, cut := none }

/-- A list of bytes. -/
def Bytes (l : List Int) : Prop := ∀ x ∈ l, 0 ≤ x ∧ x ≤ 255

/-- A state that a disk can be in. -/
structure DOk (s : DS) : Prop where
  room0 : 0 ≤ s.room
  room1 : s.room ≤ 262144
  len : (s.bs.length : Int) ≤ s.room
  dur : s.dur ≤ s.bs.length
  cut : ∀ k, s.cut = some k → k ≤ 9223372036854775807
  bytes : Bytes s.bs

theorem begun_ok {s : DS} (h : DOk s) : DOk (begun s) := by
  obtain ⟨h1, h2, h3, h4, h5, h6⟩ := h
  refine ⟨h1, h2, h3, h4, fun k hk => ?_, h6⟩
  simp only [begun] at hk
  cases hc : s.cut with
  | none => rw [hc] at hk; cases hk
  | some j =>
    rw [hc] at hk
    have := h5 j hc
    simp at hk
    omega

theorem live_begun (s : DS) : (begun s).bs = s.bs ∧ (begun s).room = s.room ∧ (begun s).dur = s.dur := ⟨rfl, rfl, rfl⟩

theorem append_ok {s : DS} {b : List Int} (h : DOk s) (hb : Bytes b) : DOk (appendF s b).2 := by
  have hk := begun_ok h
  unfold appendF
  split
  · split
    · exact hk
    · obtain ⟨h1, h2, h3, h4, h5, h6⟩ := hk
      refine ⟨h1, h2, ?_, ?_, h5, ?_⟩
      · simp only [begun, List.length_append] at *; omega
      · simp only [begun, List.length_append] at *; omega
      · intro x hx
        rcases List.mem_append.1 hx with hx | hx
        · exact h6 x hx
        · exact hb x hx
  · exact hk

theorem bytes_take {l : List Int} (h : Bytes l) (n : Nat) : Bytes (l.take n) := fun x hx => h x (List.mem_of_mem_take hx)

theorem trunc_ok {s : DS} {n : Int} (h : DOk s) : DOk (truncF s n).2 := by
  have hk := begun_ok h
  unfold truncF
  split
  · split
    · exact hk
    · obtain ⟨h1, h2, h3, h4, h5, h6⟩ := hk
      refine ⟨h1, h2, ?_, ?_, h5, bytes_take h6 _⟩
      · simp only [begun, List.length_take] at *; omega
      · simp only [begun, List.length_take] at *; omega
  · exact hk

theorem sync_ok {s : DS} (h : DOk s) : DOk (syncF s).2 := by
  have hk := begun_ok h
  unfold syncF
  split
  · obtain ⟨h1, h2, h3, h4, h5, h6⟩ := hk
    exact ⟨h1, h2, h3, Nat.le_refl _, h5, h6⟩
  · exact hk

theorem cut_ok {s : DS} {n : Int} (h : DOk s) (hn : n ≤ 9223372036854775807) : DOk (cutF s n) := by
  unfold cutF
  split
  · obtain ⟨h1, h2, h3, h4, h5, h6⟩ := h
    refine ⟨h1, h2, h3, h4, fun k hk => ?_, h6⟩
    cases hk
    omega
  · exact h

theorem flipB_bd (x : Int) : 0 ≤ flipB x ∧ flipB x ≤ 255 := by
  unfold flipB bits
  rw [IntKind.wrap_u8]
  omega

theorem flipLast_length (l : List Int) : (flipLast l).length = l.length := by simp [flipLast]

theorem bytes_flip {l : List Int} (h : Bytes l) : Bytes (flipLast l) := by
  intro x hx
  rcases List.mem_or_eq_of_mem_set hx with hx | rfl
  · exact h x hx
  · exact flipB_bd _

theorem kept_le {s : DS} (keep : Int) : keptOf s keep ≤ s.bs.length - s.dur := by
  unfold keptOf
  have := Int.emod_lt_of_pos keep (show (0 : Int) < ((s.bs.length - s.dur + 1 : Nat) : Int) by omega)
  omega

theorem crashB_length {s : DS} (h : DOk s) (keep flip : Int) : (crashB s keep flip).length = s.dur + keptOf s keep := by
  have h1 := kept_le (s := s) keep
  have h2 := h.dur
  unfold crashB
  split
  · rw [flipLast_length, List.length_take]; omega
  · rw [List.length_take]; omega

theorem crash_ok {s : DS} (h : DOk s) (keep flip : Int) : DOk (crashF s keep flip) := by
  have h1 := kept_le (s := s) keep
  have h2 := crashB_length h keep flip
  have h3 := h.dur
  have h4 := h.len
  refine ⟨h.room0, h.room1, ?_, Nat.le_refl _, (fun k hk => by cases hk), ?_⟩
  · simp only [crashF]; omega
  · simp only [crashF, crashB]
    split
    · exact bytes_flip (bytes_take h.bytes _)
    · exact bytes_take h.bytes _

end Go.Proofs.Ytkbdbinafjmjkaa
