/-
  step does the same to a disk and its model, and says true.
-/
import Derived.Test.YtkbdbinafjmjkaaDPlays0
import Derived.Deep.DeepMust
namespace Go.Proofs.Ytkbdbinafjmjkaa
open Go.RowKit

/-- The bytes that step appends. -/
def stepBytes (n : Nat) (c : Int) : List Int := (List.range n).map fun (i : Nat) => (c + (i : Int)) % 256
/-- What step makes of a state. -/
def stepF (s : DS) (x : Int × Int × Int) : DS :=
  if x.1 % 8 ≤ 2 then (appendF s (stepBytes (x.2.1 % 7).toNat x.2.2)).2
  else if x.1 % 8 ≤ 4 then (syncF s).2
  else if x.1 % 8 = 5 then (truncF s (x.2.1 % 40 - 2)).2
  else if x.1 % 8 = 6 then cutF s (x.2.1 - 3)
  else s

theorem stepBytes_length (n : Nat) (c : Int) : (stepBytes n c).length = n := by simp [stepBytes]
theorem stepBytes_ok (n : Nat) (c : Int) : Bytes (stepBytes n c) := fun x hx => by
  obtain ⟨i, _, rfl⟩ := List.mem_map.1 hx
  omega

def stepRow (n k : Nat) (c : Int) : Array Value := (bcells (stepBytes k c) ++ List.replicate (n - k) (Value.int .u8 0)).toArray
theorem stepRow_zero (n : Nat) (c : Int) : madeCells #[(Value.int .u8 0)] n = stepRow n 0 c := by
  apply Array.toList_inj.1
  rw [toList_madeCells_one]
  simp [stepRow, stepBytes, bcells]
theorem stepRow_next (n k : Nat) (c : Int) (h : k < n) : (stepRow n k c).setIfInBounds k (.int .u8 ((c + (k : Int)) % 256)) = stepRow n (k + 1) c := by
  have hl : (bcells (stepBytes k c)).length = k := by rw [bcells_length, stepBytes_length]
  obtain ⟨m, hm⟩ : ∃ m, n - k = m + 1 := ⟨n - k - 1, by omega⟩
  have hm2 : n - (k + 1) = m := by omega
  unfold stepRow
  rw [hm, hm2, List.replicate_succ]
  apply Array.toList_inj.1
  simp only [Array.toList_setIfInBounds]
  rw [List.set_append_right _ _ (by omega), hl, Nat.sub_self, List.set_cons_zero]
  simp [stepBytes, bcells, List.range_succ]
theorem stepRow_full (n : Nat) (c : Int) : stepRow n n c = (bcells (stepBytes n c)).toArray := by simp [stepRow]
theorem stepRow_get (n k : Nat) (c : Int) (h : k < n) : ∃ v, (stepRow n k c)[k]? = some v := by
  have hl : k < (stepRow n k c).size := by simp [stepRow, bcells_length, stepBytes_length]; omega
  exact ⟨_, Array.getElem?_eq_getElem hl⟩


theorem byt_box {w : World} {b : Nat} {t : TypeId} {bs : List Int} (h : Box w b t (bcells bs).toArray) : Byt w (some ⟨b, 0, none⟩) bs := by
  refine .inr ⟨b, 0, rfl, h.lt, fun i hi => ?_⟩
  rw [h.cell]
  simpa using bcells_get bs i hi

/-- Append out of a row that was made later than the disks; the row is as it was. -/
theorem append_row {w0 w W : World} {p q r : Nat} {s : DS} {b : List Int} (h : Pair w0 w p q s) (hW : Below w.heap.size w W) (hr : w.heap.size ≤ r) (hx : Box W r 5 (bcells b).toArray) (m : Nat) (hm : b.length = m) (hbb : Bytes b) (hlen : m ≤ 1000000) :
    Calls Try.prog 15 #[.pointer (some ⟨p, 0, none⟩), .slice (some ⟨r, 0, none⟩) m m] W fun e w' => e = .returned (.int .i64 (appendF s b).1) ∧ Half w0 w' p q (appendF s b).2 s ∧ Box w' r 5 (bcells b).toArray := by
  obtain ⟨⟨g, i, hd, hi, hn⟩, h0⟩ := h
  have hp := hd.lt.2
  have h0W : Below w0.heap.size w0 W := h0.trans (hW.mono h0.size)
  refine (append_any _ p g s W (hd.next hW) (some ⟨r, 0, none⟩) m m b hm (byt_box hx) hbb (fun k o ho => ?_) hlen h0W.size).mono fun e w' h => ?_
  · cases ho
    omega
  · have hh := half_disk (hd.next hW) (hi.next hW) hn h0W h
    obtain ⟨g', he, h1, h2, h3⟩ := h
    refine ⟨hh.1, hh.2, hx.moved h2 fun hs => ?_⟩
    rcases hs with rfl | h
    · omega
    · have := (hd.row r h).2.1
      omega

set_option maxHeartbeats 1000000 in
theorem step_append (w0 w : World) (p q : Nat) (s : DS) (a b c : Int) (h : Pair w0 w p q s) (a0 : 0 ≤ a) (a1 : a ≤ 255) (b0 : 0 ≤ b) (b1 : b ≤ 255) (ha : a % 8 ≤ 2) :
    Calls Try.prog 22 #[.pointer (some ⟨p, 0, none⟩), .pointer (some ⟨q, 0, none⟩), .agg #[.int .u8 a, .int .u8 b, .int .u8 c]] w fun e w' => e = .returned (.bool true) ∧ Pair w0 w' p q (appendF s (stepBytes (b % 7).toNat c)).2 := by
  obtain ⟨n, hn⟩ : ∃ n : Nat, b % 7 = n := ⟨(b % 7).toNat, by omega⟩
  have hn6 : n ≤ 6 := by omega
  have hnn : (b % 7).toNat = n := by omega
  rw [hnn]
  obtain ⟨r, hr⟩ : ∃ r : Int, a % 8 = r := ⟨_, rfl⟩
  rw [hr] at ha
  have hr0 : 0 ≤ r := by omega
  have hmk := make_bytes n (by omega)
  have HP := Lib.hid h
  have hl := h.lt
  have hside : r = 0 ∨ r = 1 ∨ r = 2 := by omega
  clear h hnn
  rcases hside with rfl | rfl | rfl
  all_goals
    go_enter Try.func22, Try.ntmps22
    go_wp2_with fail
    go_loopw [25] (fun i wr => ∃ k : Nat, k ≤ n ∧ i = .int .i64 k ∧ Box wr w.heap.size 29 #[.int .u8 a, .int .u8 b, .int .u8 c] ∧ Box wr (w.heap.size + 1) 5 (stepRow n k c) ∧ Below w.heap.size w wr) (fun i _ => n - (intOf i).toNat)
    case atStart =>
      have b1 : Box ((w.alloc (.cells #[.int .u8 a, .int .u8 b, .int .u8 c] 29)).alloc (.cells (madeCells #[(Value.int .u8 0)] n) 5)) w.heap.size 29 #[.int .u8 a, .int .u8 b, .int .u8 c] := (Box.new w _ _).next ((Below.refl _ _).alloc (Nat.le_refl _) _)
      have b2 : Box ((w.alloc (.cells #[.int .u8 a, .int .u8 b, .int .u8 c] 29)).alloc (.cells (madeCells #[(Value.int .u8 0)] n) 5)) (w.heap.size + 1) 5 (madeCells #[(Value.int .u8 0)] n) := by
        have := Box.new (w.alloc (.cells #[.int .u8 a, .int .u8 b, .int .u8 c] 29)) 5 (madeCells #[(Value.int .u8 0)] n)
        simpa using this
      refine ⟨0, Nat.zero_le _, rfl, ?_, ?_, by go_grown⟩
      · exact b1
      · exact cast (congrArg (Box _ (w.heap.size + 1) _) (stepRow_zero n c)) b2
    case round =>
      obtain ⟨k, hk, rfl, hbx, hrow, hb⟩ := hrel
      have x2 := hbx.cell 2
      by_cases hlt : k < n
      · obtain ⟨v, hv⟩ := stepRow_get n k c hlt
        have r1 := hrow.cell k
        rw [hv] at r1
        have r2 := hrow.frozen k
        have HB := Lib.hid hb
        have HX := Lib.hid hbx
        have HR := Lib.hid hrow
        have hkn : (k : Int) < (n : Int) := by omega
        have hk0 : (0 : Int) ≤ (k : Int) := by omega
        clear hb hbx hrow hv
        go_wp2_with fail
        go_roundw
        case rel =>
          refine ⟨k + 1, hlt, by simp, ?_, ?_, ?_⟩
          · exact HX.out.moved (Moved.setCell _ _ _ _) (by omega)
          · have := HR.out.set k (.int .u8 ((c + (k : Int)) % 256))
            rw [stepRow_next n k c hlt] at this
            exact this
          · exact HB.out.setCell (by simp) _
        case measure => simp [intOf]; omega
      · obtain rfl : k = n := by omega
        rw [stepRow_full] at hrow
        have HB := Lib.hid hb
        have HR := Lib.hid hrow
        have hlm : k ≤ 1000000 := by omega
        have HA := Lib.hid (append_row HP.out hb (Nat.le_succ _) hrow k (stepBytes_length _ _) (stepBytes_ok _ _) hlm)
        clear hb hbx hrow hlt
        go_wp2_with (first
          | (go_at_call 15
             go_must (refine HA.out.mono ?_)
             rintro e w1 ⟨rfl, hh, hx1⟩
             have HH := Lib.hid hh
             have HX1 := Lib.hid hx1)
          | (go_at_call 38
             go_must (refine (appendR_p HH.out (some ⟨w.heap.size + 1, 0, none⟩) k k (stepBytes k c) (stepBytes_length _ _) (byt_box HX1.out) (stepBytes_ok _ _) (fun _ o ho => by cases ho; omega) hlm).mono ?_)
             rintro e w2 ⟨rfl, hh2⟩
             have HH2 := Lib.hid hh2))
        go_ret
        exact ⟨rfl, HH2.out⟩

set_option maxHeartbeats 1000000 in
theorem step_sync (w0 w : World) (p q : Nat) (s : DS) (a b c : Int) (h : Pair w0 w p q s) (a0 : 0 ≤ a) (a1 : a ≤ 255) (ha : a % 8 = 3 ∨ a % 8 = 4) :
    Calls Try.prog 22 #[.pointer (some ⟨p, 0, none⟩), .pointer (some ⟨q, 0, none⟩), .agg #[.int .u8 a, .int .u8 b, .int .u8 c]] w fun e w' => e = .returned (.bool true) ∧ Pair w0 w' p q ((syncF s).2) := by
  have hb3 : Below w.heap.size w (w.alloc (.cells #[.int .u8 a, .int .u8 b, .int .u8 c] 29)) := (Below.refl _ _).alloc (Nat.le_refl _) _
  have HP := Lib.hid (half_of (h.next hb3))
  obtain ⟨r, hr⟩ : ∃ r : Int, a % 8 = r := ⟨_, rfl⟩
  rw [hr] at ha
  rcases ha with rfl | rfl
  clear h hb3
  all_goals
    go_enter Try.func22, Try.ntmps22
    go_wp2_with (first
      | (go_at_call 16
         go_must (refine (sync_p HP.out).mono ?_)
         rintro e w1 ⟨rfl, hh⟩
         have HH := Lib.hid hh)
      | (go_at_call 39
         go_must (refine (syncR_p HH.out).mono ?_)
         rintro e w2 ⟨rfl, hh2⟩
         have HH2 := Lib.hid hh2))
    go_ret
    exact ⟨rfl, HH2.out⟩

set_option maxHeartbeats 1000000 in
theorem step_trunc (w0 w : World) (p q : Nat) (s : DS) (a b c : Int) (h : Pair w0 w p q s) (a0 : 0 ≤ a) (a1 : a ≤ 255) (b0 : 0 ≤ b) (b1 : b ≤ 255) (ha : a % 8 = 5) :
    Calls Try.prog 22 #[.pointer (some ⟨p, 0, none⟩), .pointer (some ⟨q, 0, none⟩), .agg #[.int .u8 a, .int .u8 b, .int .u8 c]] w fun e w' => e = .returned (.bool true) ∧ Pair w0 w' p q ((truncF s (b % 40 - 2)).2) := by
  have hb3 : Below w.heap.size w (w.alloc (.cells #[.int .u8 a, .int .u8 b, .int .u8 c] 29)) := (Below.refl _ _).alloc (Nat.le_refl _) _
  have HP := Lib.hid (half_of (h.next hb3))
  obtain ⟨r, hr⟩ : ∃ r : Int, a % 8 = r := ⟨_, rfl⟩
  rw [hr] at ha
  obtain ⟨m, hm⟩ : ∃ m : Int, b % 40 = m := ⟨_, rfl⟩
  have m0 : 0 ≤ m := by omega
  have m1 : m < 40 := by omega
  rw [hm]
  subst ha
  clear h hb3
  all_goals
    go_enter Try.func22, Try.ntmps22
    go_wp2_with (first
      | (go_at_call 26
         go_must (refine (trunc_p HP.out (m - 2)).mono ?_)
         rintro e w1 ⟨rfl, hh⟩
         have HH := Lib.hid hh)
      | (go_at_call 40
         go_must (refine (truncR_p HH.out (m - 2)).mono ?_)
         rintro e w2 ⟨rfl, hh2⟩
         have HH2 := Lib.hid hh2))
    go_ret
    exact ⟨rfl, HH2.out⟩

set_option maxHeartbeats 1000000 in
theorem step_cut (w0 w : World) (p q : Nat) (s : DS) (a b c : Int) (h : Pair w0 w p q s) (a0 : 0 ≤ a) (a1 : a ≤ 255) (b0 : 0 ≤ b) (b1 : b ≤ 255) (ha : a % 8 = 6) :
    Calls Try.prog 22 #[.pointer (some ⟨p, 0, none⟩), .pointer (some ⟨q, 0, none⟩), .agg #[.int .u8 a, .int .u8 b, .int .u8 c]] w fun e w' => e = .returned (.bool true) ∧ Pair w0 w' p q (cutF s (b - 3)) := by
  have hb3 : Below w.heap.size w (w.alloc (.cells #[.int .u8 a, .int .u8 b, .int .u8 c] 29)) := (Below.refl _ _).alloc (Nat.le_refl _) _
  have HP := Lib.hid (half_of (h.next hb3))
  obtain ⟨r, hr⟩ : ∃ r : Int, a % 8 = r := ⟨_, rfl⟩
  rw [hr] at ha
  have hcut : b - 3 ≤ 9223372036854775807 := by omega
  subst ha
  clear h hb3
  all_goals
    go_enter Try.func22, Try.ntmps22
    go_wp2_with (first
      | (go_at_call 25
         go_must (refine (cut_p HP.out (b - 3) hcut).mono ?_)
         rintro e w1 ⟨rfl, hh⟩
         have HH := Lib.hid hh)
      | (go_at_call 41
         go_must (refine (cutR_p HH.out (b - 3) hcut).mono ?_)
         rintro e w2 ⟨rfl, hh2⟩
         have HH2 := Lib.hid hh2))
    go_ret
    exact ⟨rfl, HH2.out⟩

set_option maxHeartbeats 1000000 in
theorem step_none (w0 w : World) (p q : Nat) (s : DS) (a b c : Int) (h : Pair w0 w p q s) (a0 : 0 ≤ a) (a1 : a ≤ 255) (ha : a % 8 = 7) :
    Calls Try.prog 22 #[.pointer (some ⟨p, 0, none⟩), .pointer (some ⟨q, 0, none⟩), .agg #[.int .u8 a, .int .u8 b, .int .u8 c]] w fun e w' => e = .returned (.bool true) ∧ Pair w0 w' p q s := by
  have hb3 : Below w.heap.size w (w.alloc (.cells #[.int .u8 a, .int .u8 b, .int .u8 c] 29)) := (Below.refl _ _).alloc (Nat.le_refl _) _
  have HP := Lib.hid (h.next hb3)
  clear h hb3
  go_enter Try.func22, Try.ntmps22
  go_wp2_with fail
  go_ret
  exact ⟨rfl, HP.out⟩

theorem step_any (w0 w : World) (p q : Nat) (s : DS) (a b c : Int) (h : Pair w0 w p q s) (a0 : 0 ≤ a) (a1 : a ≤ 255) (b0 : 0 ≤ b) (b1 : b ≤ 255) :
    Calls Try.prog 22 #[.pointer (some ⟨p, 0, none⟩), .pointer (some ⟨q, 0, none⟩), .agg #[.int .u8 a, .int .u8 b, .int .u8 c]] w fun e w' => e = .returned (.bool true) ∧ Pair w0 w' p q (stepF s (a, b, c)) := by
  by_cases h1 : a % 8 ≤ 2
  · rw [show stepF s (a, b, c) = (appendF s (stepBytes (b % 7).toNat c)).2 by simp [stepF, h1]]
    exact step_append w0 w p q s a b c h a0 a1 b0 b1 h1
  · by_cases h2 : a % 8 ≤ 4
    · rw [show stepF s (a, b, c) = (syncF s).2 by simp [stepF, h1, h2]]
      exact step_sync w0 w p q s a b c h a0 a1 (by omega)
    · by_cases h3 : a % 8 = 5
      · rw [show stepF s (a, b, c) = (truncF s (b % 40 - 2)).2 by simp [stepF, h3]]
        exact step_trunc w0 w p q s a b c h a0 a1 b0 b1 h3
      · by_cases h4 : a % 8 = 6
        · rw [show stepF s (a, b, c) = cutF s (b - 3) by simp [stepF, h4]]
          exact step_cut w0 w p q s a b c h a0 a1 b0 b1 h4
        · rw [show stepF s (a, b, c) = s by simp [stepF, h1, h2, h3, h4]]
          exact step_none w0 w p q s a b c h a0 a1 (by omega)
end Go.Proofs.Ytkbdbinafjmjkaa
