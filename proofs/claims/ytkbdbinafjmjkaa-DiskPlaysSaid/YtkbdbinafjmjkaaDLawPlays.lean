/-
  DiskPlays returns true for every input, and turns nothing that was there.
-/
import Derived.Test.YtkbdbinafjmjkaaDStep
import Derived.Test.YtkbdbinafjmjkaaDAwake
namespace Go.Proofs.Ytkbdbinafjmjkaa
open Go.RowKit

/-- alike says true of a pair. -/
def AlikeSays : Prop := ∀ (w0 w : World) (p q : Nat) (s : DS), Pair w0 w p q s →
    Calls Try.prog 23 #[.pointer (some ⟨p, 0, none⟩), .pointer (some ⟨q, 0, none⟩)] w fun e w' => e = .returned (.bool true) ∧ Below w.heap.size w w'

theorem pair_new {w w1 w2 : World} {p q : Nat} {s : DS} (hd : DiskIs w1 w.heap.size p none s) (hb : Below w.heap.size w w1) (hr : RefIs w2 w1.heap.size q none s) (hb2 : Below w1.heap.size w1 w2) : Pair w w2 p q s :=
  ⟨⟨none, none, hd.next hb2, hr.base hb.size, fun _ h => by cases h⟩, hb.trans (hb2.mono hb.size)⟩

theorem pair_made {w w1 w2 : World} {p q : Nat} {s : DS} {g h : Option Nat} (hd : DiskIs w1 w.heap.size p g s) (hb : Below w.heap.size w w1) (hr : RefIs w2 w1.heap.size q h s) (hb2 : Below w1.heap.size w1 w2) : Pair w w2 p q s :=
  ⟨⟨g, h, hd.next hb2, hr.base hb.size, fun k hk hi => by
    have h1 := (hd.row k hk).2.1
    have h2 := (hr.row k hi).1
    omega⟩, hb.trans (hb2.mono hb.size)⟩

/-- Crash of a disk, and then of its model: the first half. -/
def Fell (w w' : World) (x : Nat) (t : DS) : Prop := (∃ g, DiskIs w' w.heap.size x g t) ∧ Below w.heap.size w w'

theorem crash_fell {w0 w : World} {p q : Nat} {s : DS} (h : Pair w0 w p q s) (keep flip : Int) :
    Calls Try.prog 18 #[.pointer (some ⟨p, 0, none⟩), .int .i64 keep, .int .i64 flip] w fun e w' => ∃ x, e = .returned (.pointer (some ⟨x, 0, none⟩)) ∧ Fell w w' x (crashF s keep flip) := by
  obtain ⟨⟨g, i, hd, hr, hn⟩, h0⟩ := h
  exact (crash_any _ p g s keep flip w hd).mono fun _ _ ⟨x, g', he, h1, h2⟩ => ⟨x, he, ⟨g', h1⟩, h2⟩
theorem crashR_fell {w0 v w : World} {p q x : Nat} {s t : DS} (h : Pair w0 v p q s) (hf : Fell v w x t) (keep flip : Int) (ht : t = crashF s keep flip) :
    Calls Try.prog 24 #[.pointer (some ⟨q, 0, none⟩), .int .i64 keep, .int .i64 flip] w fun e w' => ∃ y, e = .returned (.pointer (some ⟨y, 0, none⟩)) ∧ Pair v w' x y t ∧ Pair w0 w' p q s := by
  obtain ⟨⟨g', hx⟩, hb⟩ := hf
  have h2 := h.next hb
  obtain ⟨⟨g, i, hd, hr, hn⟩, h0⟩ := h2
  subst ht
  exact (crashR_any _ q i s keep flip w hr).mono fun _ w' ⟨y, g2, he, h1, h3⟩ => ⟨y, he, pair_made hx hb h1 h3, Pair.next ⟨⟨g, i, hd, hr, hn⟩, h0⟩ h3⟩

/-- A triple that lies among others, read. -/
theorem trip_at {w W : World} {so : Option Addr} {ss : List (Int × Int × Int)} (hs : LiesAt w so 3 ss.length (tripCell ss)) (hsr : ∀ i, TripOk (ss.getD i (0, 0, 0))) (hb : Below w.heap.size w W) (k : Nat) (hk : k < ss.length) :
    ∃ b off a x c, so = some ⟨b, off, none⟩ ∧ W.cell? ⟨b, off + k * 3, none⟩ = some (.int .u8 a) ∧ W.cell? ⟨b, off + k * 3 + 1, none⟩ = some (.int .u8 x) ∧ W.cell? ⟨b, off + k * 3 + 2, none⟩ = some (.int .u8 c) ∧ 0 ≤ a ∧ a ≤ 255 ∧ 0 ≤ x ∧ x ≤ 255 ∧ b < w.heap.size := by
  rcases hs with h0 | ⟨b, off, rfl, hbw, hc⟩
  · omega
  have hcr : ∀ j, j < 3 → W.cell? ⟨b, off + k * 3 + j, none⟩ = some (tripCell ss k j) := fun j hj => by
    rw [hb.cell (p := ⟨b, off + k * 3 + j, none⟩) hbw]; exact hc k hk j hj
  obtain ⟨⟨x00, x01⟩, ⟨x10, x11⟩, -⟩ := hsr k
  exact ⟨b, off, _, _, _, rfl, hcr 0 (by omega), hcr 1 (by omega), hcr 2 (by omega), x00, x01, x10, x11, hbw⟩

set_option maxRecDepth 100000 in
set_option maxHeartbeats 2000000 in
theorem diskPlays_walk (hal : AlikeSays) (so mo : Option Addr) (sc mc : Nat) (r : Int) (ss ms : List (Int × Int × Int)) (keep flip : Int) (w : World) (r0 : 0 ≤ r) (r1 : r ≤ 255)
    (hs : LiesAt w so 3 ss.length (tripCell ss)) (hsr : ∀ i, TripOk (ss.getD i (0, 0, 0))) (hm : LiesAt w mo 3 ms.length (tripCell ms)) (hmr : ∀ i, TripOk (ms.getD i (0, 0, 0))) :
    Calls Try.prog 5 #[.int .u8 r, .slice so ss.length sc, .int .i64 keep, .int .i64 flip, .slice mo ms.length mc] w fun e w' => e = .returned (.bool true) ∧ Below w.heap.size w w' := by
  have HS : Hid (∀ W, Below w.heap.size w W → ∀ k, k < ss.length → _) := fun W hW k hk => trip_at hs hsr hW k hk
  have HM : Hid (∀ W, Below w.heap.size w W → ∀ k, k < ms.length → _) := fun W hW k hk => trip_at hm hmr hW k hk
  have HAL := Lib.hid hal
  clear hs hsr hm hmr hal
  obtain ⟨R, hR⟩ : ∃ R : Int, r % 60 = R := ⟨_, rfl⟩
  have hR0 : 0 ≤ R := by omega
  have hR1 : R ≤ 262144 := by omega
  go_enter Try.func5, Try.ntmps5
  go_wp2_with (first
    | (go_at_call 14
       go_must (refine (new_any R _ hR0 hR1).mono ?_)
       rintro e w1 ⟨rfl, hd1, hb1⟩
       have HD1 := Lib.hid (And.intro hd1 hb1)
       clear hd1 hb1)
    | (go_at_call 21
       go_must (refine (newR_any R _ hR0 hR1).mono ?_)
       rintro e w2 ⟨rfl, hd2, hb2⟩
       have HP2 := Lib.hid (pair_new HD1.out.1 HD1.out.2 hd2 hb2)
       clear hd2 hb2))
  clear HD1
  go_loopw [15] (fun i wr => ∃ (k : Nat) (s : DS), k ≤ ss.length ∧ k ≤ 40 ∧ i = .int .i64 k ∧ Pair w wr w.heap.size w1.heap.size s) (fun i _ => 40 - (intOf i).toNat)
  case atStart => exact ⟨0, newD R, Nat.zero_le _, by omega, rfl, HP2.out⟩
  case round =>
    clear HP2
    obtain ⟨k, s, hk, hk40, rfl, hp⟩ := hrel
    have HP := Lib.hid hp
    by_cases hlt : k < ss.length ∧ k < 40
    · obtain ⟨hlt, h40⟩ := hlt
      have hAll := HS.out wr hp.2 k hlt
      clear hp
      obtain ⟨b, off, a, x, c, rfl, hc0, hc1, hc2, a0, a1, x0, x1, hbw⟩ := hAll
      have hk0 : (0 : Int) ≤ (k : Int) := Int.natCast_nonneg _
      have hk1 : (k : Int) < (ss.length : Int) := by omega
      go_wp2_with (first
        | (go_at_call 22
           go_must (refine (step_any w _ _ _ s a x c HP.out a0 a1 x0 x1).mono ?_)
           rintro e w4 ⟨rfl, hp4⟩
           have HP4 := Lib.hid hp4
           clear hp4)
        | (go_at_call 23
           go_must (refine (HAL.out w _ _ _ _ HP4.out).mono ?_)
           rintro e w5 ⟨rfl, hb5⟩
           have HP5 := Lib.hid (HP4.out.next hb5)
           clear hb5))
      go_roundw
      case rel => exact ⟨k + 1, _, hlt, h40, by go_num, HP5.out⟩
      case measure => simp [intOf]; omega
    · have hside : ¬ k < ss.length ∨ k < ss.length ∧ ¬ k < 40 := by omega
      have hok := hp.ok
      clear hlt hp
      rcases hside with hside | ⟨hside, hside2⟩
      all_goals
        go_wp2_with fail
        refine (read_h HP.out.hold).mono ?_
        rintro e w6 ⟨g6, c6, rfl, hy6, -, hb6⟩
        have hcv6 := bytes_string c6 rfl hy6
        have HP6 := Lib.hid (HP.out.next hb6)
        clear hy6 hb6 HP
        go_wp2_with fail
        refine (crash_fell HP6.out keep flip).mono ?_
        rintro e w7 ⟨x7, rfl, hf7⟩
        have HF7 := Lib.hid hf7
        clear hf7 hcv6
        go_wp2_with fail
        refine (crashR_fell HP6.out HF7.out keep flip rfl).mono ?_
        rintro e w8 ⟨y8, rfl, hx8, hp8⟩
        have HX8 := Lib.hid hx8
        have HP8 := Lib.hid hp8
        clear hx8 hp8 HF7
        go_wp2_with fail
        refine (HAL.out _ _ _ _ _ HX8.out).mono ?_
        rintro e w9 ⟨rfl, hb9⟩
        have HX9 := Lib.hid (HX8.out.next hb9)
        have HP9 := Lib.hid (HP8.out.next hb9)
        clear hb9 HX8 HP8
        go_wp2_with fail
        refine (read_h HP9.out.hold).mono ?_
        rintro e w10 ⟨g10, c10, rfl, hy10, -, hb10⟩
        have hcv10 := bytes_string c10 rfl hy10
        have HX10 := Lib.hid (HX9.out.next hb10)
        have HP10 := Lib.hid (HP9.out.next hb10)
        clear hy10 hb10 HX9 HP9
        go_wp2_with fail
        clear hcv10
        refine (HAL.out _ _ _ _ _ HP10.out).mono ?_
        rintro e w11 ⟨rfl, hb11⟩
        have HX11 := Lib.hid (HX10.out.next hb11)
        have HP11 := Lib.hid (HP10.out.next hb11)
        clear hb11 HX10 HP10
        go_wp2_with fail
        obtain ⟨wo, rfl⟩ : ∃ wo : World, wo = wr := ⟨_, rfl⟩
        go_loopw [19] (fun i wr => ∃ (k : Nat) (t : DS), k ≤ ms.length ∧ k ≤ 20 ∧ i = .int .i64 k ∧ Pair w6 wr x7 y8 t) (fun i _ => 20 - (intOf i).toNat)
        case atStart => exact ⟨0, _, Nat.zero_le _, by omega, rfl, HX11.out⟩
        case round =>
          obtain ⟨k2, t, hk2, hk20, rfl, hx⟩ := hrel
          have hp := HP6.out.next hx.2
          clear HX11 HP11
          have HX := Lib.hid hx
          have HP := Lib.hid hp
          by_cases hlt : k2 < ms.length ∧ k2 < 20
          · obtain ⟨hlt, h20⟩ := hlt
            have hAll := HM.out wr hp.2 k2 hlt
            clear hp hx
            obtain ⟨b, off, a, x, c, rfl, hc0, hc1, hc2, a0, a1, x0, x1, hbw⟩ := hAll
            have hk0 : (0 : Int) ≤ (k2 : Int) := Int.natCast_nonneg _
            have hk1 : (k2 : Int) < (ms.length : Int) := by omega
            go_wp2_with (first
              | (go_at_call 22
                 go_must (refine (step_any w6 _ _ _ t a x c HX.out a0 a1 x0 x1).mono ?_)
                 rintro e w14 ⟨rfl, hp14⟩
                 have HP14 := Lib.hid hp14
                 clear hp14)
              | (go_at_call 23
                 go_must (refine (HAL.out w6 _ _ _ _ HP14.out).mono ?_)
                 rintro e w15 ⟨rfl, hb15⟩
                 have HP15 := Lib.hid (HP14.out.next hb15)
                 clear hb15))
            go_roundw
            case rel => exact ⟨k2 + 1, _, hlt, h20, by go_num, HP15.out⟩
            case measure => simp [intOf]; omega
          · have hside3 : ¬ k2 < ms.length ∨ k2 < ms.length ∧ ¬ k2 < 20 := by omega
            clear hlt hp hx HP6
            rcases hside3 with hs3 | ⟨hs3, hs4⟩
            all_goals
              go_wp2_with fail
              refine (crash_fell HX.out flip keep).mono ?_
              rintro e w17 ⟨x17, rfl, hf17⟩
              have HF17 := Lib.hid hf17
              clear hf17
              go_wp2_with fail
              refine (crashR_fell HX.out HF17.out flip keep rfl).mono ?_
              rintro e w18 ⟨y18, rfl, hx18, -⟩
              have HX18 := Lib.hid hx18
              have HP18 := Lib.hid (HP.out.next hx18.2)
              clear hx18 HF17 HX HP
              go_wp2_with fail
              refine (awake_any _).mono ?_
              rintro e w19 ⟨rfl, hb19⟩
              have HX19 := Lib.hid (HX18.out.next hb19)
              have HP19 := Lib.hid (HP18.out.next hb19)
              clear hb19 HX18 HP18
              go_wp2_with fail
              refine (HAL.out _ _ _ _ _ HX19.out).mono ?_
              rintro e w20 ⟨rfl, hb20⟩
              have HP20 := Lib.hid (HP19.out.next hb20)
              clear hb20 HX19 HP19
              go_wp2_with fail
              refine (HAL.out _ _ _ _ _ HP20.out).mono ?_
              rintro e w21 ⟨rfl, hb21⟩
              have HP21 := Lib.hid (HP20.out.next hb21)
              clear hb21 HP20
              go_wp2_with fail
              go_ret
              exact ⟨rfl, HP21.out.2⟩
end Go.Proofs.Ytkbdbinafjmjkaa
