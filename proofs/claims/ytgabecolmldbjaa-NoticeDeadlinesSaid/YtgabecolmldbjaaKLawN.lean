/-
  NoticeDeadlines returns true for every input, and turns nothing that was there.
-/
import Derived.Test.YtgabecolmldbjaaKTerms
import Derived.Test.YtgabecolmldbjaaNAwake
import Derived.Test.YtgabecolmldbjaaNBuild
namespace Go.Proofs.Ytgabecolmldbjaa
open Go.RowKit

def svc (d : Int) : List Value := [.int .i64 d, .int .i64 0, .int .i64 0, .bool false]
def svcCell (L : List Int) (i j : Nat) : Value := if j = 0 then .int .i64 (L.getD i 0) else if j = 1 then .int .i64 0 else if j = 2 then .int .i64 0 else .bool false

theorem days_of_owns {w : World} {base : Nat} {e : TypeId} {v : Value} {L : List Int} (h : w.ownsRow base e 4 v L.length (L.flatMap svc)) : ∃ ro rc, v = .slice ro L.length rc ∧ DaysAt w ro L := by
  obtain ⟨ro, rc, hv, hl⟩ := liesAt_of_owns (f := svcCell L) h (fun i hi j hj => by
    rw [flat_get svc 4 (fun _ => rfl) 0 _ i j (by omega) hj]
    match j, hj with
    | 0, _ => rfl
    | 1, _ => rfl
    | 2, _ => rfl
    | 3, _ => rfl)
  refine ⟨ro, rc, hv, ?_⟩
  rcases hl with h0 | ⟨b, off, rfl, hb, hc⟩
  · exact .inl (List.eq_nil_of_length_eq_zero h0)
  · refine .inr ⟨b, off, rfl, hb, fun i hi => ⟨0, 0, false, ?_, ?_, ?_, ?_⟩⟩
    · have := hc i hi 0 (by omega)
      simpa [svcCell] using this
    · have := hc i hi 1 (by omega)
      simpa [svcCell] using this
    · have := hc i hi 2 (by omega)
      simpa [svcCell] using this
    · have := hc i hi 3 (by omega)
      simpa [svcCell] using this

theorem dead_short {H : List Int} {n : Int} {ds out : List Int} {e : Int} (h : DeadIs H n ds out e) (hl : ds.length ≤ 8) : out.length ≤ 8 := by
  rcases h with ⟨-, h, -⟩ | ⟨-, -, -, -, -, -, rfl⟩
  · omega
  · simp

/-- A slice of bytes. -/
def Bys (w : World) (ao : Option Addr) (l : List Int) : Prop := LiesAt w ao 1 l.length (fun i _ => .int .u8 (l.getD i 0))

theorem noticeDeadlines_end (lo so ho ro : Option Addr) (lc sc hc rc ln sn hn rn : Nat) (n : Int) (w : World) (h : 8 < ln ∨ 8 < sn ∨ 10 < rn) :
    Calls Try.prog 12 #[.slice lo ln lc, .slice so sn sc, .int .i8 n, .slice ho hn hc, .slice ro rn rc] w fun e w' => e = .returned (.bool true) ∧ Below w.heap.size w w' := by
  have hside : (8 : Int) < (ln : Int) ∨ (¬ (8 : Int) < (ln : Int) ∧ (8 : Int) < (sn : Int)) ∨ (¬ (8 : Int) < (ln : Int) ∧ ¬ (8 : Int) < (sn : Int) ∧ (10 : Int) < (rn : Int)) := by omega
  clear h
  rcases hside with h1 | ⟨h1, h2⟩ | ⟨h1, h2, h3⟩
  all_goals
    go_enter Try.func12, Try.ntmps12
    go_wp2_with fail
    refine (awake_any _).mono ?_
    rintro e w1 ⟨rfl, hb⟩
    go_wp2_with fail
    go_ret
    exact ⟨rfl, hb⟩

set_option maxRecDepth 100000 in
set_option maxHeartbeats 2000000 in
theorem noticeDeadlines_walk (lo so ho ro : Option Addr) (lc sc hc rc : Nat) (n : Int) (ls ss hs rs : List Int) (w : World) (h1 : ls.length ≤ 8) (h2 : ss.length ≤ 8) (h3 : rs.length ≤ 10)
    (hl : DaysAt w lo ls) (hS : Bys w so ss) (hsr : ∀ i, 0 ≤ ss.getD i 0 ∧ ss.getD i 0 ≤ 255) (hH : U16s w ho hs) (hhr : ∀ i, 0 ≤ hs.getD i 0 ∧ hs.getD i 0 ≤ 65535) (hR : Ints w ro rs) (n0 : -128 ≤ n) (n1 : n ≤ 127) :
    Calls Try.prog 12 #[.slice lo ls.length lc, .slice so ss.length sc, .int .i8 n, .slice ho hs.length hc, .slice ro rs.length rc] w fun e w' => e = .returned (.bool true) ∧ Below w.heap.size w w' := by
  obtain ⟨i0, hi, hz0, hz1, hz2⟩ := info_split Try.infoService
  obtain ⟨m, hm⟩ : ∃ m : Int, n.tmod 20 = m := ⟨_, rfl⟩
  have m0 : -19 ≤ m := by have := Int.tmod_eq_emod (a := n) (b := 20); split at this <;> omega
  have m1 : m ≤ 19 := by have := Int.tmod_eq_emod (a := n) (b := 20); split at this <;> omega
  have HL := Lib.hid hl
  have HS := Lib.hid hS
  have HSR := Lib.hid hsr
  have HH := Lib.hid hH
  have HHR := Lib.hid hhr
  have HR := Lib.hid hR
  have g1 : ¬ (8 : Int) < (ls.length : Int) := by omega
  have g2 : ¬ (8 : Int) < (ss.length : Int) := by omega
  have g3 : ¬ (10 : Int) < (rs.length : Int) := by omega
  clear hl hS hsr hH hhr hR
  go_enter Try.func12, Try.ntmps12
  go_wp2_with fail
  go_loopw [11, 12] (fun v i wr => ∃ k : Nat, k ≤ ss.length ∧ i = .int .i64 k ∧ wr.ownsRow w.heap.size 45 4 v k ((ss.take k).flatMap svc) ∧ Below w.heap.size w wr) (fun _ i _ => ss.length - (intOf i).toNat)
  case atStart => exact ⟨0, Nat.zero_le _, rfl, World.ownsRow_nil _ _ _ _, Below.refl _ _⟩
  case round =>
    obtain ⟨k, hk, rfl, hown, hb⟩ := hrel
    have hsr := hb.size
    by_cases hlt : k < ss.length
    · rcases HS.out with h0 | ⟨b, off, rfl, hbw, hc0⟩
      · omega
      have hc : wr.cell? ⟨b, off + k, none⟩ = some (.int .u8 (ss.getD k 0)) := by
        have := hc0 k hlt 0 (by omega)
        rw [Nat.mul_one, Nat.add_zero] at this
        exact (hb.cell (p := ⟨b, off + k, none⟩) hbw).trans this
      have htk : (ss.take (k + 1)).flatMap svc = (ss.take k).flatMap svc ++ svc (ss.getD k 0) := by
        rw [List.take_succ_eq_append_getElem hlt, List.flatMap_append]
        simp [List.getD, hlt]
      obtain ⟨z0, z1⟩ := HSR.out k
      obtain ⟨z, hz⟩ : ∃ z, z = ss.getD k 0 := ⟨_, rfl⟩
      rw [← hz] at hc htk z0 z1
      have HT := Lib.hid htk
      have HO := Lib.hid hown
      have HB := Lib.hid hb
      have hk0 : (0 : Int) ≤ (k : Int) := Int.natCast_nonneg _
      have hk1 : (k : Int) < (ss.length : Int) := by omega
      clear hc0 hz htk hown hb
      go_wp2_with (at_builtin
                   refine wpList_append_lies _ rfl (.tmp 42) (.tmp 49) 41 rfl w.heap.size 45 i0 (.agg #[.int .i64 0, .int .i64 0, .int .i64 0, .bool false]) 4 32 Try.underlying41 hi hz0 hz1 hz2 rfl (by decide) _ k _ rfl (HO.out.alloc _) ⟨wr.heap.size, 0, none⟩ 1 1 (svc z) rfl rfl (World.news_of_block (cs := #[.int .i64 z, .int .i64 0, .int .i64 0, .bool false]) (t := 45) (fr := (0, 0)) (heap_alloc_new wr _)) (by simp [svc, Value.oneCell']) (by omega) (by unfold maxLen; omega) (by omega) (by simp; omega) (wr.heap.size + 1) (by simp) ?_
                   intro gg cap5 w5 hown5 hg5 hat5 hlt5
                   have hb5 : Below w.heap.size w w5 := (HB.out.alloc hsr _).grown hg5 (by simp; omega) (fun j hj => (HO.out.lt j hj).1))
      go_roundw
      case rel =>
        refine ⟨k + 1, hlt, by go_num, ?_, hb5⟩
        rw [HT.out]
        exact hown5
      case measure => simp [intOf]; omega
    · obtain rfl : k = ss.length := by omega
      rw [List.take_length] at hown
      obtain ⟨xo, xc, rfl, hx⟩ := days_of_owns hown
      have HX := Lib.hid hx
      have HB := Lib.hid hb
      have HTM := Lib.hid (terms_any ho hc hs wr (HH.out.below hb (Nat.le_refl _)) HHR.out)
      clear hx hb hown hlt
      go_wp2_with fail
      refine HTM.out.mono ?_
      rintro e w2 ⟨ta, tb, to, tc, T, rfl, hT, hTl, hb2⟩
      have hba : Below w2.heap.size w2 (w2.alloc (.cells #[.int .i64 ta, .int .i64 tb, .slice to T.length tc] 47)) := (Below.refl _ _).alloc (Nat.le_refl _) _
      have HT := Lib.hid (hT.next hba)
      have HX2 := Lib.hid ((HX.out.next hb2).next hba)
      have hb2' := (HB.out.trans (hb2.mono hsr)).trans (hba.mono (Nat.le_trans hsr hb2.size))
      have HB2 := Lib.hid hb2'
      clear hT hb2 hb2' hba HTM HX HB
      go_wp2_with fail
      refine (deadlines_any xo to xc tc ss T m _ HX2.out HT.out h2).mono ?_
      rintro e w3 ⟨ao, ac, A, ea, rfl, hA, hIA, hb3⟩
      have hla := dead_short hA h2
      have hsz2 : w2.heap.size < w3.heap.size := by have := hb3.size; simp at this; omega
      have tcell : w3.cell? ⟨w2.heap.size, 2, none⟩ = some (.slice to T.length tc) := by
        rw [hb3.cell (p := ⟨w2.heap.size, 2, none⟩) (by simp), cell_of_row _ _ _ _ _ _ (heap_alloc_new w2 _)]
        rfl
      have HA := Lib.hid hA
      have HIA := Lib.hid hIA
      have HT3 := Lib.hid (HT.out.next hb3)
      have HX3 := Lib.hid (HX2.out.next hb3)
      have HB3 := Lib.hid (HB2.out.trans (hb3.mono HB2.out.size))
      clear hA hIA hb3 HT HX2 HB2
      go_wp2_with fail
      refine (deadlinesR_any xo to xc tc ss T m _ HX3.out HT3.out h2).mono ?_
      rintro e w4 ⟨bo, bc, A', ea', rfl, hA', hIB, hb4⟩
      obtain ⟨rfl, rfl⟩ := dead_unique HA.out hA'
      have HIA4 := Lib.hid (HIA.out.next hb4)
      have HIB4 := Lib.hid hIB
      have HB4 := Lib.hid (HB3.out.trans (hb4.mono HB3.out.size))
      clear hA' hIB hb4 HIA HT3 HX3 HB3 HA tcell
      go_wp2_with fail
      refine (deadlines_any lo ro lc rc ls rs n _ (HL.out.next HB4.out) (HR.out.next HB4.out) h1).mono ?_
      rintro e w5 ⟨co, cc, C, ec, rfl, hC, hIC, hb5⟩
      have hlc := dead_short hC h1
      have HC := Lib.hid hC
      have HIC5 := Lib.hid hIC
      have HIA5 := Lib.hid (HIA4.out.next hb5)
      have HIB5 := Lib.hid (HIB4.out.next hb5)
      have HB5 := Lib.hid (HB4.out.trans (hb5.mono HB4.out.size))
      clear hC hIC hb5 HIA4 HIB4 HB4
      go_wp2_with fail
      refine (deadlinesR_any lo ro lc rc ls rs n _ (HL.out.next HB5.out) (HR.out.next HB5.out) h1).mono ?_
      rintro e w6 ⟨do_, dc, C', ec', rfl, hC', hID, hb6⟩
      obtain ⟨rfl, rfl⟩ := dead_unique HC.out hC'
      have HIC6 := Lib.hid (HIC5.out.next hb6)
      have HID6 := Lib.hid hID
      have HIA6 := Lib.hid (HIA5.out.next hb6)
      have HIB6 := Lib.hid (HIB5.out.next hb6)
      have HB6 := Lib.hid (HB5.out.trans (hb6.mono HB5.out.size))
      clear hC' hID hb6 HIA5 HIB5 HIC5 HB5 HC
      go_wp2_with fail
      refine (awake_any _).mono ?_
      rintro e w7 ⟨rfl, hb7⟩
      have HIC7 := Lib.hid (HIC6.out.next hb7)
      have HID7 := Lib.hid (HID6.out.next hb7)
      have HIA7 := Lib.hid (HIA6.out.next hb7)
      have HIB7 := Lib.hid (HIB6.out.next hb7)
      have HB7 := Lib.hid (HB6.out.trans (hb7.mono HB6.out.size))
      clear hb7 HIA6 HIB6 HIC6 HID6 HB6
      go_wp2_with fail
      refine (sameInts_any ao bo ac bc A _ HIA7.out HIB7.out (by omega)).mono ?_
      rintro e w8 ⟨rfl, hb8⟩
      have HIC8 := Lib.hid (HIC7.out.next hb8)
      have HID8 := Lib.hid (HID7.out.next hb8)
      have HB8 := Lib.hid (HB7.out.trans (hb8.mono HB7.out.size))
      clear hb8 HIA7 HIB7 HIC7 HID7 HB7
      go_wp2_with fail
      refine (sameInts_any co do_ cc dc C _ HIC8.out HID8.out (by omega)).mono ?_
      rintro e w9 ⟨rfl, hb9⟩
      have HB9 := Lib.hid (HB8.out.trans (hb9.mono HB8.out.size))
      clear hb9
      go_wp2_with fail
      go_ret
      exact ⟨rfl, HB9.out⟩
end Go.Proofs.Ytgabecolmldbjaa
