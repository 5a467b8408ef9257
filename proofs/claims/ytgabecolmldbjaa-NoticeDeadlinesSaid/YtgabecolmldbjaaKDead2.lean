/-
  Contract: Deadlines.
-/
import Derived.Test.YtgabecolmldbjaaKDeadl
namespace Go.Proofs.Ytgabecolmldbjaa
open Go.RowKit

/-- What the loop has gathered after k services. -/
def Gone1 (H : List Int) (n : Int) (ds : List Int) (k : Nat) (o : List Int) : Prop := o.length = k ∧ ∀ i, i < k → AddIs H (ds.getD i 0) n (o.getD i 0) 0
theorem Gone1.more {H : List Int} {n : Int} {ds o : List Int} {k : Nat} {d : Int} (h : Gone1 H n ds k o) (hd : AddIs H (ds.getD k 0) n d 0) : Gone1 H n ds (k + 1) (o ++ [d]) := by
  refine ⟨by simp [h.1], fun i hi => ?_⟩
  by_cases he : i = k
  · subst he
    simpa [List.getD, h.1] using hd
  · have := h.2 i (by omega)
    have hi2 : i < o.length := by have := h.1; omega
    simpa [List.getD, List.getElem?_append_left hi2] using this
theorem owns_ints2 {w : World} {base : Nat} {e : TypeId} {v : Value} {l : List Int} (h : w.ownsRow base e 1 v l.length (l.map (Value.int .i64))) : ∃ ro rc, v = .slice ro l.length rc ∧ Ints w ro l := by
  obtain ⟨-, ⟨rfl, rfl⟩ | ⟨g, cp, rfl, hbg, hgl, hncap⟩⟩ := owns_slice h
  · exact ⟨none, 0, rfl, .inl rfl⟩
  · exact ⟨_, _, rfl, ints_of_owns h⟩

theorem owns_next {w w' : World} {base e size : Nat} {v : Value} {n : Nat} {xs : List Value} (h : w.ownsRow base e size v n xs) (hb : Below w.heap.size w w') : w'.ownsRow base e size v n xs := by
  refine ⟨h.1, ?_⟩
  rcases h.2 with h2 | ⟨g, cap, cur, hv, hg, hh, r⟩
  · exact .inl h2
  · exact .inr ⟨g, cap, cur, hv, hg, by rw [hb.block g (Array.getElem?_eq_some_iff.1 hh).1]; exact hh, r⟩

set_option maxRecDepth 100000 in
set_option maxHeartbeats 2000000 in
theorem deadlines_any (so ho : Option Addr) (sc hc : Nat) (ds H : List Int) (n : Int) (w : World) (hS : DaysAt w so ds) (hI : Ints w ho H) (hl : ds.length ≤ 8) :
    Calls Try.prog 29 #[.slice so ds.length sc, .int .i64 n, .slice ho H.length hc] w fun e w' => ∃ ro rc out er, e = .returned (.tuple #[.slice ro out.length rc, .int .i64 er]) ∧ DeadIs H n ds out er ∧ Ints w' ro out ∧ Below w.heap.size w w' := by
  obtain ⟨i0, hi, hz0, hz1, hz2⟩ := info_split Try.infoInt
  have HS := Lib.hid hS
  have HI := Lib.hid hI
  clear hS hI
  go_enter Try.func29, Try.ntmps29
  go_wp2_with fail
  go_loopw [8, 15] (fun v i wr => ∃ (k : Nat) (o : List Int), k ≤ ds.length ∧ i = .int .i64 k ∧ Gone1 H n ds k o ∧ wr.ownsRow w.heap.size 3 1 v k (o.map (Value.int .i64)) ∧ Below w.heap.size w wr) (fun _ i _ => ds.length - (intOf i).toNat)
  case atStart => exact ⟨0, [], Nat.zero_le _, rfl, ⟨rfl, fun i hi => by omega⟩, World.ownsRow_nil _ _ _ _, Below.refl _ _⟩
  case round =>
    obtain ⟨k, o, hk, rfl, hg, hown, hb⟩ := hrel
    have hsr := hb.size
    by_cases hlt : k < ds.length
    · rcases HS.out.next hb with h0 | ⟨b, off, rfl, hbw, hc0⟩
      · rw [h0] at hlt
        simp at hlt
      obtain ⟨x, y, z, c0, c1, c2, c3⟩ := hc0 k hlt
      obtain ⟨day, hday⟩ : ∃ day, ds.getD k 0 = day := ⟨_, rfl⟩
      rw [hday] at c0
      have HDY := Lib.hid hday
      have HG := Lib.hid hg
      have HO := Lib.hid hown
      have HB := Lib.hid hb
      have hk0 : (0 : Int) ≤ (k : Int) := Int.natCast_nonneg _
      have hk1 : (k : Int) < (ds.length : Int) := by omega
      clear hc0 hday hg hown hb
      go_wp2_with fail
      have hba : Below wr.heap.size wr (wr.alloc (.cells #[.int .i64 day, .int .i64 x, .int .i64 y, .bool z] 45)) := (Below.refl _ _).alloc (Nat.le_refl _) _
      refine (add_any day n ho hc H _ (HI.out.next (HB.out.trans (hba.mono hsr)))).mono ?_
      rintro e w3 ⟨d, er, rfl, hA, hb3⟩
      have hb13 : Below wr.heap.size wr w3 := hba.trans (hb3.mono hba.size)
      have HA := Lib.hid hA
      have HB3 := Lib.hid (HB.out.trans (hb13.mono hsr))
      have HO3 := Lib.hid (owns_next HO.out hb13)
      clear hA hb3 hba hb13 HO HB
      by_cases her : er = 0
      · subst her
        have hs3 : w.heap.size ≤ w3.heap.size := HB3.out.size
        go_wp2_with (at_builtin
                     refine wpList_append_lies _ rfl (.tmp 30) (.tmp 32) 25 rfl w.heap.size 3 i0 (.int .i64 0) 1 8 Try.underlying25 hi hz0 hz1 hz2 rfl (by decide) _ k _ rfl (HO3.out.alloc _) ⟨w3.heap.size, 0, none⟩ 1 1 [.int .i64 d] rfl rfl (World.news_of_block (cs := #[.int .i64 d]) (t := 3) (fr := (0, 0)) (heap_alloc_new w3 _)) (by simp [Value.oneCell']) (by omega) (by unfold maxLen; omega) (by omega) (by simp; omega) (w3.heap.size + 1) (by simp) ?_
                     intro gg cap5 w5 hown5 hg5 hat5 hlt5
                     have hb5 : Below w.heap.size w w5 := (HB3.out.alloc hs3 _).grown hg5 (by simp; omega) (fun j hj => (HO3.out.lt j hj).1))
        go_roundw
        case rel =>
          refine ⟨k + 1, o ++ [d], hlt, by go_num, HG.out.more (by rw [HDY.out]; exact HA.out), ?_, hb5⟩
          simpa using hown5
        case measure => simp [intOf]; omega
      · clear HO3
        go_wp2_with fail
        go_ret2
        exact ⟨none, 0, [], er, rfl, .inr ⟨k, d, hlt, fun i hi => ⟨_, HG.out.2 i hi⟩, by rw [HDY.out]; exact HA.out, her, rfl⟩, .inl rfl, HB3.out⟩
    · obtain rfl : k = ds.length := by omega
      have hol := hg.1
      rw [← hol] at hown
      obtain ⟨ro, rc, rfl, hR⟩ := owns_ints2 hown
      have HG := Lib.hid hg
      have HR := Lib.hid hR
      have HOL := Lib.hid hol
      clear hg hR hol hown
      go_wp2_with fail
      go_ret2
      exact ⟨ro, rc, o, 0, rfl, .inl ⟨HG.out.2, HOL.out, rfl⟩, HR.out, hb⟩

set_option maxRecDepth 100000 in
set_option maxHeartbeats 2000000 in
theorem deadlinesR_any (so ho : Option Addr) (sc hc : Nat) (ds H : List Int) (n : Int) (w : World) (hS : DaysAt w so ds) (hI : Ints w ho H) (hl : ds.length ≤ 8) :
    Calls Try.prog 30 #[.slice so ds.length sc, .int .i64 n, .slice ho H.length hc] w fun e w' => ∃ ro rc out er, e = .returned (.tuple #[.slice ro out.length rc, .int .i64 er]) ∧ DeadIs H n ds out er ∧ Ints w' ro out ∧ Below w.heap.size w w' := by
  obtain ⟨i0, hi, hz0, hz1, hz2⟩ := info_split Try.infoInt
  have HS := Lib.hid hS
  have HI := Lib.hid hI
  clear hS hI
  go_enter Try.func30, Try.ntmps30
  go_wp2_with fail
  go_loopw [8, 9] (fun v i wr => ∃ (k : Nat) (o : List Int), k ≤ ds.length ∧ i = .int .i64 k ∧ Gone1 H n ds k o ∧ wr.ownsRow w.heap.size 3 1 v k (o.map (Value.int .i64)) ∧ Below w.heap.size w wr) (fun _ i _ => ds.length - (intOf i).toNat)
  case atStart => exact ⟨0, [], Nat.zero_le _, rfl, ⟨rfl, fun i hi => by omega⟩, World.ownsRow_nil _ _ _ _, Below.refl _ _⟩
  case round =>
    obtain ⟨k, o, hk, rfl, hg, hown, hb⟩ := hrel
    have hsr := hb.size
    by_cases hlt : k < ds.length
    · rcases HS.out.next hb with h0 | ⟨b, off, rfl, hbw, hc0⟩
      · rw [h0] at hlt
        simp at hlt
      obtain ⟨x, y, z, c0, c1, c2, c3⟩ := hc0 k hlt
      obtain ⟨day, hday⟩ : ∃ day, ds.getD k 0 = day := ⟨_, rfl⟩
      rw [hday] at c0
      have HDY := Lib.hid hday
      have HG := Lib.hid hg
      have HO := Lib.hid hown
      have HB := Lib.hid hb
      have hk0 : (0 : Int) ≤ (k : Int) := Int.natCast_nonneg _
      have hk1 : (k : Int) < (ds.length : Int) := by omega
      clear hc0 hday hg hown hb
      go_wp2_with fail
      refine (addR_any day n ho hc H _ (HI.out.next HB.out)).mono ?_
      rintro e w3 ⟨d, er, rfl, hA, rfl⟩
      have HA := Lib.hid hA
      have HB3 := Lib.hid HB.out
      have HO3 := Lib.hid HO.out
      clear hA HO HB
      by_cases her : er = 0
      · subst her
        have hs3 : w.heap.size ≤ w3.heap.size := HB3.out.size
        go_wp2_with (at_builtin
                     refine wpList_append_lies _ rfl (.tmp 32) (.tmp 34) 25 rfl w.heap.size 3 i0 (.int .i64 0) 1 8 Try.underlying25 hi hz0 hz1 hz2 rfl (by decide) _ k _ rfl (HO3.out.alloc _) ⟨w3.heap.size, 0, none⟩ 1 1 [.int .i64 d] rfl rfl (World.news_of_block (cs := #[.int .i64 d]) (t := 3) (fr := (0, 0)) (heap_alloc_new w3 _)) (by simp [Value.oneCell']) (by omega) (by unfold maxLen; omega) (by omega) (by simp; omega) (w3.heap.size + 1) (by simp) ?_
                     intro gg cap5 w5 hown5 hg5 hat5 hlt5
                     have hb5 : Below w.heap.size w w5 := (HB3.out.alloc hs3 _).grown hg5 (by simp; omega) (fun j hj => (HO3.out.lt j hj).1))
        go_roundw
        case rel =>
          refine ⟨k + 1, o ++ [d], hlt, by go_num, HG.out.more (by rw [HDY.out]; exact HA.out), ?_, hb5⟩
          simpa using hown5
        case measure => simp [intOf]; omega
      · clear HO3
        go_wp2_with fail
        go_ret2
        exact ⟨none, 0, [], er, rfl, .inr ⟨k, d, hlt, fun i hi => ⟨_, HG.out.2 i hi⟩, by rw [HDY.out]; exact HA.out, her, rfl⟩, .inl rfl, HB3.out⟩
    · obtain rfl : k = ds.length := by omega
      have hol := hg.1
      rw [← hol] at hown
      obtain ⟨ro, rc, rfl, hR⟩ := owns_ints2 hown
      have HG := Lib.hid hg
      have HR := Lib.hid hR
      have HOL := Lib.hid hol
      clear hg hR hol hown
      go_wp2_with fail
      go_ret2
      exact ⟨ro, rc, o, 0, rfl, .inl ⟨HG.out.2, HOL.out, rfl⟩, HR.out, hb⟩
end Go.Proofs.Ytgabecolmldbjaa
