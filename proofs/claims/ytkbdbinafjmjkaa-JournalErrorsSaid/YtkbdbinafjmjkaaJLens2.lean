/-
  Contract: the lengths that a body begins with.
-/
import Derived.Test.YtkbdbinafjmjkaaJLens
namespace Go.Proofs.Ytkbdbinafjmjkaa
open Go.RowKit

theorem Try.infoInt : (Try.prog.info? 3).map (fun i => (i.zero, i.size, i.bytes)) = some (some (.int .i64 0), 1, 8) := by kernel_rfl

def icells (l : List Int) : List Value := l.map (Value.int .i64)
/-- A part of a slice of bytes. -/
theorem Byt.part {w : World} {b off : Nat} {bs : List Int} (h : Byt w (some ⟨b, off, none⟩) bs) (i n : Nat) (hi : i + n ≤ bs.length) : Byt w (some ⟨b, off + i, none⟩) ((bs.drop i).take n) := by
  rcases h with rfl | ⟨b', off', h1, h2, h3⟩
  · exact .inl (by simp)
  · cases h1
    refine .inr ⟨b, off + i, rfl, h2, fun j hj => ?_⟩
    have hj2 : j < n ∧ i + j < bs.length := by simp at hj; omega
    rw [Nat.add_assoc, h3 (i + j) hj2.2]
    simp [List.getD, List.getElem?_drop, hj2.1]
theorem getD_mem0 (b : List Int) (i : Nat) (h : i < b.length) : b.getD i 0 ∈ b := by
  simp [List.getD, h]
theorem take_two (b : List Int) (i : Nat) (h : i + 2 ≤ b.length) : (b.drop i).take 2 = [b.getD i 0, b.getD (i + 1) 0] := by
  rw [List.drop_eq_getElem_cons (by omega), List.drop_eq_getElem_cons (by omega), List.take_succ_cons, List.take_succ_cons, List.take_zero]
  simp [List.getD, show i < b.length by omega, show i + 1 < b.length by omega]

theorem results_tmp4 {fn : Func} {t u v x : Tmp} (h : fn.results = #[.tmp t, .tmp u, .tmp v, .tmp x]) (tmps : Array Value) (P : Program) (w : World) :
    (results fn tmps).run P w = .ok (.tuple #[tmps.getD t undef, tmps.getD u undef, tmps.getD v undef, tmps.getD x undef]) w := by
  simp [results, h]

theorem owns_shape {w : World} {base : Nat} {e : TypeId} {size : Nat} {v : Value} {n : Nat} {xs : List Value} (h : w.ownsRow base e size v n xs) : ∃ g c, v = .slice (gad g) n c := by
  obtain ⟨c, hv⟩ := owns_form h
  exact ⟨_, c, hv⟩

set_option maxRecDepth 100000 in
set_option maxHeartbeats 2000000 in
theorem lengths_any (ao : Option Addr) (cap n : Nat) (b : List Int) (w : World) (hn : b.length = n) (hB : Byt w ao b) (hb : Bytes b) (hc0 : n ≤ cap) (hc1 : cap ≤ 9223372036854775807) :
    Calls Try.prog 49 #[.slice ao n cap] w fun e w' => ∃ go gc, e = .returned (.tuple #[.slice go (lengthsF b).1.length gc, .int .i64 (lengthsF b).2.1, .bool (lengthsF b).2.2.1, .bool (lengthsF b).2.2.2]) ∧ w'.ownsRow w.heap.size 3 1 (.slice go (lengthsF b).1.length gc) (lengthsF b).1.length (icells (lengthsF b).1) ∧ Below w.heap.size w w' := by
  subst hn
  have HB := Lib.hid hB
  have HBB := Lib.hid hb
  clear hB hb
  obtain ⟨i0, hi, hz0, hz1, hz2⟩ := info_parts Try.infoInt
  by_cases hl : b.length = 0
  · have hF : lengthsF b = ([], 0, false, true) := by unfold lengthsF; rw [if_pos hl]
    rw [hF]
    go_enter Try.func49, Try.ntmps49
    go_wp2_with fail
    refine bodyPost_ret (results_tmp4 rfl _ _ _) rfl ?_
    exact ⟨none, 0, rfl, World.ownsRow_nil _ _ _ _, Below.refl _ _⟩
  rcases HB.out with h0 | ⟨blk, off, rfl, hbw, hc⟩
  · rw [h0] at hl
    simp at hl
  have hc9 := hc 0 (by omega)
  rw [Nat.add_zero] at hc9
  have hz := HBB.out (b.getD 0 0) (getD_mem0 b 0 (by omega))
  by_cases hr : b.getD 0 0 < 1 ∨ 16 < b.getD 0 0
  · have hF : lengthsF b = ([], 0, false, false) := by unfold lengthsF; rw [if_neg hl, if_pos hr]
    rw [hF]
    generalize b.getD 0 0 = z at hc9 hz hr
    clear hc HB HBB hF
    by_cases hr1 : z < 1
    · go_enter Try.func49, Try.ntmps49
      go_wp2_with fail
      refine bodyPost_ret (results_tmp4 rfl _ _ _) rfl ?_
      exact ⟨none, 0, rfl, World.ownsRow_nil _ _ _ _, Below.refl _ _⟩
    · have hr2 : 16 < z := by omega
      go_enter Try.func49, Try.ntmps49
      go_wp2_with fail
      refine bodyPost_ret (results_tmp4 rfl _ _ _) rfl ?_
      exact ⟨none, 0, rfl, World.ownsRow_nil _ _ _ _, Below.refl _ _⟩
  have hF : lengthsF b = lensGo b (b.getD 0 0).toNat 0 [] (1 + 2 * b.getD 0 0) := by unfold lengthsF; rw [if_neg hl, if_neg hr]
  have HF := Lib.hid hF
  obtain ⟨m, hm⟩ : ∃ m : Nat, b.getD 0 0 = m := ⟨(b.getD 0 0).toNat, by omega⟩
  rw [hm] at hc9 hr HF
  have hm0 : (1 : Int) ≤ (m : Int) := by omega
  have hm1 : (m : Int) ≤ 16 := by omega
  have hl2 : (0 : Int) < (b.length : Int) := by omega
  clear hF hm hz hr hc
  go_enter Try.func49, Try.ntmps49
  go_wp2_with fail
  go_loopw [2, 3, 27] (fun v t i wr => ∃ (k : Nat) (q : Int) (l : List Int), k ≤ m ∧ i = .int .i64 k ∧ t = .int .i64 q ∧ (0 ≤ q ∧ q ≤ 33 + 4096 * k) ∧ lensGo b (m - k) k l q = lengthsF b ∧ l.length = k ∧ wr.ownsRow w.heap.size 3 1 v k (icells l) ∧ Below w.heap.size w wr) (fun _ _ i _ => m - (intOf i).toNat)
  case atStart => exact ⟨0, _, [], Nat.zero_le _, rfl, rfl, by omega, by rw [HF.out]; simp, rfl, World.ownsRow_nil _ _ _ _, Below.refl _ _⟩
  case round =>
    obtain ⟨k, q, l, hk, rfl, rfl, ⟨q0, q1⟩, hgo, hlk, hown, hb⟩ := hrel
    have hsr := hb.size
    by_cases hlt : k < m
    · have hmk : m - k = (m - (k + 1)) + 1 := by omega
      rw [hmk] at hgo
      have hki : (k : Int) < (m : Int) := by omega
      have hk0 : (0 : Int) ≤ (k : Int) := Int.natCast_nonneg _
      by_cases hs : b.length < 1 + 2 * k + 2
      · have hE : (l, q, false, true) = lengthsF b := by rw [← hgo]; unfold lensGo; rw [if_pos hs]
        have HE := Lib.hid hE
        obtain ⟨g, c, rfl⟩ := owns_shape hown
        have HO := Lib.hid hown
        have HB2 := Lib.hid hb
        have HLK := Lib.hid hlk
        have hs2 : (b.length : Int) < 1 + 2 * k + 2 := by omega
        clear hown hb hgo hE hlk hs hmk HF
        go_wp2_with fail
        refine bodyPost_ret (results_tmp4 rfl _ _ _) rfl ?_
        rw [← HE.out]
        refine ⟨gad g, c, ?_, ?_, HB2.out⟩
        · rw [HLK.out]; rfl
        · rw [HLK.out]; exact HO.out
      · have hp := take_two b (1 + 2 * k) (by omega)
        have hP := (HB.out.next hb).part (1 + 2 * k) 2 (by omega)
        rw [hp] at hP
        have hbb : Bytes [b.getD (1 + 2 * k) 0, b.getD (1 + 2 * k + 1) 0] := by
          rw [← hp]
          exact fun x hx => HBB.out x (List.mem_of_mem_drop (List.mem_of_mem_take hx))
        have hG := get_any (some ⟨blk, off + (1 + 2 * k), none⟩) (cap - (1 + 2 * k)) 2 _ wr rfl hP hbb (by omega)
        obtain ⟨g0, g1⟩ := getF_bd _ hbb
        have g2 : getF [b.getD (1 + 2 * k) 0, b.getD (1 + 2 * k + 1) 0] < 65536 := g1
        unfold lensGo at hgo
        rw [if_neg hs] at hgo
        rw [show 2 + 2 * k = 1 + 2 * k + 1 by omega] at hgo
        generalize getF [b.getD (1 + 2 * k) 0, b.getD (1 + 2 * k + 1) 0] = z at hG g0 g2 hgo
        have HG := Lib.hid hG
        have HO := Lib.hid hown
        have HB2 := Lib.hid hb
        have HLK := Lib.hid hlk
        have hs2 : 1 + 2 * (k : Int) + 2 ≤ (b.length : Int) := by omega
        have hcc : (b.length : Int) ≤ (cap : Int) := by omega
        by_cases hz4 : 4096 < z
        · rw [if_pos hz4] at hgo
          have HE := Lib.hid hgo
          clear hown hb hgo hlk hs hmk HF hG hp hP hbb g1
          go_wp2_with fail
          refine HG.out.mono ?_
          rintro e w3 ⟨rfl, rfl⟩
          go_wp2_with fail
          refine bodyPost_ret (results_tmp4 rfl _ _ _) rfl ?_
          rw [← HE.out]
          exact ⟨none, 0, rfl, World.ownsRow_nil _ _ _ _, HB2.out⟩
        · rw [if_neg hz4] at hgo
          have HGO := Lib.hid hgo
          have hz5 : z ≤ 4096 := by omega
          clear hown hb hgo hlk hs hmk HF hG hp hP hbb g1 hz4
          go_wp2_with fail
          refine HG.out.mono ?_
          rintro e w3 ⟨rfl, rfl⟩
          go_wp2_with (at_builtin
                       refine wpList_append_lies _ rfl (.tmp 49) (.tmp 51) 85 rfl w.heap.size 3 i0 (.int .i64 0) 1 8 Try.underlying85 hi hz0 hz1 hz2 rfl (by decide) _ k _ rfl (HO.out.alloc _) ⟨wr.heap.size, 0, none⟩ 1 1 [.int .i64 z] rfl rfl (World.news_of_block (cs := #[.int .i64 z]) (t := 3) (fr := (0, 0)) (heap_alloc_new wr _)) (by simp [Value.oneCell']) (by omega) (by unfold maxLen; omega) (by omega) (by simp; omega) (wr.heap.size + 1) (by simp) ?_
                       intro gg cap5 w5 hown5 hg5 hat5 hlt5)
          go_roundw
          case rel =>
            refine ⟨k + 1, q + z, l ++ [z], hlt, by go_num, rfl, by omega, HGO.out, by simp [HLK.out], ?_, (HB2.out.alloc hsr _).grown hg5 (by simp; omega) (fun j hj => (HO.out.lt j hj).1)⟩
            simpa [icells] using hown5
          case measure => simp [intOf]; omega
    · obtain rfl : k = m := by omega
      have hE : (l, q, true, true) = lengthsF b := by rw [← hgo, Nat.sub_self]; rfl
      have HE := Lib.hid hE
      obtain ⟨g, c, rfl⟩ := owns_shape hown
      have HO := Lib.hid hown
      have HB2 := Lib.hid hb
      have HLK := Lib.hid hlk
      clear hown hb hgo hE hlk HF hlt
      go_wp2_with fail
      refine bodyPost_ret (results_tmp4 rfl _ _ _) rfl ?_
      rw [← HE.out]
      refine ⟨gad g, c, ?_, ?_, HB2.out⟩
      · rw [HLK.out]; rfl
      · rw [HLK.out]; exact HO.out
end Go.Proofs.Ytkbdbinafjmjkaa
