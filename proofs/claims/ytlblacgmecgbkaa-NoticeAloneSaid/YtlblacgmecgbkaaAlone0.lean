/-
  The built notices as a row of the call's own; the losses of one notice.
-/
import Derived.Test.YtlblacgmecgbkaaKit2
namespace Go.Proofs.Ytlblacgmecgbkaa
open Go.ChangeShapes Go.WideShapes Go.ChangeAt Go.RowKit Go.Sort

set_option maxHeartbeats 1000000 in
theorem notices_own (ao : Option Addr) (c : Nat) (zs : List Int) (w : World) (hl : LiesAt w ao 1 zs.length (u16Cell zs)) (hz : ∀ i, 0 ≤ zs.getD i 0 ∧ zs.getD i 0 ≤ 65535) :
    Calls Try.prog 13 #[.slice ao zs.length c] w fun e w' =>
      ∃ v, e = .returned v ∧ w'.ownsRow w.heap.size 46 2 v (noticesOf zs).length ((noticesOf zs).flatMap noticeFlat) ∧ Below w.heap.size w w' := by
  have HLL := Lib.hid hl
  have HZ := Lib.hid hz
  clear hl hz
  obtain ⟨i0, hi, hz0, hz1, hz2⟩ := info_parts Try.infoNotice
  go_enter Try.func13, Try.ntmps13
  go_wp2_with fail
  go_loopw [3, 4] (fun v i wr => ∃ k : Nat, k ≤ zs.length ∧ k ≤ 6 ∧ i = .int .i64 k ∧ wr.ownsRow w.heap.size 46 2 v k ((((zs.take 6).take k).map noticeOf).flatMap noticeFlat) ∧ Below w.heap.size w wr) (fun _ i _ => 6 - (intOf i).toNat)
  case atStart => exact ⟨0, Nat.zero_le _, by omega, rfl, World.ownsRow_nil _ _ _ _, Below.refl _ _⟩
  case round =>
    obtain ⟨k, hk, hk6, rfl, hown, hb⟩ := hrel
    have hsr := hb.size
    by_cases hlt : k < zs.length
    · by_cases h6 : k < 6
      · rcases HLL.out with h0 | ⟨b, off, rfl, hbw, hc0⟩
        · omega
        have hc : wr.cell? ⟨b, off + k, none⟩ = some (.int .u16 (zs.getD k 0)) := by
          have := hc0 k hlt 0 (by omega)
          rw [Nat.mul_one, Nat.add_zero] at this
          rw [hb.cell (p := ⟨b, off + k, none⟩) hbw]; exact this
        clear hc0
        have htk := noticesOf_take zs k hlt h6
        obtain ⟨z0, z1⟩ := HZ.out k
        obtain ⟨z, hz⟩ : ∃ z, z = zs.getD k 0 := ⟨_, rfl⟩
        rw [← hz] at hc htk z0 z1
        have HT := Lib.hid htk
        have HO := Lib.hid hown
        have HB := Lib.hid hb
        have hk0 : (0 : Int) ≤ (k : Int) := Int.natCast_nonneg _
        have hk1 : (k : Int) < (zs.length : Int) := by omega
        clear hz htk hown hb
        have e1 := nt_mod z0
        have e2 := nt_div z0 z1
        go_wp2_with fail
        go_region_held3 (fun w' => w'.cell? ⟨b, off + k, none⟩ = some (.int .u16 z))
          (first | exact hc | go_keep)
          (first
            | (refine step_append_lies _ (by rfl) _ _ _ (by rfl) w.heap.size 46 i0 (.agg #[.int .i64 0, .int .i64 0]) 2 16 Try.underlying24 hi hz0 hz1 hz2 rfl (by omega) _ k _ (by rfl) ((HO.out.alloc _).drew)
                 ⟨wr.heap.size, 0, none⟩ 1 1 [.int .i64 (z % 5), .int .i64 (z / 5 % 50)] (by rfl) (by rfl) (World.news_of_block (cs := #[.int .i64 (z % 5), .int .i64 (z / 5 % 50)]) (t := 46) (fr := (0, 0)) (heap_alloc_new wr _)) (by simp [Value.oneCell'])
                 (by omega) (by unfold maxLen; omega) (by omega) (by simp; omega) (wr.heap.size + 1) (by simp) ?_
               intro gg cap w4 hown4 hg4 hat hlt4
               have hb4 := build_step HB.out hsr HO.out hg4
               have f0 := below_two HB.out hb4 (p := ⟨b, off + k, none⟩) (by simpa using hbw) hc))
        go_wp2_with fail
        go_roundw
        case rel => exact ⟨k + 1, hlt, h6, by go_num, by rw [HT.out, List.flatMap_append]; exact hown4, hb4⟩
        case measure => simp [intOf]; omega
      · have he := noticesOf_end zs k hk (by omega)
        rw [he] at hown
        have hn : (noticesOf zs).length = k := by rw [← he]; simp; omega
        have HO := Lib.hid hown
        have HN := Lib.hid hn
        clear hown he hn
        go_wp2_with fail
        go_ret
        exact ⟨_, rfl, by rw [HN.out]; exact HO.out, hb⟩
    · have he := noticesOf_end zs k hk (by omega)
      rw [he] at hown
      have hn : (noticesOf zs).length = k := by rw [← he]; simp; omega
      have HO := Lib.hid hown
      have HN := Lib.hid hn
      clear hown he hn
      go_wp2_with fail
      go_ret
      exact ⟨_, rfl, by rw [HN.out]; exact HO.out, hb⟩


/-- The notices as a slice: nil only where they are none; their room is no smaller. -/
theorem lies_notices {w : World} {base : Nat} {v : Value} (l : List (Int × Int)) (h : w.ownsRow base 46 2 v l.length (l.flatMap noticeFlat)) : ∃ ro rc, v = .slice ro l.length rc ∧ LiesAt w ro 2 l.length (noticeCell l) ∧ l.length ≤ rc ∧ rc ≤ maxLen := by
  obtain ⟨ro, rc, rfl, hl⟩ := liesAt_of_owns (f := noticeCell l) h (fun i hi j hj => by
    rw [flat_get noticeFlat 2 (fun _ => rfl) (0, 0) _ i j (by omega) hj]
    match j, hj with
    | 0, _ => rfl
    | 1, _ => rfl)
  refine ⟨ro, rc, rfl, hl, ?_⟩
  rcases h.2 with ⟨hv, h0⟩ | ⟨g, cap, cur, hv, _, _, hn, hc, _⟩
  · injection hv with h1 h2 h3
    exact ⟨by omega, by rw [h3]; exact Nat.zero_le _⟩
  · injection hv with h1 h2 h3
    subst h3
    exact ⟨hn, hc⟩

/-- The losses of notice number k, as losses of the only notice. -/
def ownOf (k : Int) (l : List LossD) : List LossD := (l.filter fun x => decide (x.1 = k)).map fun x => (0, x.2.1, x.2.2)

theorem ownOf_take (k : Int) (l : List LossD) (j : Nat) (h : j < l.length) :
    ownOf k (l.take (j + 1)) = if (l.getD j (0, 0, false)).1 = k then ownOf k (l.take j) ++ [(0, (l.getD j (0, 0, false)).2.1, (l.getD j (0, 0, false)).2.2)] else ownOf k (l.take j) := by
  unfold ownOf
  rw [List.take_succ_eq_append_getElem h, List.filter_append, List.map_append]
  have e : l.getD j (0, 0, false) = l[j] := by simp [List.getD, h]
  rw [e]
  by_cases hc : l[j].1 = k
  · simp [hc]
  · simp [hc]

theorem ownOf_length (k : Int) (l : List LossD) : (ownOf k l).length ≤ l.length := by
  unfold ownOf
  rw [List.length_map]
  exact List.length_filter_le _ _

theorem ownOf_gone (k : Int) (l : List LossD) (t : Int) (c : Bool) : goneF l (k, t, c) = goneF (ownOf k l) (0, t, c) := by
  unfold goneF ownOf
  congr 1
  apply propext
  simp only [List.mem_map, List.mem_filter, decide_eq_true_eq]
  constructor
  · intro h
    exact ⟨(k, t, c), ⟨h, rfl⟩, rfl⟩
  · rintro ⟨⟨x, y, z⟩, ⟨hm, rfl⟩, he⟩
    simp only [Prod.mk.injEq, true_and] at he
    obtain ⟨rfl, rfl⟩ := he
    exact hm

theorem ownOf_fits (k : Int) (l : List LossD) (h : ∀ x ∈ l, LossFits x) : ∀ x ∈ ownOf k l, LossFits x := by
  intro x hx
  unfold ownOf at hx
  obtain ⟨y, hy, rfl⟩ := List.mem_map.1 hx
  have := h y (List.mem_filter.1 hy).1
  exact ⟨wf_small (by dsimp only; omega) (by dsimp only; omega), this.2⟩

theorem serveF_alone (ev tr pu : Int) (x : Int × Int) (k : Int) (l : List LossD) : serveF ev tr pu x 0 (ownOf k l) = serveF ev tr pu x k l :=
  (serveF_own ev tr pu k 0 x l (ownOf k l) (ownOf_gone k l)).symm
end Go.Proofs.Ytlblacgmecgbkaa
