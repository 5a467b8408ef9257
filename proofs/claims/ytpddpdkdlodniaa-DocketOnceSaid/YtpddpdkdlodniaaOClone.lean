/-
  Contracts: copies of lists of matters and of days; of terms.
-/
import Derived.Test.YtpddpdkdlodniaaOFind
import Derived.Test.YtpddpdkdlodniaaNKDeadl
import Derived.OwnWalk
import Derived.Lib.OwnBridge
import Derived.Deep.Onto
import Derived.Laws.OwnMore
namespace Go.Proofs.Ytpddpdkdlodniaa
open Go.RowKit Go.Shelf

theorem Try.infoMatter : (Try.prog.info? 50).map (fun i => (i.zero, i.size, i.bytes)) = some (some (.agg #[.int .i64 0, .int .i64 0, .int .i64 0, .int .i64 0, .bool false]), 5, 40) := by kernel_rfl

/-- Lists of elements of a fixed number of cells. -/
theorem flat_get {α : Type} (f : α → List Value) (size : Nat) (hs : ∀ x, (f x).length = size) (d : α) (l : List α) (i j : Nat) (hi : i < l.length) (hj : j < size) : (l.flatMap f)[i * size + j]? = (f (l.getD i d))[j]? := by
  induction l generalizing i with
  | nil => simp at hi
  | cons s ss ih =>
    rw [List.flatMap_cons]
    have hl := hs s
    cases i with
    | zero => rw [List.getElem?_append_left (by omega)]; simp
    | succ i =>
      rw [List.getElem?_append_right (by rw [hl, Nat.add_mul]; omega)]
      have := ih i (by simpa using hi)
      have e : (i + 1) * size + j - (f s).length = i * size + j := by rw [hl, Nat.add_mul]; omega
      rw [e, this, List.getD_cons_succ]
theorem flat_len {α : Type} (f : α → List Value) (size : Nat) (hs : ∀ x, (f x).length = size) (l : List α) : (l.flatMap f).length = l.length * size := by
  induction l with
  | nil => simp
  | cons s ss ih => rw [List.flatMap_cons, List.length_append, ih, hs, List.length_cons, Nat.add_mul]; omega
theorem mts_cell {w : World} {b off : Nat} {l : List Mt} (hc : ∀ i, i < l.length → MtAt w b (off + i * 5) (l.getD i default)) (j : Nat) (u : Value) (h : (l.flatMap mtCells)[j]? = some u) : w.cell? ⟨b, off + j, none⟩ = some u := by
  have hj := (List.getElem?_eq_some_iff.1 h).1
  rw [flat_len mtCells 5 (fun _ => rfl)] at hj
  have hd : j = j / 5 * 5 + j % 5 := by omega
  have hi : j / 5 < l.length := by omega
  rw [hd, flat_get mtCells 5 (fun _ => rfl) default l (j / 5) (j % 5) hi (by omega)] at h
  obtain ⟨k0, k1, k2, k3, k4⟩ := hc _ hi
  rw [hd]
  generalize l.getD (j / 5) default = y at *
  have h5 : j % 5 < 5 := by omega
  generalize j % 5 = r at *
  rw [← Nat.add_assoc]
  match r, h5 with
  | 0, _ => simp [mtCells] at h; rw [← h]; exact k0
  | 1, _ => simp [mtCells] at h; rw [← h]; exact k1
  | 2, _ => simp [mtCells] at h; rw [← h]; exact k2
  | 3, _ => simp [mtCells] at h; rw [← h]; exact k3
  | 4, _ => simp [mtCells] at h; rw [← h]; exact k4
theorem mts_one {l : List Mt} : ∀ u ∈ l.flatMap mtCells, u.oneCell' = true := by
  intro u hu
  obtain ⟨m, _, hm⟩ := List.mem_flatMap.1 hu
  simp [mtCells] at hm
  rcases hm with rfl | rfl | rfl | rfl | rfl <;> rfl

set_option maxHeartbeats 2000000 in
theorem cloneM_zero (a : Addr) (c : Nat) (w : World) : Calls Try.prog 50 #[.slice (some a) 0 c] w fun e w' => ∃ v', e = .returned v' ∧ w'.ownsRow w.heap.size 50 5 v' 0 [] ∧ Below w.heap.size w w' := by
  obtain ⟨i0, hi, hz0, hz1, hz2⟩ := info_split Try.infoMatter
  have q22 : ∀ (w : World) (a : Option Addr) (n c n' c' : Nat), (binOp .eql 28 (.slice a n c) (.slice none n' c')).run Try.prog w = .ok (.bool a.isNone) w := fun w a n c n' c' => Lib.run_eql_slice_nil w _ _ a n c n' c' Try.underlying28
  go_enter Try.func50, Try.ntmps50
  go_wp2_with (at_builtin; refine wpList_append_own _ rfl _ _ 28 rfl w.heap.size 50 i0 (.agg #[.int .i64 0, .int .i64 0, .int .i64 0, .int .i64 0, .bool false]) 5 40 Try.underlying28 hi hz0 hz1 hz2 rfl (by decide) _ _ _ rfl (World.ownsRow_made w #[] 0 (Nat.le_refl _) (Nat.zero_le _) (by simp)) a 0 c [] rfl ?qc1 ?qc2 ?qc3 ?qc4 ?qc5 ?qc6 ?_)
  case qc1 => rfl
  case qc2 => intro j u hj; simp at hj
  case qc3 => simp
  case qc4 => unfold maxLen; omega
  case qc5 => omega
  case qc6 => simp
  intro v' w1 hown hgrow hnil
  go_wp2
  go_ret
  exact ⟨v', rfl, by simpa using hown, ((Below.refl _ w).alloc (Nat.le_refl _) _).grown hgrow (by simp) (by intro k hk; simp [Value.ownBlock] at hk; omega)⟩

theorem cloneM_any (ao : Option Addr) (c : Nat) (l : List Mt) (w : World) (hM : Mts w ao l) (hl : l.length ≤ 1000) :
    Calls Try.prog 50 #[.slice ao l.length c] w fun e w' => ∃ v', e = .returned v' ∧ w'.ownsRow w.heap.size 50 5 v' l.length (l.flatMap mtCells) ∧ Below w.heap.size w w' := by
  by_cases h0 : l.length = 0
  · obtain rfl : l = [] := List.length_eq_zero_iff.1 h0
    cases ao with
    | none =>
      exact (AnyE.slices_Clone_nil Ytpddpdkdlodniaa.laysCloneM 0 c w).mono fun e w' ⟨he, hw⟩ => ⟨_, he, by rw [hw]; exact World.ownsRow_nil _ _ _ _, by rw [hw]; exact Below.refl _ _⟩
    | some a => exact cloneM_zero a c w
  · obtain ⟨b, off, rfl, hb, hc⟩ := hM.cells (by omega)
    obtain ⟨i0, hi, hz0, hz1, hz2⟩ := info_split Try.infoMatter
    exact (AnyE.slices_Clone Ytpddpdkdlodniaa.laysCloneM i0 _ 5 40 hi hz0 hz1 hz2 rfl (by decide) Try.sizeOf50 b off l.length c (l.flatMap mtCells) w (flat_len mtCells 5 (fun _ => rfl) l) (by unfold maxLen; omega) (by omega) (mts_cell hc) mts_one).mono
      fun e w' ⟨v', he, ho, _, hb⟩ => ⟨v', he, ho, hb⟩

set_option maxHeartbeats 2000000 in
theorem cloneI_zero (a : Addr) (c : Nat) (w : World) : Calls Try.prog 55 #[.slice (some a) 0 c] w fun e w' => ∃ v', e = .returned v' ∧ w'.ownsRow w.heap.size 3 1 v' 0 [] ∧ Below w.heap.size w w' := by
  obtain ⟨i0, hi, hz0, hz1, hz2⟩ := info_split Try.infoInt
  have q22 : ∀ (w : World) (a : Option Addr) (n c n' c' : Nat), (binOp .eql 25 (.slice a n c) (.slice none n' c')).run Try.prog w = .ok (.bool a.isNone) w := fun w a n c n' c' => Lib.run_eql_slice_nil w _ _ a n c n' c' Try.underlying25
  go_enter Try.func55, Try.ntmps55
  go_wp2_with (at_builtin; refine wpList_append_own _ rfl _ _ 25 rfl w.heap.size 3 i0 (.int .i64 0) 1 8 Try.underlying25 hi hz0 hz1 hz2 rfl (by decide) _ _ _ rfl (World.ownsRow_made w #[] 0 (Nat.le_refl _) (Nat.zero_le _) (by simp)) a 0 c [] rfl ?qc1 ?qc2 ?qc3 ?qc4 ?qc5 ?qc6 ?_)
  case qc1 => rfl
  case qc2 => intro j u hj; simp at hj
  case qc3 => simp
  case qc4 => unfold maxLen; omega
  case qc5 => omega
  case qc6 => simp
  intro v' w1 hown hgrow hnil
  go_wp2
  go_ret
  exact ⟨v', rfl, by simpa using hown, ((Below.refl _ w).alloc (Nat.le_refl _) _).grown hgrow (by simp) (by intro k hk; simp [Value.ownBlock] at hk; omega)⟩

theorem owns_form {w : World} {base e size n : Nat} {v : Value} {xs : List Value} (h : w.ownsRow base e size v n xs) : ∃ ao cap, v = .slice ao n cap ∧ n ≤ cap := by
  rcases h.2 with ⟨rfl, rfl⟩ | ⟨g, cap, cur, rfl, _, _, hn, _⟩
  · exact ⟨none, 0, rfl, Nat.le_refl _⟩
  · exact ⟨_, cap, rfl, hn⟩
theorem owns_next {w w' : World} {base e size : Nat} {v : Value} {n : Nat} {xs : List Value} (h : w.ownsRow base e size v n xs) (hb : Below w.heap.size w w') : w'.ownsRow base e size v n xs := by
  refine ⟨h.1, ?_⟩
  rcases h.2 with h2 | ⟨g, cap, cur, hv, hg, hh, r⟩
  · exact .inl h2
  · exact .inr ⟨g, cap, cur, hv, hg, by rw [hb.block g (Array.getElem?_eq_some_iff.1 hh).1]; exact hh, r⟩
/-- A store into a block of another type. -/
theorem owns_set {w : World} {base e size n b i : Nat} {v u : Value} {xs : List Value} {cs : Array Value} {T : TypeId} {fr : Nat × Nat} (h : w.ownsRow base e size v n xs) (hb : w.heap[b]? = some (.cells cs T fr)) (hT : T ≠ e) : (w.setCell ⟨b, i, none⟩ u).ownsRow base e size v n xs := by
  refine ⟨h.1, ?_⟩
  rcases h.2 with h2 | ⟨g, cap, cur, hv, hg, hh, r⟩
  · exact .inl h2
  · refine .inr ⟨g, cap, cur, hv, hg, ?_, r⟩
    have hne : g ≠ b := fun e1 => by
      rw [e1, hb] at hh
      simp at hh
      exact hT hh.2.1
    rw [Below.heap_setCell w _ u g (by exact fun e1 => hne e1)]
    exact hh
theorem owns_ints {w : World} {base e n cap : Nat} {ao : Option Addr} {l : List Int} (h : w.ownsRow base e 1 (.slice ao n cap) n (l.map (Value.int .i64))) : Ints w ao l := by
  obtain ⟨hn, ⟨h1, rfl⟩ | ⟨g, cp, h1, hbg, hgl, hncap⟩⟩ := owns_slice h
  · exact .inl rfl
  · cases h1
    subst hn
    exact ints_of_owns h
theorem owns_mts {w : World} {base e n cap : Nat} {ao : Option Addr} {l : List Mt} (h : w.ownsRow base e 5 (.slice ao n cap) n (l.flatMap mtCells)) : Mts w ao l := by
  have hl := h.1
  rw [flat_len mtCells 5 (fun _ => rfl)] at hl
  rcases h.2 with ⟨h1, h2⟩ | ⟨g, cap', cur, h1, hg, hh, r⟩
  · exact .inl (List.length_eq_zero_iff.1 (by omega))
  · cases h1
    refine .inr ⟨g, 0, rfl, (Array.getElem?_eq_some_iff.1 hh).1, fun i hi => ?_⟩
    have hc : ∀ j, j < 5 → w.cell? ⟨g, 0 + i * 5 + j, none⟩ = (mtCells (l.getD i default))[j]? := fun j hj => by
      rw [Nat.zero_add, h.cellAt (i * 5 + j) (by omega), flat_get mtCells 5 (fun _ => rfl) default l i j hi hj]
    exact ⟨hc 0 (by omega), hc 1 (by omega), hc 2 (by omega), hc 3 (by omega), hc 4 (by omega)⟩
theorem cloneM_slice (ao : Option Addr) (c : Nat) (l : List Mt) (w : World) (hM : Mts w ao l) (hl : l.length ≤ 1000) :
    Calls Try.prog 50 #[.slice ao l.length c] w fun e w' => ∃ mo mc, e = .returned (.slice mo l.length mc) ∧ w'.ownsRow w.heap.size 50 5 (.slice mo l.length mc) l.length (l.flatMap mtCells) ∧ Below w.heap.size w w' :=
  (cloneM_any ao c l w hM hl).mono fun e w' ⟨v', he, ho, hb⟩ => by
    obtain ⟨mo, mc, rfl, _⟩ := owns_form ho
    exact ⟨mo, mc, he, ho, hb⟩

theorem cloneI_any (ao : Option Addr) (c : Nat) (l : List Int) (w : World) (hI : Ints w ao l) (hl : l.length ≤ 1000000) :
    Calls Try.prog 55 #[.slice ao l.length c] w fun e w' => ∃ ro rc, e = .returned (.slice ro l.length rc) ∧ w'.ownsRow w.heap.size 3 1 (.slice ro l.length rc) l.length (l.map (Value.int .i64)) ∧ Below w.heap.size w w' := by
  have fin : ∀ (e : Ending) (w' : World) (v' : Value), e = .returned v' → w'.ownsRow w.heap.size 3 1 v' l.length (l.map (Value.int .i64)) → Below w.heap.size w w' → ∃ ro rc, e = .returned (.slice ro l.length rc) ∧ w'.ownsRow w.heap.size 3 1 (.slice ro l.length rc) l.length (l.map (Value.int .i64)) ∧ Below w.heap.size w w' := fun e w' v' he ho hb => by
    obtain ⟨mo, mc, rfl, _⟩ := owns_form ho
    exact ⟨mo, mc, he, ho, hb⟩
  by_cases h0 : l.length = 0
  · obtain rfl : l = [] := List.length_eq_zero_iff.1 h0
    cases ao with
    | none => exact (AnyE.slices_Clone_nil Ytpddpdkdlodniaa.laysCloneI 0 c w).mono fun e w' ⟨he, hw⟩ => fin e w' _ he (by rw [hw]; exact World.ownsRow_nil _ _ _ _) (by rw [hw]; exact Below.refl _ _)
    | some a => exact (cloneI_zero a c w).mono fun e w' ⟨v', he, ho, hb⟩ => fin e w' v' he ho hb
  · obtain ⟨b, off, rfl, hb, hc⟩ := hI.cells (by omega)
    obtain ⟨i0, hi, hz0, hz1, hz2⟩ := info_split Try.infoInt
    refine (AnyE.slices_Clone Ytpddpdkdlodniaa.laysCloneI i0 _ 1 8 hi hz0 hz1 hz2 rfl (by decide) Try.sizeOf3 b off l.length c (l.map (Value.int .i64)) w (by simp) (by unfold maxLen; omega) (by omega) (fun j u h => ?_) (fun u hu => ?_)).mono fun e w' ⟨v', he, ho, _, hb⟩ => fin e w' v' he ho hb
    · have hj := (List.getElem?_eq_some_iff.1 h).1
      simp at hj
      have := hc j hj
      simp [List.getElem?_map, List.getElem?_eq_getElem hj] at h
      rw [← h]
      have e2 : l.getD j 0 = l[j] := by simp [List.getD, hj]
      rw [e2] at this
      exact this
    · obtain ⟨x, _, rfl⟩ := List.mem_map.1 hu
      rfl
end Go.Proofs.Ytpddpdkdlodniaa
