/-
  Contract: the library's SortFunc at rulings.
-/
import Derived.Test.YtpddpdkdlodniaaOCmp
namespace Go.Proofs.Ytpddpdkdlodniaa
open Go.RowKit Go.Shelf Go.Sort

theorem cmpLays (blk off size : Nat) (w : World) : CmpLays Try.prog 52 #[] rlCells 3 cmpR blk off size w :=
  fun _ _ _ _ x y => cmp_closure x y _

set_option maxHeartbeats 2000000 in
theorem insertion_none (p : Option Addr) (cap : Nat) (fv : Value) (w : World) :
    Calls Try.prog 71 #[.slice p 0 cap, .int .i64 0, .int .i64 0, fv] w fun e w' => e = .returned (.tuple #[]) ∧ w' = w := by
  go_enter Try.func71, Try.ntmps71
  go_wp2
  refine wp_loop_rounds 1 ?_
  rw [rounds_succ]
  go_wp2
  go_end0
  exact ⟨rfl, rfl⟩
set_option maxRecDepth 100000 in
set_option maxHeartbeats 2000000 in
theorem pdq_none (p : Option Addr) (cap : Nat) (lim : Int) (fv : Value) (w : World) :
    Calls Try.prog 62 #[.slice p 0 cap, .int .i64 0, .int .i64 0, .int .i64 lim, fv] w fun e w' => e = .returned (.tuple #[]) ∧ w' = w := by
  have HI := Lib.hid fun W => insertion_none p cap fv W
  go_enter Try.func62, Try.ntmps62
  go_wp2_with fail
  refine wp_loop_rounds 1 ?_
  rw [rounds_succ]
  go_wp2_with (go_at_call 71
               go_must (refine (HI.out _).mono ?_)
               rintro e w' ⟨rfl, rfl⟩)
  (try simp only [Exit.inBlock, Exit.then])
  refine bodyPost_ret (results_none rfl _ _ _) rfl ?_
  exact ⟨rfl, rfl⟩
set_option maxHeartbeats 2000000 in
theorem rsort_none (p : Option Addr) (cap : Nat) (fv : Value) (w : World) :
    Calls Try.prog 51 #[.slice p 0 cap, fv] w fun e w' => e = .returned (.tuple #[]) ∧ w' = w := by
  have HP := Lib.hid fun lim W => pdq_none p cap lim fv W
  have HL : Hid (∀ W, Calls Try.prog 63 #[.int .u64 0] W fun e w' => e = .returned (.int .i64 (Lib.bitLen 0 : Nat)) ∧ w' = W) := Lib.hid fun W =>
    Any.bits_Len (SlLaysF0.n15.bits (P := Try.prog) (ρ := Ytpddpdkdlodniaa.laysSortF_ren) { Ytpddpdkdlodniaa.laysSortF with }) 0 W (by omega) (by omega)
  go_enter Try.func51, Try.ntmps51
  go_wp2_with (first
    | (go_at_call 63
       refine (HL.out _).mono ?_
       rintro e w' ⟨rfl, rfl⟩)
    | (go_at_call 62
       refine (HP.out _ _).mono ?_
       rintro e w' ⟨rfl, rfl⟩))
  go_end0
  exact ⟨rfl, rfl⟩

theorem rl_one : ∀ x : Rl, ∀ v ∈ rlCells x, v.oneCell' = true := by
  intro x v hv
  simp [rlCells] at hv
  rcases hv with rfl | rfl | rfl <;> rfl
theorem flatK_list (L : List Rl) : (flatK rlCells 3 L.toArray).toList = L.flatMap rlCells := by
  apply List.ext_getElem?
  intro t
  by_cases ht : t < L.length * 3
  · have hi : t / 3 < L.length := by omega
    have h := flat_get rlCells 3 (fun _ => rfl) default L (t / 3) (t % 3) hi (by omega)
    rw [show t / 3 * 3 + t % 3 = t by omega] at h
    rw [h]
    have hs : t < (flatK rlCells 3 L.toArray).size := by simpa using ht
    have hg := get_flatK rlCells 3 L.toArray t (by simpa using ht)
    rw [getElem!_pos (flatK rlCells 3 L.toArray) t hs] at hg
    rw [Array.getElem?_toList, Array.getElem?_eq_getElem hs, hg]
    have e2 : (L.toArray)[t / 3]! = L.getD (t / 3) default := by simp [List.getD, hi]
    rw [e2]
    have h3 : t % 3 < (rlCells (L.getD (t / 3) default)).length := by simp [rlCells]; omega
    rw [getElem!_pos (rlCells (L.getD (t / 3) default)) (t % 3) h3, List.getElem?_eq_getElem h3]
  · rw [List.getElem?_eq_none (by simpa using ht), List.getElem?_eq_none (by rw [flat_len rlCells 3 (fun _ => rfl)]; omega)]

theorem take_putCells (cur F : Array Value) (h : F.size ≤ cur.size) : (putCells id 0 F cur).toList.take F.size = F.toList := by
  apply List.ext_getElem?
  intro j
  by_cases hj : j < F.size
  · rw [List.getElem?_take_of_lt hj, Array.getElem?_toList]
    simp [putCells, hj, show j < cur.size by omega]
  · rw [List.getElem?_take_eq_none (by omega), List.getElem?_eq_none (by simp; omega)]
theorem heap_sorted {w : World} {g n : Nat} {os : Array Obj} {cur : Array Value} {e : TypeId} {fr : Nat × Nat} (F : Array Value) (hb : w.heap[g]? = some (.cells cur e fr)) :
    (grow (putRow id (Sort.ahead w n) g 0 F) os).heap[g]? = some (.cells (putCells id 0 F cur) e fr) := by
  have hg : g < w.heap.size := (Array.getElem?_eq_some_iff.1 hb).1
  rw [heap_grow_old _ _ (by simpa using hg)]
  simp [putRow, mapBlock, Sort.ahead, Array.getElem?_modify, hb, onCells]
theorem grown_sorted {w : World} {g n : Nat} {os : Array Obj} (F : Array Value) : w.grownBy (grow (putRow id (Sort.ahead w n) g 0 F) os) (some g) := by
  refine ⟨rfl, rfl, rfl, by simp, fun k hk hne => ?_⟩
  rw [heap_grow_old _ _ (by simpa using hk)]
  have : g ≠ k := fun e => hne (by rw [e])
  simp [putRow, mapBlock, Sort.ahead, Array.getElem?_modify, this]

/-- SortFunc at rulings that the call owns, no two of one name: they are sorted. -/
theorem rsort_any (v : Value) (L : List Rl) (base : Nat) (w : World) (hown : w.ownsRow base 52 3 v L.length (L.flatMap rlCells)) (hl : L.length ≤ 1000) (hd : L.Pairwise (fun a b => a.id ≠ b.id)) :
    Calls Try.prog 51 #[v, .func (.func 52) #[] #[]] w fun e w' => e = .returned (.tuple #[]) ∧ w'.ownsRow base 52 3 v L.length ((sortR L).flatMap rlCells) ∧ w.grownBy w' v.ownBlock := by
  rcases hown.2 with ⟨rfl, h0⟩ | ⟨g, cap, cur, rfl, hbg, hh, hnc, hcm, hcs, htake⟩
  · obtain rfl : L = [] := List.length_eq_zero_iff.1 h0
    refine (rsort_none none 0 _ w).mono fun e w' ⟨he, hw⟩ => ⟨he, ?_, ?_⟩
    · rw [hw, show sortR [] = [] by simp [sortR]]
      exact World.ownsRow_nil _ _ _ _
    · rw [hw]
      exact ⟨rfl, rfl, rfl, Nat.le_refl _, fun _ _ _ => rfl⟩
  · have eg : ∀ args w, (callFunc 52 args).run Try.prog w = .ok (.enter 52 args) w := enters_of Try.func52 (by kernel_rfl) rfl
    have hH : HoldsK rlCells 3 w g 0 L.toArray := by
      intro j hj
      have hj' : j < L.length * 3 := by simpa using hj
      refine ⟨?_, ?_⟩
      · rw [Nat.zero_add, hown.cellAt j hj', ← flatK_list, Array.getElem?_toList, Array.getElem?_eq_getElem hj, getElem!_pos _ j hj]
        rfl
      · rw [Nat.zero_add]
        exact hown.frozenAt j
    have hcon := AnyQ.slices_SortFunc Ytpddpdkdlodniaa.laysSortF 3 Try.isAgg52 Try.sizeOf52 rlCells (fun _ => rfl) rl_one cmpR swoR 52 #[] g 0 cap L.toArray w eg (cmpLays g 0 _ w) hH (Array.getElem?_eq_some_iff.1 hh).1 (by simp; omega)
    have hcon2 : Calls Try.prog 51 #[.slice (some ⟨g, 0, none⟩) L.length cap, .func (.func 52) #[] #[]] w _ := hcon
    refine hcon2.mono fun e w' ⟨he, d', n, os, hp, hs, hw⟩ => ⟨he, ?_, ?_⟩
    · obtain ⟨p1, -, p3⟩ := hp
      have hsz : d'.size = L.length := by simpa using p1
      have hperm : d'.toList.Perm L := by
        have e1 : (d'.extract 0 L.toArray.size).toList = d'.toList := by simp only [List.size_toArray, ← hsz, Array.extract_size]
        have e2 : (L.toArray.extract 0 L.toArray.size).toList = L := by simp
        rw [e1, e2] at p3
        exact p3
      have hsorted : d'.toList.Pairwise (fun a b => leR a b = true) := by
        rw [List.pairwise_iff_getElem]
        intro i j hi hj hij
        have hi' : i < d'.size := by simpa using hi
        have hj' : j < d'.size := by simpa using hj
        have := hs i j (Nat.zero_le _) hij (by simpa [hsz] using hj')
        rw [getElem!_pos _ i hi', getElem!_pos _ j hj', cmpR_lt] at this
        simp only [Array.getElem_toList]
        generalize d'[i] = a at *
        generalize d'[j] = b at *
        simp at this
        simp [leR]
        omega
      have hu := sortR_unique hperm hsorted hd
      have hF : (flatK rlCells 3 d').toList = (sortR L).flatMap rlCells := by
        rw [← hu, ← flatK_list d'.toList]
      have hFs : (flatK rlCells 3 d').size = L.length * 3 := by rw [size_flatK, hsz]
      rw [hw]
      refine ⟨by rw [← hF, Array.length_toList, hFs], .inr ⟨g, cap, putCells id 0 (flatK rlCells 3 d') cur, rfl, hbg, ?_, hnc, hcm, by simp [putCells, hcs], ?_⟩⟩
      · exact heap_sorted _ hh
      · rw [← hFs, take_putCells _ _ (by rw [hFs, hcs]; exact Nat.mul_le_mul_right 3 hnc)]
        exact hF
    · rw [hw]
      exact grown_sorted _
end Go.Proofs.Ytpddpdkdlodniaa
