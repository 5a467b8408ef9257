/-
  Contract: the opening of a matter.
-/
import Derived.Test.YtpddpdkdlodniaaOAdvance
namespace Go.Proofs.Ytpddpdkdlodniaa
open Go.RowKit

/-- Every block but two is as it was. -/
def Kept (w w' : World) (P : Nat) (v : Value) : Prop := ∀ b, b < w.heap.size → b ≠ P → some b ≠ v.ownBlock → w'.heap[b]? = w.heap[b]?
theorem Kept.row {w w' : World} {P : Nat} {mo : Option Addr} {mn mc : Nat} {B B2 : Nat} {xs0 : List Value} (h : Kept w w' P (.slice mo mn mc)) {o : Array Value} (hP : w.heap[P]? = some (.cells o 30 (0, 0))) (hv : w.ownsRow B 50 5 (.slice mo mn mc) mn xs0)
    {e size n : Nat} {v : Value} {xs : List Value} (hr : w.ownsRow B2 e size v n xs) (h30 : 30 ≠ e) (h50 : e ≠ 50) : w'.ownsRow B2 e size v n xs := by
  refine ⟨hr.1, ?_⟩
  rcases hr.2 with h2 | ⟨g, cap, cur, hv2, hg, hh, r⟩
  · exact .inl h2
  · refine .inr ⟨g, cap, cur, hv2, hg, ?_, r⟩
    rw [h g (Array.getElem?_eq_some_iff.1 hh).1 (fun e1 => by rw [e1, hP] at hh; simp at hh; exact h30 hh.2) (row_ne hv hh h50)]
    exact hh

theorem openE_cases (l : List Mt) (id : Int) : (id < 0 ∧ openE l id = 1) ∨ (¬ id < 0 ∧ hasF l id = true ∧ openE l id = 12) ∨ (¬ id < 0 ∧ hasF l id = false ∧ 32 ≤ l.length ∧ openE l id = 2) ∨ (¬ id < 0 ∧ hasF l id = false ∧ l.length < 32 ∧ openE l id = 0) := by
  unfold openE
  by_cases h1 : id < 0
  · simp [h1]
  · by_cases h2 : hasF l id = true
    · simp [h1, h2]
    · have h2' : hasF l id = false := by simpa using h2
      by_cases h3 : 32 ≤ l.length
      · simp [h1, h2', h3]
      · simp [h1, h2', h3]; omega

set_option maxRecDepth 100000 in
set_option maxHeartbeats 4000000 in
theorem open_err (P : Nat) (id day ans app : Int) (ro mo : Option Addr) (hn rc mc : Nat) (l : List Mt) (w : World) (hP : w.heap[P]? = some (dkObj day ans app ro hn rc mo l.length mc)) (hM : Mts w mo l) (hl : l.length ≤ 32) (he : ¬ openE l id = 0) :
    Calls Try.prog 36 #[.pointer (some ⟨P, 0, none⟩), .int .i64 id] w fun e w' => e = .returned (.int .i64 (openE l id)) ∧ Below w.heap.size w w' := by
  obtain ⟨x0, x1, x2, x3, x4⟩ := five_cells hP
  have hPl := (Array.getElem?_eq_some_iff.1 hP).1
  have HP := Lib.hid hP
  have HF := Lib.hid (find_any mo l.length mc l id w hM (Nat.le_refl _) (by omega))
  rw [List.take_length] at HF
  clear hP hM
  rcases openE_cases l id with ⟨h1, h2⟩ | ⟨h1, h3, h2⟩ | ⟨h1, h3, h4, h2⟩ | ⟨_, _, _, h2⟩
  · rw [h2]
    clear he h2
    go_enter Try.func36, Try.ntmps36
    go_wp2_with fail
    go_ret
    exact ⟨rfl, Below.refl _ _⟩
  · rw [h2]
    have hpos := find_has h3
    clear he h2 h3
    generalize findF l id = r at HF hpos
    go_enter Try.func36, Try.ntmps36
    go_wp2_with fail
    refine HF.out.mono ?_
    rintro e w3 ⟨rfl, hb3⟩
    have HB := Lib.hid hb3
    clear hb3
    go_wp2_with fail
    go_ret
    exact ⟨rfl, HB.out⟩
  · rw [h2]
    rw [find_hasnt h3] at HF
    have h4i : (32 : Int) ≤ (l.length : Int) := by omega
    clear he h2 h3 h4
    go_enter Try.func36, Try.ntmps36
    go_wp2_with fail
    refine HF.out.mono ?_
    rintro e w3 ⟨rfl, hb3⟩
    obtain ⟨x0, x1, x2, x3, x4⟩ := five_cells (keep_heap hb3 HP.out)
    have HB := Lib.hid hb3
    clear hb3
    go_wp2_with fail
    go_ret
    exact ⟨rfl, HB.out⟩
  · exact absurd h2 he

set_option maxRecDepth 100000 in
set_option maxHeartbeats 4000000 in
theorem open_ok (P B : Nat) (id day ans app : Int) (ro mo : Option Addr) (hn rc mc : Nat) (l : List Mt) (w : World) (hP : w.heap[P]? = some (dkObj day ans app ro hn rc mo l.length mc)) (hO : w.ownsRow B 50 5 (.slice mo l.length mc) l.length (l.flatMap mtCells)) (hBP : B ≤ P) (he : openE l id = 0) :
    Calls Try.prog 36 #[.pointer (some ⟨P, 0, none⟩), .int .i64 id] w fun e w' => ∃ mo' mc', e = .returned (.int .i64 0) ∧ w'.heap[P]? = some (dkObj day ans app ro hn rc mo' (l.length + 1) mc') ∧
      w'.ownsRow B 50 5 (.slice mo' (l.length + 1) mc') (l.length + 1) ((l ++ [openedF id]).flatMap mtCells) ∧ Kept w w' P (.slice mo l.length mc) ∧ Below B w w' ∧ w.heap.size ≤ w'.heap.size := by
  obtain ⟨i0, hi, hz0, hz1, hz2⟩ := info_split Try.infoMatter
  obtain ⟨x0, x1, x2, x3, x4⟩ := five_cells hP
  have hPl := (Array.getElem?_eq_some_iff.1 hP).1
  have HP := Lib.hid hP
  have HO := Lib.hid hO
  rcases openE_cases l id with ⟨h1, h2⟩ | ⟨h1, h3, h2⟩ | ⟨h1, h3, h4, h2⟩ | ⟨h1, h3, h4, h2⟩
  · omega
  · omega
  · omega
  have HF := Lib.hid (find_any mo l.length mc l id w (owns_mts hO) (Nat.le_refl _) (by omega))
  rw [List.take_length, find_hasnt h3] at HF
  have h4i : ¬ (32 : Int) ≤ (l.length : Int) := by omega
  clear he h2 h3 hP hO
  go_enter Try.func36, Try.ntmps36
  go_wp2_with fail
  refine HF.out.mono ?_
  rintro e w3 ⟨rfl, hb3⟩
  have hP3 := keep_heap hb3 HP.out
  obtain ⟨x0, x1, x2, x3, x4⟩ := five_cells hP3
  have hO3 := owns_next HO.out hb3
  have HP3 := Lib.hid hP3
  have HO3 := Lib.hid hO3
  have HB3 := Lib.hid hb3
  have hs3 := hb3.size
  have hBs : B ≤ w3.heap.size := by omega
  have hbb : Below B w w3 := hb3.mono (by omega)
  have HBB := Lib.hid hbb
  clear hb3 hP3 hO3 hbb
  go_wp2_with (at_builtin
               refine wpList_append_lies _ rfl (.tmp 27) (.tmp 30) 28 rfl B 50 i0 (.agg #[.int .i64 0, .int .i64 0, .int .i64 0, .int .i64 0, .bool false]) 5 40 Try.underlying28 hi hz0 hz1 hz2 rfl (by decide) _ l.length _ rfl (HO3.out.alloc _) ⟨w3.heap.size, 0, none⟩ 1 1 [.int .i64 id, .int .i64 1, .int .i64 0, .int .i64 0, .bool false] rfl rfl (World.news_of_block (cs := #[.int .i64 id, .int .i64 1, .int .i64 0, .int .i64 0, .bool false]) (t := 50) (fr := (0, 0)) (heap_alloc_new w3 _)) (by simp [Value.oneCell']) (by omega) (by unfold maxLen; omega) (by omega) (by simp; omega) (w3.heap.size + 1) (by simp) ?_
               intro gg cap5 w5 hown5 hg5 hat5 hlt5
               have hP5 := heap_grown (alloc_heap (o' := .cells #[.int .i64 id, .int .i64 1, .int .i64 0, .int .i64 0, .bool false] 50) HP3.out) (HO3.out.alloc _) (by decide) hg5
               obtain ⟨x0, x1, x2, x3, x4⟩ := five_cells hP5
               obtain ⟨f0, f1, f2, f3, f4⟩ := five_free hP5
               have HP5 := Lib.hid hP5
               have HO5 := Lib.hid hown5
               have HG5 := Lib.hid hg5
               have HK : Hid (Kept w w5 P (.slice mo l.length mc)) := Lib.hid (fun b hb hne hnv => by
                 rw [hg5.block b (by simp; omega) hnv, Below.heap_alloc w3 _ b (by omega), HB3.out.block b hb])
               have HB5 : Hid (Below B w w5) := Lib.hid ((HBB.out.alloc hBs _).grown hg5 (by simp; omega) (fun j hj => (HO3.out.lt j hj).1))
               clear hP5 hown5 hg5 hat5 hlt5)
  go_ret
  have h6 := heap_setCell_same w5 P 4 _ 30 (.slice (some ⟨gg, 0, none⟩) (l.length + 1) cap5) HP5.out
  refine ⟨some ⟨gg, 0, none⟩, cap5, rfl, h6, ?_, fun b hb hne hnv => by rw [heap_setCell_other w5 ⟨P, 4, none⟩ b _ hne]; exact HK.out b hb hne hnv, HB5.out.setCell hBP _, ?_⟩
  · rw [List.flatMap_append]
    exact owns_set HO5.out HP5.out (by decide)
  · have := HG5.out.size
    simp at this ⊢
    omega
end Go.Proofs.Ytpddpdkdlodniaa
