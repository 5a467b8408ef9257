/-
  The builders of arguments: Post.
-/
import Derived.Test.YtlblacgmecgbkaaServeA
import Derived.Deep.AppendLies
import Derived.Deep.RegionHeld3
import Derived.Laws.AppendOwnNone
namespace Go.Proofs.Ytlblacgmecgbkaa
open Go.RowKit

theorem postB_any (a b c : Int) (w : World) (a0 : 0 ≤ a) (a1 : a ≤ 255) (b0 : 0 ≤ b) (b1 : b ≤ 255) (c0 : 0 ≤ c) (c1 : c ≤ 255) :
    Calls Try.prog 10 #[.agg #[.int .u8 a, .int .u8 b, .int .u8 c]] w fun e w' =>
      e = .returned (.agg #[.int .i64 (1 + a % 6), .int .i64 (1 + b % 4), .int .i64 (c % 20)]) ∧ Below w.heap.size w w' := by
  go_enter Try.func10, Try.ntmps10
  go_wp2_with fail
  go_returns
  exact ⟨rfl, by go_grown⟩

/-- Lists of elements of a fixed number of cells. -/
theorem flat_get {α : Type} (f : α → List Value) (size : Nat) (hs : ∀ x, (f x).length = size) (d : α) (l : List α) (i j : Nat) (hi : i < l.length) (hj : j < size) : (l.flatMap f)[i * size + j]? = (f (l.getD i d))[j]? := by
  induction l generalizing i with
  | nil => simp at hi
  | cons s ss ih =>
    rw [List.flatMap_cons]
    have hl := hs s
    cases i with
    | zero => rw [List.getElem?_append_left (by omega)]; simp
    | succ i =>
      rw [List.getElem?_append_right (by rw [hl, Nat.add_mul]; omega)]
      have := ih i (by simpa using hi)
      have e : (i + 1) * size + j - (f s).length = i * size + j := by rw [hl, Nat.add_mul]; omega
      rw [e, this, List.getD_cons_succ]

/-- What the builders' rounds do to old memory. -/
theorem build_step {w wr w4 : World} {B e n size : Nat} {v : Value} {xs : List Value} {o : Obj} (hb : Below B w wr) (hB : B ≤ wr.heap.size) (hown : wr.ownsRow B e size v n xs)
    (hg : (wr.alloc o).drew.grownBy w4 v.ownBlock) : Below B w w4 :=
  (hb.alloc hB o).drew.grown hg (by simp; omega) (fun j hj => (hown.lt j hj).1)

def u16Cell (zs : List Int) (i _j : Nat) : Value := .int .u16 (zs.getD i 0)
def noticeOf (z : Int) : Int × Int := (z % 5, z / 5 % 50)
def noticesOf (zs : List Int) : List (Int × Int) := (zs.take 6).map noticeOf
def noticeFlat (n : Int × Int) : List Value := [.int .i64 n.1, .int .i64 n.2]
theorem noticesOf_take (zs : List Int) (k : Nat) (h : k < zs.length) (h6 : k < 6) : ((zs.take 6).take (k + 1)).map noticeOf = ((zs.take 6).take k).map noticeOf ++ [noticeOf (zs.getD k 0)] := by
  have hk : k < (zs.take 6).length := by simp; omega
  rw [List.take_succ_eq_append_getElem hk, List.map_append]
  simp [List.getD, h]
theorem noticesOf_end (zs : List Int) (k : Nat) (hk : k ≤ zs.length) (h : ¬ (k < zs.length ∧ k < 6)) : ((zs.take 6).take k).map noticeOf = noticesOf zs := by
  have : (zs.take 6).length ≤ k := by simp; omega
  rw [List.take_of_length_le this]
  rfl

theorem Try.infoNotice : (Try.prog.info? 46).map (fun i => (i.zero, i.size, i.bytes)) = some (some (.agg #[.int .i64 0, .int .i64 0]), 2, 16) := by kernel_rfl

theorem nt_mod {z : Int} (z0 : 0 ≤ z) : IntKind.i64.wrap (z.tmod 5) = z % 5 := by
  rw [Int.tmod_eq_emod_of_nonneg z0]
  exact IntWalk.i64_in _ ⟨by omega, by omega⟩
theorem nt_div {z : Int} (z0 : 0 ≤ z) (z1 : z ≤ 65535) : IntKind.i64.wrap ((IntKind.u16.wrap (z.tdiv 5)).tmod 50) = z / 5 % 50 := by
  rw [Int.tdiv_eq_ediv_of_nonneg z0, IntWalk.u16_in _ ⟨by omega, by omega⟩, Int.tmod_eq_emod_of_nonneg (by omega)]
  exact IntWalk.i64_in _ ⟨by omega, by omega⟩

set_option maxHeartbeats 1000000 in
theorem notices_any (ao : Option Addr) (c : Nat) (zs : List Int) (w : World) (hl : LiesAt w ao 1 zs.length (u16Cell zs)) (hz : ∀ i, 0 ≤ zs.getD i 0 ∧ zs.getD i 0 ≤ 65535) :
    Calls Try.prog 13 #[.slice ao zs.length c] w fun e w' =>
      ∃ ro rc, e = .returned (.slice ro (noticesOf zs).length rc) ∧ LiesAt w' ro 2 (noticesOf zs).length (noticeCell (noticesOf zs)) ∧ Below w.heap.size w w' := by
  have HLL := Lib.hid hl
  have HZ := Lib.hid hz
  clear hl hz
  obtain ⟨i0, hi, hz0, hz1, hz2⟩ := info_parts Try.infoNotice
  go_enter Try.func13, Try.ntmps13
  go_wp2_with fail
  go_loopw [3, 4] (fun v i wr => ∃ k : Nat, k ≤ zs.length ∧ k ≤ 6 ∧ i = .int .i64 k ∧ wr.ownsRow w.heap.size 46 2 v k ((((zs.take 6).take k).map noticeOf).flatMap noticeFlat) ∧ Below w.heap.size w wr) (fun _ i _ => 6 - (intOf i).toNat)
  case atStart => exact ⟨0, Nat.zero_le _, by omega, rfl, World.ownsRow_nil _ _ _ _, Below.refl _ _⟩
  case round =>
    obtain ⟨k, hk, hk6, rfl, hown, hb⟩ := hrel
    have hsr := hb.size
    by_cases hlt : k < zs.length
    · by_cases h6 : k < 6
      · rcases HLL.out with h0 | ⟨b, off, rfl, hbw, hc0⟩
        · omega
        have hc : wr.cell? ⟨b, off + k, none⟩ = some (.int .u16 (zs.getD k 0)) := by
          have := hc0 k hlt 0 (by omega)
          rw [Nat.mul_one, Nat.add_zero] at this
          rw [hb.cell (p := ⟨b, off + k, none⟩) hbw]; exact this
        clear hc0
        have htk := noticesOf_take zs k hlt h6
        obtain ⟨z0, z1⟩ := HZ.out k
        obtain ⟨z, hz⟩ : ∃ z, z = zs.getD k 0 := ⟨_, rfl⟩
        rw [← hz] at hc htk z0 z1
        have HT := Lib.hid htk
        have HO := Lib.hid hown
        have HB := Lib.hid hb
        have hk0 : (0 : Int) ≤ (k : Int) := Int.natCast_nonneg _
        have hk1 : (k : Int) < (zs.length : Int) := by omega
        clear hz htk hown hb
        have e1 := nt_mod z0
        have e2 := nt_div z0 z1
        go_wp2_with fail
        go_region_held3 (fun w' => w'.cell? ⟨b, off + k, none⟩ = some (.int .u16 z))
          (first | exact hc | go_keep)
          (first
            | (refine step_append_lies _ (by rfl) _ _ _ (by rfl) w.heap.size 46 i0 (.agg #[.int .i64 0, .int .i64 0]) 2 16 Try.underlying24 hi hz0 hz1 hz2 rfl (by omega) _ k _ (by rfl) ((HO.out.alloc _).drew)
                 ⟨wr.heap.size, 0, none⟩ 1 1 [.int .i64 (z % 5), .int .i64 (z / 5 % 50)] (by rfl) (by rfl) (World.news_of_block (cs := #[.int .i64 (z % 5), .int .i64 (z / 5 % 50)]) (t := 46) (fr := (0, 0)) (heap_alloc_new wr _)) (by simp [Value.oneCell'])
                 (by omega) (by unfold maxLen; omega) (by omega) (by simp; omega) (wr.heap.size + 1) (by simp) ?_
               intro gg cap w4 hown4 hg4 hat hlt4
               have hb4 := build_step HB.out hsr HO.out hg4
               have f0 := below_two HB.out hb4 (p := ⟨b, off + k, none⟩) (by simpa using hbw) hc))
        go_wp2_with fail
        go_roundw
        case rel => exact ⟨k + 1, hlt, h6, by go_num, by rw [HT.out, List.flatMap_append]; exact hown4, hb4⟩
        case measure => simp [intOf]; omega
      · have he := noticesOf_end zs k hk (by omega)
        rw [he] at hown
        have hn : (noticesOf zs).length = k := by rw [← he]; simp; omega
        obtain ⟨ro, rc, hv, hlies⟩ := liesAt_of_owns (f := noticeCell (noticesOf zs)) hown (fun i hi j hj => by
          rw [flat_get noticeFlat 2 (fun _ => rfl) (0, 0) _ i j (by omega) hj]
          match j, hj with
          | 0, _ => rfl
          | 1, _ => rfl)
        subst hv
        have HLS := Lib.hid hlies
        have HN := Lib.hid hn
        clear hown hlies he hn
        go_wp2_with fail
        go_ret
        exact ⟨ro, rc, by rw [HN.out]; rfl, by rw [HN.out]; exact HLS.out, hb⟩
    · have he := noticesOf_end zs k hk (by omega)
      rw [he] at hown
      have hn : (noticesOf zs).length = k := by rw [← he]; simp; omega
      obtain ⟨ro, rc, hv, hlies⟩ := liesAt_of_owns (f := noticeCell (noticesOf zs)) hown (fun i hi j hj => by
        rw [flat_get noticeFlat 2 (fun _ => rfl) (0, 0) _ i j (by omega) hj]
        match j, hj with
        | 0, _ => rfl
        | 1, _ => rfl)
      subst hv
      have HLS := Lib.hid hlies
      have HN := Lib.hid hn
      clear hown hlies he hn
      go_wp2_with fail
      go_ret
      exact ⟨ro, rc, by rw [HN.out]; rfl, by rw [HN.out]; exact HLS.out, hb⟩

def u8x3Cell (xs : List (Int × Int × Int)) (i j : Nat) : Value := if j = 0 then .int .u8 (xs.getD i (0, 0, 0)).1 else if j = 1 then .int .u8 (xs.getD i (0, 0, 0)).2.1 else .int .u8 (xs.getD i (0, 0, 0)).2.2
def lossOf (x : Int × Int × Int) : LossD := (x.1 % 6, x.2.1 % 5, decide (x.2.2 % 2 = 1))
def lossesOf (xs : List (Int × Int × Int)) : List LossD := (xs.take 20).map lossOf
def lossFlat (x : LossD) : List Value := [.int .i64 x.1, .int .i64 x.2.1, .bool x.2.2]
theorem lossesOf_take (xs : List (Int × Int × Int)) (k : Nat) (h : k < xs.length) (h6 : k < 20) : ((xs.take 20).take (k + 1)).map lossOf = ((xs.take 20).take k).map lossOf ++ [lossOf (xs.getD k (0, 0, 0))] := by
  have hk : k < (xs.take 20).length := by simp; omega
  rw [List.take_succ_eq_append_getElem hk, List.map_append]
  simp [List.getD, h]
theorem lossesOf_end (xs : List (Int × Int × Int)) (k : Nat) (hk : k ≤ xs.length) (h : ¬ (k < xs.length ∧ k < 20)) : ((xs.take 20).take k).map lossOf = lossesOf xs := by
  have : (xs.take 20).length ≤ k := by simp; omega
  rw [List.take_of_length_le this]
  rfl
theorem ls_mod {z m : Int} (z0 : 0 ≤ z) (m0 : 0 < m) (m1 : m ≤ 1000) : IntKind.i64.wrap (z.tmod m) = z % m := by
  rw [Int.tmod_eq_emod_of_nonneg z0]
  have h0 := Int.emod_nonneg z (by omega : m ≠ 0)
  have h1 := Int.emod_lt_of_pos z m0
  exact IntWalk.i64_in _ ⟨by omega, by omega⟩
theorem ls_odd {z : Int} (z0 : 0 ≤ z) : (z.tmod 2 == 1) = decide (z % 2 = 1) := by
  rw [Int.tmod_eq_emod_of_nonneg z0]
  rfl

theorem Try.infoLoss : (Try.prog.info? 54).map (fun i => (i.zero, i.size, i.bytes)) = some (some (.agg #[.int .i64 0, .int .i64 0, .bool false]), 3, 24) := by kernel_rfl

set_option maxHeartbeats 1000000 in
theorem losses_own (ao : Option Addr) (c : Nat) (xs : List (Int × Int × Int)) (w : World) (hl : LiesAt w ao 3 xs.length (u8x3Cell xs))
    (hz : ∀ i, 0 ≤ (xs.getD i (0, 0, 0)).1 ∧ 0 ≤ (xs.getD i (0, 0, 0)).2.1 ∧ 0 ≤ (xs.getD i (0, 0, 0)).2.2) :
    Calls Try.prog 14 #[.slice ao xs.length c] w fun e w' =>
      ∃ v, e = .returned v ∧ w'.ownsRow w.heap.size 54 3 v (lossesOf xs).length ((lossesOf xs).flatMap lossFlat) ∧ Below w.heap.size w w' := by
  have HLL := Lib.hid hl
  have HZ := Lib.hid hz
  clear hl hz
  obtain ⟨i0, hi, hz0, hz1, hz2⟩ := info_parts Try.infoLoss
  go_enter Try.func14, Try.ntmps14
  go_wp2_with fail
  go_loopw [3, 4] (fun v i wr => ∃ k : Nat, k ≤ xs.length ∧ k ≤ 20 ∧ i = .int .i64 k ∧ wr.ownsRow w.heap.size 54 3 v k ((((xs.take 20).take k).map lossOf).flatMap lossFlat) ∧ Below w.heap.size w wr) (fun _ i _ => 20 - (intOf i).toNat)
  case atStart => exact ⟨0, Nat.zero_le _, by omega, rfl, World.ownsRow_nil _ _ _ _, Below.refl _ _⟩
  case round =>
    obtain ⟨k, hk, hk6, rfl, hown, hb⟩ := hrel
    have hsr := hb.size
    by_cases hlt : k < xs.length ∧ k < 20
    · obtain ⟨hlt, h6⟩ := hlt
      rcases HLL.out with h0 | ⟨b, off, rfl, hbw, hc⟩
      · omega
      have hcr : ∀ j, j < 3 → wr.cell? ⟨b, off + k * 3 + j, none⟩ = some (u8x3Cell xs k j) := fun j hj => by
        rw [hb.cell (p := ⟨b, off + k * 3 + j, none⟩) hbw]; exact hc k hlt j hj
      have hc0 := hcr 0 (by omega)
      have hc1 := hcr 1 (by omega)
      have hc2 := hcr 2 (by omega)
      simp only [u8x3Cell, if_true, Nat.add_zero, Nat.one_ne_zero, if_false, Nat.reduceEqDiff] at hc0 hc1 hc2
      clear hc hcr
      have htk := lossesOf_take xs k hlt h6
      obtain ⟨z0, z1, z2⟩ := HZ.out k
      obtain ⟨⟨x0, x1, x2⟩, hx⟩ : ∃ x, x = xs.getD k (0, 0, 0) := ⟨_, rfl⟩
      rw [← hx] at hc0 hc1 hc2 htk z0 z1 z2
      simp only at hc0 hc1 hc2 z0 z1 z2
      have HT := Lib.hid htk
      have HO := Lib.hid hown
      have HB := Lib.hid hb
      have hk0 : (0 : Int) ≤ (k : Int) := Int.natCast_nonneg _
      have hk1 : (k : Int) < (xs.length : Int) := by omega
      clear hx htk hown hb
      have e1 := ls_mod (m := 6) z0 (by omega) (by omega)
      have e2 := ls_mod (m := 5) z1 (by omega) (by omega)
      have e3 := ls_odd z2
      go_wp2_with fail
      go_region_held3 (fun w' => w'.cell? ⟨b, off + k * 3, none⟩ = some (.int .u8 x0) ∧ w'.cell? ⟨b, off + k * 3 + 1, none⟩ = some (.int .u8 x1) ∧ w'.cell? ⟨b, off + k * 3 + 2, none⟩ = some (.int .u8 x2))
        (first | exact ⟨hc0, hc1, hc2⟩ | go_keep)
        (first
          | (refine step_append_lies _ (by rfl) _ _ _ (by rfl) w.heap.size 54 i0 (.agg #[.int .i64 0, .int .i64 0, .bool false]) 3 24 Try.underlying25 hi hz0 hz1 hz2 rfl (by omega) _ k _ (by rfl) ((HO.out.alloc _).drew)
               ⟨wr.heap.size, 0, none⟩ 1 1 [.int .i64 (x0 % 6), .int .i64 (x1 % 5), .bool (decide (x2 % 2 = 1))] (by rfl) (by rfl) (World.news_of_block (cs := #[.int .i64 (x0 % 6), .int .i64 (x1 % 5), .bool (decide (x2 % 2 = 1))]) (t := 54) (fr := (0, 0)) (heap_alloc_new wr _)) (by simp [Value.oneCell'])
               (by omega) (by unfold maxLen; omega) (by omega) (by simp; omega) (wr.heap.size + 1) (by simp) ?_
             intro gg cap w4 hown4 hg4 hat hlt4
             have hb4 := build_step HB.out hsr HO.out hg4
             have f0 := below_two HB.out hb4 (p := ⟨b, off + k * 3, none⟩) (by simpa using hbw) hc0
             have f1 := below_two HB.out hb4 (p := ⟨b, off + k * 3 + 1, none⟩) (by simpa using hbw) hc1
             have f2 := below_two HB.out hb4 (p := ⟨b, off + k * 3 + 2, none⟩) (by simpa using hbw) hc2))
      go_wp2_with fail
      go_roundw
      case rel => exact ⟨k + 1, hlt, h6, by go_num, by rw [HT.out, List.flatMap_append]; exact hown4, hb4⟩
      case measure => simp [intOf]; omega
    · have he := lossesOf_end xs k hk hlt
      rw [he] at hown
      have hn : (lossesOf xs).length = k := by rw [← he]; simp; omega
      have HO := Lib.hid hown
      have HN := Lib.hid hn
      clear hown he hn
      by_cases h1 : k < xs.length
      · have h2 : ¬ k < 20 := by omega
        clear hlt
        go_wp2_with fail
        go_ret
        exact ⟨_, rfl, by rw [HN.out]; exact HO.out, hb⟩
      · clear hlt
        go_wp2_with fail
        go_ret
        exact ⟨_, rfl, by rw [HN.out]; exact HO.out, hb⟩

theorem lies_losses {w : World} {base : Nat} {v : Value} (l : List LossD) (h : w.ownsRow base 54 3 v l.length (l.flatMap lossFlat)) : ∃ ro rc, v = .slice ro l.length rc ∧ LiesAt w ro 3 l.length (lossCell l) :=
  liesAt_of_owns (f := lossCell l) h (fun i hi j hj => by
    rw [flat_get lossFlat 3 (fun _ => rfl) (0, 0, false) _ i j (by omega) hj]
    match j, hj with
    | 0, _ => rfl
    | 1, _ => rfl
    | 2, _ => rfl)

theorem losses_any (ao : Option Addr) (c : Nat) (xs : List (Int × Int × Int)) (w : World) (hl : LiesAt w ao 3 xs.length (u8x3Cell xs))
    (hz : ∀ i, 0 ≤ (xs.getD i (0, 0, 0)).1 ∧ 0 ≤ (xs.getD i (0, 0, 0)).2.1 ∧ 0 ≤ (xs.getD i (0, 0, 0)).2.2) :
    Calls Try.prog 14 #[.slice ao xs.length c] w fun e w' =>
      ∃ ro rc, e = .returned (.slice ro (lossesOf xs).length rc) ∧ LiesAt w' ro 3 (lossesOf xs).length (lossCell (lossesOf xs)) ∧ Below w.heap.size w w' :=
  (losses_own ao c xs w hl hz).mono fun e w' ⟨v, he, ho, hb⟩ => by
    obtain ⟨ro, rc, rfl, hl⟩ := lies_losses _ ho
    exact ⟨ro, rc, he, hl, hb⟩

/-- Appending a slice that came in (nil or not) to a row of the call's own. -/
theorem wpList_append_lst {P : Program} {w : World} {ops : Array Oper} {rest : List Oper} {o : Oper} {a : Act} {Q : Exit → Act → World → Prop} (hgd : o.guard = none) (s x : Operand) (t : TypeId)
    (ho : o.op = .call { callee := .builtin .append, args := #[s, x], argTypes := #[t, t] })
    (base : Nat) (e : TypeId) (i : TypeInfo) (z : Value) (size bytes : Nat) (ht : P.underlying t = some (.slice e)) (hi : P.info? e = some i) (hz : i.zero = some z)
    (hsize : i.size = size) (hby : i.bytes = bytes) (hzs : z.cells.size = size) (hsz : 0 < size)
    (v : Value) (n : Nat) (xs : List Value) (hs : a.eval s = v) (hown : w.ownsRow base e size v n xs)
    (so : Option Addr) (m c : Nat) (news : List Value) (hx : a.eval x = .slice so m c) (hso : so = none → m = 0 ∧ c = 0) (hl : news.length = m * size)
    (hnews : ∀ j u, news[j]? = some u → ∃ ad, so = some ad ∧ w.cell? (ad.add j) = some u) (h1 : ∀ u ∈ news, u.oneCell' = true)
    (h63 : n + m ≤ maxLen) (hbytes : (n + m) * bytes ≤ 140737488355328) (hbase : base ≤ w.heap.size)
    (h : ∀ v' w', w'.ownsRow base e size v' (n + m) (xs ++ news) → w.grownBy w' v.ownBlock → wpList P ops Q rest (a.put o.dst v') w') : wpList P ops Q (o :: rest) a w := by
  cases so with
  | none =>
    obtain ⟨rfl, rfl⟩ := hso rfl
    obtain rfl : news = [] := List.eq_nil_of_length_eq_zero (by simpa using hl)
    refine wpList_append_own_none hgd s x t ho base e i size ht hi v n xs hs hown hx (h v w (by simpa using hown) ⟨rfl, rfl, rfl, Nat.le_refl _, fun _ _ _ => rfl⟩)
  | some ad =>
    refine wpList_append_own w hgd s x t ho base e i z size bytes ht hi hz hsize hby hzs hsz v n xs hs hown ad m c news hx hl (fun j u hu => ?_) h1 h63 hbytes hbase (fun v' w' h2 h3 _ => h v' w' h2 h3)
    obtain ⟨ad', he, hc⟩ := hnews j u hu
    cases he
    exact hc

/-- The cells of a list that lies somewhere, one after the other. -/
theorem lies_flat {α : Type} {w : World} {ao : Option Addr} {size : Nat} {f : Nat → Nat → Value} (g : α → List Value) (hs : ∀ x, (g x).length = size) (hpos : 0 < size) (d : α) (l : List α) (h : LiesAt w ao size l.length f)
    (hf : ∀ i, i < l.length → ∀ j, j < size → (g (l.getD i d))[j]? = some (f i j)) : ∀ j u, (l.flatMap g)[j]? = some u → ∃ ad, ao = some ad ∧ w.cell? (ad.add j) = some u := by
  intro j u hu
  have hlen : (l.flatMap g).length = l.length * size := by
    clear h hf hu
    induction l with
    | nil => simp
    | cons s ss ih => rw [List.flatMap_cons, List.length_append, ih, hs, List.length_cons, Nat.add_mul]; omega
  have hj : j < l.length * size := by rw [← hlen]; exact (List.getElem?_eq_some_iff.1 hu).1
  rcases h with h0 | ⟨b, off, rfl, hb, hc⟩
  · rw [h0] at hj; simp at hj
  · have hi : j / size < l.length := Nat.div_lt_of_lt_mul (by rw [Nat.mul_comm]; exact hj)
    have hr : j % size < size := Nat.mod_lt _ hpos
    have hjj : j / size * size + j % size = j := by rw [Nat.mul_comm]; exact Nat.div_add_mod j size
    have h1 := flat_get g size hs d l (j / size) (j % size) hi hr
    rw [hjj, hu, hf _ hi _ hr] at h1
    have h2 := hc _ hi _ hr
    refine ⟨_, rfl, ?_⟩
    rw [addr_add, Option.some.inj h1, ← h2, Nat.add_assoc, hjj]
end Go.Proofs.Ytlblacgmecgbkaa
