/-
  The builders of arguments: Post.
-/
import Derived.Test.YtgabecolmldbjaaNServeA
import Derived.Deep.AppendLies
import Derived.Deep.RegionHeld3
import Derived.Laws.AppendOwnNone
namespace Go.Proofs.Ytgabecolmldbjaa
open Go.RowKit

/-- Lists of elements of a fixed number of cells. -/
theorem flat_get {α : Type} (f : α → List Value) (size : Nat) (hs : ∀ x, (f x).length = size) (d : α) (l : List α) (i j : Nat) (hi : i < l.length) (hj : j < size) : (l.flatMap f)[i * size + j]? = (f (l.getD i d))[j]? := by
  induction l generalizing i with
  | nil => simp at hi
  | cons s ss ih =>
    rw [List.flatMap_cons]
    have hl := hs s
    cases i with
    | zero => rw [List.getElem?_append_left (by omega)]; simp
    | succ i =>
      rw [List.getElem?_append_right (by rw [hl, Nat.add_mul]; omega)]
      have := ih i (by simpa using hi)
      have e : (i + 1) * size + j - (f s).length = i * size + j := by rw [hl, Nat.add_mul]; omega
      rw [e, this, List.getD_cons_succ]

/-- What the builders' rounds do to old memory. -/
theorem build_step {w wr w4 : World} {B e n size : Nat} {v : Value} {xs : List Value} {o : Obj} (hb : Below B w wr) (hB : B ≤ wr.heap.size) (hown : wr.ownsRow B e size v n xs)
    (hg : (wr.alloc o).drew.grownBy w4 v.ownBlock) : Below B w w4 :=
  (hb.alloc hB o).drew.grown hg (by simp; omega) (fun j hj => (hown.lt j hj).1)

def u16Cell (zs : List Int) (i _j : Nat) : Value := .int .u16 (zs.getD i 0)
def noticeOf (z : Int) : Int × Int := (z % 5, z / 5 % 50)
def noticesOf (zs : List Int) : List (Int × Int) := (zs.take 6).map noticeOf
def noticeFlat (n : Int × Int) : List Value := [.int .i64 n.1, .int .i64 n.2]
theorem noticesOf_take (zs : List Int) (k : Nat) (h : k < zs.length) (h6 : k < 6) : ((zs.take 6).take (k + 1)).map noticeOf = ((zs.take 6).take k).map noticeOf ++ [noticeOf (zs.getD k 0)] := by
  have hk : k < (zs.take 6).length := by simp; omega
  rw [List.take_succ_eq_append_getElem hk, List.map_append]
  simp [List.getD, h]
theorem noticesOf_end (zs : List Int) (k : Nat) (hk : k ≤ zs.length) (h : ¬ (k < zs.length ∧ k < 6)) : ((zs.take 6).take k).map noticeOf = noticesOf zs := by
  have : (zs.take 6).length ≤ k := by simp; omega
  rw [List.take_of_length_le this]
  rfl

theorem Try.infoNotice : (Try.prog.info? 64).map (fun i => (i.zero, i.size, i.bytes)) = some (some (.agg #[.int .i64 0, .int .i64 0]), 2, 16) := by kernel_rfl

theorem nt_mod {z : Int} (z0 : 0 ≤ z) : IntKind.i64.wrap (z.tmod 5) = z % 5 := by
  rw [Int.tmod_eq_emod_of_nonneg z0]
  exact IntWalk.i64_in _ ⟨by omega, by omega⟩
theorem nt_div {z : Int} (z0 : 0 ≤ z) (z1 : z ≤ 65535) : IntKind.i64.wrap ((IntKind.u16.wrap (z.tdiv 5)).tmod 50) = z / 5 % 50 := by
  rw [Int.tdiv_eq_ediv_of_nonneg z0, IntWalk.u16_in _ ⟨by omega, by omega⟩, Int.tmod_eq_emod_of_nonneg (by omega)]
  exact IntWalk.i64_in _ ⟨by omega, by omega⟩

def u8x3Cell (xs : List (Int × Int × Int)) (i j : Nat) : Value := if j = 0 then .int .u8 (xs.getD i (0, 0, 0)).1 else if j = 1 then .int .u8 (xs.getD i (0, 0, 0)).2.1 else .int .u8 (xs.getD i (0, 0, 0)).2.2
def lossOf (x : Int × Int × Int) : LossD := (x.1 % 6, x.2.1 % 5, decide (x.2.2 % 2 = 1))
def lossesOf (xs : List (Int × Int × Int)) : List LossD := (xs.take 20).map lossOf
def lossFlat (x : LossD) : List Value := [.int .i64 x.1, .int .i64 x.2.1, .bool x.2.2]
theorem lossesOf_take (xs : List (Int × Int × Int)) (k : Nat) (h : k < xs.length) (h6 : k < 20) : ((xs.take 20).take (k + 1)).map lossOf = ((xs.take 20).take k).map lossOf ++ [lossOf (xs.getD k (0, 0, 0))] := by
  have hk : k < (xs.take 20).length := by simp; omega
  rw [List.take_succ_eq_append_getElem hk, List.map_append]
  simp [List.getD, h]
theorem lossesOf_end (xs : List (Int × Int × Int)) (k : Nat) (hk : k ≤ xs.length) (h : ¬ (k < xs.length ∧ k < 20)) : ((xs.take 20).take k).map lossOf = lossesOf xs := by
  have : (xs.take 20).length ≤ k := by simp; omega
  rw [List.take_of_length_le this]
  rfl
theorem ls_mod {z m : Int} (z0 : 0 ≤ z) (m0 : 0 < m) (m1 : m ≤ 1000) : IntKind.i64.wrap (z.tmod m) = z % m := by
  rw [Int.tmod_eq_emod_of_nonneg z0]
  have h0 := Int.emod_nonneg z (by omega : m ≠ 0)
  have h1 := Int.emod_lt_of_pos z m0
  exact IntWalk.i64_in _ ⟨by omega, by omega⟩
theorem ls_odd {z : Int} (z0 : 0 ≤ z) : (z.tmod 2 == 1) = decide (z % 2 = 1) := by
  rw [Int.tmod_eq_emod_of_nonneg z0]
  rfl

theorem Try.infoLoss : (Try.prog.info? 69).map (fun i => (i.zero, i.size, i.bytes)) = some (some (.agg #[.int .i64 0, .int .i64 0, .bool false]), 3, 24) := by kernel_rfl

theorem lies_losses {w : World} {base : Nat} {v : Value} (l : List LossD) (h : w.ownsRow base 69 3 v l.length (l.flatMap lossFlat)) : ∃ ro rc, v = .slice ro l.length rc ∧ LiesAt w ro 3 l.length (lossCell l) :=
  liesAt_of_owns (f := lossCell l) h (fun i hi j hj => by
    rw [flat_get lossFlat 3 (fun _ => rfl) (0, 0, false) _ i j (by omega) hj]
    match j, hj with
    | 0, _ => rfl
    | 1, _ => rfl
    | 2, _ => rfl)

/-- Appending a slice that came in (nil or not) to a row of the call's own. -/
theorem wpList_append_lst {P : Program} {w : World} {ops : Array Oper} {rest : List Oper} {o : Oper} {a : Act} {Q : Exit → Act → World → Prop} (hgd : o.guard = none) (s x : Operand) (t : TypeId)
    (ho : o.op = .call { callee := .builtin .append, args := #[s, x], argTypes := #[t, t] })
    (base : Nat) (e : TypeId) (i : TypeInfo) (z : Value) (size bytes : Nat) (ht : P.underlying t = some (.slice e)) (hi : P.info? e = some i) (hz : i.zero = some z)
    (hsize : i.size = size) (hby : i.bytes = bytes) (hzs : z.cells.size = size) (hsz : 0 < size)
    (v : Value) (n : Nat) (xs : List Value) (hs : a.eval s = v) (hown : w.ownsRow base e size v n xs)
    (so : Option Addr) (m c : Nat) (news : List Value) (hx : a.eval x = .slice so m c) (hso : so = none → m = 0 ∧ c = 0) (hl : news.length = m * size)
    (hnews : ∀ j u, news[j]? = some u → ∃ ad, so = some ad ∧ w.cell? (ad.add j) = some u) (h1 : ∀ u ∈ news, u.oneCell' = true)
    (h63 : n + m ≤ maxLen) (hbytes : (n + m) * bytes ≤ 140737488355328) (hbase : base ≤ w.heap.size)
    (h : ∀ v' w', w'.ownsRow base e size v' (n + m) (xs ++ news) → w.grownBy w' v.ownBlock → wpList P ops Q rest (a.put o.dst v') w') : wpList P ops Q (o :: rest) a w := by
  cases so with
  | none =>
    obtain ⟨rfl, rfl⟩ := hso rfl
    obtain rfl : news = [] := List.eq_nil_of_length_eq_zero (by simpa using hl)
    refine wpList_append_own_none hgd s x t ho base e i size ht hi v n xs hs hown hx (h v w (by simpa using hown) ⟨rfl, rfl, rfl, Nat.le_refl _, fun _ _ _ => rfl⟩)
  | some ad =>
    refine wpList_append_own w hgd s x t ho base e i z size bytes ht hi hz hsize hby hzs hsz v n xs hs hown ad m c news hx hl (fun j u hu => ?_) h1 h63 hbytes hbase (fun v' w' h2 h3 _ => h v' w' h2 h3)
    obtain ⟨ad', he, hc⟩ := hnews j u hu
    cases he
    exact hc

/-- The cells of a list that lies somewhere, one after the other. -/
theorem lies_flat {α : Type} {w : World} {ao : Option Addr} {size : Nat} {f : Nat → Nat → Value} (g : α → List Value) (hs : ∀ x, (g x).length = size) (hpos : 0 < size) (d : α) (l : List α) (h : LiesAt w ao size l.length f)
    (hf : ∀ i, i < l.length → ∀ j, j < size → (g (l.getD i d))[j]? = some (f i j)) : ∀ j u, (l.flatMap g)[j]? = some u → ∃ ad, ao = some ad ∧ w.cell? (ad.add j) = some u := by
  intro j u hu
  have hlen : (l.flatMap g).length = l.length * size := by
    clear h hf hu
    induction l with
    | nil => simp
    | cons s ss ih => rw [List.flatMap_cons, List.length_append, ih, hs, List.length_cons, Nat.add_mul]; omega
  have hj : j < l.length * size := by rw [← hlen]; exact (List.getElem?_eq_some_iff.1 hu).1
  rcases h with h0 | ⟨b, off, rfl, hb, hc⟩
  · rw [h0] at hj; simp at hj
  · have hi : j / size < l.length := Nat.div_lt_of_lt_mul (by rw [Nat.mul_comm]; exact hj)
    have hr : j % size < size := Nat.mod_lt _ hpos
    have hjj : j / size * size + j % size = j := by rw [Nat.mul_comm]; exact Nat.div_add_mod j size
    have h1 := flat_get g size hs d l (j / size) (j % size) hi hr
    rw [hjj, hu, hf _ hi _ hr] at h1
    have h2 := hc _ hi _ hr
    refine ⟨_, rfl, ?_⟩
    rw [addr_add, Option.some.inj h1, ← h2, Nat.add_assoc, hjj]
end Go.Proofs.Ytgabecolmldbjaa
