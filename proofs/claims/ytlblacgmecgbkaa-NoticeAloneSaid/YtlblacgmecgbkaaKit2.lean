/-
  What the laws on bounds, more losses and other notices share: the built post, the built notices, what Serve gives for them.
-/
import Derived.Test.YtlblacgmecgbkaaLawKit
import Derived.Test.YtlblacgmecgbkaaPlainLaws
namespace Go.Proofs.Ytlblacgmecgbkaa
open Go.ChangeShapes Go.WideShapes Go.ChangeAt Go.RowKit Go.Sort

/-- The bounds of a post that was built. -/
def PostIn (ev tr pu : Int) : Prop := 1 ≤ ev ∧ ev ≤ 6 ∧ 1 ≤ tr ∧ tr ≤ 4 ∧ 0 ≤ pu ∧ pu ≤ 19

theorem postB_ex (a b c : Int) (a0 : 0 ≤ a) (a1 : a ≤ 255) (b0 : 0 ≤ b) (b1 : b ≤ 255) (c0 : 0 ≤ c) (c1 : c ≤ 255) :
    ∃ ev tr pu, PostIn ev tr pu ∧ ∀ w, Calls Try.prog 10 #[.agg #[.int .u8 a, .int .u8 b, .int .u8 c]] w fun e w' =>
      e = .returned (.agg #[.int .i64 ev, .int .i64 tr, .int .i64 pu]) ∧ Below w.heap.size w w' :=
  ⟨1 + a % 6, 1 + b % 4, c % 20, by unfold PostIn; omega, fun w => postB_any a b c w a0 a1 b0 b1 c0 c1⟩

theorem noticesF_ok (l : List (Int × Int)) (h : ∀ x ∈ l, 0 ≤ x.1 ∧ 0 ≤ x.2 ∧ x.2 ≤ 1048576) : noticesF l = 0 := by
  induction l with
  | nil => rfl
  | cons x l ih =>
    obtain ⟨h1, h2, h3⟩ := h x (by simp)
    rw [noticesF, if_neg (by omega), if_neg (by omega)]
    exact ih fun y hy => h y (List.mem_cons_of_mem _ hy)

theorem noticesOf_range (zs : List Int) (_hz : ∀ i, 0 ≤ zs.getD i 0 ∧ zs.getD i 0 ≤ 65535) : ∀ x ∈ noticesOf zs, 0 ≤ x.1 ∧ 0 ≤ x.2 ∧ x.2 ≤ 50 := by
  intro x hx
  obtain ⟨z, hz', rfl⟩ := List.mem_map.1 hx
  simp only [noticeOf]
  omega

theorem checkF_built {ev tr pu : Int} (hp : PostIn ev tr pu) (zs : List Int) (hz : ∀ i, 0 ≤ zs.getD i 0 ∧ zs.getD i 0 ≤ 65535) (m : Nat) (hm : m ≤ 256) : checkF ev tr pu (noticesOf zs) m = 0 := by
  obtain ⟨h1, h2, h3, h4, h5, h6⟩ := hp
  have hl := noticesOf_length zs
  unfold checkF postOk
  rw [if_pos (by simp; omega), if_neg (by omega)]
  exact noticesF_ok _ fun x hx => by
    have := noticesOf_range zs hz x hx
    omega

/-- What Serve gives for the built post and notices. -/
theorem serve_b {ev tr pu : Int} (hp : PostIn ev tr pu) (zs : List Int) (hz : ∀ i, 0 ≤ zs.getD i 0 ∧ zs.getD i 0 ≤ 65535) (ao bo : Option Addr) (c c' m : Nat) (lost : List LossD) (w : World) (hm : lost.length = m) (hl : LiesAt w ao 2 (noticesOf zs).length (noticeCell (noticesOf zs)))
    (hlost : LiesAt w bo 3 m (lossCell lost)) (hfit : ∀ x ∈ lost, LossFits x) (h : m ≤ 256) :
    Calls Try.prog 15 #[.agg #[.int .i64 ev, .int .i64 tr, .int .i64 pu], .slice ao (noticesOf zs).length c, .slice bo m c'] w fun e w' =>
      ∃ ro rc, e = .returned (.tuple #[.slice ro (noticesOf zs).length rc, .int .i64 0]) ∧ LiesAt w' ro 4 (noticesOf zs).length (serviceCell (servesFrom ev tr pu lost 0 (noticesOf zs))) ∧ Below w.heap.size w w' := by
  subst hm
  exact serve_ok ev tr pu ao bo c c' _ lost w hl hlost hfit (checkF_built hp zs hz _ h)

/-- The cells of service number k. -/
theorem service_at {W : World} {ev tr pu : Int} {lost : List LossD} {l : List (Int × Int)} {ro : Option Addr} (h : LiesAt W ro 4 l.length (serviceCell (servesFrom ev tr pu lost 0 l))) (k : Nat) (hk : k < l.length) (s : ServiceD)
    (hs : serveF ev tr pu (l.getD k (0, 0)) k lost = s) :
    ∃ b off, ro = some ⟨b, off, none⟩ ∧ b < W.heap.size ∧ W.cell? ⟨b, off + k * 4, none⟩ = some (.int .i64 s.1) ∧ W.cell? ⟨b, off + k * 4 + 1, none⟩ = some (.int .i64 s.2.1) ∧ W.cell? ⟨b, off + k * 4 + 2, none⟩ = some (.int .i64 s.2.2.1) ∧ W.cell? ⟨b, off + k * 4 + 3, none⟩ = some (.bool s.2.2.2) := by
  subst hs
  rcases h with h0 | ⟨b, off, rfl, hb, hc⟩
  · omega
  · have hg : (servesFrom ev tr pu lost 0 l).getD k (0, 0, 0, false) = serveF ev tr pu (l.getD k (0, 0)) k lost := by
      have := servesFrom_get ev tr pu lost l 0 k hk
      rw [List.getD, this, Nat.zero_add]
      rfl
    refine ⟨b, off, rfl, hb, ?_, ?_, ?_, ?_⟩
    · have := hc k hk 0 (by omega); rw [serviceCell, hg] at this; simpa [serviceCells] using this
    · have := hc k hk 1 (by omega); rw [serviceCell, hg] at this; simpa [serviceCells] using this
    · have := hc k hk 2 (by omega); rw [serviceCell, hg] at this; simpa [serviceCells] using this
    · have := hc k hk 3 (by omega); rw [serviceCell, hg] at this; simpa [serviceCells] using this

/-- The cells of notice number k. -/
theorem notice_at {W : World} {l : List (Int × Int)} {ro : Option Addr} (h : LiesAt W ro 2 l.length (noticeCell l)) (k : Nat) (hk : k < l.length) (x : Int × Int) (hx : l.getD k (0, 0) = x) :
    ∃ b off, ro = some ⟨b, off, none⟩ ∧ b < W.heap.size ∧ W.cell? ⟨b, off + k * 2, none⟩ = some (.int .i64 x.1) ∧ W.cell? ⟨b, off + k * 2 + 1, none⟩ = some (.int .i64 x.2) := by
  subst hx
  rcases h with h0 | ⟨b, off, rfl, hb, hc⟩
  · omega
  · refine ⟨b, off, rfl, hb, ?_, ?_⟩
    · have := hc k hk 0 (by omega); simpa [noticeCell] using this
    · have := hc k hk 1 (by omega); simpa [noticeCell] using this
theorem getD_mem {α : Type} (l : List α) (k : Nat) (d : α) (hk : k < l.length) : l.getD k d ∈ l := by
  simp [List.getD, hk]
end Go.Proofs.Ytlblacgmecgbkaa
