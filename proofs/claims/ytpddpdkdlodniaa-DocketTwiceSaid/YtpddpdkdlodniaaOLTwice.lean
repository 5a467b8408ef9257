/-
  DocketTwice returns true for every input, and turns nothing that was there.
-/
import Derived.Test.YtpddpdkdlodniaaOFew
namespace Go.Proofs.Ytpddpdkdlodniaa
open Go.RowKit

/-- An append under a guard that holds. -/
theorem wpList_made_g {P : Program} {ops : Array Oper} {rest : List Oper} {o : Oper} {a : Act} {w w' : World} {Q : Exit → Act → World → Prop} {v : Value} (hw : Region.wanted o (yielded ops a.tmps) = true) (s x : Operand) (t ti : TypeId)
    (ho : o.op = .call { callee := .builtin .append, args := #[s, x], argTypes := #[t, ti] }) (vs vx : Value) (hs : a.eval s = vs) (hx : a.eval x = vx)
    (hrun : (Builtin.append_ #[t, ti] o.type #[vs, vx]).run P w = .ok v w') (h : wpList P ops Q rest (a.put o.dst v) w') : wpList P ops Q (o :: rest) a w :=
  wpList_step fun K hK => by
    rw [if_pos hw]
    unfold Oper.wp
    simp [execOp, ho, resolve, invoke, builtin, hs, hx, hrun, Result.andThen]
    exact hK _ _ h

theorem run_append_src {P : Program} (w : World) (t ty : TypeId) (base : Nat) (e : TypeId) (i : TypeInfo) (z : Value) (size bytes : Nat) (ht : P.underlying t = some (.slice e)) (hi : P.info? e = some i) (hz : i.zero = some z) (hsize : i.size = size) (hby : i.bytes = bytes) (hzs : z.cells.size = size) (hsz : 0 < size)
    (v : Value) (n : Nat) (xs : List Value) (hown : w.ownsRow base e size v n xs) (v2 : Value) (m : Nat) (ys : List Value) (hsrc : Src w size v2 m ys) (h1 : ∀ u ∈ ys, u.oneCell' = true) (h63 : n + m ≤ maxLen) (hbytes : (n + m) * bytes ≤ 140737488355328) (hbase : base ≤ w.heap.size) (N : Nat) (hN : n + m = N) :
    ∃ ao c w', (Builtin.append_ #[t, t] ty #[v, v2]).run P w = .ok (.slice ao N c) w' ∧ w'.ownsRow base e size (.slice ao N c) N (xs ++ ys) ∧ w.grownBy w' v.ownBlock := by
  subst hN
  rcases hsrc with ⟨rfl, rfl, rfl⟩ | ⟨ad, c, rfl, hl, hc⟩
  · obtain ⟨ao, c, rfl, _⟩ := owns_form hown
    exact ⟨ao, c, w, run_append_owned_none (P := P) w base t ty e i size ht hi _ n xs hown, by simpa using hown, ⟨rfl, rfl, rfl, Nat.le_refl _, fun _ _ _ => rfl⟩⟩
  · obtain ⟨v', w', hr, h2, h3, _⟩ := run_append_own (P := P) w base t ty e i z size bytes ht hi hz hsize hby hzs hsz v n xs hown ad m c ys hl hc h1 h63 hbytes hbase
    obtain ⟨ao, c, rfl, _⟩ := owns_form h2
    exact ⟨ao, c, w', hr, h2, h3⟩
theorem src_rls {w : World} {ao : Option Addr} {c : Nat} {l : List Rl} (h : Rls w ao l) (hn : ao = none → c = 0) : Src w 3 (.slice ao l.length c) l.length (l.flatMap rlCells) := by
  by_cases h0 : l.length = 0
  · obtain rfl : l = [] := List.length_eq_zero_iff.1 h0
    cases ao with
    | none => exact .inl ⟨by rw [hn rfl]; rfl, rfl, rfl⟩
    | some a => exact .inr ⟨a, c, rfl, rfl, fun j u hu => by simp at hu⟩
  · rcases h with h | ⟨b, off, rfl, hb, hc⟩
    · rw [h] at h0; simp at h0
    refine .inr ⟨_, c, rfl, flat_len rlCells 3 (fun _ => rfl) l, fun j u hu => ?_⟩
    rw [addr_lit]
    have hj := (List.getElem?_eq_some_iff.1 hu).1
    rw [flat_len rlCells 3 (fun _ => rfl)] at hj
    have hd : j = j / 3 * 3 + j % 3 := by omega
    have hi : j / 3 < l.length := by omega
    rw [hd, flat_get rlCells 3 (fun _ => rfl) default l (j / 3) (j % 3) hi (by omega)] at hu
    obtain ⟨k0, k1, k2⟩ := hc _ hi
    rw [hd]
    generalize l.getD (j / 3) default = y at *
    have h5 : j % 3 < 3 := by omega
    generalize j % 3 = r at *
    rw [← Nat.add_assoc]
    match r, h5 with
    | 0, _ => simp [rlCells] at hu; rw [← hu]; exact k0
    | 1, _ => simp [rlCells] at hu; rw [← hu]; exact k1
    | 2, _ => simp [rlCells] at hu; rw [← hu]; exact k2

set_option maxRecDepth 100000 in
set_option maxHeartbeats 4000000 in
theorem docketTwice_walk (x y : Int) (uo lo : Option Addr) (uc lc : Nat) (hs : List Int) (l : List Q4) (a b : Int) (w : World) (hL : U16s w uo hs) (hr : ∀ i, 0 ≤ hs.getD i 0 ∧ hs.getD i 0 ≤ 65535) (hQ : Q4s w lo l) (x0 : 0 ≤ x) (x1 : x ≤ 255) (y0 : 0 ≤ y) (y1 : y ≤ 255) (a0 : 0 ≤ a) (a1 : a ≤ 255) (b0 : 0 ≤ b) (b1 : b ≤ 255) :
    Calls Try.prog 3 #[.agg #[.int .u8 x, .int .u8 y], .slice uo hs.length uc, .slice lo l.length lc, .int .u8 a, .int .u8 b] w fun e w' => e = .returned (.bool true) ∧ Below w.heap.size w w' := by
  obtain ⟨i0, hi, hz0, hz1, hz2⟩ := info_split Try.infoRuling
  obtain ⟨W, hW⟩ : ∃ W, w.alloc (b2Obj x y) = W := ⟨_, rfl⟩
  have hbW : Below w.heap.size w W := by rw [← hW]; go_grown
  have k2 : W.heap[w.heap.size]? = some (b2Obj x y) := by rw [← hW]; exact heap_alloc_new w _
  have HWW := Lib.hid hW
  have B := Lib.hid hbW
  have K2 := Lib.hid k2
  have HL := Lib.hid (hL.next hbW)
  have HQ := Lib.hid (hQ.next hbW)
  have HGB := Lib.hid (builtD_good x y hs l)
  have HBG : Hid ((builtD x y hs l).mts.length ≤ 1000) := Lib.hid built_big
  have HBU := Lib.hid fun V h1 h2 => built_any x y uo lo uc lc hs l V h1 hr h2 x0 x1 y0 y1
  generalize builtD x y hs l = d at HGB HBG HBU
  clear hL hQ hr hW hbW k2
  go_enter Try.func3, Try.ntmps3
  go_upto_region 1 with fail
  try dsimp only
  rw [HWW.out]
  obtain ⟨EB, hEB⟩ : ∃ E, w.heap.size = E := ⟨_, rfl⟩
  rw [hEB] at K2
  try rw [hEB]
  clear HWW hEB
  obtain ⟨p0, p1⟩ := two_cells K2.out
  have HC := Lib.hid (HBU.out W HL.out HQ.out)
  go_wp2_with fail
  refine HC.out.mono ?_
  rintro e q1 ⟨r1, c1, m1, k1, rfl, hO1, hO2, hb1⟩
  go_upto_region 2 with fail
  try dsimp only
  obtain ⟨v1, hv⟩ : ∃ v, q1.alloc (dkObj d.day d.ans d.app r1 d.hol.length c1 m1 d.mts.length k1) = v := ⟨_, rfl⟩
  rw [hv]
  have hbn : Below q1.heap.size q1 v1 := by rw [← hv]; exact (Below.refl _ _).alloc (Nat.le_refl _) _
  have hbb : Below W.heap.size W v1 := hb1.trans (hbn.mono hb1.size)
  replace B := Lib.hid (B.out.trans (hbb.mono B.out.size))
  replace HL := Lib.hid (HL.out.next hbb)
  replace HQ := Lib.hid (HQ.out.next hbb)
  replace K2 := Lib.hid (keep_heap hbb K2.out)
  have D1 : Hid (Dv v1 q1.heap.size d r1 c1 m1 k1) := Lib.hid (by rw [← hv]; exact Dv.made hO1 hO2)
  obtain ⟨E1, hE⟩ : ∃ E, q1.heap.size = E := ⟨_, rfl⟩
  rw [hE] at D1 ⊢
  clear hv hbn hbb hE hO1 hO2 HC hb1
  clear p0 p1 HL HQ K2 HBU
  obtain ⟨hd0, hd1⟩ := HGB.out.2
  obtain ⟨x0, x1, x2, x3, x4⟩ := D1.out.cells
  go_upto_region 4 with fail
  try dsimp only
  have hF1 : 0 ≤ d.day + a % 40 := by omega
  have hF2 : d.day + a % 40 ≤ 1048576 := by omega
  have hF3 : d.day ≤ d.day + a % 40 := by omega
  have hF4 : d.day + a % 40 ≤ d.day + a % 40 + b % 40 := by omega
  have hF5 : d.day + a % 40 + b % 40 ≤ 1048576 := by omega
  obtain ⟨G, hG⟩ : ∃ G, d.day + a % 40 + b % 40 = G := ⟨_, rfl⟩
  rw [hG] at hF4 hF5
  try rw [hG]
  clear hG
  obtain ⟨F, hF⟩ : ∃ F, d.day + a % 40 = F := ⟨_, rfl⟩
  rw [hF] at hF1 hF2 hF3 hF4
  try rw [hF]
  clear hF
  have hE1 : advE d F = 0 := (adv_zero d F).2 ⟨HGB.out.1, hF1, hF2, hF3⟩
  have hE3 : advE d G = 0 := (adv_zero d G).2 ⟨HGB.out.1, by omega, hF5, by omega⟩
  have hE2 : advE (advD d F) G = 0 := (adv_zero _ G).2 ⟨adv_good hE1, by omega, hF5, hF4⟩
  obtain ⟨hW1, hW2⟩ := adv_twice hE1 hF4
  have hA1 := advF_ok hE1
  have hA2 := advF_ok hE2
  have hA3 := advF_ok hE3
  rw [← hW1, ← hW2] at hA3
  have hl1 := (adv_good hE1).2.1
  have hl3 := advR_le hE3
  rw [← hW2, List.length_append] at hl3
  have HSH : Hid ((advD (advD d F) G).mts.length ≤ 32 ∧ (advD (advD d F) G).hol.length ≤ 1000) := Lib.hid ⟨(adv_good hE2).2.1, (terms_zero.1 (adv_good hE2).1).2.2.1⟩
  generalize advR d F = rx at hA1 hA3 hl3
  generalize advR (advD d F) G = ry at hA2 hA3 hl3
  generalize advD (advD d F) G = dy at hA2 hA3 HSH
  generalize advD d F = dx at hA1 hA2 hl1
  have HA1 := Lib.hid hA1
  have HA2 := Lib.hid hA2
  obtain ⟨rz, hz⟩ : ∃ rz, rx ++ ry = rz := ⟨_, rfl⟩
  rw [hz] at hA3
  have HZ := Lib.hid hz
  have HA3 := Lib.hid hA3
  have HL1 := Lib.hid hl1
  have HL3 := Lib.hid hl3
  clear hz hE1 hE2 hE3 hA1 hA2 hA3 hW1 hW2 hF1 hF2 hF3 hF4 hF5 hd0 hd1 a0 a1 b0 b1 hl1 hl3
  clear x0 x1 x2 x3 x4
  obtain ⟨x0, x1, x2, x3, x4⟩ := D1.out.cells
  have HC0 : Hid (Calls Try.prog 13 #[.agg #[.int .i64 d.day, .int .i64 d.ans, .int .i64 d.app, .slice r1 d.hol.length c1, .slice m1 d.mts.length k1], .int .i64 F] v1 (AnsPost v1.heap.size v1 (dx, rx, 0))) := Lib.hid (by rw [← HA1.out]; exact (show Calls Try.prog 13 #[.agg #[.int .i64 d.day, .int .i64 d.ans, .int .i64 d.app, .slice r1 d.hol.length c1, .slice m1 d.mts.length k1], .int .i64 (F)] v1 (AnsPost v1.heap.size v1 (advF d (F))) from Advance_any d.day d.ans d.app (F) r1 m1 c1 k1 d.hol d.mts v1 D1.out.hM D1.out.hI D1.out.cap (Nat.le_trans HBG.out (by decide))))
  have HC := Lib.hid (HC0.out)
  go_wp2_with fail
  refine HC.out.mono ?_
  rintro e q2 ⟨dv, rv, rfl, ⟨r2, c2, m2, k2, rfl, hO1, hO2⟩, hO3, hb2⟩
  obtain ⟨a2, b2, rfl, hR⟩ := owns_rls hO3
  have N2 : Hid (a2 = none → b2 = 0) := Lib.hid (owns_nil hO3)
  clear x0 x1 x2 x3 x4
  go_upto_region 5 with fail
  try dsimp only
  obtain ⟨v2, hv⟩ : ∃ v, q2.alloc (dkObj dx.day dx.ans dx.app r2 dx.hol.length c2 m2 dx.mts.length k2) = v := ⟨_, rfl⟩
  rw [hv]
  have hbn : Below q2.heap.size q2 v2 := by rw [← hv]; exact (Below.refl _ _).alloc (Nat.le_refl _) _
  have hbb : Below v1.heap.size v1 v2 := hb2.trans (hbn.mono hb2.size)
  replace B := Lib.hid (B.out.trans (hbb.mono B.out.size))
  replace D1 := Lib.hid (D1.out.next hbb)
  have D2 : Hid (Dv v2 q2.heap.size dx r2 c2 m2 k2) := Lib.hid (by rw [← hv]; exact Dv.made hO1 hO2)
  have R2 : Hid (Rls v2 a2 rx) := Lib.hid (hR.next hbn)
  obtain ⟨E2, hE⟩ : ∃ E, q2.heap.size = E := ⟨_, rfl⟩
  rw [hE] at D2 ⊢
  clear hv hbn hbb hE hO1 hO2 hO3 hR HC hb2
  clear HC0
  obtain ⟨x0, x1, x2, x3, x4⟩ := D2.out.cells
  have HC0 : Hid (Calls Try.prog 13 #[.agg #[.int .i64 dx.day, .int .i64 dx.ans, .int .i64 dx.app, .slice r2 dx.hol.length c2, .slice m2 dx.mts.length k2], .int .i64 G] v2 (AnsPost v2.heap.size v2 (dy, ry, 0))) := Lib.hid (by rw [← HA2.out]; exact (show Calls Try.prog 13 #[.agg #[.int .i64 dx.day, .int .i64 dx.ans, .int .i64 dx.app, .slice r2 dx.hol.length c2, .slice m2 dx.mts.length k2], .int .i64 (G)] v2 (AnsPost v2.heap.size v2 (advF dx (G))) from Advance_any dx.day dx.ans dx.app (G) r2 m2 c2 k2 dx.hol dx.mts v2 D2.out.hM D2.out.hI D2.out.cap (Nat.le_trans HL1.out (by decide))))
  have HC := Lib.hid (HC0.out)
  go_wp2_with fail
  refine HC.out.mono ?_
  rintro e q3 ⟨dv, rv, rfl, ⟨r3, c3, m3, k3, rfl, hO1, hO2⟩, hO3, hb3⟩
  obtain ⟨a3, b3, rfl, hR⟩ := owns_rls hO3
  have N3 : Hid (a3 = none → b3 = 0) := Lib.hid (owns_nil hO3)
  clear x0 x1 x2 x3 x4
  go_upto_region 6 with fail
  try dsimp only
  obtain ⟨v3, hv⟩ : ∃ v, q3.alloc (dkObj dy.day dy.ans dy.app r3 dy.hol.length c3 m3 dy.mts.length k3) = v := ⟨_, rfl⟩
  rw [hv]
  have hbn : Below q3.heap.size q3 v3 := by rw [← hv]; exact (Below.refl _ _).alloc (Nat.le_refl _) _
  have hbb : Below v2.heap.size v2 v3 := hb3.trans (hbn.mono hb3.size)
  replace B := Lib.hid (B.out.trans (hbb.mono B.out.size))
  replace D1 := Lib.hid (D1.out.next hbb)
  replace D2 := Lib.hid (D2.out.next hbb)
  replace R2 := Lib.hid (R2.out.next hbb)
  have D3 : Hid (Dv v3 q3.heap.size dy r3 c3 m3 k3) := Lib.hid (by rw [← hv]; exact Dv.made hO1 hO2)
  have R3 : Hid (Rls v3 a3 ry) := Lib.hid (hR.next hbn)
  obtain ⟨E3, hE⟩ : ∃ E, q3.heap.size = E := ⟨_, rfl⟩
  rw [hE] at D3 ⊢
  clear hv hbn hbb hE hO1 hO2 hO3 hR HC hb3
  clear HC0
  obtain ⟨x0, x1, x2, x3, x4⟩ := D1.out.cells
  have HC0 : Hid (Calls Try.prog 13 #[.agg #[.int .i64 d.day, .int .i64 d.ans, .int .i64 d.app, .slice r1 d.hol.length c1, .slice m1 d.mts.length k1], .int .i64 G] v3 (AnsPost v3.heap.size v3 (dy, rz, 0))) := Lib.hid (by rw [← HA3.out]; exact (show Calls Try.prog 13 #[.agg #[.int .i64 d.day, .int .i64 d.ans, .int .i64 d.app, .slice r1 d.hol.length c1, .slice m1 d.mts.length k1], .int .i64 (G)] v3 (AnsPost v3.heap.size v3 (advF d (G))) from Advance_any d.day d.ans d.app (G) r1 m1 c1 k1 d.hol d.mts v3 D1.out.hM D1.out.hI D1.out.cap (Nat.le_trans HBG.out (by decide))))
  have HC := Lib.hid (HC0.out)
  go_wp2_with fail
  refine HC.out.mono ?_
  rintro e q4 ⟨dv, rv, rfl, ⟨r4, c4, m4, k4, rfl, hO1, hO2⟩, hO3, hb4⟩
  obtain ⟨a4, b4, rfl, hR⟩ := owns_rls hO3
  have N4 : Hid (a4 = none → b4 = 0) := Lib.hid (owns_nil hO3)
  clear x0 x1 x2 x3 x4
  go_upto_region 7 with fail
  try dsimp only
  obtain ⟨v4, hv⟩ : ∃ v, q4.alloc (dkObj dy.day dy.ans dy.app r4 dy.hol.length c4 m4 dy.mts.length k4) = v := ⟨_, rfl⟩
  rw [hv]
  have hbn : Below q4.heap.size q4 v4 := by rw [← hv]; exact (Below.refl _ _).alloc (Nat.le_refl _) _
  have hbb : Below v3.heap.size v3 v4 := hb4.trans (hbn.mono hb4.size)
  replace B := Lib.hid (B.out.trans (hbb.mono B.out.size))
  replace D1 := Lib.hid (D1.out.next hbb)
  replace D2 := Lib.hid (D2.out.next hbb)
  replace R2 := Lib.hid (R2.out.next hbb)
  replace D3 := Lib.hid (D3.out.next hbb)
  replace R3 := Lib.hid (R3.out.next hbb)
  have D4 : Hid (Dv v4 q4.heap.size dy r4 c4 m4 k4) := Lib.hid (by rw [← hv]; exact Dv.made hO1 hO2)
  have R4 : Hid (Rls v4 a4 rz) := Lib.hid (hR.next hbn)
  obtain ⟨E4, hE⟩ : ∃ E, q4.heap.size = E := ⟨_, rfl⟩
  rw [hE] at D4 ⊢
  clear hv hbn hbb hE hO1 hO2 hO3 hR HC hb4
  clear HC0
  have HC := Lib.hid (oawake_any v4)
  go_wp2_with fail
  refine HC.out.mono ?_
  rintro e q5 ⟨rfl, hb5⟩
  replace B := Lib.hid (B.out.trans (hb5.mono B.out.size))
  replace D1 := Lib.hid (D1.out.next hb5)
  replace D2 := Lib.hid (D2.out.next hb5)
  replace R2 := Lib.hid (R2.out.next hb5)
  replace D3 := Lib.hid (D3.out.next hb5)
  replace R3 := Lib.hid (R3.out.next hb5)
  replace D4 := Lib.hid (D4.out.next hb5)
  replace R4 := Lib.hid (R4.out.next hb5)
  clear HC hb5
  obtain ⟨x0, x1, x2, x3, x4⟩ := D3.out.cells
  obtain ⟨y0, y1, y2, y3, y4⟩ := D4.out.cells
  have HC := Lib.hid (sameDocket_any dy.day dy.ans dy.app r3 r4 m3 m4 c3 c4 k3 k4 dy.hol dy.mts q5 D3.out.hI D4.out.hI D3.out.hM D4.out.hM (Nat.le_trans HSH.out.2 (by decide)) (Nat.le_trans HSH.out.1 (by decide)))
  go_wp2_with fail
  refine HC.out.mono ?_
  rintro e q6 ⟨rfl, hb6⟩
  clear x0 x1 x2 x3 x4
  clear y0 y1 y2 y3 y4
  replace B := Lib.hid (B.out.trans (hb6.mono B.out.size))
  replace D1 := Lib.hid (D1.out.next hb6)
  replace D2 := Lib.hid (D2.out.next hb6)
  replace R2 := Lib.hid (R2.out.next hb6)
  replace D3 := Lib.hid (D3.out.next hb6)
  replace R3 := Lib.hid (R3.out.next hb6)
  replace D4 := Lib.hid (D4.out.next hb6)
  replace R4 := Lib.hid (R4.out.next hb6)
  clear HC hb6
  have hmade : (q6.alloc (.cells #[] 52)).ownsRow q6.heap.size 52 3 (.slice (some ⟨q6.heap.size, 0, none⟩) 0 0) 0 [] := World.ownsRow_made q6 #[] 0 (Nat.le_refl _) (Nat.zero_le _) rfl
  have hba : Below q6.heap.size q6 (q6.alloc (.cells #[] 52)) := (Below.refl _ _).alloc (Nat.le_refl _) _
  have hlz : rx.length + ry.length = rz.length := by rw [← HZ.out, List.length_append]
  have hL3 := HL3.out
  obtain ⟨o1, k7, w7, hrun1, hown1, hg1⟩ := run_append_src (P := Try.prog) (q6.alloc (.cells #[] 52)) 32 32 q6.heap.size 52 i0 (.agg #[.int .i64 0, .int .i64 0, .int .i64 0]) 3 24 Try.underlying32 hi hz0 hz1 hz2 rfl (by omega) _ 0 [] hmade (.slice a2 rx.length b2) rx.length (rx.flatMap rlCells) ((src_rls R2.out N2.out).below hba) rls_one (by unfold maxLen; omega) (by omega) (by simp) rx.length (Nat.zero_add _)
  have hb7 : Below q6.heap.size q6 w7 := hba.grown hg1 (by simp) (fun j hj => by simp [Value.ownBlock] at hj; omega)
  obtain ⟨o2, k8, w8, hrun2, hown2, hg2⟩ := run_append_src (P := Try.prog) w7 32 32 q6.heap.size 52 i0 (.agg #[.int .i64 0, .int .i64 0, .int .i64 0]) 3 24 Try.underlying32 hi hz0 hz1 hz2 rfl (by omega) _ rx.length ([] ++ rx.flatMap rlCells) hown1 (.slice a3 ry.length b3) ry.length (ry.flatMap rlCells) ((src_rls R3.out N3.out).below hb7) rls_one (by unfold maxLen; omega) (by omega) hb7.size rz.length hlz
  have hb8 : Below q6.heap.size q6 w8 := hb7.grown hg2 hb7.size (fun j hj => (hown1.lt j hj).1)
  have hR8 : Rls w8 o2 rz := by
    have h9 : RlOwn q6.heap.size w8 (.slice o2 rz.length k8) rz := by
      unfold RlOwn
      rw [List.nil_append, ← List.flatMap_append, HZ.out] at hown2
      exact hown2
    obtain ⟨ao, c, e9, h10⟩ := owns_rls h9
    cases e9
    exact h10
  have HR8 := Lib.hid hR8
  have HU1 := Lib.hid hrun1
  have HU2 := Lib.hid hrun2
  have HLZ : Hid (rz.length ≤ 1000000) := Lib.hid (by omega)
  have hR4 := R4.out.next hb8
  have HR4 := Lib.hid hR4
  have B8 := Lib.hid (B.out.trans (hb8.mono B.out.size))
  clear hmade hba hlz hL3 hrun1 hown1 hg1 hb7 hrun2 hown2 hg2 hb8 hR8 hR4
  go_wp2_with (first
    | (refine wpList_made_g rfl (.tmp 78) (.tmp 79) 32 32 rfl _ _ rfl rfl HU1.out ?_)
    | (refine wpList_made_g rfl (.tmp 80) (.tmp 81) 32 32 rfl _ _ rfl rfl HU2.out ?_))
  refine (sameRulings_any o2 a4 k8 b4 rz w8 HR8.out HR4.out HLZ.out).mono ?_
  rintro e w9 ⟨rfl, hb9⟩
  have B9 := Lib.hid (B8.out.trans (hb9.mono B8.out.size))
  clear hb9
  go_wp2_with fail
  go_ret
  exact ⟨rfl, B9.out⟩
end Go.Proofs.Ytpddpdkdlodniaa
