/-
  DocketOnce returns true for every input, and turns nothing that was there.
-/
import Derived.Test.YtpddpdkdlodniaaOFew
import Derived.Deep.DeepCutAuto
import Derived.Deep.QuietTactic
import Derived.BigQuiet
namespace Go.Proofs.Ytpddpdkdlodniaa
open Go.RowKit

/- Rulings and final matters: what the law asks, in plain lists. -/
theorem apart_eq {l : List Mt} (h : Apart l) {m m' : Mt} (hm : m ∈ l) (hm' : m' ∈ l) (he : m'.id = m.id) : m' = m := by
  obtain ⟨i, hi, rfl⟩ := List.getElem_of_mem hm
  obtain ⟨j, hj, rfl⟩ := List.getElem_of_mem hm'
  rcases Nat.lt_trichotomy i j with hlt | heq | hlt
  · exact absurd he.symm (List.pairwise_iff_getElem.1 h i j hi hj hlt)
  · subst heq; rfl
  · exact absurd he (List.pairwise_iff_getElem.1 h j i hj hi hlt)
theorem once_opt {d : Dk} {all : List Rl} (h : Once d all) (ha : Apart d.mts) {m : Mt} (hm : m ∈ d.mts) {r : Rl} (hr : r ∈ all) (he : r.id = m.id) : r.opt = m.opt := by
  have h1 : (r.id, r.opt) ∈ all.map fun r => (r.id, r.opt) := List.mem_map.2 ⟨r, hr, rfl⟩
  obtain ⟨m', hm', e⟩ := List.mem_map.1 (h.1.mem_iff.1 h1)
  have hm2 := (List.mem_filter.1 hm').1
  simp only [Prod.mk.injEq] at e
  have := apart_eq ha hm hm2 (by omega)
  rw [← this]
  exact e.2.symm
/-- How many of the rulings bear this name. -/
def cntR (all : List Rl) (id : Int) : Nat := (all.filter fun r => decide (r.id = id)).length
theorem cnt_apart {l : List Mt} (ha : Apart l) {m : Mt} (hm : m ∈ l) : ((l.filter fun m => decide (m.st = 6)).filter fun x => decide (x.id = m.id)).length = if m.st = 6 then 1 else 0 := by
  induction l with
  | nil => cases hm
  | cons a l ih =>
    have ha' := (List.pairwise_cons.1 ha)
    have hno : ∀ x ∈ l, a.id ≠ x.id := ha'.1
    rcases List.mem_cons.1 hm with rfl | hm
    · have h0 : ((l.filter fun m => decide (m.st = 6)).filter fun x => decide (x.id = m.id)) = [] := by
        rw [List.filter_eq_nil_iff]
        intro x hx
        have := hno x (List.mem_filter.1 hx).1
        simp only [decide_eq_true_eq]
        exact fun e => this e.symm
      by_cases h6 : m.st = 6
      · rw [List.filter_cons_of_pos (by simpa using h6), List.filter_cons_of_pos (by simp), h0, if_pos h6]
        rfl
      · rw [List.filter_cons_of_neg (by simpa using h6), h0, if_neg h6]
        rfl
    · have hne : ¬ a.id = m.id := hno m hm
      have ih' := ih ha'.2 hm
      by_cases h6 : a.st = 6
      · rw [List.filter_cons_of_pos (by simpa using h6), List.filter_cons_of_neg (by simpa using hne)]
        exact ih'
      · rw [List.filter_cons_of_neg (by simpa using h6)]
        exact ih'
theorem once_cnt {d : Dk} {all : List Rl} (h : Once d all) (ha : Apart d.mts) {m : Mt} (hm : m ∈ d.mts) : cntR all m.id = if m.st = 6 then 1 else 0 := by
  rw [← cnt_apart ha hm]
  have hp := (h.1.filter fun p => decide (p.1 = m.id)).length_eq
  rw [List.filter_map, List.filter_map, List.length_map, List.length_map] at hp
  exact hp
theorem once_final {d : Dk} {all : List Rl} (h : Once d all) : (d.mts.filter fun m => decide (m.st = 6)).length = all.length := by
  have := h.1.length_eq
  simp only [List.length_map] at this
  exact this.symm
theorem cntR_succ {all : List Rl} {k : Nat} (h : k < all.length) (id : Int) : cntR (all.take (k + 1)) id = if (all.getD k default).id = id then cntR (all.take k) id + 1 else cntR (all.take k) id := by
  unfold cntR
  rw [take_snocR h, List.filter_append, List.length_append]
  by_cases he : (all.getD k default).id = id
  · rw [if_pos he, List.filter_cons_of_pos (by simpa using he)]
    rfl
  · rw [if_neg he, List.filter_cons_of_neg (by simpa using he)]
    rfl
/-- How many of the matters are final. -/
def finM (l : List Mt) : Nat := (l.filter fun m => decide (m.st = 6)).length
theorem finM_succ {l : List Mt} {k : Nat} (h : k < l.length) : finM (l.take (k + 1)) = if (l.getD k default).st = 6 then finM (l.take k) + 1 else finM (l.take k) := by
  unfold finM
  rw [take_snoc' h, List.filter_append, List.length_append]
  by_cases he : (l.getD k default).st = 6
  · rw [if_pos he, List.filter_cons_of_pos (by simpa using he)]
    rfl
  · rw [if_neg he, List.filter_cons_of_neg (by simpa using he)]
    rfl
theorem finM_le (l : List Mt) : finM l ≤ l.length := List.length_filter_le _ _
theorem cntR_le (l : List Rl) (id : Int) : cntR l id ≤ l.length := List.length_filter_le _ _
/-- The law's docket and the rulings so far. -/
def OnceOk (d : Dk) (all : List Rl) : Prop := GoodB d ∧ Once d all
theorem once_step {d d' : Dk} {all rs : List Rl} {f : Fl} (h : OnceOk d all) (hf : fileF d f = (d', rs, 0)) (hd : 0 ≤ f.day ∧ f.day ≤ 72) : OnceOk d' (all ++ rs) := by
  have h0 : (fileF d f).2.2 = 0 := by rw [hf]
  have h1 := once_file h0 h.2
  obtain ⟨h2, h3⟩ := file_good h0
  rw [hf] at h1 h2 h3
  exact ⟨⟨h2, by simp only at h3; omega, by simp only at h3; omega⟩, h1⟩

/-- A docket in a variable, rulings. -/
def OnceAt (w : World) (D : Nat) (d : Dk) (all : List Rl) (v : Value) (wr : World) : Prop := DkIn w.heap.size D wr d ∧ RlOwn w.heap.size wr v all ∧ Below w.heap.size w wr ∧ w.heap.size ≤ D
theorem DkIn.next {B D : Nat} {w w2 : World} {d : Dk} (h : DkIn B D w d) (hb : Below w.heap.size w w2) : DkIn B D w2 d := by
  obtain ⟨ro, rc, mo, mc, hd, h1, h2⟩ := h
  exact ⟨ro, rc, mo, mc, keep_heap hb hd, owns_next h1 hb, owns_next h2 hb⟩
theorem DkIn.grown {B D : Nat} {w w2 : World} {d : Dk} {v : Value} {all : List Rl} (h : DkIn B D w d) (hr : RlOwn B w v all) (hg : w.grownBy w2 v.ownBlock) : DkIn B D w2 d := by
  obtain ⟨ro, rc, mo, mc, hd, h1, h2⟩ := h
  exact ⟨ro, rc, mo, mc, heap_grown hd hr (by decide) hg, owns_grown h1 hr (by decide) hg, owns_grown h2 hr (by decide) hg⟩
section
variable {w : World} {D : Nat} {d d' : Dk} {all rs : List Rl} {v v2 : Value} {wr w5 : World} {ro mo : Option Addr} {rc mc : Nat}
theorem OnceAt.next (h : OnceAt w D d all v wr) (hb : Below wr.heap.size wr w5) : OnceAt w D d all v w5 :=
  ⟨h.1.next hb, owns_next h.2.1 hb, h.2.2.1.trans (hb.mono h.2.2.1.size), h.2.2.2⟩
theorem OnceAt.put (hat : OnceAt w D d all v wr) (h1 : wr.ownsRow w.heap.size 3 1 (.slice ro d'.hol.length rc) d'.hol.length (d'.hol.map (Value.int .i64))) (h2 : wr.ownsRow w.heap.size 50 5 (.slice mo d'.mts.length mc) d'.mts.length (d'.mts.flatMap mtCells)) :
    OnceAt w D d' all v (((((wr.setCell ⟨D, 0, none⟩ (.int .i64 d'.day)).setCell ⟨D, 1, none⟩ (.int .i64 d'.ans)).setCell ⟨D, 2, none⟩ (.int .i64 d'.app)).setCell ⟨D, 3, none⟩ (.slice ro d'.hol.length rc)).setCell ⟨D, 4, none⟩ (.slice mo d'.mts.length mc)) := by
  obtain ⟨⟨ro0, rc0, mo0, mc0, hd, -, -⟩, hr, hb, hB⟩ := hat
  exact ⟨⟨ro, rc, mo, mc, put5 hd, owns_put5 h1 hd (by decide), owns_put5 h2 hd (by decide)⟩, owns_put5 hr hd (by decide), below_put5 hb hB, hB⟩
theorem OnceAt.app (hat : OnceAt w D d all v wr) (h3 : w5.ownsRow w.heap.size 52 3 v2 (all.length + rs.length) (all.flatMap rlCells ++ rs.flatMap rlCells)) (hg : wr.grownBy w5 v.ownBlock) : OnceAt w D d (all ++ rs) v2 w5 := by
  obtain ⟨h1, hr, hb, hB⟩ := hat
  refine ⟨h1.grown hr hg, ?_, hb.grown hg hb.size (fun j hj => (World.ownsRow.lt hr j hj).1), hB⟩
  unfold RlOwn
  rw [List.length_append, List.flatMap_append]
  exact h3
end

set_option maxRecDepth 100000 in
set_option maxHeartbeats 8000000 in
theorem docketOnce_walk (x y : Int) (uo lo : Option Addr) (uc lc : Nat) (hs : List Int) (l : List Q4) (z : Int) (w : World) (hL : U16s w uo hs) (hr : ∀ i, 0 ≤ hs.getD i 0 ∧ hs.getD i 0 ≤ 65535) (hQ : Q4s w lo l) (x0 : 0 ≤ x) (x1 : x ≤ 255) (y0 : 0 ≤ y) (y1 : y ≤ 255) (z0 : 0 ≤ z) (z1 : z ≤ 255) :
    Calls Try.prog 4 #[.agg #[.int .u8 x, .int .u8 y], .slice uo hs.length uc, .slice lo l.length lc, .int .u8 z] w fun e w' => e = .returned (.bool true) ∧ Below w.heap.size w w' := by
  obtain ⟨i0, hi, hz0, hz1, hz2⟩ := info_split Try.infoRuling
  obtain ⟨W, hW⟩ : ∃ W, w.alloc (b2Obj x y) = W := ⟨_, rfl⟩
  have hbW : Below w.heap.size w W := by rw [← hW]; go_grown
  have k2 : W.heap[w.heap.size]? = some (b2Obj x y) := by rw [← hW]; exact heap_alloc_new w _
  have HT := Lib.hid (terms2_any x y uo uc hs W (hL.next hbW) hr x0 x1 y0 y1)
  have hol6 := hols_len hs
  have HWW := Lib.hid hW
  have B := Lib.hid hbW
  have K2 := Lib.hid k2
  have HQ := Lib.hid (hQ.next hbW)
  obtain ⟨hn1, hn2⟩ := goodB_new (ans := 1 + x % 8) (app := 1 + y % 8) (H := holsF hs) (by omega) (by omega) hol6
  generalize 1 + x % 8 = P at HT hn1 hn2
  generalize 1 + y % 8 = Q at HT hn1 hn2
  generalize holsF hs = H at HT hn1 hn2 hol6
  have hfl := matters_len l
  have hfd := matters_day l
  have HMA := Lib.hid fun V h => matters_any lo lc l V h
  generalize mattersF' l = fs at hfl hfd HMA
  have HN1 := Lib.hid hn1
  have HN2 := Lib.hid hn2
  have HFL := Lib.hid hfl
  have HFD := Lib.hid hfd
  clear hL hr hQ hW hbW k2 hfl hfd hn1 hn2 x0 x1 y0 y1 hol6
  go_enter Try.func4, Try.ntmps4
  go_upto_region 1 with fail
  try dsimp only
  rw [HWW.out]
  obtain ⟨p0, p1⟩ := two_cells K2.out
  go_wp2_with fail
  refine HT.out.mono ?_
  rintro e w1 ⟨ro, rc, rfl, hI1, hno, hb1⟩
  have HQ2 := Lib.hid (HQ.out.next hb1)
  have B1 := Lib.hid (B.out.trans (hb1.mono B.out.size))
  have HC : Hid (Calls Try.prog 17 #[.int .i64 0, .agg #[.int .i64 P, .int .i64 Q, .slice ro H.length rc]] w1 (NewPost w1.heap.size w1 (⟨0, P, Q, H, []⟩, 0))) := Lib.hid (by
    have := New_any 0 P Q ro rc H w1 hI1
    rw [HN1.out] at this
    exact this)
  clear hI1 hno hb1 p0 p1 HT HWW K2 HQ B
  go_wp2_with fail
  refine HC.out.mono ?_
  rintro e w2 ⟨dv, rfl, ⟨r2, c2, m2, k2, rfl, hO1, hO2⟩, hb2⟩
  go_upto_region 2 with fail
  try dsimp only
  obtain ⟨w3, hw3⟩ : ∃ w3, w2.alloc (.cells #[.int .i64 0, .int .i64 P, .int .i64 Q, .slice r2 H.length c2, .slice m2 0 k2] 30) = w3 := ⟨_, rfl⟩
  rw [hw3]
  obtain ⟨d0, hd0⟩ : ∃ d0 : Dk, (⟨0, P, Q, H, []⟩ : Dk) = d0 := ⟨_, rfl⟩
  have hws : w.heap.size ≤ w1.heap.size := B1.out.size
  have hb23 : Below w2.heap.size w2 w3 := by rw [← hw3]; exact (Below.refl _ _).alloc (Nat.le_refl _) _
  have hb13 : Below w1.heap.size w1 w3 := hb2.trans (hb23.mono hb2.size)
  have hat : OnceAt w w2.heap.size d0 [] (.slice none 0 0) w3 := by
    rw [← hw3, ← hd0]
    exact ⟨⟨r2, c2, m2, k2, heap_alloc_new w2 _, (hO1.mono hws).alloc _, (hO2.mono hws).alloc _⟩, World.ownsRow_nil _ _ _ _, (B1.out.trans (hb2.mono hws)).alloc (Nat.le_trans hws hb2.size) _, Nat.le_trans hws hb2.size⟩
  have hok : OnceOk d0 [] := by
    rw [← hd0]
    exact ⟨HN2.out, once_new 0 P Q H⟩
  have hDw3 : w2.heap.size < w3.heap.size := by rw [← hw3]; simp
  have HOK := Lib.hid hok
  have HAT := Lib.hid hat
  have HMA3 := Lib.hid (HMA.out w3 (HQ2.out.next hb13))
  obtain ⟨D, hD⟩ : ∃ D, w2.heap.size = D := ⟨_, rfl⟩
  rw [hD] at HAT hDw3 ⊢
  clear hw3 hd0 hb23 hb13 hat hok hD hO1 hO2 hb2 HC HQ2 HMA HN1 HN2 B1
  go_wp2_with fail
  refine HMA3.out.mono ?_
  rintro e w4 ⟨fo, fc, rfl, hF, hb4⟩
  have HAT4 := Lib.hid (HAT.out.next hb4)
  have HF := Lib.hid hF
  have hw3s : w.heap.size ≤ w3.heap.size := HAT.out.2.2.1.size
  have hfl24 := HFL.out
  clear hb4 hF HAT HMA3
  go_wp2_with fail
  go_loopw [11, 13] (fun v i wr => ∃ (k : Nat) (d : Dk) (all : List Rl), k ≤ fs.length ∧ i = .int .i64 k ∧ all.length ≤ 33 * k ∧ OnceOk d all ∧ OnceAt w D d all v wr ∧ wr.ownsRow w3.heap.size 47 4 (.slice fo fs.length fc) fs.length (fs.flatMap flCells)) (fun _ i _ => fs.length - (intOf i).toNat)
  case atStart => exact ⟨0, d0, [], Nat.zero_le _, rfl, Nat.zero_le _, HOK.out, HAT4.out, HF.out⟩
  case round =>
    clear HAT4 HOK
    obtain ⟨k, d, all, hk, rfl, hal, hok, hat, hb⟩ := hrel
    have HAT := Lib.hid hat
    have HOK := Lib.hid hok
    have hchk : chkF d = 0 := (chk_good d).2 hok.1.1
    have hbig : d.mts.length ≤ 32 := hok.1.1.2.1
    obtain ⟨⟨ro1, rc1, mo1, mc1, hd1, hO1, hO2⟩, hr1, hb1, hDB⟩ := hat
    have hcap1 : d.mts.length ≤ mc1 := by
      obtain ⟨_, _, e1, hn1⟩ := owns_form hO2
      cases e1
      exact hn1
    obtain ⟨x0, x1, x2, x3, x4⟩ := five_cells hd1
    have hDl := (Array.getElem?_eq_some_iff.1 hd1).1
    have hsr := hb1.size
    by_cases hlt : k < fs.length
    · have HBB := Lib.hid hb
      obtain ⟨g0, g1, g2, g3, g4⟩ := five_free hd1
      obtain ⟨bf, off, rfl, hbf, hc0⟩ := (owns_fls hb).cells (by omega)
      obtain ⟨p0, p1, p2, p3⟩ := hc0 k hlt
      have hFl : ∀ W', Below wr.heap.size wr W' → Calls Try.prog 20 #[.agg #[.int .i64 d.day, .int .i64 d.ans, .int .i64 d.app, .slice ro1 d.hol.length rc1, .slice mo1 d.mts.length mc1], .agg #[.int .i64 (fs.getD k default).kind, .int .i64 (fs.getD k default).day, .int .i64 (fs.getD k default).id, .int .i64 (fs.getD k default).opt]] W' (AnsPost W'.heap.size W' (fileF d (fs.getD k default))) :=
        fun W' hb => File_any d.day d.ans d.app (fs.getD k default) ro1 mo1 rc1 mc1 d.hol d.mts W' ((owns_mts hO2).next hb) ((owns_ints hO1).next hb) hcap1 (by omega)
      have hfday : 0 ≤ (fs.getD k default).day ∧ (fs.getD k default).day ≤ 72 := HFD.out _ (by simp [List.getD, hlt])
      have hrl := file_rl_len d (fs.getD k default)
      obtain ⟨f, hf⟩ : ∃ f, fs.getD k default = f := ⟨_, rfl⟩
      rw [hf] at p0 p1 p2 p3 hFl hfday hrl
      obtain ⟨⟨d', rs, er⟩, ha⟩ : ∃ a, fileF d f = a := ⟨_, rfl⟩
      rw [ha] at hFl hrl
      simp only at hrl
      have hba : Below wr.heap.size wr (wr.alloc dkZero).drew := ((Below.refl _ _).alloc (Nat.le_refl _) _).drew
      have HF1 := Lib.hid (hFl wr.drew (Below.refl _ _).drew)
      have HF2 := Lib.hid (hFl (wr.alloc dkZero).drew hba)
      have HBA := Lib.hid hba
      have hk0 : (0 : Int) ≤ (k : Int) := Int.natCast_nonneg _
      have hk1 : (k : Int) < (fs.length : Int) := by omega
      have HFE := Lib.hid ha
      have HFY := Lib.hid hfday
      have HRL := Lib.hid hrl
      have HD1 := Lib.hid hd1
      have HCK := Lib.hid hchk
      have HBG := Lib.hid hbig
      have HCP := Lib.hid hcap1
      have HM1 := Lib.hid (owns_mts hO2)
      have hDw : ¬ D = wr.heap.size := by omega
      have hbw2 : ¬ bf = wr.heap.size := by omega
      clear hc0 hf ha hFl hba hd1 hO1 hO2 hr1 hb1 hb hok hchk hbig hcap1 hfday hrl
      go_upto_region 9 with fail
      go_cut [14, 15, 16] (fun s1 s2 s3 wx => FileCut wr (d', rs, er) s1 s2 s3 wx)
      case first =>
        go_region_held3 (fun w' => w'.cell? ⟨D, 0, none⟩ = some (.int .i64 d.day) ∧ w'.cell? ⟨D, 1, none⟩ = some (.int .i64 d.ans) ∧ w'.cell? ⟨D, 2, none⟩ = some (.int .i64 d.app) ∧ w'.cell? ⟨D, 3, none⟩ = some (.slice ro1 d.hol.length rc1) ∧ w'.cell? ⟨D, 4, none⟩ = some (.slice mo1 d.mts.length mc1) ∧
            w'.cell? ⟨bf, off + k * 4, none⟩ = some (.int .i64 f.kind) ∧ w'.cell? ⟨bf, off + k * 4 + 1, none⟩ = some (.int .i64 f.day) ∧ w'.cell? ⟨bf, off + k * 4 + 2, none⟩ = some (.int .i64 f.id) ∧ w'.cell? ⟨bf, off + k * 4 + 3, none⟩ = some (.int .i64 f.opt))
          (first | with_reducible exact ⟨x0, x1, x2, x3, x4, p0, p1, p2, p3⟩ | with_reducible exact ⟨y0, y1, y2, y3, y4, q0, q1, q2, q3⟩ | with_reducible exact HSS.out | go_keep)
          (first
            | (go_at_call 20
               (with_reducible refine HF1.out.mono ?_)
               rintro e w3 ⟨dv, rv, rfl, ⟨ro2, rc2, mo2, mc2, rfl, hP1, hP2⟩, hP3, hb3⟩
               have hb31 : Below wr.heap.size wr w3 := (Below.refl _ _).drew.trans hb3
               have HFC : Hid (FileCut wr (d', rs, er) (.pointer (some ⟨w3.heap.size, 0, none⟩)) rv (.int .i64 er) (w3.alloc (dkObj d'.day d'.ans d'.app ro2 d'.hol.length rc2 mo2 d'.mts.length mc2))) := Lib.hid (fcut_late hP1 hP2 hP3 hb31)
               obtain ⟨y0, y1, y2, y3, y4⟩ := five_cells (keep_heap hb31 HD1.out)
               have q0 := (hb31.cell (p := ⟨bf, off + k * 4, none⟩) hbf).trans p0
               have q1 := (hb31.cell (p := ⟨bf, off + k * 4 + 1, none⟩) hbf).trans p1
               have q2 := (hb31.cell (p := ⟨bf, off + k * 4 + 2, none⟩) hbf).trans p2
               have q3 := (hb31.cell (p := ⟨bf, off + k * 4 + 3, none⟩) hbf).trans p3
               have hs31 := hb31.size
               clear hP1 hP2 hP3 hb3 hb31)
            | (go_at_call 20
               (with_reducible refine HF2.out.mono ?_)
               rintro e w3 ⟨dv, rv, rfl, ⟨ro2, rc2, mo2, mc2, rfl, hP1, hP2⟩, hP3, hb3⟩
               have hb31 : Below wr.heap.size wr w3 := HBA.out.trans (hb3.mono HBA.out.size)
               have hz3 : w3.heap[wr.heap.size]? = some dkZero := keep_heap hb3 (drew_heap (heap_alloc_new wr dkZero))
               have hsz : (wr.alloc dkZero).drew.heap.size = wr.heap.size + 1 := by show (wr.alloc dkZero).heap.size = _; simp
               rw [hsz] at hP1 hP2 hP3
               have HFC : Hid (FileCut wr (d', rs, er) (.pointer (some ⟨wr.heap.size, 0, none⟩)) rv (.int .i64 er) (((((w3.setCell ⟨wr.heap.size, 0, none⟩ (.int .i64 d'.day)).setCell ⟨wr.heap.size, 1, none⟩ (.int .i64 d'.ans)).setCell ⟨wr.heap.size, 2, none⟩ (.int .i64 d'.app)).setCell ⟨wr.heap.size, 3, none⟩ (.slice ro2 d'.hol.length rc2)).setCell ⟨wr.heap.size, 4, none⟩ (.slice mo2 d'.mts.length mc2))) := Lib.hid (fcut_early hP1 hP2 hP3 hz3 hb31)
               obtain ⟨y0, y1, y2, y3, y4⟩ := five_cells (keep_heap hb31 HD1.out)
               have q0 := (hb31.cell (p := ⟨bf, off + k * 4, none⟩) hbf).trans p0
               have q1 := (hb31.cell (p := ⟨bf, off + k * 4 + 1, none⟩) hbf).trans p1
               have q2 := (hb31.cell (p := ⟨bf, off + k * 4 + 2, none⟩) hbf).trans p2
               have q3 := (hb31.cell (p := ⟨bf, off + k * 4 + 3, none⟩) hbf).trans p3
               have hd5 := five_cells (heap_put5 (x' := .int .i64 d'.day) (y' := .int .i64 d'.ans) (z' := .int .i64 d'.app) (u' := .slice ro2 d'.hol.length rc2) (t' := .slice mo2 d'.mts.length mc2) (keep_heap hb31 HD1.out) hDw)
               have HSS := Lib.hid (and5 hd5 ((cell_put5 (x' := .int .i64 d'.day) (y' := .int .i64 d'.ans) (z' := .int .i64 d'.app) (u' := .slice ro2 d'.hol.length rc2) (t' := .slice mo2 d'.mts.length mc2) hbw2).trans q0) ((cell_put5 (x' := .int .i64 d'.day) (y' := .int .i64 d'.ans) (z' := .int .i64 d'.app) (u' := .slice ro2 d'.hol.length rc2) (t' := .slice mo2 d'.mts.length mc2) hbw2).trans q1) ((cell_put5 (x' := .int .i64 d'.day) (y' := .int .i64 d'.ans) (z' := .int .i64 d'.app) (u' := .slice ro2 d'.hol.length rc2) (t' := .slice mo2 d'.mts.length mc2) hbw2).trans q2) ((cell_put5 (x' := .int .i64 d'.day) (y' := .int .i64 d'.ans) (z' := .int .i64 d'.app) (u' := .slice ro2 d'.hol.length rc2) (t' := .slice mo2 d'.mts.length mc2) hbw2).trans q3))
               obtain ⟨z0, z1, z2, z3, z4⟩ := five_cells hz3
               obtain ⟨f0, f1, f2, f3, f4⟩ := five_free hz3
               have hs31 := hb31.size
               clear hP1 hP2 hP3 hb3 hb31 hz3 hsz hd5))
        all_goals
          go_wp2_with fail
          go_meet
          exact HFC.out
      case rest =>
        obtain ⟨E, ro2, rc2, mo2, mc2, rfl, rfl, hE5, hE, hP1, hP2, hP3, hb5⟩ := hcut
        simp only at hE5 hP1 hP2 hP3
        dsimp only
        have hAT5 := HAT.out.next hb5
        have hws := HAT.out.2.2.1.size
        have HP1 := Lib.hid (hP1.mono hws)
        have HP2 := Lib.hid (hP2.mono hws)
        have HP3 : Hid (wc.ownsRow w.heap.size 52 3 u15 rs.length (rs.flatMap rlCells)) := Lib.hid (World.ownsRow.mono hP3 hws)
        have HAT5 := Lib.hid hAT5
        have HBB5 := Lib.hid (owns_next HBB.out hb5)
        have HD5 := Lib.hid (keep_heap hb5 HD1.out)
        have HM5 := Lib.hid (HM1.out.next hb5)
        have hED : ¬ E = D := by omega
        have hDE : ¬ D = E := by omega
        have hrl := HRL.out
        clear x0 x1 x2 x3 x4 g0 g1 g2 g3 g4 p0 p1 p2 p3 HF1 HF2 HBA HD1 hDw hbw2 HAT HBB hDl hbf HM1
        obtain ⟨g0, g1, g2, g3, g4⟩ := five_free HD5.out
        obtain ⟨x0, x1, x2, x3, x4⟩ := five_cells HD5.out
        by_cases her : er = 0
        · subst her
          have HOK' := Lib.hid (once_step HOK.out HFE.out HFY.out)
          have hg' := HOK'.out.1.1
          have HCK' := Lib.hid ((chk_good d').2 hg')
          have hbig' := hg'.2.1
          obtain ⟨e0, e1, e2, e3, e4⟩ := five_cells hE5
          have hDl5 := (Array.getElem?_eq_some_iff.1 HD5.out).1
          have hEl5 := (Array.getElem?_eq_some_iff.1 hE5).1
          clear hP1 hP2 hP3 hb5 hE5 hAT5 hg'
          go_upto_region 12 with fail
          obtain ⟨w6, hw6⟩ : ∃ w6, (((((wc.setCell ⟨D, 0, none⟩ (.int .i64 d'.day)).setCell ⟨D, 1, none⟩ (.int .i64 d'.ans)).setCell ⟨D, 2, none⟩ (.int .i64 d'.app)).setCell ⟨D, 3, none⟩ (.slice ro2 d'.hol.length rc2)).setCell ⟨D, 4, none⟩ (.slice mo2 d'.mts.length mc2)) = w6 := ⟨_, rfl⟩
          rw [hw6]
          have hAT6 := HAT5.out.put HP1.out HP2.out
          have hq6 : w6.ownsRow w.heap.size 52 3 u15 rs.length (rs.flatMap rlCells) := by
            rw [← hw6]
            exact owns_put5 HP3.out HD5.out (by decide)
          have hf6 : w6.ownsRow w3.heap.size 47 4 (.slice (some ⟨bf, off, none⟩) fs.length fc) fs.length (fs.flatMap flCells) := by
            rw [← hw6]
            exact owns_put5 HBB5.out HD5.out (by decide)
          have hh6 : w6.heap[D]? = some (dkObj d'.day d'.ans d'.app ro2 d'.hol.length rc2 mo2 d'.mts.length mc2) := by
            rw [← hw6]
            exact put5 HD5.out
          have hm6 : w6.ownsRow w.heap.size 50 5 (.slice mo2 d'.mts.length mc2) d'.mts.length (d'.mts.flatMap mtCells) := by
            rw [← hw6]
            exact owns_put5 HP2.out HD5.out (by decide)
          rw [hw6] at hAT6
          have hs6 := hAT6.2.2.1.size
          have HQ6 := Lib.hid hq6
          have HAT6 := Lib.hid hAT6
          have HFF6 := Lib.hid hf6
          have HH6 := Lib.hid hh6
          have HMM6 := Lib.hid hm6
          clear hw6 hAT6 hq6 hf6 hh6 hm6 x0 x1 x2 x3 x4 g0 g1 g2 g3 g4 e0 e1 e2 e3 e4 hDl5 hEl5
          go_upto_region 13 with (at_builtin
                                  refine wpList_append_rows _ rfl (.tmp 55) (.tmp 56) 32 rfl w.heap.size 52 i0 (.agg #[.int .i64 0, .int .i64 0, .int .i64 0]) 3 24 Try.underlying32 hi hz0 hz1 hz2 rfl (by decide) _ all.length _ rfl HAT6.out.2.1 _ w.heap.size rs.length _ rfl HQ6.out rls_one (by unfold maxLen; omega) (by omega) hs6 ?_
                                  intro ao7 c7 w7 hown7 hg7
                                  have HN7 := Lib.hid (HAT6.out.app hown7 hg7)
                                  have HFF7 := Lib.hid (owns_grown HFF6.out HAT6.out.2.1 (by decide) hg7)
                                  have HH7 := Lib.hid (heap_grown HH6.out HAT6.out.2.1 (by decide) hg7)
                                  have HMM7 := Lib.hid (owns_grown HMM6.out HAT6.out.2.1 (by decide) hg7)
                                  clear hown7 hg7)
          obtain ⟨x0, x1, x2, x3, x4⟩ := five_cells HH7.out
          have hcap7 : d'.mts.length ≤ mc2 := by
            obtain ⟨_, _, e1, hn1⟩ := owns_form HMM7.out
            cases e1
            exact hn1
          have HC : Hid (Calls Try.prog 21 #[.agg #[.int .i64 d'.day, .int .i64 d'.ans, .int .i64 d'.app, .slice ro2 d'.hol.length rc2, .slice mo2 d'.mts.length mc2]] w7 fun e w' => e = .returned (.int .i64 0) ∧ Below w7.heap.size w7 w') := Lib.hid (by
            have := check_any d'.day d'.ans d'.app ro2 mo2 rc2 mc2 d'.hol d'.mts w7 (owns_mts HMM7.out) hcap7 (by omega)
            rw [HCK'.out] at this
            exact this)
          clear hcap7
          go_wp2_with fail
          refine HC.out.mono ?_
          rintro e w8 ⟨rfl, hb8⟩
          have HN8 := Lib.hid (HN7.out.next hb8)
          have HFF8 := Lib.hid (owns_next HFF7.out hb8)
          clear hb8 x0 x1 x2 x3 x4
          go_wp2_with fail
          go_roundw
          case rel => exact ⟨k + 1, d', all ++ rs, hlt, by go_num, by rw [List.length_append]; omega, HOK'.out, HN8.out, HFF8.out⟩
          case measure => simp [intOf]; omega
        · have hq : (er == 0) = false := by simpa using her
          have HC : Hid (Calls Try.prog 21 #[.agg #[.int .i64 d.day, .int .i64 d.ans, .int .i64 d.app, .slice ro1 d.hol.length rc1, .slice mo1 d.mts.length mc1]] wc fun e w' => e = .returned (.int .i64 0) ∧ Below wc.heap.size wc w') := Lib.hid (by
            have := check_any d.day d.ans d.app ro1 mo1 rc1 mc1 d.hol d.mts wc HM5.out HCP.out (Nat.le_trans HBG.out (by decide))
            rw [HCK.out] at this
            exact this)
          clear hAT5 hP1 hP2 hP3 hb5 hE5 her
          go_wp2_with fail
          refine HC.out.mono ?_
          rintro e w8 ⟨rfl, hb8⟩
          have HN8 := Lib.hid (HAT5.out.next hb8)
          have HFF8 := Lib.hid (owns_next HBB5.out hb8)
          clear hb8 x0 x1 x2 x3 x4 g0 g1 g2 g3 g4
          go_wp2_with fail
          go_roundw
          case rel => exact ⟨k + 1, d, all, hlt, by go_num, by omega, HOK.out, HN8.out, HFF8.out⟩
          case measure => simp [intOf]; omega
    · obtain rfl : k = fs.length := by omega
      obtain ⟨hd0, hd1v⟩ := hok.1.2
      have hE1 : advE d (d.day + z % 60) = 0 := (adv_zero d _).2 ⟨hok.1.1, by omega, by omega, by omega⟩
      have hon := once_adv hE1 hok.2
      have hgd := adv_good hE1
      have hrl := advR_le hE1
      have hA := advF_ok hE1
      generalize advR d (d.day + z % 60) = ry at hon hrl hA
      generalize advD d (d.day + z % 60) = dy at hon hgd hA
      have HC0 : Hid (Calls Try.prog 13 #[.agg #[.int .i64 d.day, .int .i64 d.ans, .int .i64 d.app, .slice ro1 d.hol.length rc1, .slice mo1 d.mts.length mc1], .int .i64 (d.day + z % 60)] wr (AnsPost wr.heap.size wr (dy, ry, 0))) := Lib.hid (by
        have := Advance_any d.day d.ans d.app (d.day + z % 60) ro1 mo1 rc1 mc1 d.hol d.mts wr (owns_mts hO2) (owns_ints hO1) hcap1 (by omega)
        rw [show advF ⟨d.day, d.ans, d.app, d.hol, d.mts⟩ (d.day + z % 60) = (dy, ry, 0) from hA] at this
        exact this)
      obtain ⟨A2, hA2⟩ : ∃ A2, all ++ ry = A2 := ⟨_, rfl⟩
      rw [hA2] at hon
      have hl2 : all.length + ry.length = A2.length := by rw [← hA2, List.length_append]
      have HA2 := Lib.hid hA2
      have HON := Lib.hid hon
      have HGD := Lib.hid hgd
      have hcky := (chk_good dy).2 hgd
      have HCY := Lib.hid hcky
      have hbigy := hgd.2.1
      have hA2l : A2.length ≤ 1000 := by omega
      have HL2 := Lib.hid hl2
      have hall : all.length ≤ 1000 := by omega
      have hryl : ry.length ≤ 32 := hrl
      clear hok hon hgd hrl hA hA2 hl2 hcky hchk hE1 hb hO1 hO2 hr1 hd1 hcap1 HOK hk hal hlt
      go_wp2_with fail
      refine HC0.out.mono ?_
      rintro e q1 ⟨dv, rv, rfl, ⟨r5, c5, m5, k5, rfl, hP1, hP2⟩, hP3, hb5⟩
      go_upto_region 16 with fail
      try dsimp only
      obtain ⟨v5, hv⟩ : ∃ v, q1.alloc (dkObj dy.day dy.ans dy.app r5 dy.hol.length c5 m5 dy.mts.length k5) = v := ⟨_, rfl⟩
      rw [hv]
      have hbn : Below q1.heap.size q1 v5 := by rw [← hv]; exact (Below.refl _ _).alloc (Nat.le_refl _) _
      have hbv : Below wr.heap.size wr v5 := hb5.trans (hbn.mono hb5.size)
      have AT5 := Lib.hid (HAT.out.next hbv)
      have HY : Hid (v5.heap[q1.heap.size]? = some (dkObj dy.day dy.ans dy.app r5 dy.hol.length c5 m5 dy.mts.length k5)) := Lib.hid (by rw [← hv]; exact heap_alloc_new q1 _)
      have HY2 := Lib.hid (owns_next (hP2.mono hsr) hbn)
      have HRV : Hid (v5.ownsRow w.heap.size 52 3 rv ry.length (ry.flatMap rlCells)) := Lib.hid (owns_next (World.ownsRow.mono hP3 hsr) hbn)
      obtain ⟨E, hE⟩ : ∃ E, q1.heap.size = E := ⟨_, rfl⟩
      rw [hE] at HY ⊢
      clear hv hbn hbv hE hP1 hP2 hP3 hb5 HC0 x0 x1 x2 x3 x4 HAT hb1 hDl hsr hDB hd0 hd1v
      obtain ⟨x0, x1, x2, x3, x4⟩ := five_cells HY.out
      have hcap5 : dy.mts.length ≤ k5 := by
        obtain ⟨_, _, e1, hn1⟩ := owns_form HY2.out
        cases e1
        exact hn1
      have HC : Hid (Calls Try.prog 21 #[.agg #[.int .i64 dy.day, .int .i64 dy.ans, .int .i64 dy.app, .slice r5 dy.hol.length c5, .slice m5 dy.mts.length k5]] v5 fun e w' => e = .returned (.int .i64 0) ∧ Below v5.heap.size v5 w') := Lib.hid (by
        have := check_any dy.day dy.ans dy.app r5 m5 c5 k5 dy.hol dy.mts v5 (owns_mts HY2.out) hcap5 (by omega)
        rw [HCY.out] at this
        exact this)
      clear hcap5
      go_wp2_with fail
      refine HC.out.mono ?_
      rintro e w6 ⟨rfl, hb6⟩
      have AT6 := Lib.hid (AT5.out.next hb6)
      have HY6 := Lib.hid (keep_heap hb6 HY.out)
      have HYM6 := Lib.hid (owns_next HY2.out hb6)
      have HRV6 := Lib.hid (owns_next HRV.out hb6)
      have hs6 := AT6.out.2.2.1.size
      clear hb6 x0 x1 x2 x3 x4 HC AT5 HY HY2 HRV HCY
      go_upto_region 19 with (at_builtin
                              refine wpList_append_rows _ rfl (.tmp 80) (.tmp 81) 32 rfl w.heap.size 52 i0 (.agg #[.int .i64 0, .int .i64 0, .int .i64 0]) 3 24 Try.underlying32 hi hz0 hz1 hz2 rfl (by decide) _ all.length _ rfl AT6.out.2.1 _ w.heap.size ry.length _ rfl HRV6.out rls_one (by unfold maxLen; omega) (by omega) hs6 ?_
                              intro ao7 c7 w7 hown7 hg7
                              have HN7 := Lib.hid (AT6.out.app hown7 hg7)
                              have HY7 := Lib.hid (heap_grown HY6.out AT6.out.2.1 (by decide) hg7)
                              have HYM7 := Lib.hid (owns_grown HYM6.out AT6.out.2.1 (by decide) hg7)
                              clear hown7 hg7)
      have HB7 := Lib.hid HN7.out.2.2.1
      have hR7 : Rls w7 ao7 A2 := by
        have h9 := HN7.out.2.1
        rw [HA2.out, HL2.out] at h9
        obtain ⟨a, b, e9, h10⟩ := owns_rls h9
        cases e9
        exact h10
      have HR7 := Lib.hid hR7
      have HM7 := Lib.hid (owns_mts HYM7.out)
      have hl2 := HL2.out
      try rw [hl2]
      clear hR7 HN7 HYM7 HYM6 HY6 AT6 HRV6 hl2 HL2 HA2 hs6 HF hw3s hfl24 hDw3 HFL HFD hws
      obtain ⟨wo, rfl⟩ : ∃ wo : World, wo = wr := ⟨_, rfl⟩
      go_wp2_with fail
      go_loopw [20, 21] (fun fin i wr => ∃ (k : Nat) (fn : Int), k ≤ dy.mts.length ∧ i = .int .i64 k ∧ fin = .int .i64 fn ∧ Hid (fn = finM (dy.mts.take k)) ∧ 0 ≤ fn ∧ fn ≤ k ∧ Below w7.heap.size w7 wr) (fun _ i _ => dy.mts.length - (intOf i).toNat)
      case atStart => exact ⟨0, 0, Nat.zero_le _, rfl, rfl, Lib.hid (by simp [finM]), Int.le_refl _, Int.le_refl _, Below.refl _ _⟩
      case round =>
        obtain ⟨k, fn, hk, rfl, rfl, hfn, hf0, hf1, hb⟩ := hrel
        obtain ⟨x0, x1, x2, x3, x4⟩ := five_cells (keep_heap hb HY7.out)
        have hk0 : (0 : Int) ≤ (k : Int) := Int.natCast_nonneg _
        by_cases hlt : k < dy.mts.length
        · have hk1 : (k : Int) < (dy.mts.length : Int) := by omega
          rcases HM7.out.next hb with h0 | ⟨gm, om, rfl, hgm, hmc⟩
          · rw [h0] at hlt
            simp at hlt
          obtain ⟨a0, a1, a2, a3, a4⟩ := hmc k hlt
          have hfs := finM_succ hlt
          have hmem : dy.mts.getD k default ∈ dy.mts := by simp [List.getD, hlt]
          obtain ⟨m, hm⟩ : ∃ m, dy.mts.getD k default = m := ⟨_, rfl⟩
          rw [hm] at a0 a1 a2 a3 a4 hfs hmem
          have hcnt := once_cnt HON.out HGD.out.2.2.2 hmem
          have HOP : Hid (∀ r ∈ A2, r.id = m.id → r.opt = m.opt) := Lib.hid fun r hr he => once_opt HON.out HGD.out.2.2.2 hmem hr he
          have HCN := Lib.hid hcnt
          have HFS := Lib.hid hfs
          have HBB := Lib.hid hb
          try simp only at a0 a1 a2 a3 a4
          clear hmc hfs hmem hm hcnt hb
          go_upto_region 24 with fail
          obtain ⟨wm, hwm⟩ : ∃ wm, wr.alloc (.cells #[.int .i64 m.id, .int .i64 m.st, .int .i64 m.due, .int .i64 m.opt, .bool m.df] 50) = wm := ⟨_, rfl⟩
          rw [hwm]
          have hbm : Below wr.heap.size wr wm := by rw [← hwm]; exact (Below.refl _ _).alloc (Nat.le_refl _) _
          have HMB : Hid (wm.heap[wr.heap.size]? = some (.cells #[.int .i64 m.id, .int .i64 m.st, .int .i64 m.due, .int .i64 m.opt, .bool m.df] 50 (0, 0))) := Lib.hid (by rw [← hwm]; exact heap_alloc_new wr _)
          have HBM := Lib.hid (HBB.out.trans (hbm.mono HBB.out.size))
          obtain ⟨Mb, hMb⟩ : ∃ M, wr.heap.size = M := ⟨_, rfl⟩
          rw [hMb] at HMB ⊢
          clear hwm hbm hMb x0 x1 x2 x3 x4 a0 a1 a2 a3 a4 HBB hgm
          obtain ⟨wp, rfl⟩ : ∃ wp : World, wp = wr := ⟨_, rfl⟩
          go_wp2_with fail
          go_loopw [23, 24] (fun n j wr => ∃ (t : Nat) (cn : Int), t ≤ A2.length ∧ j = .int .i64 t ∧ n = .int .i64 cn ∧ Hid (cn = cntR (A2.take t) m.id) ∧ 0 ≤ cn ∧ cn ≤ t ∧ Below wm.heap.size wm wr) (fun _ j _ => A2.length - (intOf j).toNat)
          case atStart => exact ⟨0, 0, Nat.zero_le _, rfl, rfl, Lib.hid (by simp [cntR]), Int.le_refl _, Int.le_refl _, Below.refl _ _⟩
          case round =>
            obtain ⟨t, cn, ht, rfl, rfl, hcn, hc0, hc1, hb⟩ := hrel
            obtain ⟨b0, b1, b2, b3, b4⟩ := five_cells (keep_heap hb HMB.out)
            have ht0 : (0 : Int) ≤ (t : Int) := Int.natCast_nonneg _
            by_cases hlt2 : t < A2.length
            · have ht1 : (t : Int) < (A2.length : Int) := by omega
              obtain ⟨x0, x1, x2, x3, x4⟩ := five_cells (keep_heap (HBM.out.trans (hb.mono HBM.out.size)) HY7.out)
              rcases (HR7.out.next HBM.out).next hb with h0 | ⟨gr, orr, rfl, hgr, hrc⟩
              · rw [h0] at hlt2
                simp at hlt2
              obtain ⟨e0, e1, e2⟩ := hrc t hlt2
              have hcs := cntR_succ hlt2 m.id
              have hmem : A2.getD t default ∈ A2 := by simp [List.getD, hlt2]
              obtain ⟨r, hr⟩ : ∃ r, A2.getD t default = r := ⟨_, rfl⟩
              rw [hr] at e0 e1 e2 hcs hmem
              have hday := HON.out.2 r hmem
              have hopt := HOP.out r hmem
              have HB := Lib.hid hb
              clear hrc hmem hr hb
              by_cases he : r.id = m.id
              · have hop := hopt he
                rw [if_pos he] at hcs
                have HCS := Lib.hid hcs
                have q1' : (r.id == m.id) = true := by simpa using he
                have q2' : (r.opt != m.opt) = false := by simpa using hop
                have q3' : decide (dy.day < r.day) = false := by simp; omega
                clear hop hopt hcs he
                go_wp2_with fail
                go_quiet (fail)
                go_upto_region 30 with fail
                obtain ⟨wq, hwq⟩ : ∃ wq, wr.drewN nq = wq := ⟨_, rfl⟩
                rw [hwq]
                have hbq : Below wr.heap.size wr wq := by rw [← hwq]; exact below_drewN (Below.refl _ _) _
                have HBQ := Lib.hid (HB.out.trans (hbq.mono HB.out.size))
                have e0 := (hbq.cell (p := ⟨gr, orr + t * 3, none⟩) hgr).trans e0
                have e1 := (hbq.cell (p := ⟨gr, orr + t * 3 + 1, none⟩) hgr).trans e1
                have e2 := (hbq.cell (p := ⟨gr, orr + t * 3 + 2, none⟩) hgr).trans e2
                clear hwq hbq
                obtain ⟨b0, b1, b2, b3, b4⟩ := five_cells (keep_heap HBQ.out HMB.out)
                obtain ⟨x0, x1, x2, x3, x4⟩ := five_cells (keep_heap (HBM.out.trans (HBQ.out.mono HBM.out.size)) HY7.out)
                go_quiet (fail)
                go_wp2_with fail
                go_roundw
                case rel => exact ⟨t + 1, cn + 1, hlt2, by go_num, rfl, Lib.hid (by rw [HCS.out, hcn.out]; omega), by omega, by omega, below_drewN HBQ.out _⟩
                case measure => simp [intOf]; omega
              · rw [if_neg he] at hcs
                have HCS := Lib.hid hcs
                have q1' : (r.id == m.id) = false := by simpa using he
                clear hopt hcs he
                go_wp2_with fail
                go_quiet (fail)
                go_wp2_with fail
                go_roundw
                case rel => exact ⟨t + 1, cn, hlt2, by go_num, rfl, Lib.hid (by rw [HCS.out]; exact hcn.out), hc0, by omega, below_drewN HB.out _⟩
                case measure => simp [intOf]; omega
            · obtain rfl : t = A2.length := by omega
              have hcq := hcn.out
              rw [List.take_length, HCN.out] at hcq
              have HBE := Lib.hid (HBM.out.trans (hb.mono HBM.out.size))
              clear hcn hb hlt2 ht hc0 hc1
              by_cases h6 : m.st = 6
              · rw [if_pos h6] at hcq
                obtain rfl : cn = 1 := by omega
                have q1' : (m.st == 6) = true := by simpa using h6
                have hfq := HFS.out
                rw [if_pos h6] at hfq
                have HFQ := Lib.hid hfq
                clear hcq hfq h6
                go_wp2_with fail
                go_roundw
                case rel => exact ⟨k + 1, fn + 1, hlt, by go_num, rfl, Lib.hid (by rw [HFQ.out, hfn.out]; omega), by omega, by omega, HBE.out⟩
                case measure => simp [intOf]; omega
              · rw [if_neg h6] at hcq
                obtain rfl : cn = 0 := by omega
                have q1' : (m.st == 6) = false := by simpa using h6
                have hfq := HFS.out
                rw [if_neg h6] at hfq
                have HFQ := Lib.hid hfq
                clear hcq hfq h6
                go_wp2_with fail
                go_roundw
                case rel => exact ⟨k + 1, fn, hlt, by go_num, rfl, Lib.hid (by rw [HFQ.out]; exact hfn.out), hf0, by omega, HBE.out⟩
                case measure => simp [intOf]; omega
        · obtain rfl : k = dy.mts.length := by omega
          have hfq := hfn.out
          rw [List.take_length] at hfq
          have hfl := once_final HON.out
          have hfe : fn = (A2.length : Int) := by rw [hfq]; unfold finM; rw [hfl]
          subst hfe
          have HBW := Lib.hid (HB7.out.trans (hb.mono HB7.out.size))
          clear hfn hfq hfl hb hlt hk hf0 hf1
          have HAW := Lib.hid (oawake_any wr)
          go_wp2_with fail
          refine HAW.out.mono ?_
          rintro e w9 ⟨rfl, hb9⟩
          have HB9 := Lib.hid (HBW.out.trans (hb9.mono HBW.out.size))
          clear hb9
          go_wp2_with fail
          go_ret
          exact ⟨rfl, HB9.out⟩
end Go.Proofs.Ytpddpdkdlodniaa
