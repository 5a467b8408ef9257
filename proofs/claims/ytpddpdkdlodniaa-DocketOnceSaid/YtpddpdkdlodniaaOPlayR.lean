/-
  Contract: the document's File; what a statement 'x, r, f := File(..)' leaves.
  Contract: the document's PlayDocket.
-/
import Derived.Test.YtpddpdkdlodniaaOFileR3
import Derived.Test.YtpddpdkdlodniaaOPlay2
import Derived.Test.YtpddpdkdlodniaaONewR
import Derived.Deep.DeepCutAuto
namespace Go.Proofs.Ytpddpdkdlodniaa
open Go.RowKit

theorem FileR_any (day ans app : Int) (f : Fl) (ho mo : Option Addr) (hc mc : Nat) (H : List Int) (l : List Mt) (w : World) (hM : Mts w mo l) (hI : Ints w ho H) (hn : ho = none → hc = 0) (mn : mo = none → mc = 0) (hl : l.length ≤ 9223372036854775807) :
    Calls Try.prog 28 #[.agg #[.int .i64 day, .int .i64 ans, .int .i64 app, .slice ho H.length hc, .slice mo l.length mc], .agg #[.int .i64 f.kind, .int .i64 f.day, .int .i64 f.id, .int .i64 f.opt]] w (AnsPost w.heap.size w (fileF ⟨day, ans, app, H, l⟩ f)) := by
  obtain ⟨fk, fd, fi, fo⟩ := f
  by_cases hE : advE ⟨day, ans, app, H, l⟩ fd = 0
  · by_cases hk : fk < 1 ∨ 6 < fk
    · exact fileR_bad day ans app fk fd fi fo ho mo hc mc H l w hM hI hn mn hl hE hk
    · have hks : fk = 1 ∨ fk = 2 ∨ fk = 3 ∨ fk = 4 ∨ fk = 5 ∨ fk = 6 := by omega
      rcases hks with rfl | rfl | rfl | rfl | rfl | rfl
      · exact fileR_open day ans app fd fi fo ho mo hc mc H l w hM hI hn mn hl hE
      · exact fileR_chg2 day ans app fd fi fo ho mo hc mc H l w hM hI hn mn hl hE
      · exact fileR_chg3 day ans app fd fi fo ho mo hc mc H l w hM hI hn mn hl hE
      · exact fileR_chg4 day ans app fd fi fo ho mo hc mc H l w hM hI hn mn hl hE
      · exact fileR_chg5 day ans app fd fi fo ho mo hc mc H l w hM hI hn mn hl hE
      · exact fileR_chg6 day ans app fd fi fo ho mo hc mc H l w hM hI hn mn hl hE
  · exact fileR_adverr day ans app fk fd fi fo ho mo hc mc H l w hM hI hn mn hl hE

/-- What a docket's variable, rulings and an error are behind such a statement. -/
def FileCut (wr : World) (a : Ans) (s1 s2 s3 : Value) (wx : World) : Prop :=
  ∃ E ro rc mo mc, s1 = .pointer (some ⟨E, 0, none⟩) ∧ s3 = .int .i64 a.2.2 ∧ wx.heap[E]? = some (dkObj a.1.day a.1.ans a.1.app ro a.1.hol.length rc mo a.1.mts.length mc) ∧ wr.heap.size ≤ E ∧
    wx.ownsRow wr.heap.size 3 1 (.slice ro a.1.hol.length rc) a.1.hol.length (a.1.hol.map (Value.int .i64)) ∧ wx.ownsRow wr.heap.size 50 5 (.slice mo a.1.mts.length mc) a.1.mts.length (a.1.mts.flatMap mtCells) ∧
    RlOwn wr.heap.size wx s2 a.2.1 ∧ Below wr.heap.size wr wx
theorem fcut_late {wr w3 : World} {d : Dk} {rs : List Rl} {er : Int} {ro mo : Option Addr} {rc mc : Nat} {rv : Value} (h1 : w3.ownsRow wr.heap.size 3 1 (.slice ro d.hol.length rc) d.hol.length (d.hol.map (Value.int .i64))) (h2 : w3.ownsRow wr.heap.size 50 5 (.slice mo d.mts.length mc) d.mts.length (d.mts.flatMap mtCells))
    (h3 : RlOwn wr.heap.size w3 rv rs) (hb : Below wr.heap.size wr w3) : FileCut wr (d, rs, er) (.pointer (some ⟨w3.heap.size, 0, none⟩)) rv (.int .i64 er) (w3.alloc (dkObj d.day d.ans d.app ro d.hol.length rc mo d.mts.length mc)) :=
  ⟨w3.heap.size, ro, rc, mo, mc, rfl, rfl, heap_alloc_new w3 _, hb.size, h1.alloc _, h2.alloc _, World.ownsRow.alloc h3 _, hb.alloc hb.size _⟩
theorem fcut_early {wr w3 : World} {d : Dk} {rs : List Rl} {er : Int} {ro mo : Option Addr} {rc mc : Nat} {rv : Value} (h1 : w3.ownsRow (wr.heap.size + 1) 3 1 (.slice ro d.hol.length rc) d.hol.length (d.hol.map (Value.int .i64))) (h2 : w3.ownsRow (wr.heap.size + 1) 50 5 (.slice mo d.mts.length mc) d.mts.length (d.mts.flatMap mtCells))
    (h3 : RlOwn (wr.heap.size + 1) w3 rv rs) (hz : w3.heap[wr.heap.size]? = some dkZero) (hb : Below wr.heap.size wr w3) : FileCut wr (d, rs, er) (.pointer (some ⟨wr.heap.size, 0, none⟩)) rv (.int .i64 er)
      (((((w3.setCell ⟨wr.heap.size, 0, none⟩ (.int .i64 d.day)).setCell ⟨wr.heap.size, 1, none⟩ (.int .i64 d.ans)).setCell ⟨wr.heap.size, 2, none⟩ (.int .i64 d.app)).setCell ⟨wr.heap.size, 3, none⟩ (.slice ro d.hol.length rc)).setCell ⟨wr.heap.size, 4, none⟩ (.slice mo d.mts.length mc)) := by
  refine ⟨wr.heap.size, ro, rc, mo, mc, rfl, rfl, put5 hz, Nat.le_refl _, (owns_put5 h1 hz (by decide)).mono (Nat.le_succ _), (owns_put5 h2 hz (by decide)).mono (Nat.le_succ _), ?_, below_put5 hb (Nat.le_refl _)⟩
  exact World.ownsRow.mono (owns_put5 h3 hz (by decide)) (Nat.le_succ _)
/-- A cell of another block behind five stores. -/
theorem cell_put5 {w : World} {b c j : Nat} {x' y' z' u' t' : Value} (hne : c ≠ b) :
    (((((w.setCell ⟨b, 0, none⟩ x').setCell ⟨b, 1, none⟩ y').setCell ⟨b, 2, none⟩ z').setCell ⟨b, 3, none⟩ u').setCell ⟨b, 4, none⟩ t').cell? ⟨c, j, none⟩ = w.cell? ⟨c, j, none⟩ := by
  refine World.cell?_of_block ?_
  rw [heap_setCell_other _ ⟨b, 4, none⟩ c _ hne, heap_setCell_other _ ⟨b, 3, none⟩ c _ hne, heap_setCell_other _ ⟨b, 2, none⟩ c _ hne, heap_setCell_other _ ⟨b, 1, none⟩ c _ hne, heap_setCell_other _ ⟨b, 0, none⟩ c _ hne]
/-- A list that the call owns and that is nil has no room. -/
theorem owns_nil {w : World} {base e size n c : Nat} {ao : Option Addr} {xs : List Value} (h : w.ownsRow base e size (.slice ao n c) n xs) : ao = none → c = 0 := by
  intro h0
  rcases h.2 with ⟨e1, _⟩ | ⟨g, cap, cur, e1, _⟩
  · cases e1; rfl
  · subst h0
    cases e1

section
variable {w : World} {D : Nat} {d d' : Dk} {all rs : List Rl} {v v2 : Value} {wr w5 : World} {ro mo : Option Addr} {rc mc : Nat}
/-- The docket's variable takes another docket. -/
theorem PlayAt.put (hat : PlayAt w D d all v wr) (hD : w.heap.size + 1 < D)
    (h1 : wr.ownsRow w.heap.size 3 1 (.slice ro d'.hol.length rc) d'.hol.length (d'.hol.map (Value.int .i64))) (h2 : wr.ownsRow w.heap.size 50 5 (.slice mo d'.mts.length mc) d'.mts.length (d'.mts.flatMap mtCells)) :
    PlayAt w D d' all v (((((wr.setCell ⟨D, 0, none⟩ (.int .i64 d'.day)).setCell ⟨D, 1, none⟩ (.int .i64 d'.ans)).setCell ⟨D, 2, none⟩ (.int .i64 d'.app)).setCell ⟨D, 3, none⟩ (.slice ro d'.hol.length rc)).setCell ⟨D, 4, none⟩ (.slice mo d'.mts.length mc)) := by
  obtain ⟨⟨ro0, rc0, mo0, mc0, hd, -, -⟩, hz, hr, hb⟩ := hat
  refine ⟨⟨ro, rc, mo, mc, put5 hd, owns_put5 h1 hd (by decide), owns_put5 h2 hd (by decide)⟩, heap_put5 hz (by omega), ?_, below_put5 hb (by omega)⟩
  unfold RlOwn at *
  exact owns_put5 hr hd (by decide)
/-- The rulings have grown. -/
theorem PlayAt.app (hat : PlayAt w D d all v wr) (h3 : w5.ownsRow w.heap.size 52 3 v2 (all.length + rs.length) (all.flatMap rlCells ++ rs.flatMap rlCells)) (hg : wr.grownBy w5 v.ownBlock) : PlayAt w D d (all ++ rs) v2 w5 := by
  obtain ⟨⟨ro0, rc0, mo0, mc0, hd, h1, h2⟩, hz, hr, hb⟩ := hat
  refine ⟨⟨ro0, rc0, mo0, mc0, heap_grown hd hr (by decide) hg, owns_grown h1 hr (by decide) hg, owns_grown h2 hr (by decide) hg⟩, heap_grown hz hr (by decide) hg, ?_, hb.grown hg hb.size (fun j hj => (World.ownsRow.lt hr j hj).1)⟩
  unfold RlOwn
  rw [List.length_append, List.flatMap_append]
  exact h3
end
end Go.Proofs.Ytpddpdkdlodniaa

namespace Go.Proofs.Ytpddpdkdlodniaa
open Go.RowKit

theorem and5 {a b c d e f g h i : Prop} (h1 : a ∧ b ∧ c ∧ d ∧ e) (h2 : f) (h3 : g) (h4 : h) (h5 : i) : a ∧ b ∧ c ∧ d ∧ e ∧ f ∧ g ∧ h ∧ i :=
  ⟨h1.1, h1.2.1, h1.2.2.1, h1.2.2.2.1, h1.2.2.2.2, h2, h3, h4, h5⟩

set_option maxRecDepth 100000 in
set_option maxHeartbeats 1000000 in
theorem PlayR_any (day ans app : Int) (ho lo : Option Addr) (hc lc : Nat) (H : List Int) (fs : List Fl) (w : World) (hI : Ints w ho H) (hn : ho = none → hc = 0) (hF : Fls w lo fs) (hl : fs.length ≤ 1000) :
    Calls Try.prog 31 #[.int .i64 day, .agg #[.int .i64 ans, .int .i64 app, .slice ho H.length hc], .slice lo fs.length lc] w (PlayPost w.heap.size w (playF day ans app H fs)) := by
  obtain ⟨i0, hi, hz0, hz1, hz2⟩ := info_split Try.infoRuling
  obtain ⟨W, hW⟩ : ∃ W, (w.alloc (.cells #[.int .i64 ans, .int .i64 app, .slice ho H.length hc] 27)).alloc dkZero = W := ⟨_, rfl⟩
  have hbW : Below w.heap.size w W := by rw [← hW]; go_grown
  have k1 : W.heap[w.heap.size]? = some (.cells #[.int .i64 ans, .int .i64 app, .slice ho H.length hc] 27 (0, 0)) := by rw [← hW]; exact alloc_heap (heap_alloc_new w _)
  have k2 : W.heap[w.heap.size + 1]? = some dkZero := by
    have := heap_alloc_new (w.alloc (.cells #[.int .i64 ans, .int .i64 app, .slice ho H.length hc] 27)) dkZero
    rw [World.size_alloc] at this
    rw [← hW]
    exact this
  have hsW : W.heap.size = w.heap.size + 2 := by rw [← hW]; simp
  obtain ⟨r, hr⟩ : ∃ r, newF day ans app H = r := ⟨_, rfl⟩
  obtain ⟨R, hR⟩ : ∃ R, playF day ans app H fs = R := ⟨_, rfl⟩
  have hN := NewR_any day ans app ho hc H W (hI.next hbW) hn
  unfold playF at hR
  rw [hr] at hN hR
  have HN := Lib.hid hN
  have HFW := Lib.hid hF
  have HBW := Lib.hid hbW
  have HS := Lib.hid hsW
  have K2 := Lib.hid k2
  have HWW := Lib.hid hW
  rw [show playF day ans app H fs = R by unfold playF; rw [hr]; exact hR]
  clear hI hF hbW hsW k1 k2 hW hN hr
  obtain ⟨d0, c⟩ := r
  simp only at hR
  by_cases hc0 : c = 0
  · subst hc0
    rw [if_pos rfl] at hR
    have HR := Lib.hid hR
    clear hR
    go_enter Try.func31, Try.ntmps31
    go_wp2_with fail
    rw [HWW.out]
    refine HN.out.mono ?_
    rintro e w3 ⟨dv, rfl, ⟨ro, rc, mo, mc, rfl, hO1, hO2⟩, hb3⟩
    have hsz3 : w.heap.size + 2 ≤ w3.heap.size := by have := hb3.size; have := HS.out; omega
    have hwW : w.heap.size ≤ W.heap.size := HBW.out.size
    go_upto_region 2 with fail
    generalize hw4 : w3.alloc (.cells #[.int .i64 d0.day, .int .i64 d0.ans, .int .i64 d0.app, .slice ro d0.hol.length rc, .slice mo d0.mts.length mc] 30) = w4
    obtain ⟨D, hD⟩ : ∃ D, w3.heap.size = D := ⟨_, rfl⟩
    have hat : PlayAt w D d0 [] (.slice none 0 0) w4 := by
      rw [← hw4, ← hD]
      exact ⟨⟨ro, rc, mo, mc, heap_alloc_new w3 _, (hO1.mono hwW).alloc _, (hO2.mono hwW).alloc _⟩, alloc_heap (keep_heap hb3 K2.out), World.ownsRow_nil _ _ _ _, (HBW.out.trans (hb3.mono HBW.out.size)).alloc (by omega) _⟩
    have hs4 : w3.heap.size ≤ w4.heap.size := by rw [← hw4]; simp
    rw [hD] at hsz3 hs4 ⊢
    have hDB : w.heap.size + 1 < D := by omega
    have HAT := Lib.hid hat
    clear hO1 hO2 hb3 hw4 hD hat HN
    go_wp2_with fail
    go_loopw [12, 13] (fun v i wr => ∃ (k : Nat) (d : Dk) (all : List Rl), k ≤ fs.length ∧ i = .int .i64 k ∧ all.length ≤ 33 * k ∧ Hid (playGo (fs.drop k) d all k = R) ∧ PlayAt w D d all v wr) (fun _ i _ => fs.length - (intOf i).toNat)
    case atStart => exact ⟨0, d0, [], Nat.zero_le _, rfl, Nat.zero_le _, HR, HAT.out⟩
    case round =>
      clear HAT HR hs4
      obtain ⟨k, d, all, hk, rfl, hal, hgo, hat⟩ := hrel
      have HAT := Lib.hid hat
      obtain ⟨⟨ro1, rc1, mo1, mc1, hd1, hO1, hO2⟩, hz1', hr1, hb1⟩ := hat
      obtain ⟨x0, x1, x2, x3, x4⟩ := five_cells hd1
      obtain ⟨g0, g1, g2, g3, g4⟩ := five_free hd1
      have hDl := (Array.getElem?_eq_some_iff.1 hd1).1
      have hsr := hb1.size
      have hfl := HFW.out.next hb1
      by_cases hlt : k < fs.length
      · obtain ⟨bf, off, rfl, hbf, hc0⟩ := hfl.cells (by omega)
        obtain ⟨p0, p1, p2, p3⟩ := hc0 k hlt
        have hst := play_step fs k d all hlt
        rw [hgo.out] at hst
        have hrl := file_rl_len d (fs.getD k default)
        have hmx := owns_max hO2
        have hno := owns_nil hO1
        have hnm := owns_nil hO2
        have hFl : ∀ W', Below wr.heap.size wr W' → Calls Try.prog 28 #[.agg #[.int .i64 d.day, .int .i64 d.ans, .int .i64 d.app, .slice ro1 d.hol.length rc1, .slice mo1 d.mts.length mc1], .agg #[.int .i64 (fs.getD k default).kind, .int .i64 (fs.getD k default).day, .int .i64 (fs.getD k default).id, .int .i64 (fs.getD k default).opt]] W' (AnsPost W'.heap.size W' (fileF d (fs.getD k default))) :=
          fun W' hb => FileR_any d.day d.ans d.app (fs.getD k default) ro1 mo1 rc1 mc1 d.hol d.mts W' ((owns_mts hO2).next hb) ((owns_ints hO1).next hb) hno hnm hmx
        obtain ⟨f, hf⟩ : ∃ f, fs.getD k default = f := ⟨_, rfl⟩
        rw [hf] at p0 p1 p2 p3 hst hrl hFl
        obtain ⟨⟨d', rs, er⟩, ha⟩ : ∃ a, fileF d f = a := ⟨_, rfl⟩
        rw [ha] at hst hrl hFl
        simp only at hst hrl
        have hba : Below wr.heap.size wr (wr.alloc dkZero).drew := ((Below.refl _ _).alloc (Nat.le_refl _) _).drew
        have HF1 := Lib.hid (hFl wr.drew (Below.refl _ _).drew)
        have HF2 := Lib.hid (hFl (wr.alloc dkZero).drew hba)
        have HBA := Lib.hid hba
        have hk0 : (0 : Int) ≤ (k : Int) := Int.natCast_nonneg _
        have hk1 : (k : Int) < (fs.length : Int) := by omega
        have HRL := Lib.hid hrl
        have HST := Lib.hid hst
        have HD1 := Lib.hid hd1
        have hDw : ¬ D = wr.heap.size := by omega
        have hbw2 : ¬ bf = wr.heap.size := by omega
        clear hc0 hf hgo ha hFl hba hfl hd1 hO1 hO2 hz1' hr1 hb1 hmx hno hnm hst hrl
        go_upto_region 8 with fail
        go_cut [14, 15, 16] (fun s1 s2 s3 wx => FileCut wr (d', rs, er) s1 s2 s3 wx)
        case first =>
          go_region_held3 (fun w' => w'.cell? ⟨D, 0, none⟩ = some (.int .i64 d.day) ∧ w'.cell? ⟨D, 1, none⟩ = some (.int .i64 d.ans) ∧ w'.cell? ⟨D, 2, none⟩ = some (.int .i64 d.app) ∧ w'.cell? ⟨D, 3, none⟩ = some (.slice ro1 d.hol.length rc1) ∧ w'.cell? ⟨D, 4, none⟩ = some (.slice mo1 d.mts.length mc1) ∧
              w'.cell? ⟨bf, off + k * 4, none⟩ = some (.int .i64 f.kind) ∧ w'.cell? ⟨bf, off + k * 4 + 1, none⟩ = some (.int .i64 f.day) ∧ w'.cell? ⟨bf, off + k * 4 + 2, none⟩ = some (.int .i64 f.id) ∧ w'.cell? ⟨bf, off + k * 4 + 3, none⟩ = some (.int .i64 f.opt))
            (first | with_reducible exact ⟨x0, x1, x2, x3, x4, p0, p1, p2, p3⟩ | with_reducible exact ⟨y0, y1, y2, y3, y4, q0, q1, q2, q3⟩ | with_reducible exact HSS.out | go_keep)
            (first
              | (go_at_call 28
                 (with_reducible refine HF1.out.mono ?_)
                 rintro e w3 ⟨dv, rv, rfl, ⟨ro2, rc2, mo2, mc2, rfl, hP1, hP2⟩, hP3, hb3⟩
                 have hb31 : Below wr.heap.size wr w3 := (Below.refl _ _).drew.trans hb3
                 have HFC : Hid (FileCut wr (d', rs, er) (.pointer (some ⟨w3.heap.size, 0, none⟩)) rv (.int .i64 er) (w3.alloc (dkObj d'.day d'.ans d'.app ro2 d'.hol.length rc2 mo2 d'.mts.length mc2))) := Lib.hid (fcut_late hP1 hP2 hP3 hb31)
                 obtain ⟨y0, y1, y2, y3, y4⟩ := five_cells (keep_heap hb31 HD1.out)
                 have q0 := (hb31.cell (p := ⟨bf, off + k * 4, none⟩) hbf).trans p0
                 have q1 := (hb31.cell (p := ⟨bf, off + k * 4 + 1, none⟩) hbf).trans p1
                 have q2 := (hb31.cell (p := ⟨bf, off + k * 4 + 2, none⟩) hbf).trans p2
                 have q3 := (hb31.cell (p := ⟨bf, off + k * 4 + 3, none⟩) hbf).trans p3
                 have hs31 := hb31.size
                 clear hP1 hP2 hP3 hb3 hb31)
              | (go_at_call 28
                 (with_reducible refine HF2.out.mono ?_)
                 rintro e w3 ⟨dv, rv, rfl, ⟨ro2, rc2, mo2, mc2, rfl, hP1, hP2⟩, hP3, hb3⟩
                 have hb31 : Below wr.heap.size wr w3 := HBA.out.trans (hb3.mono HBA.out.size)
                 have hz3 : w3.heap[wr.heap.size]? = some dkZero := keep_heap hb3 (drew_heap (heap_alloc_new wr dkZero))
                 have hsz : (wr.alloc dkZero).drew.heap.size = wr.heap.size + 1 := by show (wr.alloc dkZero).heap.size = _; simp
                 rw [hsz] at hP1 hP2 hP3
                 have HFC : Hid (FileCut wr (d', rs, er) (.pointer (some ⟨wr.heap.size, 0, none⟩)) rv (.int .i64 er) (((((w3.setCell ⟨wr.heap.size, 0, none⟩ (.int .i64 d'.day)).setCell ⟨wr.heap.size, 1, none⟩ (.int .i64 d'.ans)).setCell ⟨wr.heap.size, 2, none⟩ (.int .i64 d'.app)).setCell ⟨wr.heap.size, 3, none⟩ (.slice ro2 d'.hol.length rc2)).setCell ⟨wr.heap.size, 4, none⟩ (.slice mo2 d'.mts.length mc2))) := Lib.hid (fcut_early hP1 hP2 hP3 hz3 hb31)
                 obtain ⟨y0, y1, y2, y3, y4⟩ := five_cells (keep_heap hb31 HD1.out)
                 have q0 := (hb31.cell (p := ⟨bf, off + k * 4, none⟩) hbf).trans p0
                 have q1 := (hb31.cell (p := ⟨bf, off + k * 4 + 1, none⟩) hbf).trans p1
                 have q2 := (hb31.cell (p := ⟨bf, off + k * 4 + 2, none⟩) hbf).trans p2
                 have q3 := (hb31.cell (p := ⟨bf, off + k * 4 + 3, none⟩) hbf).trans p3
                 have hd5 := five_cells (heap_put5 (x' := .int .i64 d'.day) (y' := .int .i64 d'.ans) (z' := .int .i64 d'.app) (u' := .slice ro2 d'.hol.length rc2) (t' := .slice mo2 d'.mts.length mc2) (keep_heap hb31 HD1.out) hDw)
                 have HSS := Lib.hid (and5 hd5 ((cell_put5 (x' := .int .i64 d'.day) (y' := .int .i64 d'.ans) (z' := .int .i64 d'.app) (u' := .slice ro2 d'.hol.length rc2) (t' := .slice mo2 d'.mts.length mc2) hbw2).trans q0) ((cell_put5 (x' := .int .i64 d'.day) (y' := .int .i64 d'.ans) (z' := .int .i64 d'.app) (u' := .slice ro2 d'.hol.length rc2) (t' := .slice mo2 d'.mts.length mc2) hbw2).trans q1) ((cell_put5 (x' := .int .i64 d'.day) (y' := .int .i64 d'.ans) (z' := .int .i64 d'.app) (u' := .slice ro2 d'.hol.length rc2) (t' := .slice mo2 d'.mts.length mc2) hbw2).trans q2) ((cell_put5 (x' := .int .i64 d'.day) (y' := .int .i64 d'.ans) (z' := .int .i64 d'.app) (u' := .slice ro2 d'.hol.length rc2) (t' := .slice mo2 d'.mts.length mc2) hbw2).trans q3))
                 obtain ⟨z0, z1, z2, z3, z4⟩ := five_cells hz3
                 obtain ⟨f0, f1, f2, f3, f4⟩ := five_free hz3
                 have hs31 := hb31.size
                 clear hP1 hP2 hP3 hb3 hb31 hz3 hsz hd5))
          all_goals
            go_wp2_with fail
            go_meet
            exact HFC.out
        case rest =>
          obtain ⟨E, ro2, rc2, mo2, mc2, rfl, rfl, hE5, hE, hP1, hP2, hP3, hb5⟩ := hcut
          simp only at hE5 hP1 hP2 hP3
          dsimp only
          have hst := HST.out
          have hrl := HRL.out
          have hAT5 := HAT.out.next hb5
          have hws := HAT.out.2.2.2.size
          have HP1 := Lib.hid (hP1.mono hws)
          have HP2 := Lib.hid (hP2.mono hws)
          have HP3 : Hid (wc.ownsRow w.heap.size 52 3 u15 rs.length (rs.flatMap rlCells)) := Lib.hid (World.ownsRow.mono hP3 hws)
          have HAT5 := Lib.hid hAT5
          have HE5 := Lib.hid hE5
          have hED : ¬ E = D := by omega
          have hDE : ¬ D = E := by omega
          clear x0 x1 x2 x3 x4 g0 g1 g2 g3 g4 p0 p1 p2 p3 HF1 HF2 HBA HD1 hDw hbw2 HAT HST HRL hDl hbf
          by_cases her : er = 0
          · subst her
            rw [if_pos rfl] at hst
            have HST := Lib.hid hst
            obtain ⟨⟨ro3, rc3, mo3, mc3, hd5, -, -⟩, -, hr5, hbb5⟩ := hAT5
            obtain ⟨g0, g1, g2, g3, g4⟩ := five_free hd5
            obtain ⟨x0, x1, x2, x3, x4⟩ := five_cells hd5
            obtain ⟨e0, e1, e2, e3, e4⟩ := five_cells hE5
            have hDl5 := (Array.getElem?_eq_some_iff.1 hd5).1
            have hEl5 := (Array.getElem?_eq_some_iff.1 hE5).1
            clear hst hP1 hP2 hP3 hb5 hE5 hd5 hr5 hbb5
            go_upto_region 12 with fail
            obtain ⟨w6, hw6⟩ : ∃ w6, (((((wc.setCell ⟨D, 0, none⟩ (.int .i64 d'.day)).setCell ⟨D, 1, none⟩ (.int .i64 d'.ans)).setCell ⟨D, 2, none⟩ (.int .i64 d'.app)).setCell ⟨D, 3, none⟩ (.slice ro2 d'.hol.length rc2)).setCell ⟨D, 4, none⟩ (.slice mo2 d'.mts.length mc2)) = w6 := ⟨_, rfl⟩
            rw [hw6]
            have hAT6 := HAT5.out.put hDB HP1.out HP2.out
            rw [hw6] at hAT6
            have hr6 : w6.ownsRow w.heap.size 52 3 u12 all.length (all.flatMap rlCells) := hAT6.2.2.1
            have hq6 : w6.ownsRow w.heap.size 52 3 u15 rs.length (rs.flatMap rlCells) := by
              rw [← hw6]
              obtain ⟨⟨ro3, rc3, mo3, mc3, hd5, -, -⟩, -, -, -⟩ := HAT5.out
              exact owns_put5 HP3.out hd5 (by decide)
            have hs6 := hAT6.2.2.2.size
            have HR6 := Lib.hid hr6
            have HQ6 := Lib.hid hq6
            have HAT6 := Lib.hid hAT6
            clear hw6 hAT6 hr6 hq6 x0 x1 x2 x3 x4 g0 g1 g2 g3 g4 e0 e1 e2 e3 e4 hDl5 hEl5
            go_wp2_with (at_builtin
                         refine wpList_append_rows _ rfl (.tmp 49) (.tmp 50) 32 rfl w.heap.size 52 i0 (.agg #[.int .i64 0, .int .i64 0, .int .i64 0]) 3 24 Try.underlying32 hi hz0 hz1 hz2 rfl (by decide) _ all.length _ rfl HR6.out _ w.heap.size rs.length _ rfl HQ6.out rls_one (by unfold maxLen; omega) (by omega) hs6 ?_
                         intro ao7 c7 w7 hown7 hg7
                         have HN7 := Lib.hid (HAT6.out.app hown7 hg7)
                         clear hown7 hg7)
            go_roundw
            case rel => exact ⟨k + 1, d', all ++ rs, hlt, by go_num, by rw [List.length_append]; omega, Lib.hid HST.out.symm, HN7.out⟩
            case measure => simp [intOf]; omega
          · rw [if_neg her] at hst
            have HST := Lib.hid hst
            have hq : (er != 0) = true := by simpa using her
            obtain ⟨-, hz5, -, hbb5⟩ := hAT5
            have p5 := put5 (x' := .int .i64 0) (y' := .int .i64 0) (z' := .int .i64 0) (u' := .slice none 0 0) (v' := .slice none 0 0) hz5
            obtain ⟨z0, z1, z2, z3, z4⟩ := five_cells p5
            obtain ⟨y0, y1, y2, y3, y4⟩ := five_cells hz5
            obtain ⟨f0, f1, f2, f3, f4⟩ := five_free hz5
            have HZB := Lib.hid (below_put5 (x' := .int .i64 0) (y' := .int .i64 0) (z' := .int .i64 0) (u' := .slice none 0 0) (t' := .slice none 0 0) hbb5 (Nat.le_succ w.heap.size))
            have hzl := (Array.getElem?_eq_some_iff.1 hz5).1
            clear p5 hz5 hbb5 hst her hP1 hP2 hP3 hb5 hE5
            go_wp2_with fail
            refine bodyPost_ret (by simp [results, Try.results31, go_sem, z0, z1, z2, z3, z4]; rfl) rfl ?_
            rw [HST.out]
            exact ⟨_, _, rfl, ⟨none, 0, none, 0, rfl, World.ownsRow_nil _ _ _ _, World.ownsRow_nil _ _ _ _⟩, World.ownsRow_nil _ _ _ _, HZB.out⟩
      · obtain rfl : k = fs.length := by omega
        have hR := hgo.out
        rw [List.drop_length] at hR
        have HR := Lib.hid hR
        have p5 := put5 (x' := .int .i64 d.day) (y' := .int .i64 d.ans) (z' := .int .i64 d.app) (u' := .slice ro1 d.hol.length rc1) (v' := .slice mo1 d.mts.length mc1) hz1'
        obtain ⟨z0, z1, z2, z3, z4⟩ := five_cells p5
        obtain ⟨y0, y1, y2, y3, y4⟩ := five_cells hz1'
        obtain ⟨f0, f1, f2, f3, f4⟩ := five_free hz1'
        have R1 := Lib.hid (owns_put5 (x' := .int .i64 d.day) (y' := .int .i64 d.ans) (z' := .int .i64 d.app) (u' := .slice ro1 d.hol.length rc1) (t' := .slice mo1 d.mts.length mc1) hO1 hz1' (by decide))
        have R2 := Lib.hid (owns_put5 (x' := .int .i64 d.day) (y' := .int .i64 d.ans) (z' := .int .i64 d.app) (u' := .slice ro1 d.hol.length rc1) (t' := .slice mo1 d.mts.length mc1) hO2 hz1' (by decide))
        have R3 := Lib.hid (owns_put5 (x' := .int .i64 d.day) (y' := .int .i64 d.ans) (z' := .int .i64 d.app) (u' := .slice ro1 d.hol.length rc1) (t' := .slice mo1 d.mts.length mc1) hr1 hz1' (by decide))
        have R4 := Lib.hid (below_put5 (x' := .int .i64 d.day) (y' := .int .i64 d.ans) (z' := .int .i64 d.app) (u' := .slice ro1 d.hol.length rc1) (t' := .slice mo1 d.mts.length mc1) hb1 (Nat.le_succ w.heap.size))
        clear p5 hz1' hO1 hO2 hr1 hb1 hd1 hR hgo hfl
        go_wp2_with fail
        refine bodyPost_ret (by simp [results, Try.results31, go_sem, z0, z1, z2, z3, z4]; rfl) rfl ?_
        rw [← HR.out]
        exact ⟨_, _, rfl, ⟨ro1, rc1, mo1, mc1, rfl, R1.out, R2.out⟩, R3.out, R4.out⟩
  · rw [if_neg hc0] at hR
    have HR := Lib.hid hR
    have hq : (c != 0) = true := by simpa using hc0
    clear hR hc0
    go_enter Try.func31, Try.ntmps31
    go_wp2_with fail
    rw [HWW.out]
    refine HN.out.mono ?_
    rintro e w3 ⟨dv, rfl, ⟨ro, rc, mo, mc, rfl, hO1, hO2⟩, hb3⟩
    have hsz3 : w.heap.size + 2 ≤ w3.heap.size := by have := hb3.size; have := HS.out; omega
    go_upto_region 2 with fail
    generalize hw4 : w3.alloc (.cells #[.int .i64 d0.day, .int .i64 d0.ans, .int .i64 d0.app, .slice ro d0.hol.length rc, .slice mo d0.mts.length mc] 30) = w4
    have hz4 : w4.heap[w.heap.size + 1]? = some dkZero := by rw [← hw4]; exact alloc_heap (keep_heap hb3 K2.out)
    have hb4 : Below w.heap.size w w4 := by rw [← hw4]; exact (HBW.out.trans (hb3.mono HBW.out.size)).alloc (by omega) _
    have p5 := put5 (x' := .int .i64 0) (y' := .int .i64 0) (z' := .int .i64 0) (u' := .slice none 0 0) (v' := .slice none 0 0) hz4
    obtain ⟨z0, z1, z2, z3, z4⟩ := five_cells p5
    obtain ⟨y0, y1, y2, y3, y4⟩ := five_cells hz4
    obtain ⟨f0, f1, f2, f3, f4⟩ := five_free hz4
    have HZB := Lib.hid (below_put5 (x' := .int .i64 0) (y' := .int .i64 0) (z' := .int .i64 0) (u' := .slice none 0 0) (t' := .slice none 0 0) hb4 (Nat.le_succ w.heap.size))
    clear p5
    clear hz4 hb4 hw4 hO1 hO2 hb3 HN
    go_wp2_with fail
    refine bodyPost_ret (by simp [results, Try.results31, go_sem, z0, z1, z2, z3, z4]; rfl) rfl ?_
    rw [← HR.out]
    exact ⟨_, _, rfl, ⟨none, 0, none, 0, rfl, World.ownsRow_nil _ _ _ _, World.ownsRow_nil _ _ _ _⟩, World.ownsRow_nil _ _ _ _, HZB.out⟩
end Go.Proofs.Ytpddpdkdlodniaa
