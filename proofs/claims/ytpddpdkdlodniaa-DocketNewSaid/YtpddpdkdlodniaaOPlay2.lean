/-
  Contract: Play, walked.
-/
import Derived.Test.YtpddpdkdlodniaaOPlay
namespace Go.Proofs.Ytpddpdkdlodniaa
open Go.RowKit

theorem owns_max {w : World} {base e size n : Nat} {v : Value} {xs : List Value} (h : w.ownsRow base e size v n xs) : n ≤ 9223372036854775807 := by
  rcases h.2 with ⟨_, rfl⟩ | ⟨g, cap, cur, _, _, _, hn, hc, _⟩
  · omega
  · unfold maxLen at hc
    omega
set_option maxRecDepth 100000 in
set_option maxHeartbeats 1000000 in
theorem Play_any (day ans app : Int) (ho lo : Option Addr) (hc lc : Nat) (H : List Int) (fs : List Fl) (w : World) (hI : Ints w ho H) (hF : Fls w lo fs) (hl : fs.length ≤ 1000) :
    Calls Try.prog 29 #[.int .i64 day, .agg #[.int .i64 ans, .int .i64 app, .slice ho H.length hc], .slice lo fs.length lc] w (PlayPost w.heap.size w (playF day ans app H fs)) := by
  obtain ⟨i0, hi, hz0, hz1, hz2⟩ := info_split Try.infoRuling
  obtain ⟨W, hW⟩ : ∃ W, (w.alloc (.cells #[.int .i64 ans, .int .i64 app, .slice ho H.length hc] 27)).alloc dkZero = W := ⟨_, rfl⟩
  have hbW : Below w.heap.size w W := by rw [← hW]; go_grown
  have k1 : W.heap[w.heap.size]? = some (.cells #[.int .i64 ans, .int .i64 app, .slice ho H.length hc] 27 (0, 0)) := by rw [← hW]; exact alloc_heap (heap_alloc_new w _)
  have k2 : W.heap[w.heap.size + 1]? = some dkZero := by
    have := heap_alloc_new (w.alloc (.cells #[.int .i64 ans, .int .i64 app, .slice ho H.length hc] 27)) dkZero
    rw [World.size_alloc] at this
    rw [← hW]
    exact this
  have hsW : W.heap.size = w.heap.size + 2 := by rw [← hW]; simp
  obtain ⟨r, hr⟩ : ∃ r, newF day ans app H = r := ⟨_, rfl⟩
  obtain ⟨R, hR⟩ : ∃ R, playF day ans app H fs = R := ⟨_, rfl⟩
  have hN := New_any day ans app ho hc H W (hI.next hbW)
  unfold playF at hR
  rw [hr] at hN hR
  have HN := Lib.hid hN
  have HFW := Lib.hid hF
  have HBW := Lib.hid hbW
  have HS := Lib.hid hsW
  have K2 := Lib.hid k2
  have HWW := Lib.hid hW
  rw [show playF day ans app H fs = R by unfold playF; rw [hr]; exact hR]
  clear hI hF hbW hsW k1 k2 hW hN hr
  obtain ⟨d0, c⟩ := r
  simp only at hR
  by_cases hc0 : c = 0
  · subst hc0
    rw [if_pos rfl] at hR
    have HR := Lib.hid hR
    clear hR
    go_enter Try.func29, Try.ntmps29
    go_wp2_with fail
    rw [HWW.out]
    refine HN.out.mono ?_
    rintro e w3 ⟨dv, rfl, ⟨ro, rc, mo, mc, rfl, hO1, hO2⟩, hb3⟩
    have hsz3 : w.heap.size + 2 ≤ w3.heap.size := by have := hb3.size; have := HS.out; omega
    have hwW : w.heap.size ≤ W.heap.size := HBW.out.size
    go_upto_region 2 with fail
    generalize hw4 : w3.alloc (.cells #[.int .i64 d0.day, .int .i64 d0.ans, .int .i64 d0.app, .slice ro d0.hol.length rc, .slice mo d0.mts.length mc] 30) = w4
    obtain ⟨D, hD⟩ : ∃ D, w3.heap.size = D := ⟨_, rfl⟩
    have hat : PlayAt w D d0 [] (.slice none 0 0) w4 := by
      rw [← hw4, ← hD]
      exact ⟨⟨ro, rc, mo, mc, heap_alloc_new w3 _, (hO1.mono hwW).alloc _, (hO2.mono hwW).alloc _⟩, alloc_heap (keep_heap hb3 K2.out), World.ownsRow_nil _ _ _ _, (HBW.out.trans (hb3.mono HBW.out.size)).alloc (by omega) _⟩
    have hs4 : w3.heap.size ≤ w4.heap.size := by rw [← hw4]; simp
    rw [hD] at hsz3 hs4 ⊢
    have hDB : w.heap.size + 1 < D := by omega
    have HAT := Lib.hid hat
    clear hO1 hO2 hb3 hw4 hD hat HN
    go_wp2_with fail
    go_loopw [12, 30] (fun v i wr => ∃ (k : Nat) (d : Dk) (all : List Rl), k ≤ fs.length ∧ i = .int .i64 k ∧ all.length ≤ 33 * k ∧ Hid (playGo (fs.drop k) d all k = R) ∧ PlayAt w D d all v wr) (fun _ i _ => fs.length - (intOf i).toNat)
    case atStart => exact ⟨0, d0, [], Nat.zero_le _, rfl, Nat.zero_le _, HR, HAT.out⟩
    case round =>
      clear HAT HR hs4
      obtain ⟨k, d, all, hk, rfl, hal, hgo, hat⟩ := hrel
      have HAT := Lib.hid hat
      obtain ⟨⟨ro1, rc1, mo1, mc1, hd1, hO1, hO2⟩, hz1', hr1, hb1⟩ := hat
      obtain ⟨x0, x1, x2, x3, x4⟩ := five_cells hd1
      obtain ⟨g0, g1, g2, g3, g4⟩ := five_free hd1
      have hDl := (Array.getElem?_eq_some_iff.1 hd1).1
      have hsr := hb1.size
      have hfl := HFW.out.next hb1
      by_cases hlt : k < fs.length
      · obtain ⟨bf, off, rfl, hbf, hc0⟩ := hfl.cells (by omega)
        obtain ⟨p0, p1, p2, p3⟩ := hc0 k hlt
        have hst := play_step fs k d all hlt
        rw [hgo.out] at hst
        have hrl := file_rl_len d (fs.getD k default)
        have hcap1 : d.mts.length ≤ mc1 := by
          obtain ⟨_, _, e1, hn1⟩ := owns_form hO2
          cases e1
          exact hn1
        have hmx := owns_max hO2
        have hFl : ∀ W', Mts W' mo1 d.mts → Ints W' ro1 d.hol → Calls Try.prog 20 #[.agg #[.int .i64 d.day, .int .i64 d.ans, .int .i64 d.app, .slice ro1 d.hol.length rc1, .slice mo1 d.mts.length mc1], .agg #[.int .i64 (fs.getD k default).kind, .int .i64 (fs.getD k default).day, .int .i64 (fs.getD k default).id, .int .i64 (fs.getD k default).opt]] W' (AnsPost W'.heap.size W' (fileF d (fs.getD k default))) :=
          fun W' h1 h2 => File_any d.day d.ans d.app (fs.getD k default) ro1 mo1 rc1 mc1 d.hol d.mts W' h1 h2 hcap1 hmx
        obtain ⟨f, hf⟩ : ∃ f, fs.getD k default = f := ⟨_, rfl⟩
        rw [hf] at p0 p1 p2 p3 hst hrl hFl
        obtain ⟨⟨d', rs, er⟩, ha⟩ : ∃ a, fileF d f = a := ⟨_, rfl⟩
        rw [ha] at hst hrl hFl
        simp only at hst hrl
        have hbx : Below wr.heap.size wr (wr.alloc (fiObj f.kind f.day f.id f.opt)) := (Below.refl _ _).alloc (Nat.le_refl _) _
        have HFI := Lib.hid (hFl (wr.alloc (fiObj f.kind f.day f.id f.opt)) ((owns_mts hO2).next hbx) ((owns_ints hO1).next hbx))
        have HBX := Lib.hid hbx
        have hk0 : (0 : Int) ≤ (k : Int) := Int.natCast_nonneg _
        have hk1 : (k : Int) < (fs.length : Int) := by omega
        have hz2' := hz1'
        have HZ1 := Lib.hid hz1'
        clear hc0 hf hgo ha hFl hbx hfl hd1 hO1 hO2 hz1' hz2' hr1 hb1 hcap1 hmx
        by_cases her : er = 0
        · subst her
          rw [if_pos rfl] at hst
          have HST := Lib.hid hst
          clear hst
          go_wp2_with fail
          refine HFI.out.mono ?_
          rintro e w3 ⟨dv, rv, rfl, ⟨ro2, rc2, mo2, mc2, rfl, hP1, hP2⟩, hP3, hb3⟩
          have hb31 : Below wr.heap.size wr w3 := HBX.out.trans (hb3.mono HBX.out.size)
          have hws : w.heap.size ≤ (wr.alloc (fiObj f.kind f.day f.id f.opt)).heap.size := by simp; omega
          go_upto_region 9 with fail
          generalize hw5 : w3.alloc (.cells #[.int .i64 d'.day, .int .i64 d'.ans, .int .i64 d'.app, .slice ro2 d'.hol.length rc2, .slice mo2 d'.mts.length mc2] 30) = w5
          obtain ⟨E, hE⟩ : ∃ E, w3.heap.size = E := ⟨_, rfl⟩
          have hb51 : Below wr.heap.size wr w5 := by rw [← hw5]; exact hb31.alloc hb31.size _
          have hAT5 := HAT.out.next hb51
          have HP1 : Hid (w5.ownsRow w.heap.size 3 1 (.slice ro2 d'.hol.length rc2) d'.hol.length (d'.hol.map (Value.int .i64))) := Lib.hid (by rw [← hw5]; exact (hP1.mono hws).alloc _)
          have HP2 : Hid (w5.ownsRow w.heap.size 50 5 (.slice mo2 d'.mts.length mc2) d'.mts.length (d'.mts.flatMap mtCells)) := Lib.hid (by rw [← hw5]; exact (hP2.mono hws).alloc _)
          have HP3 : Hid (w5.ownsRow w.heap.size 52 3 rv rs.length (rs.flatMap rlCells)) := Lib.hid (by rw [← hw5]; exact (World.ownsRow.mono hP3 hws).alloc _)
          have hE5 : w5.heap[E]? = some (dkObj d'.day d'.ans d'.app ro2 d'.hol.length rc2 mo2 d'.mts.length mc2) := by rw [← hw5, ← hE]; exact heap_alloc_new w3 _
          have HAT5 := Lib.hid hAT5
          have hs3 : wr.heap.size ≤ w3.heap.size := hb31.size
          rw [hE] at hs3 ⊢
          have hED : ¬ E = D := by omega
          have hDE : ¬ D = E := by omega
          obtain ⟨⟨ro3, rc3, mo3, mc3, hd5, -, -⟩, -, hr5, hb5⟩ := hAT5
          obtain ⟨x0, x1, x2, x3, x4⟩ := five_cells hd5
          obtain ⟨g0, g1, g2, g3, g4⟩ := five_free hd5
          obtain ⟨e0, e1, e2, e3, e4⟩ := five_cells hE5
          have HR5 := Lib.hid hr5
          have HD5 := Lib.hid hd5
          have HE5 := Lib.hid hE5
          have hDl5 := (Array.getElem?_eq_some_iff.1 hd5).1
          have hEl5 := (Array.getElem?_eq_some_iff.1 hE5).1
          have hsz5 := hb5.size
          clear hP1 hP2 hP3 hb3 hb31 hw5 hE hb51 hE5 hd5 hr5 hb5 HFI HBX p0 p1 p2 p3
          go_upto_region 11 with fail
          go_region_law (first
            | (refine step_append_rows w5.drew (by rfl) _ _ _ (by rfl) w.heap.size 52 i0 (.agg #[.int .i64 0, .int .i64 0, .int .i64 0]) 3 24 Try.underlying32 hi hz0 hz1 hz2 rfl (by omega) _ all.length _ (by rfl) HR5.out.drew _ w.heap.size rs.length _ (by rfl) HP3.out.drew rls_one (by unfold maxLen; omega) (by omega) hsz5 ?_
               intro ao6 c6 w6 hown6 hg6
               have hd6 := heap_grown (drew_heap HD5.out) HR5.out.drew (by decide) hg6
               obtain ⟨x0, x1, x2, x3, x4⟩ := five_cells hd6
               obtain ⟨g0, g1, g2, g3, g4⟩ := five_free hd6
               have he6 := heap_grown (drew_heap HE5.out) HR5.out.drew (by decide) hg6
               obtain ⟨e0, e1, e2, e3, e4⟩ := five_cells he6
               clear hd6 he6))
          all_goals
            have HN6 := Lib.hid (play_next1 HAT5.out hDB HP1.out HP2.out hown6 hg6)
            clear hown6 hg6
            go_wp2_with fail
            go_roundw
            case rel => exact ⟨k + 1, d', all ++ rs, hlt, by go_num, by rw [List.length_append]; omega, Lib.hid HST.out.symm, HN6.out⟩
            case measure => simp [intOf]; omega
        · rw [if_neg her] at hst
          have HST := Lib.hid hst
          have hq : (er != 0) = true := by simpa using her
          clear hst her
          go_wp2_with fail
          refine HFI.out.mono ?_
          rintro e w3 ⟨dv, rv, rfl, ⟨ro2, rc2, mo2, mc2, rfl, hP1, hP2⟩, hP3, hb3⟩
          have hb31 : Below wr.heap.size wr w3 := HBX.out.trans (hb3.mono HBX.out.size)
          go_upto_region 9 with fail
          generalize hw5 : w3.alloc (.cells #[.int .i64 d'.day, .int .i64 d'.ans, .int .i64 d'.app, .slice ro2 d'.hol.length rc2, .slice mo2 d'.mts.length mc2] 30) = w5
          have hb51 : Below wr.heap.size wr w5 := by rw [← hw5]; exact hb31.alloc hb31.size _
          have hAT5 := HAT.out.next hb51
          obtain ⟨-, hz5, -, hb5⟩ := hAT5
          have p5 := put5 (x' := .int .i64 0) (y' := .int .i64 0) (z' := .int .i64 0) (u' := .slice none 0 0) (v' := .slice none 0 0) hz5
          obtain ⟨z0, z1, z2, z3, z4⟩ := five_cells p5
          obtain ⟨y0, y1, y2, y3, y4⟩ := five_cells hz5
          obtain ⟨f0, f1, f2, f3, f4⟩ := five_free hz5
          have HZB := Lib.hid (below_put5 (x' := .int .i64 0) (y' := .int .i64 0) (z' := .int .i64 0) (u' := .slice none 0 0) (t' := .slice none 0 0) hb5 (Nat.le_succ w.heap.size))
          clear p5
          clear hz5 hb5 hP1 hP2 hP3 hb3 hb31 hw5 hb51 HFI HBX
          go_wp2_with fail
          refine bodyPost_ret (by simp [results, Try.results29, go_sem, z0, z1, z2, z3, z4]; rfl) rfl ?_
          rw [HST.out]
          exact ⟨_, _, rfl, ⟨none, 0, none, 0, rfl, World.ownsRow_nil _ _ _ _, World.ownsRow_nil _ _ _ _⟩, World.ownsRow_nil _ _ _ _, HZB.out⟩
      · obtain rfl : k = fs.length := by omega
        have hR := hgo.out
        rw [List.drop_length] at hR
        have HR := Lib.hid hR
        have p5 := put5 (x' := .int .i64 d.day) (y' := .int .i64 d.ans) (z' := .int .i64 d.app) (u' := .slice ro1 d.hol.length rc1) (v' := .slice mo1 d.mts.length mc1) hz1'
        obtain ⟨z0, z1, z2, z3, z4⟩ := five_cells p5
        obtain ⟨y0, y1, y2, y3, y4⟩ := five_cells hz1'
        obtain ⟨f0, f1, f2, f3, f4⟩ := five_free hz1'
        have R1 := Lib.hid (owns_put5 (x' := .int .i64 d.day) (y' := .int .i64 d.ans) (z' := .int .i64 d.app) (u' := .slice ro1 d.hol.length rc1) (t' := .slice mo1 d.mts.length mc1) hO1 hz1' (by decide))
        have R2 := Lib.hid (owns_put5 (x' := .int .i64 d.day) (y' := .int .i64 d.ans) (z' := .int .i64 d.app) (u' := .slice ro1 d.hol.length rc1) (t' := .slice mo1 d.mts.length mc1) hO2 hz1' (by decide))
        have R3 := Lib.hid (owns_put5 (x' := .int .i64 d.day) (y' := .int .i64 d.ans) (z' := .int .i64 d.app) (u' := .slice ro1 d.hol.length rc1) (t' := .slice mo1 d.mts.length mc1) hr1 hz1' (by decide))
        have R4 := Lib.hid (below_put5 (x' := .int .i64 d.day) (y' := .int .i64 d.ans) (z' := .int .i64 d.app) (u' := .slice ro1 d.hol.length rc1) (t' := .slice mo1 d.mts.length mc1) hb1 (Nat.le_succ w.heap.size))
        clear p5 hz1' hO1 hO2 hr1 hb1 hd1 hR hgo hfl
        go_wp2_with fail
        refine bodyPost_ret (by simp [results, Try.results29, go_sem, z0, z1, z2, z3, z4]; rfl) rfl ?_
        rw [← HR.out]
        exact ⟨_, _, rfl, ⟨ro1, rc1, mo1, mc1, rfl, R1.out, R2.out⟩, R3.out, R4.out⟩
  · rw [if_neg hc0] at hR
    have HR := Lib.hid hR
    have hq : (c != 0) = true := by simpa using hc0
    clear hR hc0
    go_enter Try.func29, Try.ntmps29
    go_wp2_with fail
    rw [HWW.out]
    refine HN.out.mono ?_
    rintro e w3 ⟨dv, rfl, ⟨ro, rc, mo, mc, rfl, hO1, hO2⟩, hb3⟩
    have hsz3 : w.heap.size + 2 ≤ w3.heap.size := by have := hb3.size; have := HS.out; omega
    go_upto_region 2 with fail
    generalize hw4 : w3.alloc (.cells #[.int .i64 d0.day, .int .i64 d0.ans, .int .i64 d0.app, .slice ro d0.hol.length rc, .slice mo d0.mts.length mc] 30) = w4
    have hz4 : w4.heap[w.heap.size + 1]? = some dkZero := by rw [← hw4]; exact alloc_heap (keep_heap hb3 K2.out)
    have hb4 : Below w.heap.size w w4 := by rw [← hw4]; exact (HBW.out.trans (hb3.mono HBW.out.size)).alloc (by omega) _
    have p5 := put5 (x' := .int .i64 0) (y' := .int .i64 0) (z' := .int .i64 0) (u' := .slice none 0 0) (v' := .slice none 0 0) hz4
    obtain ⟨z0, z1, z2, z3, z4⟩ := five_cells p5
    obtain ⟨y0, y1, y2, y3, y4⟩ := five_cells hz4
    obtain ⟨f0, f1, f2, f3, f4⟩ := five_free hz4
    have HZB := Lib.hid (below_put5 (x' := .int .i64 0) (y' := .int .i64 0) (z' := .int .i64 0) (u' := .slice none 0 0) (t' := .slice none 0 0) hb4 (Nat.le_succ w.heap.size))
    clear p5
    clear hz4 hb4 hw4 hO1 hO2 hb3 HN
    go_wp2_with fail
    refine bodyPost_ret (by simp [results, Try.results29, go_sem, z0, z1, z2, z3, z4]; rfl) rfl ?_
    rw [← HR.out]
    exact ⟨_, _, rfl, ⟨none, 0, none, 0, rfl, World.ownsRow_nil _ _ _ _, World.ownsRow_nil _ _ _ _⟩, World.ownsRow_nil _ _ _ _, HZB.out⟩
end Go.Proofs.Ytpddpdkdlodniaa
