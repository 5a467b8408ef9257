/-
  Contract: Open, walked.
-/
import Derived.Test.YtkbdbinafjmjkaaJOpen
namespace Go.Proofs.Ytkbdbinafjmjkaa
open Go.RowKit

theorem scan_none (f : Nat) {b : List Int} (h : firstF b = none) : scanF f b = ([], 0) := by
  cases f with
  | zero => rfl
  | succ f =>
    unfold scanF
    by_cases h0 : b.length = 0
    · rw [if_pos h0]
    · rw [if_neg h0, h]
theorem scan_some (f : Nat) {b : List Int} {x : List (List Int) × Nat} (h0 : b.length ≠ 0) (h : firstF b = some x) : scanF (f + 1) b = (x.1 ++ (scanF f (b.drop x.2)).1, x.2 + (scanF f (b.drop x.2)).2) := by
  conv => lhs; unfold scanF
  rw [if_neg h0, h]
theorem scan_end (f : Nat) {b : List Int} (h0 : b.length = 0) : scanF f b = ([], 0) := by
  cases f with
  | zero => rfl
  | succ f => unfold scanF; rw [if_pos h0]

/-- A disk's blocks changed, none else; its bytes may lie in a new block. -/
structure DTo (w w' : World) (p : Nat) (g g' : Option Nat) : Prop where
  moved : Moved w w' (fun k => k = p ∨ g = some k)
  gto : GTo g g' w.heap.size
theorem DTo.trans {w w' w'' : World} {p : Nat} {g g' g'' : Option Nat} (h : DTo w w' p g g') (h' : DTo w' w'' p g' g'') : DTo w w'' p g g'' := by
  refine ⟨h.moved.trans h'.moved fun k hk e => ?_, fun k hk => ?_⟩
  · rcases e with e | e
    · exact .inl e
    · rcases h.gto k e with e | e
      · exact .inr e
      · omega
  · have := h.moved.size
    rcases h'.gto k hk with e | e
    · exact h.gto k e
    · exact .inr (by omega)
theorem DTo.of_below {w w' : World} {p : Nat} {g : Option Nat} (h : Below w.heap.size w w') : DTo w w' p g g := ⟨Moved.of_below h _, gto_same g _⟩
theorem BytN.mono {w : World} {N N' : Nat → Prop} {po : Option Addr} {r : List Int} (h : BytN w N po r) (hn : ∀ b, b < w.heap.size → N b → N' b) : BytN w N' po r :=
  h.moved (Moved.refl w fun _ => False) fun b hb hN => ⟨fun h => h, hn b hb hN⟩
theorem open_made {w w1 : World} {base p q B : Nat} {X : Nat → Prop} {g : Option Nat} {s : DS} {v : Value} {rs : List (List Int)} (hd : DiskIs w base p g s) (hb : Below w.heap.size w w1) (hbase : base ≤ w.heap.size) (hX : ∀ k, X k → k < w.heap.size) (hXp : ¬ X p) (hXg : ∀ k, g = some k → ¬ X k)
    (hq : w.heap.size ≤ q) (hqB : q < B) (hbx : Box w1 q 64 #[.pointer (some ⟨p, 0, none⟩), v, .bool false]) (hr : RowN w1 B (fun k => B ≤ k) v rs) : JIs w1 base X q p g s v rs false := by
  refine ⟨hd.next hb, by omega, hbx, (hr.base (by omega)).mono fun b _ hB => ⟨?_, by omega, fun e => ?_, fun e => ?_⟩, hXp, fun e => ?_, hXg⟩
  · have := hd.lt.2; omega
  · have := (hd.row b e).2.1; omega
  · have := hX b e; omega
  · have := hX q e; omega

set_option maxRecDepth 100000 in
set_option maxHeartbeats 4000000 in
theorem open_any (base p : Nat) (X : Nat → Prop) (g : Option Nat) (s : DS) (w : World) (hd : DiskIs w base p g s) (hbase : base ≤ w.heap.size) (hX : ∀ k, X k → k < w.heap.size) (hXp : ¬ X p) (hXg : ∀ k, g = some k → ¬ X k) :
    Calls Try.prog 28 #[.pointer (some ⟨p, 0, none⟩)] w (OpenTo w base X p g (openF s)) := by
  obtain ⟨i0, hi, hz0, hz1, hz2⟩ := info_parts Try.infoBytes
  obtain ⟨OUT, hOUT⟩ : ∃ o, openF s = o := ⟨_, rfl⟩
  rw [hOUT]
  unfold openF at hOUT
  obtain ⟨T, hT⟩ : ∃ T, scanF (s.bs.length + 1) s.bs = T := ⟨_, rfl⟩
  rw [hT] at hOUT
  have HT0 := Lib.hid hT
  clear hT
  obtain ⟨RS, AT⟩ := T
  dsimp only at hOUT
  have hR := read_any base p g s w hd
  have hsl : s.bs.length ≤ 262144 := by have := hd.ok.len; have := hd.ok.room1; omega
  have hsb := hd.ok.bytes
  have HD := Lib.hid hd
  have HR := Lib.hid hR
  have HSB := Lib.hid hsb
  have HXP := Lib.hid hXp
  have HX := Lib.hid hX
  have HXG := Lib.hid hXg
  have HOUT := Lib.hid hOUT
  have hpl := hd.lt.2
  clear hd hR hsb hXp hXg hOUT hX
  go_enter Try.func28, Try.ntmps28
  go_wp2_with fail
  refine HR.out.mono ?_
  rintro e w2 ⟨g2, cap, rfl, hown2, hb2⟩
  have hs2 := hb2.size
  have hcap : cap ≤ 9223372036854775807 ∧ s.bs.length ≤ cap := by
    rcases hown2.2 with ⟨hv, h0⟩ | ⟨_, _, _, hv, _, _, hn1, hn2, _⟩
    · have e := congrArg (fun v => match v with | Value.slice _ _ c => c | _ => 0) hv
      dsimp only at e
      omega
    · cases g2 <;> cases hv
      have hm : cap ≤ maxLen := hn2
      unfold maxLen at hm
      exact ⟨by omega, hn1⟩
  have hy2 : Byt w2 (gad g2) s.bs := by
    have := (byt_own hown2).choose_spec.2.2.2
    rwa [gad_own] at this
  have hg2 : s.bs.length = 0 ∨ ∃ gr, gad g2 = some ⟨gr, 0, none⟩ ∧ gr < w2.heap.size := by
    rcases hown2.2 with ⟨hv, h0⟩ | ⟨gr, _, _, hv, hlt, hh, _⟩
    · exact .inl h0
    · refine .inr ⟨gr, ?_, (Array.getElem?_eq_some_iff.1 hh).1⟩
      cases g2 <;> cases hv
      rfl
  have hbl : Below w.heap.size w (w2.alloc (.cells #[.pointer (some ⟨p, 0, none⟩), .slice none 0 0, .bool false] 64)) := hb2.alloc hs2 _
  have hyl := hy2.next ((Below.refl _ _).alloc (Nat.le_refl _) (.cells #[.pointer (some ⟨p, 0, none⟩), .slice none 0 0, .bool false] 64))
  have hbx : Box (w2.alloc (.cells #[.pointer (some ⟨p, 0, none⟩), .slice none 0 0, .bool false] 64)) w2.heap.size 64 _ := Box.new _ _ _
  have hsz : (w2.alloc (.cells #[.pointer (some ⟨p, 0, none⟩), .slice none 0 0, .bool false] 64)).heap.size = w2.heap.size + 1 := by simp
  clear hown2 hy2 hb2 HR
  generalize gad g2 = ao at *
  go_wp2_with fail
  generalize w2.alloc (.cells #[.pointer (some ⟨p, 0, none⟩), .slice none 0 0, .bool false] 64) = wL at *
  obtain ⟨q, hq⟩ : ∃ q, w2.heap.size = q := ⟨_, rfl⟩
  rw [hq] at hsz hbx hs2 hg2 ⊢
  clear hq
  have HBL := Lib.hid hbl
  have HYL := Lib.hid hyl
  have HBX := Lib.hid hbx
  have HSZ := Lib.hid hsz
  obtain ⟨cap0, cap1⟩ := hcap
  have hli : (s.bs.length : Int) ≤ 262144 := by omega
  have hl0 : (0 : Int) ≤ (s.bs.length : Int) := by omega
  have hcapi : (s.bs.length : Int) ≤ (cap : Int) := by omega
  clear hbl hyl hbx hsz
  go_loopw [6] (fun at_ wr => ∃ (f a : Nat) (rs : List (List Int)) (v : Value), at_ = .int .i64 a ∧ a ≤ s.bs.length ∧ s.bs.length - a < f ∧ rs.length ≤ 2 * a ∧ (rs ++ (scanF f (s.bs.drop a)).1, a + (scanF f (s.bs.drop a)).2) = (RS, AT) ∧
      Box wr q 64 #[.pointer (some ⟨p, 0, none⟩), v, .bool false] ∧ RowN wr wL.heap.size (fun k => wL.heap.size ≤ k) v rs ∧ Moved wL wr (fun k => k = q)) (fun at_ _ => s.bs.length - (intOf at_).toNat)
  case atStart => exact ⟨s.bs.length + 1, 0, [], .slice none 0 0, rfl, Nat.zero_le _, by omega, Nat.zero_le _, by rw [← HT0.out]; simp, HBX.out, RowN.nil _ _ _, Moved.refl _ _⟩
  case round =>
    obtain ⟨f, a, rs, v, rfl, ha, hf, hrl, hsc, hbw, hrw, hmw⟩ := hrel
    have HBW := Lib.hid hbw
    have HRW := Lib.hid hrw
    have HMW := Lib.hid hmw
    have HSC := Lib.hid hsc
    have c1 : wr.cell? ⟨q, 1, none⟩ = some v := hbw.cell 1
    have f1 := hbw.frozen 1
    have hqr := hmw.size
    have ha0 : (0 : Int) ≤ (a : Int) := Int.natCast_nonneg _
    clear hbw hrw hmw hsc
    by_cases hlt : a < s.bs.length
    · rcases hg2 with h0 | ⟨gr, rfl, hgr⟩
      · omega
      have hyw : Byt wr (some ⟨gr, 0, none⟩) s.bs := HYL.out.moved HMW.out (fun b off hb => by cases hb; omega)
      have hyd := hyw.part a (s.bs.length - a) (by omega)
      rw [List.take_of_length_le (by simp)] at hyd
      have hdl : (s.bs.drop a).length = s.bs.length - a := by simp
      have hdb : Bytes (s.bs.drop a) := fun x hx => HSB.out x (List.mem_of_mem_drop hx)
      have HF := Lib.hid (first_any (some ⟨gr, 0 + a, none⟩) (cap - a) (s.bs.length - a) (s.bs.drop a) wr hdl hyd hdb (by omega) (by omega) (by omega))
      have HT := Lib.hid fun (d : World) hd => torn_any (some ⟨gr, 0 + a, none⟩) (cap - a) (s.bs.length - a) (s.bs.drop a) d hdl (hyd.next hd) hdb (by omega) (by omega) (by omega) (by omega)
      rw [Nat.zero_add] at HF HT
      have hai : (a : Int) < (s.bs.length : Int) := by omega
      have haci : (a : Int) < (cap : Int) := by omega
      have hac : ¬ cap = a := by omega
      have hac2 : ¬ a = cap := by omega
      obtain ⟨r, hr⟩ : ∃ r, firstF (s.bs.drop a) = r := ⟨_, rfl⟩
      rw [hr] at HF
      cases r with
      | none =>
        have hsn := scan_none f hr
        have hsc := HSC.out
        rw [hsn, List.append_nil] at hsc
        injection hsc with h1 h2
        have h3 : AT = a := by rw [← h2]; simp
        subst h1
        rw [show AT = a from h3] at HOUT
        have HO := HOUT.out
        rw [if_pos (by omega)] at HO
        generalize tornF (s.bs.drop a) = TB at HT HO
        clear hyw hyd hdl hdb hr hsn HSC HOUT
        have hvb : ∀ k, v.ownBlock = some k → w.heap.size ≤ k := fun k hk => by
          obtain ⟨_, _, h2, _⟩ := HRW.out
          have h8 := h2 k hk
          have h9 := HSZ.out
          omega
        have hbw2 : Below w.heap.size w wr := HBL.out.trans (HMW.out.below (by have := HSZ.out; omega) (fun k hk => by omega))
        have hji := open_made (X := X) HD.out hbw2 hbase HX.out HXP.out HXG.out hs2 (by have := HSZ.out; omega) HBW.out HRW.out
        have HVB := Lib.hid hvb
        have HBW2 := Lib.hid hbw2
        have JI0 := Lib.hid hji
        clear hvb hbw2 hji c1 f1
        cases TB with
        | false =>
          rw [if_pos rfl] at HO
          go_wp2_with fail
          refine HF.out.mono ?_
          rintro e w4 ⟨lo, lc, rfl, -, hb4⟩
          dsimp only [Option.map, Option.getD, Option.isSome]
          have HB4 := Lib.hid hb4
          clear hb4 HF
          go_wp2_with fail
          refine (HT.out w4 HB4.out).mono ?_
          rintro e w5 ⟨rfl, hb5⟩
          have HB5 := Lib.hid (HB4.out.trans (hb5.mono HB4.out.size))
          have JI5 := Lib.hid ((JI0.out.next HB4.out).next hb5)
          clear hb5 HT JI0
          have D5 := Lib.hid (DTo.of_below (p := p) (g := g) (HBW2.out.trans (HB5.out.mono HBW2.out.size)))
          have hlx : ∀ k, X k → k < w5.heap.size := fun k hk => Nat.lt_of_lt_of_le (HX.out k hk) D5.out.moved.size
          have HLX := Lib.hid hlx
          clear hlx
          go_wp2_with fail
          go_ret2
          refine ⟨g, D5.out.moved, D5.out.gto, .inl ?_⟩
          rw [← HO]
          exact ⟨by simp, rfl, JI5.out.disk⟩
        | true =>
          rw [if_neg (by simp)] at HO
          obtain ⟨r6, s1, htr⟩ : ∃ r6 s1, truncF s a = (r6, s1) := ⟨_, _, rfl⟩
          rw [htr] at HO
          have HTC : Hid (∀ d, DiskIs d base p g s → Calls Try.prog 26 #[.pointer (some ⟨p, 0, none⟩), .int .i64 a] d (DiskTo base p g d (.int .i64 r6) s1)) := Lib.hid fun d hd => by
            have := trunc_any base p g s a d hd
            rw [htr] at this
            exact this
          clear htr
          by_cases hr6 : r6 = 0
          · subst hr6
            rw [if_neg (by simp)] at HO
            dsimp only at HO
            by_cases ha00 : a = 0
            · rw [if_pos ha00] at HO
              subst ha00
              go_wp2_with fail
              refine HF.out.mono ?_
              rintro e w4 ⟨lo, lc, rfl, -, hb4⟩
              dsimp only [Option.map, Option.getD, Option.isSome]
              have HB4 := Lib.hid hb4
              clear hb4 HF
              go_wp2_with fail
              refine (HT.out w4 HB4.out).mono ?_
              rintro e w5 ⟨rfl, hb5⟩
              have HB5 := Lib.hid (HB4.out.trans (hb5.mono HB4.out.size))
              have JI5 := Lib.hid ((JI0.out.next HB4.out).next hb5)
              clear hb5 HT JI0
              have D5 := Lib.hid (DTo.of_below (p := p) (g := g) (HBW2.out.trans (HB5.out.mono HBW2.out.size)))
              have hlx : ∀ k, X k → k < w5.heap.size := fun k hk => Nat.lt_of_lt_of_le (HX.out k hk) D5.out.moved.size
              have HLX := Lib.hid hlx
              clear hlx
              go_wp2_with fail
              have HTR := Lib.hid (HTC.out w5 JI5.out.disk)
              refine HTR.out.mono ?_
              rintro e w6 ⟨g6, rfl, hd6, hm6, hg6⟩
              have JI := Lib.hid (JI5.out.onDisk HLX.out hm6 hd6 hg6)
              have D0 := Lib.hid (D5.out.trans ⟨hm6, hg6⟩)
              have K6 := Lib.hid hd6
              have HLX6 : Hid (∀ k, X k → k < w6.heap.size) := Lib.hid fun k hk => Nat.lt_of_lt_of_le (HLX.out k hk) hm6.size
              clear hd6 hm6 hg6
              go_wp2_with fail
              go_ret2
              refine ⟨g6, D0.out.moved, D0.out.gto, .inr ?_⟩
              rw [← HO]
              exact ⟨rfl, q, v, hs2, HVB.out, rfl, JI.out⟩
            · have ha01 : (0 : Int) < (a : Int) := by omega
              rw [if_neg ha00] at HO
              by_cases hz : (syncF s1).1 = 0
              · obtain ⟨rr, hrr⟩ : ∃ rr, syncF s1 = (0, rr) := ⟨(syncF s1).2, by rw [← hz]⟩
                have HRR := Lib.hid hrr
                have HSS : Hid (∀ d gg, DiskIs d base p gg s1 → Calls Try.prog 16 #[.pointer (some ⟨p, 0, none⟩)] d (DiskTo base p gg d (.int .i64 (syncF s1).1) (syncF s1).2)) := Lib.hid fun d gg hd => sync_any base p gg s1 d hd
                rw [hrr] at HSS
                rw [hrr, if_neg (by simp)] at HO
                dsimp only at HO
                clear hz hrr
                go_wp2_with fail
                refine HF.out.mono ?_
                rintro e w4 ⟨lo, lc, rfl, -, hb4⟩
                dsimp only [Option.map, Option.getD, Option.isSome]
                have HB4 := Lib.hid hb4
                clear hb4 HF
                go_wp2_with fail
                refine (HT.out w4 HB4.out).mono ?_
                rintro e w5 ⟨rfl, hb5⟩
                have HB5 := Lib.hid (HB4.out.trans (hb5.mono HB4.out.size))
                have JI5 := Lib.hid ((JI0.out.next HB4.out).next hb5)
                clear hb5 HT JI0
                have D5 := Lib.hid (DTo.of_below (p := p) (g := g) (HBW2.out.trans (HB5.out.mono HBW2.out.size)))
                have hlx : ∀ k, X k → k < w5.heap.size := fun k hk => Nat.lt_of_lt_of_le (HX.out k hk) D5.out.moved.size
                have HLX := Lib.hid hlx
                clear hlx
                go_wp2_with fail
                have HTR := Lib.hid (HTC.out w5 JI5.out.disk)
                refine HTR.out.mono ?_
                rintro e w6 ⟨g6, rfl, hd6, hm6, hg6⟩
                have JI := Lib.hid (JI5.out.onDisk HLX.out hm6 hd6 hg6)
                have D0 := Lib.hid (D5.out.trans ⟨hm6, hg6⟩)
                have K6 := Lib.hid hd6
                have HLX6 : Hid (∀ k, X k → k < w6.heap.size) := Lib.hid fun k hk => Nat.lt_of_lt_of_le (HLX.out k hk) hm6.size
                clear hd6 hm6 hg6
                go_wp2_with fail
                have HSY := Lib.hid (HSS.out w6 g6 K6.out)
                refine HSY.out.mono ?_
                rintro e w9 ⟨g9, rfl, hd9, hm9, hg9⟩
                have J9 := Lib.hid (JI.out.onDisk (HLX6.out) hm9 hd9 hg9)
                have D9 := Lib.hid (D0.out.trans ⟨hm9, hg9⟩)
                clear hd9 hm9 hg9
                go_wp2_with fail
                go_ret2
                refine ⟨g9, D9.out.moved, D9.out.gto, .inr ?_⟩
                rw [← HO]
                exact ⟨rfl, q, v, hs2, HVB.out, rfl, J9.out⟩
              · obtain ⟨r9, rr, hrr⟩ : ∃ r9 rr, syncF s1 = (r9, rr) := ⟨_, _, rfl⟩
                rw [hrr] at hz
                rw [hrr, if_pos hz] at HO
                dsimp only at HO
                have hz1 : (r9 != 0) = true := by simpa using hz
                have HRR := Lib.hid hrr
                have HSS : Hid (∀ d gg, DiskIs d base p gg s1 → Calls Try.prog 16 #[.pointer (some ⟨p, 0, none⟩)] d (DiskTo base p gg d (.int .i64 (syncF s1).1) (syncF s1).2)) := Lib.hid fun d gg hd => sync_any base p gg s1 d hd
                rw [hrr] at HSS
                clear hz hrr
                go_wp2_with fail
                refine HF.out.mono ?_
                rintro e w4 ⟨lo, lc, rfl, -, hb4⟩
                dsimp only [Option.map, Option.getD, Option.isSome]
                have HB4 := Lib.hid hb4
                clear hb4 HF
                go_wp2_with fail
                refine (HT.out w4 HB4.out).mono ?_
                rintro e w5 ⟨rfl, hb5⟩
                have HB5 := Lib.hid (HB4.out.trans (hb5.mono HB4.out.size))
                have JI5 := Lib.hid ((JI0.out.next HB4.out).next hb5)
                clear hb5 HT JI0
                have D5 := Lib.hid (DTo.of_below (p := p) (g := g) (HBW2.out.trans (HB5.out.mono HBW2.out.size)))
                have hlx : ∀ k, X k → k < w5.heap.size := fun k hk => Nat.lt_of_lt_of_le (HX.out k hk) D5.out.moved.size
                have HLX := Lib.hid hlx
                clear hlx
                go_wp2_with fail
                have HTR := Lib.hid (HTC.out w5 JI5.out.disk)
                refine HTR.out.mono ?_
                rintro e w6 ⟨g6, rfl, hd6, hm6, hg6⟩
                have JI := Lib.hid (JI5.out.onDisk HLX.out hm6 hd6 hg6)
                have D0 := Lib.hid (D5.out.trans ⟨hm6, hg6⟩)
                have K6 := Lib.hid hd6
                have HLX6 : Hid (∀ k, X k → k < w6.heap.size) := Lib.hid fun k hk => Nat.lt_of_lt_of_le (HLX.out k hk) hm6.size
                clear hd6 hm6 hg6
                go_wp2_with fail
                have HSY := Lib.hid (HSS.out w6 g6 K6.out)
                refine HSY.out.mono ?_
                rintro e w9 ⟨g9, rfl, hd9, hm9, hg9⟩
                have D9 := Lib.hid (D0.out.trans ⟨hm9, hg9⟩)
                have K9 := Lib.hid hd9
                clear hd9 hm9 hg9
                go_wp2_with fail
                go_ret2
                refine ⟨g9, D9.out.moved, D9.out.gto, .inl ?_⟩
                rw [← HO]
                exact ⟨by simp, rfl, K9.out⟩
          · have hr61 : (r6 != 0) = true := by simpa using hr6
            rw [if_pos hr6] at HO
            dsimp only at HO
            go_wp2_with fail
            refine HF.out.mono ?_
            rintro e w4 ⟨lo, lc, rfl, -, hb4⟩
            dsimp only [Option.map, Option.getD, Option.isSome]
            have HB4 := Lib.hid hb4
            clear hb4 HF
            go_wp2_with fail
            refine (HT.out w4 HB4.out).mono ?_
            rintro e w5 ⟨rfl, hb5⟩
            have HB5 := Lib.hid (HB4.out.trans (hb5.mono HB4.out.size))
            have JI5 := Lib.hid ((JI0.out.next HB4.out).next hb5)
            clear hb5 HT JI0
            have D5 := Lib.hid (DTo.of_below (p := p) (g := g) (HBW2.out.trans (HB5.out.mono HBW2.out.size)))
            have hlx : ∀ k, X k → k < w5.heap.size := fun k hk => Nat.lt_of_lt_of_le (HX.out k hk) D5.out.moved.size
            have HLX := Lib.hid hlx
            clear hlx
            go_wp2_with fail
            have HTR := Lib.hid (HTC.out w5 JI5.out.disk)
            refine HTR.out.mono ?_
            rintro e w6 ⟨g6, rfl, hd6, hm6, hg6⟩
            have JI := Lib.hid (JI5.out.onDisk HLX.out hm6 hd6 hg6)
            have D0 := Lib.hid (D5.out.trans ⟨hm6, hg6⟩)
            have K6 := Lib.hid hd6
            have HLX6 : Hid (∀ k, X k → k < w6.heap.size) := Lib.hid fun k hk => Nat.lt_of_lt_of_le (HLX.out k hk) hm6.size
            clear hd6 hm6 hg6
            go_wp2_with fail
            go_ret2
            refine ⟨g6, D0.out.moved, D0.out.gto, .inl ?_⟩
            rw [← HO]
            exact ⟨by simp, rfl, K6.out⟩
      | some x =>
        obtain ⟨xs, m⟩ := x
        have hfs := first_some hdb hr
        rw [hdl] at hfs
        obtain ⟨x0, x1, x2, x3⟩ := hfs
        dsimp only at x0 x1 x2 x3
        obtain ⟨f, rfl⟩ : ∃ f', f = f' + 1 := ⟨f - 1, by omega⟩
        have hss := scan_some f (by rw [hdl]; omega) hr
        rw [List.drop_drop] at hss
        have hsc := HSC.out
        rw [hss] at hsc
        dsimp only at hsc
        rw [← List.append_assoc, ← Nat.add_assoc] at hsc
        have HSC2 := Lib.hid hsc
        have hm0 : (8 : Int) ≤ (m : Int) := by omega
        have hm1 : (a : Int) + (m : Int) ≤ (s.bs.length : Int) := by omega
        clear hyw hyd hdl hdb hr hss HSC HT
        go_wp2_with fail
        refine HF.out.mono ?_
        rintro e w4 ⟨lo, lc, rfl, hrn4, hb4⟩
        dsimp only [Option.map, Option.getD, Option.isSome] at hrn4 ⊢
        have c14 : w4.cell? ⟨q, 1, none⟩ = some v := (hb4.cell (p := ⟨q, 1, none⟩) HBW.out.lt).trans c1
        have f14 : w4.frozen? ⟨q, 1, none⟩ = false := (HBW.out.next hb4).frozen 1
        have hvlt : ∀ j, v.ownBlock = some j → j < wr.heap.size := by
          obtain ⟨_, h10, _, _⟩ := HRW.out
          exact fun j hj => (h10.lt j hj).2
        obtain ⟨vs, h1, h2, h3⟩ := HRW.out.next hb4
        obtain ⟨vs2, k1, k2, k3⟩ := hrn4
        have hlo : ∃ gl, lo = some ⟨gl, 0, none⟩ := by
          rcases k1.2 with ⟨hv, h0⟩ | ⟨gl, _, _, hv, _⟩
          · omega
          · cases hv; exact ⟨gl, rfl⟩
        obtain ⟨gl, rfl⟩ := hlo
        have hnews : ∀ j u, vs2[j]? = some u → w4.cell? ((⟨gl, 0, none⟩ : Addr).add j) = some u := fun j u hu => k1.cells (g := gl) rfl j u hu
        have hone : ∀ u ∈ vs2, u.oneCell' = true := fun u hu => by
          obtain ⟨j, hj, rfl⟩ := List.getElem_of_mem hu
          have hjl : j < xs.length := by have := k1.1; omega
          obtain ⟨po, pc, e1, _⟩ := k3 j hjl
          rw [List.getElem?_eq_getElem hj] at e1
          injection e1 with e1
          rw [e1]
          rfl
        have H1 := Lib.hid h1
        have H2 := Lib.hid h2
        have H3 := Lib.hid h3
        have K1 := Lib.hid k1
        have K3 := Lib.hid k3
        have HN := Lib.hid hnews
        have H1L := Lib.hid hone
        have HB4 := Lib.hid hb4
        have HVL := Lib.hid hvlt
        have hs4 : wL.heap.size ≤ w4.heap.size := Nat.le_trans hqr hb4.size
        clear h1 h2 h3 k1 k2 k3 hnews hone hb4 c1 f1 HF hvlt
        go_wp2_with (at_builtin
                     refine wpList_append_lies _ rfl (.tmp 35) (.tmp 36) 55 rfl wL.heap.size 30 i0 (.slice none 0 0) 1 24 Try.underlying55 hi hz0 hz1 hz2 rfl (by decide) _ rs.length _ rfl H1.out ⟨gl, 0, none⟩ xs.length lc vs2 rfl (by have := K1.out.1; omega) HN.out H1L.out (by omega) (by unfold maxLen; omega) (by omega) hs4 w4.heap.size rfl ?_
                     intro gg cap6 w6 hown6 hg6 hat6 hlt6
                     have hm6 := Moved.of_grown hg6
                     have hb6 := Box.moved (HBW.out.next HB4.out) hm6 (fun e => by have h8 := H2.out q e; have h9 := HSZ.out; omega)
                     have d1 := hb6.cell 1
                     have d2 := hb6.frozen 1)
        go_roundw
        case rel =>
          have hm : Moved w4 w6 (fun k => v.ownBlock = some k) := hm6
          have hrj := RowN.join (N := fun k => wL.heap.size ≤ k) (N' := fun k => wL.heap.size ≤ k) H1.out H2.out H3.out (fun i hi => by
            obtain ⟨po, pc, e1, e2⟩ := K3.out i hi
            refine ⟨po, pc, e1, e2.mono fun b _ hN => ⟨Nat.le_trans hqr hN.1, fun e => ?_⟩⟩
            have h8 := HVL.out b e
            have h9 := hN.1
            omega) hown6 hm (by rcases hat6 with h | h; exact .inl h.symm; exact .inr ⟨gg, rfl, by omega⟩) (fun b h => h) (fun b hb _ => Nat.le_trans hs4 hb)
          refine ⟨f, a + m, rs ++ xs, .slice (some ⟨gg, 0, none⟩) (rs.length + xs.length) cap6, by go_num, by omega, by omega, by rw [List.length_append]; omega, HSC2.out, hb6.set 1 _, hrj.moved (Moved.setCell w6 q 1 _) (fun b hb hN => ⟨fun e => by have h9 := HSZ.out; omega, hN⟩), ?_⟩
          exact ((HMW.out.trans (Moved.of_below HB4.out fun k => k = q) fun _ _ h => h).trans hm fun k hk e => by have h8 := H2.out k e; omega).trans (Moved.setCell w6 q 1 _) fun _ _ h => h
        case measure => simp [intOf]; omega
    · obtain rfl : a = s.bs.length := by omega
      have hsn := scan_end f (b := s.bs.drop s.bs.length) (by simp)
      have hsc := HSC.out
      rw [hsn, List.append_nil] at hsc
      injection hsc with h1 h2
      have h3 : AT = s.bs.length := by rw [← h2]; simp
      subst h1
      have HO := HOUT.out
      rw [if_neg (by omega)] at HO
      clear hsn HSC HOUT
      have hvb : ∀ k, v.ownBlock = some k → w.heap.size ≤ k := fun k hk => by
        obtain ⟨_, _, h2, _⟩ := HRW.out
        have h8 := h2 k hk
        have h9 := HSZ.out
        omega
      have hbw2 : Below w.heap.size w wr := HBL.out.trans (HMW.out.below (by have := HSZ.out; omega) (fun k hk => by omega))
      have hji := open_made (X := X) HD.out hbw2 hbase HX.out HXP.out HXG.out hs2 (by have := HSZ.out; omega) HBW.out HRW.out
      have HVB := Lib.hid hvb
      have HBW2 := Lib.hid hbw2
      have JI := Lib.hid hji
      have D0 := Lib.hid (DTo.of_below (p := p) (g := g) hbw2)
      have hlx : ∀ k, X k → k < wr.heap.size := fun k hk => Nat.lt_of_lt_of_le (HX.out k hk) hbw2.size
      have HLX := Lib.hid hlx
      clear hvb hbw2 hji hlx c1 f1
      rw [show AT = s.bs.length from h3] at HO
      by_cases ha00 : s.bs.length = 0
      · rw [if_pos ha00] at HO
        go_wp2_with fail
        go_ret2
        refine ⟨g, D0.out.moved, D0.out.gto, .inr ?_⟩
        rw [← HO]
        exact ⟨rfl, q, v, hs2, HVB.out, rfl, JI.out⟩
      · have ha01 : (0 : Int) < (s.bs.length : Int) := by omega
        rw [if_neg ha00] at HO
        by_cases hz : (syncF s).1 = 0
        · obtain ⟨rr, hrr⟩ : ∃ rr, syncF s = (0, rr) := ⟨(syncF s).2, by rw [← hz]⟩
          have HRR := Lib.hid hrr
          have HSY := Lib.hid (sync_any base p g s wr JI.out.disk)
          rw [hrr] at HSY
          rw [hrr, if_neg (by simp)] at HO
          dsimp only at HO
          clear hz hrr
          go_wp2_with fail
          refine HSY.out.mono ?_
          rintro e w9 ⟨g9, rfl, hd9, hm9, hg9⟩
          have J9 := Lib.hid (JI.out.onDisk (HLX.out) hm9 hd9 hg9)
          have D9 := Lib.hid (D0.out.trans ⟨hm9, hg9⟩)
          clear hd9 hm9 hg9
          go_wp2_with fail
          go_ret2
          refine ⟨g9, D9.out.moved, D9.out.gto, .inr ?_⟩
          rw [← HO]
          exact ⟨rfl, q, v, hs2, HVB.out, rfl, J9.out⟩
        · obtain ⟨r9, rr, hrr⟩ : ∃ r9 rr, syncF s = (r9, rr) := ⟨_, _, rfl⟩
          rw [hrr] at hz
          rw [hrr, if_pos hz] at HO
          dsimp only at HO
          have hz1 : (r9 != 0) = true := by simpa using hz
          have HRR := Lib.hid hrr
          have HSY := Lib.hid (sync_any base p g s wr JI.out.disk)
          rw [hrr] at HSY
          clear hz hrr
          go_wp2_with fail
          refine HSY.out.mono ?_
          rintro e w9 ⟨g9, rfl, hd9, hm9, hg9⟩
          have D9 := Lib.hid (D0.out.trans ⟨hm9, hg9⟩)
          have K9 := Lib.hid hd9
          clear hd9 hm9 hg9
          go_wp2_with fail
          go_ret2
          refine ⟨g9, D9.out.moved, D9.out.gto, .inl ?_⟩
          rw [← HO]
          exact ⟨by simp, rfl, K9.out⟩
end Go.Proofs.Ytkbdbinafjmjkaa
