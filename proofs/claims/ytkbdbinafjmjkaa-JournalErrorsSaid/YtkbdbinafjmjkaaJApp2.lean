/-
  Contract: Append on a journal that lives.
-/
import Derived.Test.YtkbdbinafjmjkaaJApp
import Derived.Deep.RegionHeld3
namespace Go.Proofs.Ytkbdbinafjmjkaa
open Go.RowKit

/-- What Append on a journal that lives answers and leaves: the disk, the records, whether it is dead. -/
def appJ (s : DS) (rs recs : List (List Int)) : Int × DS × List (List Int) × Bool :=
  if (appendF s (frameF recs)).1 = 43 then (43, (appendF s (frameF recs)).2, rs, false)
  else if (appendF s (frameF recs)).1 ≠ 0 then (42, (appendF s (frameF recs)).2, rs, true)
  else if (syncF (appendF s (frameF recs)).2).1 ≠ 0 then (42, (syncF (appendF s (frameF recs)).2).2, rs, true)
  else (0, (syncF (appendF s (frameF recs)).2).2, rs ++ recs, false)

/-- What Append leaves in memory. -/
def AppTo (w : World) (base : Nat) (X : Nat → Prop) (q p : Nat) (g : Option Nat) (v : Value) (out : Int × DS × List (List Int) × Bool) (e : Ending) (w' : World) : Prop :=
  ∃ g' v', e = .returned (.int .i64 out.1) ∧ JIs w' base X q p g' out.2.1 v' out.2.2.1 out.2.2.2 ∧ Moved w w' (Foot q p g v) ∧ (∀ k, Foot q p g' v' k → Foot q p g v k ∨ w.heap.size ≤ k)

theorem flat_bound (rs : List (List Int)) (h : longF rs = false) : rs.flatten.length ≤ 4096 * rs.length := by
  induction rs with
  | nil => simp
  | cons r rs ih =>
    have h1 : (decide (4096 < (r.length : Int)) || longF rs) = false := h
    rw [Bool.or_eq_false_iff] at h1
    have h2 := ih h1.2
    have h3 := h1.1
    simp at h3
    rw [List.flatten_cons, List.length_append, List.length_cons]
    omega
theorem body_len (rs : List (List Int)) : (bodyF rs).length = 1 + 2 * rs.length + rs.flatten.length := by
  rw [body_split, List.length_append, List.length_cons, lens_length]; omega
theorem frame_len (rs : List (List Int)) : (frameF rs).length = 9 + 2 * rs.length + rs.flatten.length := by
  unfold frameF
  rw [List.length_append, List.length_append, putF_length, putF_length, body_len]; omega
theorem frame_ok (rs : List (List Int)) (h : ∀ r ∈ rs, Bytes r) : Bytes (frameF rs) :=
  bytes_append (putF_ok _ _) (bytes_append (putF_ok _ _) (body_ok rs h))
theorem one_long (rs : List (List Int)) (h : longF rs = false) (k : Nat) (hk : k < rs.length) : (rs.getD k []).length ≤ 4096 := by
  have h1 : rs.getD k [] ∈ rs := by simp [List.getD, hk]
  unfold longF at h
  rw [List.any_eq_false] at h
  have h2 := h _ h1
  simp at h2 ⊢
  omega

theorem app_foot {w w' : World} {q p : Nat} {g g' : Option Nat} {v : Value} (d : DTo w w' p g g') : Moved w w' (Foot q p g v) ∧ (∀ k, Foot q p g' v k → Foot q p g v k ∨ w.heap.size ≤ k) := by
  refine ⟨d.moved.mono fun k _ h => ?_, fun k h => ?_⟩
  · rcases h with h | h
    · exact .inl h
    · exact .inr (.inr (.inl h))
  · rcases h with h | h | h | h
    · exact .inl (.inl h)
    · exact .inl (.inr (.inl h))
    · rcases d.gto k h with h | h
      · exact .inl (.inr (.inr (.inl h)))
      · exact .inr h
    · exact .inl (.inr (.inr (.inr h)))

theorem JIs.kill {w : World} {base q p : Nat} {X : Nat → Prop} {g : Option Nat} {s : DS} {v : Value} {rs : List (List Int)} {dead : Bool} (h : JIs w base X q p g s v rs dead) : JIs (w.setCell ⟨q, 2, none⟩ (.bool true)) base X q p g s v rs true := by
  obtain ⟨q1, q2, _⟩ := h.qne
  obtain ⟨h1, h2, h3, h4, h5, h6, h7⟩ := h
  exact ⟨h1.moved (Moved.setCell w q 2 _) (fun e => q1 e.symm) (fun k hk e => q2 (e ▸ hk)), h2, h3.set 2 _, h4.moved (Moved.setCell w q 2 _) fun b _ hN => ⟨fun e => hN.2.1 e, hN⟩, h5, h6, h7⟩
theorem app_foot2 {w w' : World} {q p i : Nat} {u : Value} {g g' : Option Nat} {v : Value} (d : DTo w w' p g g') : Moved w (w'.setCell ⟨q, i, none⟩ u) (Foot q p g v) ∧ (∀ k, Foot q p g' v k → Foot q p g v k ∨ w.heap.size ≤ k) :=
  ⟨(app_foot d).1.trans (Moved.setCell w' q i u) fun _ _ h => .inr (.inl h), (app_foot d).2⟩

set_option maxRecDepth 100000 in
set_option maxHeartbeats 4000000 in
theorem app_full (w : World) (base : Nat) (X : Nat → Prop) (q p : Nat) (g : Option Nat) (s : DS) (v : Value) (rs recs : List (List Int)) (ao : Option Addr) (n c : Nat) (hJ : JIs w base X q p g s v rs false) (hX : ∀ k, X k → k < w.heap.size)
    (hn : recs.length = n) (hR : RecsN w (fun k => ¬ Foot q p g v k) ao recs) (hrb : ∀ r ∈ recs, Bytes r) (h1 : 1 ≤ n) (h16 : n ≤ 16) (hlg : longF recs = false) (hE : (appendF s (frameF recs)).1 = 43) :
    Calls Try.prog 30 #[.pointer (some ⟨q, 0, none⟩), .slice ao n c] w (AppTo w base X q p g v (43, (appendF s (frameF recs)).2, rs, false)) := by
  have HC := Lib.hid (contains_any ao c n recs w hn hR.recs (by omega))
  rw [hlg] at HC
  have HDD := Lib.hid (dead_box q p v false w hJ.box)
  have h0 : ((n : Int) == 0) = false := by rw [beq_eq_false_iff_ne]; omega
  have h2 : (n : Int) ≤ 16 := by omega
  have hfb := flat_bound recs hlg
  have hbl := body_len recs
  have hfl := frame_len recs
  have HF := Lib.hid fun (d : World) (hd : Below w.heap.size w d) => frame_any ao c n recs d hn (hR.recs.next hd) hrb (by omega) (by omega)
  have HFO := Lib.hid (frame_ok recs hrb)
  have HJ := Lib.hid hJ
  have HX := Lib.hid hX
  have HR := Lib.hid hR
  have HN := Lib.hid hn
  have hpl := hJ.disk.lt.2
  have hql := hJ.box.lt
  have hflm : (frameF recs).length ≤ 100000 := by omega
  have c0 : w.cell? ⟨q, 0, none⟩ = some (.pointer (some ⟨p, 0, none⟩)) := hJ.box.cell 0
  obtain ⟨F, hFF⟩ : ∃ F, frameF recs = F := ⟨_, rfl⟩
  rw [hFF] at hE ⊢ HFO hflm
  simp only [hFF] at HF
  have HA : Hid (∀ d go gc, Below w.heap.size w d → Byt d go F → (∀ k o, go = some ⟨k, o, none⟩ → k ≠ p) → Calls Try.prog 15 #[.pointer (some ⟨p, 0, none⟩), .slice go F.length gc] d (DiskTo base p g d (.int .i64 (appendF s F).1) (appendF s F).2)) :=
    Lib.hid fun d go gc hd hy hg => append_any base p g s d (HJ.out.disk.next hd) go F.length gc F rfl hy HFO.out hg (by omega) (Nat.le_trans (Nat.le_trans HJ.out.disk.lt.1 (Nat.le_of_lt hpl)) hd.size)
  clear hFF hlg hfb hbl hfl hJ hX hR hn
  rw [hE] at HA
  clear hE
  go_enter Try.func30, Try.ntmps30
  go_wp2_with fail
  refine HC.out.mono ?_
  rintro e w2 ⟨rfl, rfl⟩
  go_wp2_with fail
  refine HDD.out.mono ?_
  rintro e w3 ⟨rfl, rfl⟩
  go_wp2_with fail
  go_region_held3 (fun w' => w'.cell? ⟨q, 0, none⟩ = some (.pointer (some ⟨p, 0, none⟩)))
    (first | exact c0 | exact d0 | go_keep)
    (first
      | (go_at_call 46
         refine (HF.out _ ?_).mono ?_
         exact (Below.refl _ _).drew
         rintro e w4 ⟨go, gc, rfl, hy4, hg4, hb4'⟩
         have d0 : w4.cell? ⟨q, 0, none⟩ = some (.pointer (some ⟨p, 0, none⟩)) := (hb4'.cell (p := ⟨q, 0, none⟩) hql).trans c0)
      | (go_at_call 15
         refine (HA.out w4 go gc ((Below.refl _ _).drew.trans hb4') hy4 (fun k o h e => by have h9 : w.heap.size ≤ k := hg4 k o h; omega)).mono ?_
         rintro e w5 ⟨g5, rfl, hd5, hm5, hgt5⟩
         have d0 : w5.cell? ⟨q, 0, none⟩ = some (.pointer (some ⟨p, 0, none⟩)) := hm5.cell (p := ⟨q, 0, none⟩) (fun e => by have h9 := HJ.out.qne; rcases e with e | e; exact h9.1 e; exact h9.2.1 e) ((hb4'.cell (p := ⟨q, 0, none⟩) hql).trans c0)))
  have hb4 : Below w.heap.size w w4 := (Below.refl _ _).drew.trans hb4'
  have hXlt : ∀ k, X k → k < w4.heap.size := fun k hk => Nat.lt_of_lt_of_le (HX.out k hk) hb4.size
  have JI := Lib.hid ((HJ.out.next hb4).onDisk hXlt hm5 hd5 hgt5)
  have D0 := Lib.hid ((DTo.of_below (p := p) (g := g) hb4).trans ⟨hm5, hgt5⟩)
  have HX5 : Hid (∀ k, X k → k < w5.heap.size) := Lib.hid fun k hk => Nat.lt_of_lt_of_le (hXlt k hk) hm5.size
  clear hy4 hg4 hb4' hb4 hXlt hd5 hm5 hgt5 HA HF HC HDD
  go_wp2_with fail
  go_ret
  exact ⟨g5, v, rfl, JI.out, app_foot D0.out⟩
set_option maxRecDepth 100000 in
set_option maxHeartbeats 4000000 in
theorem app_off (w : World) (base : Nat) (X : Nat → Prop) (q p : Nat) (g : Option Nat) (s : DS) (v : Value) (rs recs : List (List Int)) (ao : Option Addr) (n c : Nat) (hJ : JIs w base X q p g s v rs false) (hX : ∀ k, X k → k < w.heap.size)
    (hn : recs.length = n) (hR : RecsN w (fun k => ¬ Foot q p g v k) ao recs) (hrb : ∀ r ∈ recs, Bytes r) (h1 : 1 ≤ n) (h16 : n ≤ 16) (hlg : longF recs = false) (r : Int) (s1 : DS) (hE : appendF s (frameF recs) = (r, s1)) (hr : r ≠ 43) (hr0 : r ≠ 0) :
    Calls Try.prog 30 #[.pointer (some ⟨q, 0, none⟩), .slice ao n c] w (AppTo w base X q p g v (42, s1, rs, true)) := by
  have HC := Lib.hid (contains_any ao c n recs w hn hR.recs (by omega))
  rw [hlg] at HC
  have HDD := Lib.hid (dead_box q p v false w hJ.box)
  have h0 : ((n : Int) == 0) = false := by rw [beq_eq_false_iff_ne]; omega
  have h2 : (n : Int) ≤ 16 := by omega
  have hfb := flat_bound recs hlg
  have hbl := body_len recs
  have hfl := frame_len recs
  have HF := Lib.hid fun (d : World) (hd : Below w.heap.size w d) => frame_any ao c n recs d hn (hR.recs.next hd) hrb (by omega) (by omega)
  have HFO := Lib.hid (frame_ok recs hrb)
  have HJ := Lib.hid hJ
  have HX := Lib.hid hX
  have HR := Lib.hid hR
  have HN := Lib.hid hn
  have hpl := hJ.disk.lt.2
  have hql := hJ.box.lt
  have hflm : (frameF recs).length ≤ 100000 := by omega
  have c0 : w.cell? ⟨q, 0, none⟩ = some (.pointer (some ⟨p, 0, none⟩)) := hJ.box.cell 0
  obtain ⟨F, hFF⟩ : ∃ F, frameF recs = F := ⟨_, rfl⟩
  rw [hFF] at hE HFO hflm
  simp only [hFF] at HF
  have HA : Hid (∀ d go gc, Below w.heap.size w d → Byt d go F → (∀ k o, go = some ⟨k, o, none⟩ → k ≠ p) → Calls Try.prog 15 #[.pointer (some ⟨p, 0, none⟩), .slice go F.length gc] d (DiskTo base p g d (.int .i64 (appendF s F).1) (appendF s F).2)) :=
    Lib.hid fun d go gc hd hy hg => append_any base p g s d (HJ.out.disk.next hd) go F.length gc F rfl hy HFO.out hg (by omega) (Nat.le_trans (Nat.le_trans HJ.out.disk.lt.1 (Nat.le_of_lt hpl)) hd.size)
  clear hFF hlg hfb hbl hfl hJ hX hR hn
  rw [hE] at HA
  dsimp only at HA
  clear hE
  have hr1 : (r == 43) = false := by simpa using hr
  have hr2 : (r != 0) = true := by simpa using hr0
  go_enter Try.func30, Try.ntmps30
  go_wp2_with fail
  refine HC.out.mono ?_
  rintro e w2 ⟨rfl, rfl⟩
  go_wp2_with fail
  refine HDD.out.mono ?_
  rintro e w3 ⟨rfl, rfl⟩
  go_wp2_with fail
  go_region_held3 (fun w' => w'.cell? ⟨q, 0, none⟩ = some (.pointer (some ⟨p, 0, none⟩)))
    (first | exact c0 | exact d0 | go_keep)
    (first
      | (go_at_call 46
         refine (HF.out _ ?_).mono ?_
         exact (Below.refl _ _).drew
         rintro e w4 ⟨go, gc, rfl, hy4, hg4, hb4'⟩
         have d0 : w4.cell? ⟨q, 0, none⟩ = some (.pointer (some ⟨p, 0, none⟩)) := (hb4'.cell (p := ⟨q, 0, none⟩) hql).trans c0)
      | (go_at_call 15
         refine (HA.out w4 go gc ((Below.refl _ _).drew.trans hb4') hy4 (fun k o h e => by have h9 : w.heap.size ≤ k := hg4 k o h; omega)).mono ?_
         rintro e w5 ⟨g5, rfl, hd5, hm5, hgt5⟩
         have d0 : w5.cell? ⟨q, 0, none⟩ = some (.pointer (some ⟨p, 0, none⟩)) := hm5.cell (p := ⟨q, 0, none⟩) (fun e => by have h9 := HJ.out.qne; rcases e with e | e; exact h9.1 e; exact h9.2.1 e) ((hb4'.cell (p := ⟨q, 0, none⟩) hql).trans c0)))
  have hb4 : Below w.heap.size w w4 := (Below.refl _ _).drew.trans hb4'
  have hXlt : ∀ k, X k → k < w4.heap.size := fun k hk => Nat.lt_of_lt_of_le (HX.out k hk) hb4.size
  have JI := Lib.hid ((HJ.out.next hb4).onDisk hXlt hm5 hd5 hgt5)
  have D0 := Lib.hid ((DTo.of_below (p := p) (g := g) hb4).trans ⟨hm5, hgt5⟩)
  have HX5 : Hid (∀ k, X k → k < w5.heap.size) := Lib.hid fun k hk => Nat.lt_of_lt_of_le (hXlt k hk) hm5.size
  clear hy4 hg4 hb4' hb4 hXlt hd5 hm5 hgt5 HA HF HC HDD
  have c2 : w5.frozen? ⟨q, 2, none⟩ = false := JI.out.box.frozen 2
  have c3 : w5.cell? ⟨q, 2, none⟩ = some (.bool false) := JI.out.box.cell 2
  go_wp2_with fail
  go_ret
  exact ⟨g5, v, rfl, JI.out.kill, app_foot2 D0.out⟩
set_option maxRecDepth 100000 in
set_option maxHeartbeats 4000000 in
theorem app_cut (w : World) (base : Nat) (X : Nat → Prop) (q p : Nat) (g : Option Nat) (s : DS) (v : Value) (rs recs : List (List Int)) (ao : Option Addr) (n c : Nat) (hJ : JIs w base X q p g s v rs false) (hX : ∀ k, X k → k < w.heap.size)
    (hn : recs.length = n) (hR : RecsN w (fun k => ¬ Foot q p g v k) ao recs) (hrb : ∀ r ∈ recs, Bytes r) (h1 : 1 ≤ n) (h16 : n ≤ 16) (hlg : longF recs = false) (s1 s2 : DS) (r2 : Int) (hE : appendF s (frameF recs) = (0, s1)) (hS : syncF s1 = (r2, s2)) (hr0 : r2 ≠ 0) :
    Calls Try.prog 30 #[.pointer (some ⟨q, 0, none⟩), .slice ao n c] w (AppTo w base X q p g v (42, s2, rs, true)) := by
  have HC := Lib.hid (contains_any ao c n recs w hn hR.recs (by omega))
  rw [hlg] at HC
  have HDD := Lib.hid (dead_box q p v false w hJ.box)
  have h0 : ((n : Int) == 0) = false := by rw [beq_eq_false_iff_ne]; omega
  have h2 : (n : Int) ≤ 16 := by omega
  have hfb := flat_bound recs hlg
  have hbl := body_len recs
  have hfl := frame_len recs
  have HF := Lib.hid fun (d : World) (hd : Below w.heap.size w d) => frame_any ao c n recs d hn (hR.recs.next hd) hrb (by omega) (by omega)
  have HFO := Lib.hid (frame_ok recs hrb)
  have HJ := Lib.hid hJ
  have HX := Lib.hid hX
  have HR := Lib.hid hR
  have HN := Lib.hid hn
  have hpl := hJ.disk.lt.2
  have hql := hJ.box.lt
  have hflm : (frameF recs).length ≤ 100000 := by omega
  have c0 : w.cell? ⟨q, 0, none⟩ = some (.pointer (some ⟨p, 0, none⟩)) := hJ.box.cell 0
  obtain ⟨F, hFF⟩ : ∃ F, frameF recs = F := ⟨_, rfl⟩
  rw [hFF] at hE HFO hflm
  simp only [hFF] at HF
  have HA : Hid (∀ d go gc, Below w.heap.size w d → Byt d go F → (∀ k o, go = some ⟨k, o, none⟩ → k ≠ p) → Calls Try.prog 15 #[.pointer (some ⟨p, 0, none⟩), .slice go F.length gc] d (DiskTo base p g d (.int .i64 (appendF s F).1) (appendF s F).2)) :=
    Lib.hid fun d go gc hd hy hg => append_any base p g s d (HJ.out.disk.next hd) go F.length gc F rfl hy HFO.out hg (by omega) (Nat.le_trans (Nat.le_trans HJ.out.disk.lt.1 (Nat.le_of_lt hpl)) hd.size)
  clear hFF hlg hfb hbl hfl hJ hX hR hn
  rw [hE] at HA
  dsimp only at HA
  clear hE
  have hr2 : (r2 != 0) = true := by simpa using hr0
  go_enter Try.func30, Try.ntmps30
  go_wp2_with fail
  refine HC.out.mono ?_
  rintro e w2 ⟨rfl, rfl⟩
  go_wp2_with fail
  refine HDD.out.mono ?_
  rintro e w3 ⟨rfl, rfl⟩
  go_wp2_with fail
  go_region_held3 (fun w' => w'.cell? ⟨q, 0, none⟩ = some (.pointer (some ⟨p, 0, none⟩)))
    (first | exact c0 | exact d0 | go_keep)
    (first
      | (go_at_call 46
         refine (HF.out _ ?_).mono ?_
         exact (Below.refl _ _).drew
         rintro e w4 ⟨go, gc, rfl, hy4, hg4, hb4'⟩
         have d0 : w4.cell? ⟨q, 0, none⟩ = some (.pointer (some ⟨p, 0, none⟩)) := (hb4'.cell (p := ⟨q, 0, none⟩) hql).trans c0)
      | (go_at_call 15
         refine (HA.out w4 go gc ((Below.refl _ _).drew.trans hb4') hy4 (fun k o h e => by have h9 : w.heap.size ≤ k := hg4 k o h; omega)).mono ?_
         rintro e w5 ⟨g5, rfl, hd5, hm5, hgt5⟩
         have d0 : w5.cell? ⟨q, 0, none⟩ = some (.pointer (some ⟨p, 0, none⟩)) := hm5.cell (p := ⟨q, 0, none⟩) (fun e => by have h9 := HJ.out.qne; rcases e with e | e; exact h9.1 e; exact h9.2.1 e) ((hb4'.cell (p := ⟨q, 0, none⟩) hql).trans c0)))
  have hb4 : Below w.heap.size w w4 := (Below.refl _ _).drew.trans hb4'
  have hXlt : ∀ k, X k → k < w4.heap.size := fun k hk => Nat.lt_of_lt_of_le (HX.out k hk) hb4.size
  have JI := Lib.hid ((HJ.out.next hb4).onDisk hXlt hm5 hd5 hgt5)
  have D0 := Lib.hid ((DTo.of_below (p := p) (g := g) hb4).trans ⟨hm5, hgt5⟩)
  have HX5 : Hid (∀ k, X k → k < w5.heap.size) := Lib.hid fun k hk => Nat.lt_of_lt_of_le (hXlt k hk) hm5.size
  clear hy4 hg4 hb4' hb4 hXlt hd5 hm5 hgt5 HA HF HC HDD
  have HS := Lib.hid (sync_any base p g5 s1 w5 JI.out.disk)
  rw [hS] at HS
  have c5 : w5.cell? ⟨q, 0, none⟩ = some (.pointer (some ⟨p, 0, none⟩)) := JI.out.box.cell 0
  clear hS
  go_wp2_with fail
  refine HS.out.mono ?_
  rintro e w6 ⟨g6, rfl, hd6, hm6, hg6⟩
  have J6 := Lib.hid (JI.out.onDisk HX5.out hm6 hd6 hg6)
  have D6 := Lib.hid (D0.out.trans ⟨hm6, hg6⟩)
  clear hd6 hm6 hg6
  have c2 : w6.frozen? ⟨q, 2, none⟩ = false := J6.out.box.frozen 2
  have c3 : w6.cell? ⟨q, 2, none⟩ = some (.bool false) := J6.out.box.cell 2
  go_wp2_with fail
  go_ret
  exact ⟨g6, v, rfl, J6.out.kill, app_foot2 D6.out⟩
end Go.Proofs.Ytkbdbinafjmjkaa
