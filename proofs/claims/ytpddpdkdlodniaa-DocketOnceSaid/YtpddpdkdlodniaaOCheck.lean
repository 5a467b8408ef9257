/-
  Contract: Check.
-/
import Derived.Test.YtpddpdkdlodniaaOMatter
import Derived.Test.YtpddpdkdlodniaaOSound
import Derived.Deep.RegionHeld3
namespace Go.Proofs.Ytpddpdkdlodniaa
open Go.RowKit

theorem matters_step (day : Int) (all : List Mt) (k : Nat) (h : k < all.length) : mattersF day all (all.length - k) k =
    if (all.getD k default).id < 0 then 1 else if hasF (all.take k) (all.getD k default).id = true then 12 else if soundF day (all.getD k default) = false then 1 else mattersF day all (all.length - (k + 1)) (k + 1) := by
  obtain ⟨n, hn⟩ : ∃ n, all.length - k = n + 1 := ⟨all.length - k - 1, by omega⟩
  rw [hn, show all.length - (k + 1) = n by omega]
  rfl
theorem sound_at {m : Mt} {day : Int} {b : Bool} (h : soundF day m = b) (w : World) : Calls Try.prog 39 #[.agg #[.int .i64 m.id, .int .i64 m.st, .int .i64 m.due, .int .i64 m.opt, .bool m.df], .int .i64 day] w fun e w' => e = .returned (.bool b) ∧ Below w.heap.size w w' := by
  obtain ⟨id, st, due, opt, df⟩ := m
  cases b
  · exact sound_no id st due opt day df w h
  · exact sound_yes id st due opt day df w h
/-- A boxed matter, in every world in which nothing below has turned. -/
theorem mtbox {w w' : World} {m : Mt} (h : Below (w.alloc (mtBox m)).heap.size (w.alloc (mtBox m)) w') : MtAt w' w.heap.size 0 m := by
  refine ⟨?_, ?_, ?_, ?_, ?_⟩ <;> rw [h.cell (by simp), World.cell?_alloc_at _ _ _ _ rfl] <;> rfl
theorem find_has {l : List Mt} {id : Int} (h : hasF l id = true) : 0 ≤ findF l id := by
  have h1 := find_ge l id
  have h2 : ¬ findF l id < 0 := fun e => by rw [find_neg.1 e] at h; cases h
  omega
theorem find_hasnt {l : List Mt} {id : Int} (h : hasF l id = false) : findF l id = -1 := by
  have h1 := find_ge l id
  have h2 := find_neg.2 h
  omega

set_option maxRecDepth 100000 in
set_option maxHeartbeats 8000000 in
theorem check_any (day ans app : Int) (ho mo : Option Addr) (hc mc : Nat) (H : List Int) (l : List Mt) (w : World) (hM : Mts w mo l) (hcap : l.length ≤ mc) (hl : l.length ≤ 9223372036854775807) :
    Calls Try.prog 21 #[.agg #[.int .i64 day, .int .i64 ans, .int .i64 app, .slice ho H.length hc, .slice mo l.length mc]] w fun e w' => e = .returned (.int .i64 (chkF ⟨day, ans, app, H, l⟩)) ∧ Below w.heap.size w w' := by
  have HM := Lib.hid hM
  have HCP := Lib.hid hcap
  have HT := Lib.hid fun W => checkTerms_any day ans app ho H.length hc W
  obtain ⟨R, hR⟩ : ∃ R, chkF ⟨day, ans, app, H, l⟩ = R := ⟨_, rfl⟩
  rw [hR]
  unfold chkF at hR
  simp only at hR
  clear hM hcap
  by_cases ht : termsF day ans app H.length = 0
  · rw [ht] at HT hR
    rw [if_neg (by simp)] at hR
    clear ht
    by_cases h32 : 32 < l.length
    · rw [if_pos h32] at hR
      subst hR
      have h32i : (32 : Int) < (l.length : Int) := by omega
      go_enter Try.func21, Try.ntmps21
      go_wp2_with fail
      refine (HT.out _).mono ?_
      rintro e w3 ⟨rfl, hb3⟩
      obtain ⟨x0, x1, x2, x3, x4, hsr⟩ := box5 (w := w) (by simpa using hb3)
      have HB := Lib.hid hb3
      clear hb3
      go_wp2_with fail
      go_ret
      exact ⟨rfl, below_box (by simpa using HB.out)⟩
    · rw [if_neg h32] at hR
      have h32i : ¬ (32 : Int) < (l.length : Int) := by omega
      have h32n : l.length ≤ 32 := by omega
      have HR := Lib.hid hR
      clear hR h32
      go_enter Try.func21, Try.ntmps21
      go_wp2_with fail
      refine (HT.out _).mono ?_
      rintro e w3 ⟨rfl, hb3⟩
      obtain ⟨x0, x1, x2, x3, x4, hsr⟩ := box5 (w := w) (by simpa using hb3)
      have HB3 : Hid (Below (w.heap.size + 1) (w.alloc (.cells #[.int .i64 day, .int .i64 ans, .int .i64 app, .slice ho H.length hc, .slice mo l.length mc] 30)) w3) := Lib.hid (by simpa using hb3)
      clear hb3
      go_wp2_with fail
      go_loopw [21] (fun i wr => ∃ (k : Nat), k ≤ l.length ∧ i = .int .i64 k ∧ Hid (mattersF day l (l.length - k) k = R) ∧ Below (w.heap.size + 1) (w.alloc (.cells #[.int .i64 day, .int .i64 ans, .int .i64 app, .slice ho H.length hc, .slice mo l.length mc] 30)) wr) (fun i _ => l.length - (intOf i).toNat)
      case atStart => exact ⟨0, Nat.zero_le _, rfl, HR, HB3.out⟩
      case round =>
        clear x0 x1 x2 x3 x4 hsr HB3 HR
        obtain ⟨k, hk, rfl, hf, hb⟩ := hrel
        obtain ⟨x0, x1, x2, x3, x4, hsr⟩ := box5 hb
        by_cases hlt : k < l.length
        · have HM1 := Lib.hid (HM.out.next (below_box hb))
          obtain ⟨bm, off, rfl, hbw, hc0⟩ := HM1.out.cells (by omega)
          obtain ⟨m0, m1, m2, m3, m4⟩ := hc0 k hlt
          have hst := matters_step day l k hlt
          rw [hf.out] at hst
          obtain ⟨m, hm⟩ : ∃ m, l.getD k default = m := ⟨_, rfl⟩
          rw [hm] at m0 m1 m2 m3 m4 hst
          have HB := Lib.hid hb
          have hk0 : (0 : Int) ≤ (k : Int) := Int.natCast_nonneg _
          have hk1 : (k : Int) < (l.length : Int) := by omega
          have hk2 : (k : Int) ≤ (mc : Int) := by have := HCP.out; omega
          clear hc0 hm hb
          by_cases hid : m.id < 0
          · rw [if_pos hid] at hst
            subst hst
            go_wp2_with fail
            go_ret
            exact ⟨rfl, by go_grown; exact below_box HB.out⟩
          rw [if_neg hid] at hst
          have HF := Lib.hid fun (W : World) (hW : Mts W (some ⟨bm, off, none⟩) l) => find_any (some ⟨bm, off, none⟩) k mc l m.id W hW (by omega) (by omega)
          have hbx : Below wr.heap.size wr (wr.alloc (mtBox m)).drew := ((Below.refl _ _).alloc (Nat.le_refl _) _).drew
          have HMW := Lib.hid (HM1.out.next hbx)
          cases hh : hasF (l.take k) m.id
          · rw [hh, if_neg (by simp)] at hst
            rw [find_hasnt hh] at HF
            clear hh hbx
            cases hs : soundF day m
            · rw [hs, if_pos rfl] at hst
              subst hst
              have HS := Lib.hid (sound_at hs)
              clear hs
              go_wp2_with fail
              go_region_held3 (fun w' => w'.cell? ⟨w.heap.size, 4, none⟩ = some (.slice (some ⟨bm, off, none⟩) l.length mc) ∧ w'.cell? ⟨wr.heap.size, 0, none⟩ = some (.int .i64 m.id))
                (go_keep)
                (first
                  | (go_at_call 37
                     refine (HF.out _ HMW.out).mono ?_
                     rintro e w3 ⟨rfl, hb3⟩
                     have hb4 : Below (wr.alloc (mtBox m)).heap.size (wr.alloc (mtBox m)) w3 := ((Below.refl _ _).drew).trans hb3
                     obtain ⟨d0, d1, d2, d3, d4⟩ := mtbox hb4
                     have hb5 : Below (w.heap.size + 1) (w.alloc (.cells #[.int .i64 day, .int .i64 ans, .int .i64 app, .slice ho H.length hc, .slice (some ⟨bm, off, none⟩) l.length mc] 30)) w3 := (HB.out.alloc hsr _).trans (hb4.mono (by simp; omega))
                     obtain ⟨y0, y1, y2, y3, y4, hsy⟩ := box5 hb5
                     have HB5 := Lib.hid hb5
                     clear hb3 hb4 hb5))
              go_wp2_with (go_at_call 39
                           go_must (refine (HS.out _).mono ?_)
                           rintro e w6 ⟨rfl, hb6⟩
                           have HB6 := Lib.hid (HB5.out.trans (hb6.mono (by omega)))
                           clear hb6)
              go_ret
              exact ⟨rfl, below_box HB6.out⟩
            · rw [hs, if_neg (by simp)] at hst
              have HST := Lib.hid hst
              have HS := Lib.hid (sound_at hs)
              clear hs hst
              go_wp2_with fail
              go_region_held3 (fun w' => w'.cell? ⟨w.heap.size, 4, none⟩ = some (.slice (some ⟨bm, off, none⟩) l.length mc) ∧ w'.cell? ⟨wr.heap.size, 0, none⟩ = some (.int .i64 m.id))
                (go_keep)
                (first
                  | (go_at_call 37
                     refine (HF.out _ HMW.out).mono ?_
                     rintro e w3 ⟨rfl, hb3⟩
                     have hb4 : Below (wr.alloc (mtBox m)).heap.size (wr.alloc (mtBox m)) w3 := ((Below.refl _ _).drew).trans hb3
                     obtain ⟨d0, d1, d2, d3, d4⟩ := mtbox hb4
                     have hb5 : Below (w.heap.size + 1) (w.alloc (.cells #[.int .i64 day, .int .i64 ans, .int .i64 app, .slice ho H.length hc, .slice (some ⟨bm, off, none⟩) l.length mc] 30)) w3 := (HB.out.alloc hsr _).trans (hb4.mono (by simp; omega))
                     obtain ⟨y0, y1, y2, y3, y4, hsy⟩ := box5 hb5
                     have HB5 := Lib.hid hb5
                     clear hb3 hb4 hb5))
              go_wp2_with (go_at_call 39
                           go_must (refine (HS.out _).mono ?_)
                           rintro e w6 ⟨rfl, hb6⟩
                           have HB6 := Lib.hid (HB5.out.trans (hb6.mono (by omega)))
                           clear hb6)
              go_roundw
              case rel => exact ⟨k + 1, hlt, by go_num, Lib.hid HST.out.symm, HB6.out⟩
              case measure => simp [intOf]; omega
          · rw [hh, if_pos rfl] at hst
            subst hst
            have hpos := find_has hh
            clear hh hbx
            generalize findF (l.take k) m.id = r at HF hpos
            go_wp2_with fail
            go_region_held3 (fun w' => w'.cell? ⟨w.heap.size, 4, none⟩ = some (.slice (some ⟨bm, off, none⟩) l.length mc) ∧ w'.cell? ⟨wr.heap.size, 0, none⟩ = some (.int .i64 m.id))
              (go_keep)
              (first
                | (go_at_call 37
                   refine (HF.out _ HMW.out).mono ?_
                   rintro e w3 ⟨rfl, hb3⟩
                   have hb4 : Below (wr.alloc (mtBox m)).heap.size (wr.alloc (mtBox m)) w3 := ((Below.refl _ _).drew).trans hb3
                   obtain ⟨d0, d1, d2, d3, d4⟩ := mtbox hb4
                   have hb5 : Below (w.heap.size + 1) (w.alloc (.cells #[.int .i64 day, .int .i64 ans, .int .i64 app, .slice ho H.length hc, .slice (some ⟨bm, off, none⟩) l.length mc] 30)) w3 := (HB.out.alloc hsr _).trans (hb4.mono (by simp; omega))
                   obtain ⟨y0, y1, y2, y3, y4, hsy⟩ := box5 hb5
                   have HB5 := Lib.hid hb5
                   clear hb3 hb4 hb5))
            go_wp2_with fail
            go_ret
            exact ⟨rfl, below_box HB5.out⟩
        · obtain rfl : k = l.length := by omega
          have hf2 := hf.out
          rw [Nat.sub_self] at hf2
          have HF2 : Hid ((0 : Int) = R) := Lib.hid hf2
          have HB := Lib.hid hb
          clear hf hf2 hb
          go_wp2_with fail
          go_ret
          exact ⟨by rw [← HF2.out]; rfl, below_box HB.out⟩
  · rw [if_pos ht] at hR
    rw [hR] at HT ht
    have hq : (R != 0) = true := by simpa using ht
    clear hR ht
    go_enter Try.func21, Try.ntmps21
    go_wp2_with fail
    refine (HT.out _).mono ?_
    rintro e w3 ⟨rfl, hb3⟩
    obtain ⟨x0, x1, x2, x3, x4, hsr⟩ := box5 (w := w) (by simpa using hb3)
    have HB := Lib.hid hb3
    clear hb3
    go_wp2_with fail
    go_ret
    exact ⟨rfl, below_box (by simpa using HB.out)⟩
end Go.Proofs.Ytpddpdkdlodniaa
