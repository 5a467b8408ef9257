/-
  The docket in plain Lean: matters, periods, filings; no program is in sight here.
-/
import Derived.Test.YtpddpdkdlodniaaKPlain
import Derived.Lib.SlBy
namespace Go.Proofs.Ytpddpdkdlodniaa
open Go.RowKit

/-- A matter. -/
structure Mt where
  id : Int
  st : Int
  due : Int
  opt : Int
  df : Bool
/-- A ruling. -/
structure Rl where
  id : Int
  day : Int
  opt : Int
/-- A filing. -/
structure Fl where
  kind : Int
  day : Int
  id : Int
  opt : Int
/-- A docket. -/
structure Dk where
  day : Int
  ans : Int
  app : Int
  hol : List Int
  mts : List Mt
instance : Inhabited Mt := ⟨⟨0, 0, 0, 0, false⟩⟩
instance : Inhabited Rl := ⟨⟨0, 0, 0⟩⟩
instance : Inhabited Fl := ⟨⟨0, 0, 0, 0⟩⟩
/-- The docket without anything. -/
def zeroDk : Dk := ⟨0, 0, 0, [], []⟩

/-- Which business day is asked for. -/
def targF (H : List Int) (day n : Int) : Int := if n = 0 then (cnt H day.toNat : Nat) else (cnt H (day.toNat + 1) : Nat) + n - 1
/-- Add, as a function. -/
def addF (H : List Int) (day n : Int) : Int × Int :=
  if 1000 < H.length then (0, 2) else if day < 0 ∨ 1048576 < day ∨ n < 0 ∨ 1048576 < n then (0, 1)
  else match (List.range 1048577).find? (fun i => decide (targF H day n < (cnt H (i + 1) : Nat))) with
    | some i => ((i : Int), 0)
    | none => (0, 1)

theorem find_range {p : Nat → Bool} {N n : Nat} (hn : n < N) (hp : p n = true) (hlow : ∀ i, i < n → p i = false) : (List.range N).find? p = some n := by
  rw [List.find?_eq_some_iff_append]
  refine ⟨hp, List.range n, (List.range (N - n - 1)).map (fun i => n + 1 + i), ?_, ?_⟩
  · have h1 : N = n + (1 + (N - n - 1)) := by omega
    conv => lhs; rw [h1, List.range_add, List.range_add]
    simp [List.map_map, Function.comp_def, Nat.add_assoc]
  · intro a ha
    simp [hlow a (List.mem_range.1 ha)]
theorem addF_nth {H : List Int} {day n d e : Int} (hl : H.length ≤ 1000) (h0 : 0 ≤ day) (h1 : day ≤ 1048576) (h2 : 0 ≤ n) (h3 : n ≤ 1048576) (h : NthIs H (targF H day n) d e) : addF H day n = (d, e) := by
  unfold addF
  rw [if_neg (by omega), if_neg (by omega)]
  rcases h with ⟨k, rfl, hk, a, b, rfl⟩ | ⟨a, rfl, rfl⟩
  · rw [find_range (n := k) (by omega) (by simpa using b) (fun i hi => by
      have := cnt_mono H (show i + 1 ≤ k by omega)
      simp
      omega)]
  · have : (List.range 1048577).find? (fun i => decide (targF H day n < (cnt H (i + 1) : Nat))) = none := by
      rw [List.find?_eq_none]
      intro i hi
      have := cnt_mono H (show i + 1 ≤ 1048577 by have := List.mem_range.1 hi; omega)
      simp
      omega
    rw [this]

/-- The error of a day and of terms. -/
def termsF (day ans app : Int) (holidays : Nat) : Int :=
  if day < 0 ∨ 1048576 < day then 1 else if 1000 < holidays then 2 else if ans < 1 ∨ 250 < ans ∨ app < 1 ∨ 250 < app then 1 else 0
/-- Is a period of the matter running? -/
def runsF (m : Mt) : Bool := decide (m.st = 2) || decide (m.st = 4)
/-- Can the state of a matter be? -/
def soundF (day : Int) (m : Mt) : Bool :=
  decide (1 ≤ m.st) && decide (m.st ≤ 6) && decide (0 ≤ m.opt) && decide (m.opt < 4) && (if runsF m = true then decide (day ≤ m.due) && decide (m.due ≤ 1048576) else decide (m.due = 0)) &&
    (decide (3 < m.st) || decide (m.opt = 0)) && (!m.df || (decide (m.st = 6) && decide (m.opt = 0)))
/-- Where a matter stands in a list, or -1. -/
def findF (l : List Mt) (id : Int) : Int := Lib.idxBy (fun _ m => decide (m.id = id)) l default
/-- Is there a matter of this name? -/
def hasF (l : List Mt) (id : Int) : Bool := l.any fun m => decide (m.id = id)
/-- The first error of a list of matters, of which the first k are known to have none. -/
def mattersF (day : Int) (all : List Mt) : Nat → Nat → Int
  | 0, _ => 0
  | n + 1, k =>
    let m := all.getD k default
    if m.id < 0 then 1 else if hasF (all.take k) m.id = true then 12 else if soundF day m = false then 1 else mattersF day all n (k + 1)
/-- The error of a docket. -/
def chkF (d : Dk) : Int :=
  if termsF d.day d.ans d.app d.hol.length ≠ 0 then termsF d.day d.ans d.app d.hol.length else if 32 < d.mts.length then 2 else mattersF d.day d.mts d.mts.length 0
/-- The least last day of the periods that run. -/
def dueStep (x : Int × Bool) (m : Mt) : Int × Bool := if runsF m = true ∧ (x.2 = false ∨ m.due < x.1) then (m.due, true) else x
def dueF (l : List Mt) : Int × Bool := l.foldl dueStep (0, false)

/-- Does a period lapse ahead of this day? -/
def lapsesF (day : Int) (m : Mt) : Bool := runsF m && decide (m.due < day)
def lapseF (day : Int) (m : Mt) : Mt := if lapsesF day m = true then ⟨m.id, 6, 0, m.opt, decide (m.st = 2)⟩ else m
def rulingF (m : Mt) : Rl := ⟨m.id, m.due + 1, m.opt⟩
def rulesF (day : Int) (l : List Mt) : List Rl := (l.filter (lapsesF day)).map rulingF
/-- The order of rulings. -/
def leR (a b : Rl) : Bool := decide (a.day < b.day) || (decide (a.day = b.day) && decide (a.id ≤ b.id))
def sortR (l : List Rl) : List Rl := l.mergeSort leR
/-- Advance. -/
def advE (d : Dk) (day : Int) : Int := if chkF d ≠ 0 then chkF d else if day < 0 ∨ 1048576 < day then 1 else if day < d.day then 15 else 0
def advD (d : Dk) (day : Int) : Dk := { d with day := day, mts := d.mts.map (lapseF day) }
def advR (d : Dk) (day : Int) : List Rl := sortR (rulesF day d.mts)
/-- What answers a docket, rulings and an error. -/
abbrev Ans := Dk × List Rl × Int
def noAns (e : Int) : Ans := (zeroDk, [], e)
def advF (d : Dk) (day : Int) : Ans := if advE d day = 0 then (advD d day, advR d day, 0) else noAns (advE d day)

/-- A filing that is no opening, applied to a matter: the matter and the error. -/
def dueOfF (d : Dk) (f : Fl) : Int × Int := if f.kind = 2 then addF d.hol f.day d.ans else if f.kind = 4 then addF d.hol f.day d.app else (0, 0)
def changeF (d : Dk) (f : Fl) (m : Mt) : Mt × Int :=
  if m.st ≠ f.kind - 1 then (m, 13)
  else if (f.kind = 4 ∨ f.kind = 6) ∧ (f.opt < 0 ∨ 4 ≤ f.opt) then (m, 41)
  else if (dueOfF d f).2 ≠ 0 then (m, (dueOfF d f).2)
  else (⟨m.id, m.st + 1, (dueOfF d f).1, if f.kind = 4 ∨ f.kind = 6 then f.opt else m.opt, m.df⟩, 0)
/-- The opening of a matter. -/
def openE (l : List Mt) (id : Int) : Int := if id < 0 then 1 else if hasF l id = true then 12 else if 32 ≤ l.length then 2 else 0
def openedF (id : Int) : Mt := ⟨id, 1, 0, 0, false⟩
/-- What a filing does behind Advance. -/
def actF (o : Dk) (l : List Rl) (f : Fl) : Ans :=
  if f.kind < 1 ∨ 6 < f.kind then noAns 1
  else if f.kind = 1 then (if openE o.mts f.id = 0 then ({ o with mts := o.mts ++ [openedF f.id] }, l, 0) else noAns (openE o.mts f.id))
  else if findF o.mts f.id < 0 then noAns 11
  else
    let k := (findF o.mts f.id).toNat
    let c := changeF o f (o.mts.getD k default)
    if c.2 = 0 then ({ o with mts := o.mts.set k c.1 }, if f.kind = 6 then l ++ [⟨f.id, f.day, f.opt⟩] else l, 0) else noAns c.2
def fileF (d : Dk) (f : Fl) : Ans := if advE d f.day = 0 then actF (advD d f.day) (advR d f.day) f else noAns (advE d f.day)
/-- A docket without matters. -/
def newF (day ans app : Int) (H : List Int) : Dk × Int := if termsF day ans app H.length = 0 then (⟨day, ans, app, H, []⟩, 0) else (zeroDk, termsF day ans app H.length)
/-- All filings in turn: the docket, the rulings, the index and the error. -/
def playGo : List Fl → Dk → List Rl → Int → Dk × List Rl × Int × Int
  | [], d, l, _ => (d, l, -1, 0)
  | f :: fs, d, l, i => if (fileF d f).2.2 = 0 then playGo fs (fileF d f).1 (l ++ (fileF d f).2.1) (i + 1) else (zeroDk, [], i, (fileF d f).2.2)
def playF (day ans app : Int) (H : List Int) (fs : List Fl) : Dk × List Rl × Int × Int :=
  if (newF day ans app H).2 = 0 then playGo fs (newF day ans app H).1 [] 0 else (zeroDk, [], -1, (newF day ans app H).2)
end Go.Proofs.Ytpddpdkdlodniaa
