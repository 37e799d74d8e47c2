/- What Format, Append and Rewrite return, as plain functions. -/
import Derived.Test.YthebojaminploaaGreatDoorKJS
import Derived.Test.YthebojaminploaaGreatDoorKFZ
set_option linter.unusedVariables false
namespace Go.Proofs.YthebojaminploaaGreatDoor

/-- further memories: those after each change, behind the last one -/
def addB (L : List (List UInt8)) (f : Nat → UInt8 → UInt8) (p n : Nat) : List (List UInt8) := L ++ (memos f (L.getLastD []) p n).drop 1
def fmtE (s k : Int) : Int := if newE s k = 0 ∧ jvB (newM s k).1 (newM s k).2.length = true then 0 else 1
def fmtM (s k : Int) : Mem := if fmtE s k = 0 then ((newM s k).1, [80, 0, 0, 0, 0] ++ (newM s k).2.drop 5) else (0, [])
/-- the sectors of an area that are to be erased, from number i on, n of them -/
def eraseB (m : Mem) (s : Nat) : List (List UInt8) → Nat → Nat → List (List UInt8)
  | L, _, 0 => L
  | L, i, n + 1 => eraseB m s (if restB ((m.2.drop (i * s)).take s) 0 = true then L else addB L eraF (i * s) s) (i + 1) n
def otherA (m : Mem) : Nat := 1 - (lookC m).area
def txtB (m : Mem) (keep : List Rec) : List UInt8 := be4 ((lookC m).gen + 1) ++ recs keep
def rewE (m : Mem) (keep : List Rec) : Int := if lookE m = 0 then (if room keep + 5 ≤ hf m ∧ (lookC m).gen ≠ 4294967295 then 0 else 10) else lookE m
def rewB (m : Mem) (keep : List Rec) : List (List UInt8) :=
  addB (addB (eraseB m m.1.toNat [m.2] (otherA m * (hf m / m.1.toNat)) (hf m / m.1.toNat)) (andF (txtB m keep)) (otherA m * hf m + 1) (txtB m keep).length) (andF [80]) (otherA m * hf m) 1
def rewL (m : Mem) (keep : List Rec) : List (List UInt8) := if rewE m keep = 0 then rewB m keep else []
def appE (m : Mem) (d : Rec) : Int :=
  if lookE m = 0 then (if d.length ≤ 65535 ∧ (lookC m).fin + 7 + d.length ≤ hf m then (if (lookC m).clean = true then 0 else rewE m ((lookC m).recs ++ [d])) else 10) else lookE m
def appB (m : Mem) (d : Rec) : List (List UInt8) :=
  addB (addB [m.2] (andF (recL d).tail) ((lookC m).area * hf m + (lookC m).fin + 1) (6 + d.length)) (andF [80]) ((lookC m).area * hf m + (lookC m).fin) 1
def appL (m : Mem) (d : Rec) : List (List UInt8) :=
  if appE m d = 0 then (if (lookC m).clean = true then appB m d else rewB m ((lookC m).recs ++ [d])) else []
theorem addB_ne (L : List (List UInt8)) (f : Nat → UInt8 → UInt8) (p n : Nat) (h : L ≠ []) : addB L f p n ≠ [] := by simp [addB, h]
end Go.Proofs.YthebojaminploaaGreatDoor
