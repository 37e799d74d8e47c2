/- What is yielded while an area is looked through. No program. -/
import Derived.Test.YthebojaminploaaGreatDoorKJM
set_option linter.unusedVariables false
namespace Go.Proofs.YthebojaminploaaGreatDoor

/-- a place of an area -/
structure At where
  fr : Nat
  to : Nat
  A : Option Addr
  c : Nat
  d : Rec
  good : Bool
def encAt (x : At) : Array Value := #[.agg #[.int .i64 (x.fr : Int), .int .i64 (x.to : Int), .slice x.A x.d.length x.c, .bool x.good]]
def endOf : List At → Nat → Nat
  | [], p => p
  | x :: l, _ => endOf l x.to
theorem endOf_snoc (l : List At) (x : At) : ∀ p, endOf (l ++ [x]) p = x.to := by
  induction l with
  | nil => intro p; rfl
  | cons y l ih => intro p; exact ih _
/-- between two places -/
def Along (b : List UInt8) (pre : List At) (k p : Nat) : Prop :=
  (∀ x ∈ pre, x.good = true) ∧ scanA b = (scan b k p).map (fun r => (pre.map (·.d) ++ r.1, r.2)) ∧ b.length ≤ p + k ∧ p = endOf pre 5
theorem along_start (b : List UInt8) : Along b [] b.length 5 := by
  refine ⟨by simp, ?_, by omega, rfl⟩
  unfold scanA
  cases scan b b.length 5 <;> simp
theorem along_end {b : List UInt8} {pre : List At} {k p : Nat} (h : Along b pre k p) (hs : ¬ (p < b.length ∧ b.getD p 0 = 80)) : scanA b = some (pre.map (·.d), endOf pre 5) := by
  obtain ⟨h1, h2, h3, h4⟩ := h
  rw [h2, ← h4]
  cases k with
  | zero => simp [scan]
  | succ k => rw [scan, if_neg hs]; simp
theorem along_bad {b : List UInt8} {pre : List At} {k p : Nat} (h : Along b pre k p) (hp : p < b.length) (h80 : b.getD p 0 = 80) (hs : stepOk (b.drop p) = none) : scanA b = none := by
  obtain ⟨h1, h2, h3, h4⟩ := h
  rw [h2]
  cases k with
  | zero => omega
  | succ k => rw [scan, if_pos ⟨hp, h80⟩, hs]; rfl
theorem along_good {b : List UInt8} {pre : List At} {k p n : Nat} (h : Along b pre k p) (hp : p < b.length) (h80 : b.getD p 0 = 80) (hs : stepOk (b.drop p) = some n) (x : At) (hg : x.good = true) (ht : x.to = p + 7 + n) (hd : x.d = ((b.drop p).drop 7).take n) : ∃ k', Along b (pre ++ [x]) k' (p + 7 + n) := by
  obtain ⟨h1, h2, h3, h4⟩ := h
  cases k with
  | zero => omega
  | succ k =>
    refine ⟨k, ?_, ?_, by omega, by rw [endOf_snoc, ht]⟩
    · intro y hy
      rcases List.mem_append.1 hy with hy | hy
      · exact h1 y hy
      · obtain rfl : y = x := by simpa using hy
        exact hg
    · rw [h2, scan, if_pos ⟨hp, h80⟩, hs]
      simp only [Option.map_map, List.map_append, List.map_cons, List.map_nil, ← hd]
      congr 1
      funext r
      simp
theorem step_short {b : List UInt8} {p : Nat} (h : ¬ p + 7 ≤ b.length) : stepOk (b.drop p) = none := by
  unfold stepOk
  rw [if_neg (by rw [List.length_drop]; omega)]
def sizeAt (b : List UInt8) (p : Nat) : Nat := (b.getD (p + 1) 0).toNat * 256 + (b.getD (p + 2) 0).toNat
def sumOk (b : List UInt8) (p : Nat) : Prop := fnvN ([b.getD (p + 1) 0, b.getD (p + 2) 0] ++ ((b.drop p).drop 7).take (sizeAt b p)) = num4 (b.getD (p + 3) 0) (b.getD (p + 4) 0) (b.getD (p + 5) 0) (b.getD (p + 6) 0)
theorem step_long {b : List UInt8} {p : Nat} (h7 : p + 7 ≤ b.length) (h : ¬ p + 7 + sizeAt b p ≤ b.length) : stepOk (b.drop p) = none := by
  unfold sizeAt at h
  unfold stepOk
  rw [if_pos (by rw [List.length_drop]; omega)]
  simp only [drop_getD]
  rw [if_neg (by rw [List.length_drop]; omega)]
theorem step_sum {b : List UInt8} {p : Nat} (h7 : p + 7 ≤ b.length) (h : p + 7 + sizeAt b p ≤ b.length) (hs : sumOk b p) : stepOk (b.drop p) = some (sizeAt b p) := by
  unfold sumOk sizeAt at *
  unfold stepOk
  rw [if_pos (by rw [List.length_drop]; omega)]
  simp only [drop_getD]
  rw [if_pos (by rw [List.length_drop]; omega), if_pos hs]
theorem step_nosum {b : List UInt8} {p : Nat} (h7 : p + 7 ≤ b.length) (h : p + 7 + sizeAt b p ≤ b.length) (hs : ¬ sumOk b p) : stepOk (b.drop p) = none := by
  unfold sumOk sizeAt at *
  unfold stepOk
  rw [if_pos (by rw [List.length_drop]; omega)]
  simp only [drop_getD]
  rw [if_pos (by rw [List.length_drop]; omega), if_neg hs]
end Go.Proofs.YthebojaminploaaGreatDoor
