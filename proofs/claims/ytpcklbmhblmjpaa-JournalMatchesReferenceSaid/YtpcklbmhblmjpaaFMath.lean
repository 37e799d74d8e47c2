/- What programming and erasing do to the bytes of a memory, as plain lists. No program. -/
set_option linter.unusedVariables false
namespace Go.Proofs.Ytpcklbmhblmjpaa

/-- the bytes after i changes from place p on: change j makes f j (old byte) of a byte -/
def memo (f : Nat → UInt8 → UInt8) (bs : List UInt8) (p : Nat) : Nat → List UInt8
  | 0 => bs
  | i + 1 => (memo f bs p i).set (p + i) (f i ((memo f bs p i).getD (p + i) 0))
/-- all memories of n changes -/
def memos (f : Nat → UInt8 → UInt8) (bs : List UInt8) (p n : Nat) : List (List UInt8) := (List.range (n + 1)).map (memo f bs p)
/-- programming -/
def andF (ds : List UInt8) : Nat → UInt8 → UInt8 := fun i old => old &&& ds.getD i 0
/-- erasing -/
def eraF : Nat → UInt8 → UInt8 := fun _ _ => 255

theorem memo_length (f : Nat → UInt8 → UInt8) (bs : List UInt8) (p i : Nat) : (memo f bs p i).length = bs.length := by
  induction i with
  | zero => rfl
  | succ i ih => simp [memo, ih]
theorem memos_length (f : Nat → UInt8 → UInt8) (bs : List UInt8) (p n : Nat) : (memos f bs p n).length = n + 1 := by simp [memos]
theorem memos_succ (f : Nat → UInt8 → UInt8) (bs : List UInt8) (p n : Nat) : memos f bs p (n + 1) = memos f bs p n ++ [memo f bs p (n + 1)] := by
  simp [memos, List.range_succ]
theorem memos_get (f : Nat → UInt8 → UInt8) (bs : List UInt8) (p n i : Nat) (h : i < n + 1) : (memos f bs p n)[i]? = some (memo f bs p i) := by
  simp [memos, h]
/-- each byte by itself -/
theorem memo_get (f : Nat → UInt8 → UInt8) (bs : List UInt8) (p i j : Nat) (hj : j < bs.length) :
    (memo f bs p i).getD j 0 = if p ≤ j ∧ j < p + i then f (j - p) (bs.getD j 0) else bs.getD j 0 := by
  induction i with
  | zero => rw [if_neg (by omega)]; rfl
  | succ i ih =>
    simp only [memo]
    by_cases e : j = p + i
    · subst e
      rw [if_pos (by omega)]
      rw [List.getD_eq_getElem?_getD, List.getElem?_set_self (by rw [memo_length]; exact hj)]
      simp only [Option.getD_some]
      rw [ih, if_neg (by omega), Nat.add_sub_cancel_left]
    · rw [List.getD_eq_getElem?_getD, List.getElem?_set_ne (by omega), ← List.getD_eq_getElem?_getD, ih]
      by_cases h : p ≤ j ∧ j < p + i
      · rw [if_pos h, if_pos (by omega)]
      · rw [if_neg h, if_neg (by omega)]
end Go.Proofs.Ytpcklbmhblmjpaa
