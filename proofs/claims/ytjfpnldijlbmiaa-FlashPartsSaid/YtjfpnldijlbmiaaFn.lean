/- What the laws on flash memories say of plain lists: programming again, in either order, in parts; erasing again. No program is walked here. -/
import Derived.Test.YtjfpnldijlbmiaaFk
set_option linter.unusedVariables false
namespace Go.Proofs.Ytjfpnldijlbmiaa

theorem bytes_ext {a b : List UInt8} (hl : a.length = b.length) (h : ∀ j, j < a.length → a.getD j 0 = b.getD j 0) : a = b := by
  apply List.ext_getElem hl
  intro j h1 h2
  have := h j h1
  rwa [List.getD_eq_getElem?_getD, List.getD_eq_getElem?_getD, List.getElem?_eq_getElem h1, List.getElem?_eq_getElem h2] at this

theorem u8_and_idem (a b : UInt8) : a &&& b &&& b = a &&& b := by
  apply UInt8.toBitVec_inj.1; simp [UInt8.toBitVec_and, BitVec.and_assoc]
theorem u8_and_right (a b c : UInt8) : a &&& b &&& c = a &&& c &&& b := by
  apply UInt8.toBitVec_inj.1
  simp only [UInt8.toBitVec_and]
  rw [BitVec.and_assoc, BitVec.and_comm b.toBitVec, ← BitVec.and_assoc]
theorem u8_and_assoc (a b c : UInt8) : a &&& b &&& c = a &&& (b &&& c) := by
  apply UInt8.toBitVec_inj.1; simp only [UInt8.toBitVec_and, BitVec.and_assoc]

theorem prog0 {m : Mem} {p : Int} {ds : List UInt8} (h : progE m p ds = 0) : validB m.1 m.2.length = true ∧ 0 ≤ p ∧ p + ds.length ≤ m.2.length := by
  unfold progE at h
  split at h
  · rename_i hv
    split at h
    · exact ⟨hv.1, hv.2, by omega⟩
    · cases h
  · cases h
theorem prog0_of {m : Mem} {p : Int} {ds : List UInt8} (h1 : validB m.1 m.2.length = true) (h2 : 0 ≤ p) (h3 : p + ds.length ≤ m.2.length) : progE m p ds = 0 := (prog_in h1 h2 (by omega)).1
theorem prog0_memo {m : Mem} {p : Int} {ds : List UInt8} (h : progE m p ds = 0) (f : Nat → UInt8 → UInt8) (q i : Nat) : progE (m.1, memo f m.2 q i) p ds = 0 := by
  obtain ⟨a, b, c⟩ := prog0 h
  exact prog0_of (by simpa [memo_length] using a) b (by simpa [memo_length] using c)

/-- from whatever memory in between, programming leads to the same memory -/
theorem memo_again (ds bs : List UInt8) (p i n : Nat) (hi : i ≤ n) : memo (andF ds) (memo (andF ds) bs p i) p n = memo (andF ds) bs p n := by
  refine bytes_ext (by simp [memo_length]) fun j hj => ?_
  rw [memo_length, memo_length] at hj
  rw [memo_get _ _ _ _ _ (by simpa [memo_length] using hj), memo_get _ _ _ _ _ hj, memo_get _ _ _ _ _ hj]
  by_cases h1 : p ≤ j ∧ j < p + n
  · rw [if_pos h1, if_pos h1]
    by_cases h2 : p ≤ j ∧ j < p + i
    · rw [if_pos h2]; exact u8_and_idem _ _
    · rw [if_neg h2]
  · rw [if_neg h1, if_neg h1, if_neg (by omega)]
theorem memo_order (d e bs : List UInt8) (p q n k : Nat) : memo (andF e) (memo (andF d) bs p n) q k = memo (andF d) (memo (andF e) bs q k) p n := by
  refine bytes_ext (by simp [memo_length]) fun j hj => ?_
  rw [memo_length, memo_length] at hj
  rw [memo_get (andF e) _ q _ _ (by simpa [memo_length] using hj), memo_get (andF d) bs _ _ _ hj, memo_get (andF d) _ p _ _ (by simpa [memo_length] using hj), memo_get (andF e) bs _ _ _ hj]
  by_cases h1 : p ≤ j ∧ j < p + n <;> by_cases h2 : q ≤ j ∧ j < q + k
  · rw [if_pos h2, if_pos h1, if_pos h1, if_pos h2]; exact u8_and_right _ _ _
  · rw [if_neg h2, if_pos h1, if_pos h1, if_neg h2]
  · rw [if_pos h2, if_neg h1, if_neg h1, if_pos h2]
  · rw [if_neg h2, if_neg h1, if_neg h1, if_neg h2]
/-- the bits that both have -/
def commonB (d e : List UInt8) (k : Nat) : List UInt8 := (List.range d.length).map fun i => if i < k ∧ i < e.length then d.getD i 0 &&& e.getD i 0 else d.getD i 0
@[simp] theorem commonB_length (d e : List UInt8) (k : Nat) : (commonB d e k).length = d.length := by simp [commonB]
theorem commonB_get (d e : List UInt8) (k j : Nat) (hj : j < d.length) : (commonB d e k).getD j 0 = if j < k ∧ j < e.length then d.getD j 0 &&& e.getD j 0 else d.getD j 0 := by
  rw [List.getD_eq_getElem?_getD]
  simp [commonB, hj]
theorem commonB_zero (d e : List UInt8) : commonB d e 0 = d := by
  refine bytes_ext (by simp) fun j hj => ?_
  rw [commonB_get _ _ _ _ (by simpa using hj), if_neg (by omega)]
theorem commonB_out (d e : List UInt8) (k : Nat) (hk : e.length ≤ k) : commonB d e (k + 1) = commonB d e k := by
  refine bytes_ext (by simp) fun j hj => ?_
  rw [commonB_get _ _ _ _ (by simpa using hj), commonB_get _ _ _ _ (by simpa using hj)]
  by_cases h : j < k ∧ j < e.length
  · rw [if_pos h, if_pos (by omega)]
  · rw [if_neg h, if_neg (by omega)]
theorem commonB_next (d e : List UInt8) (k : Nat) (hk : k < e.length) (hd : k < d.length) : commonB d e (k + 1) = (commonB d e k).set k (d.getD k 0 &&& e.getD k 0) := by
  refine bytes_ext (by simp) fun j hj => ?_
  have hj' : j < d.length := by simpa using hj
  rw [commonB_get _ _ _ _ hj']
  by_cases h : j = k
  · subst h
    rw [if_pos (by omega), List.getD_eq_getElem?_getD (l := List.set _ _ _), List.getElem?_set_self (by simpa using hd)]; rfl
  · rw [List.getD_eq_getElem?_getD (l := List.set _ _ _), List.getElem?_set_ne (by omega), ← List.getD_eq_getElem?_getD (l := commonB _ _ _), commonB_get _ _ _ _ hj']
    by_cases h' : j < k ∧ j < e.length
    · rw [if_pos h', if_pos (by omega)]
    · rw [if_neg h', if_neg (by omega)]
theorem memo_common (d e bs : List UInt8) (p : Nat) (he : e.length ≤ d.length) : memo (andF e) (memo (andF d) bs p d.length) p e.length = memo (andF (commonB d e d.length)) bs p d.length := by
  refine bytes_ext (by simp [memo_length]) fun j hj => ?_
  rw [memo_length, memo_length] at hj
  rw [memo_get _ _ _ _ _ (by simpa [memo_length] using hj), memo_get _ _ _ _ _ hj, memo_get _ _ _ _ _ hj]
  by_cases h1 : p ≤ j ∧ j < p + d.length
  · rw [if_pos h1, if_pos h1]
    simp only [andF]
    rw [commonB_get _ _ _ _ (by omega)]
    by_cases h2 : p ≤ j ∧ j < p + e.length
    · rw [if_pos h2, if_pos (by omega)]; exact u8_and_assoc _ _ _
    · rw [if_neg h2, if_neg (by omega)]
  · rw [if_neg h1, if_neg h1, if_neg (by omega)]
theorem memo_erase (bs : List UInt8) (p i n : Nat) (hi : i ≤ n) : memo eraF (memo eraF bs p i) p n = memo eraF bs p n := by
  refine bytes_ext (by simp [memo_length]) fun j hj => ?_
  rw [memo_length, memo_length] at hj
  rw [memo_get _ _ _ _ _ (by simpa [memo_length] using hj), memo_get _ _ _ _ _ hj, memo_get _ _ _ _ _ hj]
  by_cases h1 : p ≤ j ∧ j < p + n
  · rw [if_pos h1, if_pos h1]; rfl
  · rw [if_neg h1, if_neg h1, if_neg (by omega)]
/-- a program in two parts -/
theorem memo_first (ds bs : List UInt8) (p k i : Nat) (hi : i ≤ k) (hk : k ≤ ds.length) : memo (andF (ds.take k)) bs p i = memo (andF ds) bs p i := by
  refine bytes_ext (by simp [memo_length]) fun j hj => ?_
  rw [memo_length] at hj
  rw [memo_get _ _ _ _ _ hj, memo_get _ _ _ _ _ hj]
  by_cases h1 : p ≤ j ∧ j < p + i
  · rw [if_pos h1, if_pos h1]
    simp only [andF]
    rw [List.getD_eq_getElem?_getD (l := List.take _ _), List.getD_eq_getElem?_getD (l := ds), List.getElem?_take, if_pos (by omega)]
  · rw [if_neg h1, if_neg h1]
theorem memo_second (ds bs : List UInt8) (p k i : Nat) (hk : k ≤ ds.length) : memo (andF (ds.drop k)) (memo (andF ds) bs p k) (p + k) i = memo (andF ds) bs p (k + i) := by
  refine bytes_ext (by simp [memo_length]) fun j hj => ?_
  rw [memo_length, memo_length] at hj
  rw [memo_get _ _ _ _ _ (by simpa [memo_length] using hj), memo_get _ _ _ _ _ hj, memo_get _ _ _ _ _ hj]
  by_cases h1 : p + k ≤ j ∧ j < p + k + i
  · rw [if_pos h1, if_neg (by omega), if_pos (by omega)]
    simp only [andF]
    rw [List.getD_eq_getElem?_getD (l := List.drop _ _), List.getD_eq_getElem?_getD (l := ds), List.getElem?_drop, show k + (j - (p + k)) = j - p from by omega]
  · rw [if_neg h1]
    by_cases h2 : p ≤ j ∧ j < p + k
    · rw [if_pos h2, if_pos (by omega)]
    · rw [if_neg h2, if_neg (by omega)]
theorem memos_parts (ds bs : List UInt8) (p k : Nat) (hk : k ≤ ds.length) :
    memos (andF (ds.take k)) bs p k ++ (memos (andF (ds.drop k)) (memo (andF (ds.take k)) bs p k) (p + k) (ds.length - k)).drop 1 = memos (andF ds) bs p ds.length := by
  apply List.ext_getElem?
  intro i
  rw [memo_first _ _ _ _ _ (Nat.le_refl _) hk]
  rcases Nat.lt_or_ge i (k + 1) with h | h
  · rw [List.getElem?_append_left (by simpa [memos_length] using h), memos_get _ _ _ _ _ h, memos_get _ _ _ _ _ (by omega), memo_first _ _ _ _ _ (by omega) hk]
  · rw [List.getElem?_append_right (by simpa [memos_length] using h), memos_length, List.getElem?_drop]
    rcases Nat.lt_or_ge i (ds.length + 1) with h2 | h2
    · rw [memos_get _ _ _ _ _ (by omega), memos_get _ _ _ _ _ h2, memo_second _ _ _ _ _ hk, show k + (1 + (i - (k + 1))) = i from by omega]
    · rw [List.getElem?_eq_none (by rw [memos_length]; omega), List.getElem?_eq_none (by rw [memos_length]; omega)]
/-- one change changes one byte -/
theorem memo_step (f : Nat → UInt8 → UInt8) (bs : List UInt8) (p i j : Nat) (hj : j < bs.length) (hne : j ≠ p + i) : (memo f bs p (i + 1)).getD j 0 = (memo f bs p i).getD j 0 := by
  rw [memo_get _ _ _ _ _ hj, memo_get _ _ _ _ _ hj]
  by_cases h : p ≤ j ∧ j < p + i
  · rw [if_pos h, if_pos (by omega)]
  · rw [if_neg h, if_neg (by omega)]
end Go.Proofs.Ytjfpnldijlbmiaa
