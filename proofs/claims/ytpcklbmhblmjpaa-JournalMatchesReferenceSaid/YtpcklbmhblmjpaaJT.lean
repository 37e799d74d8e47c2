/- Plain laws: what is found in the memories of Append and Rewrite. -/
import Derived.Test.YtpcklbmhblmjpaaJn
set_option maxRecDepth 100000
set_option linter.unusedVariables false
set_option linter.unusedSimpArgs false
namespace Go.Proofs.Ytpcklbmhblmjpaa

theorem ext_getD {a b : List UInt8} (hl : a.length = b.length) (h : ∀ j, j < b.length → a.getD j 0 = b.getD j 0) : a = b := by
  apply List.ext_getElem hl
  intro i h1 h2
  have := h i h2
  rwa [List.getD_eq_getElem?_getD, List.getD_eq_getElem?_getD, List.getElem?_eq_getElem h1, List.getElem?_eq_getElem h2] at this
theorem area_getD (m : Mem) {a j : Nat} (hj : j < hf m) : (areaB m a).getD j 0 = m.2.getD (a * hf m + j) 0 := by
  unfold areaB
  exact getD_drop_take m.2 (a * hf m) (hf m) j hj
/-- another memory of the same kind -/
def mk (m : Mem) (bs : List UInt8) : Mem := (m.1, bs)
theorem hf_mk (m : Mem) {bs : List UInt8} (h : bs.length = m.2.length) : hf (mk m bs) = hf m := by unfold hf mk; rw [h]
theorem jv_mk (m : Mem) {bs : List UInt8} (h : bs.length = m.2.length) : jvB (mk m bs).1 (mk m bs).2.length = jvB m.1 m.2.length := by unfold mk; rw [h]
theorem area_mk (m : Mem) {bs : List UInt8} (h : bs.length = m.2.length) {a j : Nat} (hj : j < hf m) : (areaB (mk m bs) a).getD j 0 = bs.getD (a * hf m + j) 0 := by
  rw [area_getD (mk m bs) (by rw [hf_mk m h]; exact hj), hf_mk m h]; rfl
theorem area_same (m : Mem) {bs : List UInt8} (h : bs.length = m.2.length) {a : Nat} (ha : a ≤ 1) (hs : ∀ j, j < hf m → bs.getD (a * hf m + j) 0 = m.2.getD (a * hf m + j) 0) : areaB (mk m bs) a = areaB m a := by
  apply ext_getD
  · rw [areaB_length _ ha, areaB_length _ ha, hf_mk m h]
  · intro j hj
    rw [areaB_length _ ha] at hj
    rw [area_mk m h hj, area_getD m hj, hs j hj]
theorem genB_eq {b b' : List UInt8} (h : ∀ j, j < 5 → b'.getD j 0 = b.getD j 0) : genB b' = genB b := by
  unfold genB; rw [h 1 (by omega), h 2 (by omega), h 3 (by omega), h 4 (by omega)]
/-- which area counts, if the heads stay, or the other's first byte is no 80 -/
theorem cur_keep {m m' : Mem} {a : Nat} (hc : curO m = some a) (h5 : ∀ j, j < 5 → (areaB m' a).getD j 0 = (areaB m a).getD j 0)
    (ho : (∀ j, j < 5 → (areaB m' (1 - a)).getD j 0 = (areaB m (1 - a)).getD j 0) ∨ (areaB m' (1 - a)).getD 0 0 ≠ 80) : curO m' = some a := by
  have ha := curO_le hc
  have g1 := genB_eq h5
  have z1 := h5 0 (by omega)
  have hcase : a = 0 ∨ a = 1 := by omega
  rcases hcase with rfl | rfl
  · simp only [Nat.sub_zero] at ho
    unfold curO at hc ⊢
    rw [z1, g1]
    rcases ho with ho | ho
    · rw [genB_eq ho, ho 0 (by omega)]; exact hc
    · rw [if_neg ho, if_neg ho]
      split at hc
      · rename_i h; rw [if_pos h]
      · split at hc <;> cases hc
  · simp only [Nat.sub_self] at ho
    unfold curO at hc ⊢
    rw [z1, g1]
    rcases ho with ho | ho
    · rw [genB_eq ho, ho 0 (by omega)]; exact hc
    · rw [if_neg ho]
      split at hc
      · split at hc
        · rename_i h; rw [if_pos h]
        · cases hc
      · split at hc
        · rename_i h; rw [if_pos h]
        · cases hc
theorem cur_80 {m : Mem} {a : Nat} (hc : curO m = some a) : (areaB m a).getD 0 0 = 80 := by
  unfold curO at hc
  repeat' split at hc
  all_goals first | (cases hc; assumption) | (injection hc with hc; subst hc; assumption) | cases hc
/-- the other area with a greater generation counts -/
theorem cur_new {m' : Mem} {a o : Nat} (ha : a ≤ 1) (ho : o = 1 - a) (h1 : (areaB m' a).getD 0 0 = 80) (h2 : (areaB m' o).getD 0 0 = 80) (hg : genB (areaB m' a) < genB (areaB m' o)) : curO m' = some o := by
  have hcase : a = 0 ∨ a = 1 := by omega
  rcases hcase with rfl | rfl
  · obtain rfl : o = 1 := by omega
    unfold curO; rw [if_pos h1, if_pos h2, if_pos hg]
  · obtain rfl : o = 0 := by omega
    unfold curO; rw [if_pos h2, if_pos h1, if_neg (by omega)]
theorem scan_is {b : List UInt8} {l : List Rec} {rest : List UInt8} (hl : ∀ d ∈ l, d.length ≤ 65535) (hb : b.drop 5 = recs l ++ rest) (hs : stops rest) : scanA b = some (l, 5 + room l) := by
  refine scan_recs l b b.length 5 rest hl hb hs ?_
  have := congrArg List.length hb
  simp only [List.length_append, List.length_drop, recs_length] at this
  omega
theorem take_same {b b' : List UInt8} {e : Nat} (hl : b'.length = b.length) (h : ∀ j, j < e → b'.getD j 0 = b.getD j 0) : b'.take e = b.take e := by
  apply ext_getD
  · simp [hl]
  · intro j hj
    have hj' : j < e := by simp at hj; omega
    rw [List.getD_eq_getElem?_getD, List.getElem?_take, if_pos hj', ← List.getD_eq_getElem?_getD, List.getD_eq_getElem?_getD (l := b.take e), List.getElem?_take, if_pos hj', ← List.getD_eq_getElem?_getD]
    exact h j hj'
theorem split5 {b b' : List UInt8} {l : List Rec} {e : Nat} (h : scanA b = some (l, e)) (h5 : 5 ≤ b.length) (hl : b'.length = b.length) (ht : ∀ j, j < e → b'.getD j 0 = b.getD j 0) : b'.drop 5 = recs l ++ b'.drop e := by
  obtain ⟨h1, h2, h3, h4, h6⟩ := scanA_facts h h5
  have t := take_same hl ht
  have e1 : (b.take e).drop 5 = recs l := by
    have : (b.drop 5).take (e - 5) = recs l := by rw [h3, List.take_left' (by rw [recs_length]; omega)]
    rw [List.drop_take]; exact this
  have e2 : b'.drop 5 = (b'.take e ++ b'.drop e).drop 5 := by rw [List.take_append_drop]
  rw [e2, List.drop_append_of_le_length (by simp [hl]; omega), t, e1]
theorem scan_prefix {b b' : List UInt8} {l : List Rec} {e : Nat} (h : scanA b = some (l, e)) (h5 : 5 ≤ b.length) (hl : b'.length = b.length) (ht : ∀ j, j < e → b'.getD j 0 = b.getD j 0) (hs : e < b'.length → b'.getD e 0 ≠ 80) : scanA b' = some (l, e) := by
  obtain ⟨h1, h2, h3, h4, h6⟩ := scanA_facts h h5
  rw [h2]
  rw [h2] at ht hs
  exact scan_is h1 (split5 (by rw [h, h2]) h5 hl ht) ((stops_drop b' _).2 fun hh => hs hh.1 hh.2)
theorem rest_get {b : List UInt8} {e : Nat} (h : restB b e = true) {j : Nat} (hj : e ≤ j) (hl : j < b.length) : b.getD j 0 = 255 := by
  unfold restB at h
  have := List.all_eq_true.1 h (b.getD j 0) (by
    rw [List.getD_eq_getElem?_getD, List.getElem?_eq_getElem hl]
    simp only [Option.getD_some]
    rw [List.mem_iff_getElem]
    exact ⟨j - e, by simp; omega, by simp [show e + (j - e) = j by omega]⟩)
  simpa using this
theorem rest_of {b : List UInt8} {e : Nat} (h : ∀ j, e ≤ j → j < b.length → b.getD j 0 = 255) : restB b e = true := by
  unfold restB
  rw [List.all_eq_true]
  intro x hx
  obtain ⟨i, hi, rfl⟩ := List.mem_iff_getElem.1 hx
  have := h (e + i) (by omega) (by simp at hi; omega)
  rw [List.getD_eq_getElem?_getD, List.getElem?_eq_getElem (by simp at hi; omega)] at this
  simp at this ⊢
  exact this
theorem stops_255 {b : List UInt8} {e : Nat} (h : ∀ j, e ≤ j → j < b.length → b.getD j 0 = 255) : stops (b.drop e) := by
  rw [stops_drop]
  rintro ⟨h1, h2⟩
  rw [h e (Nat.le_refl _) h1] at h2
  cases h2
theorem and255 (x : UInt8) : (255 : UInt8) &&& x = x := by
  apply UInt8.toNat_inj.1
  rw [UInt8.toNat_and]
  have : x.toNat < 256 := x.toNat_lt
  show 255 &&& x.toNat = x.toNat
  rw [show (255 : Nat) = 2 ^ 8 - 1 from rfl, Nat.and_comm, Nat.and_two_pow_sub_one_eq_mod]
  omega
theorem addB_one (x : List UInt8) (f : Nat → UInt8 → UInt8) (p n : Nat) : addB [x] f p n = memos f x p n := by
  unfold addB memos
  have : List.range (n + 1) = 0 :: (List.range n).map (· + 1) := List.range_succ_eq_map
  rw [this]
  simp [memo]
theorem addB_last (L : List (List UInt8)) (f : Nat → UInt8 → UInt8) (p n : Nat) (hL : L ≠ []) : (addB L f p n).getLastD [] = memo f (L.getLastD []) p n := by
  unfold addB
  cases n with
  | zero => simp [memos, memo]
  | succ n =>
    rw [memos_succ, List.drop_append_of_le_length (by simp [memos_length])]
    rw [← List.append_assoc, List.getLastD_concat]
theorem addB_mem {L : List (List UInt8)} {f : Nat → UInt8 → UInt8} {p n : Nat} {x : List UInt8} (h : x ∈ addB L f p n) : x ∈ L ∨ ∃ i, 1 ≤ i ∧ i ≤ n ∧ x = memo f (L.getLastD []) p i := by
  unfold addB at h
  rcases List.mem_append.1 h with h | h
  · exact .inl h
  · right
    rw [List.mem_iff_getElem?] at h
    obtain ⟨k, hk⟩ := h
    rw [List.getElem?_drop] at hk
    have hlt : 1 + k < n + 1 := by
      have := (List.getElem?_eq_some_iff.1 hk).1
      rwa [memos_length] at this
    rw [memos_get _ _ _ _ _ hlt] at hk
    injection hk with hk
    exact ⟨1 + k, by omega, by omega, hk.symm⟩
end Go.Proofs.Ytpcklbmhblmjpaa
