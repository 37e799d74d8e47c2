/- Plain: consecutive memories of a rewriting differ in at most one byte. -/
import Derived.Test.YtkeghidlolidmaaJX
set_option maxRecDepth 100000
set_option linter.unusedVariables false
set_option linter.unusedSimpArgs false
namespace Go.Proofs.Ytkeghidlolidmaa

/-- at most one byte differs -/
def Near (x y : List UInt8) : Prop := ∃ j0, ∀ j, j ≠ j0 → y.getD j 0 = x.getD j 0
theorem near_memo (f : Nat → UInt8 → UInt8) (bs : List UInt8) (p i : Nat) : Near (memo f bs p i) (memo f bs p (i + 1)) := by
  refine ⟨p + i, fun j hj => ?_⟩
  rw [memo, List.getD_eq_getElem?_getD, List.getElem?_set_ne (Ne.symm hj), ← List.getD_eq_getElem?_getD]
def Chn (L : List (List UInt8)) : Prop := ∀ i, i + 1 < L.length → Near (L.getD i []) (L.getD (i + 1) [])
theorem chn_addB {L : List (List UInt8)} (h : Chn L) (hne : L ≠ []) (f : Nat → UInt8 → UInt8) (p n : Nat) : Chn (addB L f p n) := by
  have hlen : (addB L f p n).length = L.length + n := by unfold addB; simp [memos_length]
  have hlo : ∀ i, i < L.length → (addB L f p n).getD i [] = L.getD i [] := fun i hi => by
    unfold addB
    rw [List.getD_eq_getElem?_getD, List.getElem?_append_left hi, ← List.getD_eq_getElem?_getD]
  have hhi : ∀ r, r < n → (addB L f p n).getD (L.length + r) [] = memo f (L.getLastD []) p (r + 1) := fun r hr => by
    unfold addB
    rw [List.getD_eq_getElem?_getD, List.getElem?_append_right (by omega), show L.length + r - L.length = r by omega, List.getElem?_drop, show 1 + r = r + 1 by omega, memos_get _ _ _ _ _ (by omega)]
    rfl
  have hl0 : 0 < L.length := List.length_pos_iff.2 hne
  have hlast : L.getD (L.length - 1) [] = L.getLastD [] := by
    rw [List.getD_eq_getElem?_getD, List.getLastD_eq_getLast?, List.getLast?_eq_getElem?]
  intro i hi
  rw [hlen] at hi
  by_cases h1 : i + 1 < L.length
  · rw [hlo i (by omega), hlo (i + 1) h1]; exact h i h1
  · by_cases h2 : i + 1 = L.length
    · rw [hlo i (by omega), h2]
      have := hhi 0 (by omega)
      rw [Nat.add_zero] at this
      rw [this, show i = L.length - 1 by omega, hlast]
      exact near_memo f (L.getLastD []) p 0
    · obtain ⟨r, hr⟩ : ∃ r, i = L.length + r := ⟨i - L.length, by omega⟩
      rw [hr, hhi r (by omega), show L.length + r + 1 = L.length + (r + 1) by omega, hhi (r + 1) (by omega)]
      exact near_memo f _ p (r + 1)
theorem chn_erase (m : Mem) (s : Nat) : ∀ (n i : Nat) (L : List (List UInt8)), Chn L → L ≠ [] → Chn (eraseB m s L i n) ∧ eraseB m s L i n ≠ []
  | 0, i, L, h, hne => ⟨h, hne⟩
  | n + 1, i, L, h, hne => by
    rw [eraseB]
    split
    · exact chn_erase m s n (i + 1) L h hne
    · exact chn_erase m s n (i + 1) _ (chn_addB h hne _ _ _) (addB_ne _ _ _ _ hne)
theorem chn_rew (m : Mem) (keep : List Rec) : Chn (rewB m keep) := by
  unfold rewB
  have h0 : Chn [m.2] := fun i hi => by simp at hi
  obtain ⟨h1, h2⟩ := chn_erase m m.1.toNat (hf m / m.1.toNat) (otherA m * (hf m / m.1.toNat)) [m.2] h0 (by simp)
  exact chn_addB (chn_addB h1 h2 _ _ _) (addB_ne _ _ _ _ h2) _ _ _
/-- how many of the first k bytes differ -/
def diffN (x y : List UInt8) : Nat → Nat
  | 0 => 0
  | k + 1 => diffN x y k + (if y.getD k 0 = x.getD k 0 then 0 else 1)
theorem diff_near {x y : List UInt8} (h : Near x y) : ∀ k, diffN x y k ≤ 1 := by
  obtain ⟨j0, hj⟩ := h
  have key : ∀ k, diffN x y k ≤ (if j0 < k then 1 else 0) := by
    intro k
    induction k with
    | zero => simp [diffN]
    | succ k ih =>
      rw [diffN]
      by_cases hk : k = j0
      · subst hk
        rw [if_neg (by omega)] at ih
        rw [if_pos (by omega : k < k + 1)]
        split <;> omega
      · rw [if_pos (hj k hk)]
        by_cases h1 : j0 < k
        · rw [if_pos h1] at ih; rw [if_pos (by omega)]; omega
        · rw [if_neg h1] at ih; rw [if_neg (by omega)]; omega
  intro k
  have := key k
  split at this <;> omega
end Go.Proofs.Ytkeghidlolidmaa
