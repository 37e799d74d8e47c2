/- Passes that are valid; the visits of one plate; the plates of the non-vacuity check: as plain data. No program. -/
import Derived.Test.YthmipmdpdfdlaaaDoorTg
set_option maxRecDepth 100000
set_option linter.unusedVariables false
set_option linter.unusedSimpArgs false
namespace Go.Proofs.YthmipmdpdfdlaaaDoor

theorem mvF_iff : ∀ (ps : List Pas) (b : Int), mvF b ps = true ↔ (∀ p ∈ ps, plB p.1 = true ∧ b ≤ p.2 ∧ p.2 ≤ 52560000) ∧ ps.Pairwise (fun p q => p.2 ≤ q.2)
  | [], b => by simp [mvF]
  | p :: r, b => by
    simp only [mvF, Bool.and_eq_true, decide_eq_true_iff, mvF_iff r p.2, List.mem_cons, List.pairwise_cons]
    constructor
    · rintro ⟨h1, h2, h3, h4, h5⟩
      refine ⟨?_, fun q hq => (h4 q hq).2.1, h5⟩
      rintro q (rfl | hq)
      · exact ⟨h1, h2, h3⟩
      · have := h4 q hq; exact ⟨this.1, by omega, this.2.2⟩
    · rintro ⟨h1, h2, h3⟩
      have h := h1 p (Or.inl rfl)
      exact ⟨h.1, h.2.1, h.2.2, fun q hq => ⟨(h1 q (Or.inr hq)).1, h2 q hq, (h1 q (Or.inr hq)).2.2⟩, h3⟩
theorem mvB_mk {ps : List Pas} (h : ps.length ≤ 8) (h1 : ∀ p ∈ ps, plB p.1 = true ∧ 0 ≤ p.2 ∧ p.2 ≤ 52560000) (h2 : ps.Pairwise (fun p q => p.2 ≤ q.2)) : mvB ps = true := by
  rw [mvB, decide_eq_true h, Bool.true_and, mvF_iff]; exact ⟨h1, h2⟩
theorem pl_sz {s : ByteArray} (h : plB s = true) : s.size ≤ 9223372036854775807 := by
  have := ((plB_iff s).1 h).1.2; omega
theorem dsV_self {s : ByteArray} (h : plB s = true) : dsV s s = 0 := by rw [dsV, if_pos ⟨h, h⟩, dist_self]

/-! ### the best list of visits -/
section
variable {E : Nat} {ok : Nat → Nat → Bool} {d : Nat → Nat → Int}
theorem dg_only2 (hl : ∀ i j, i < E → j < E → ok i j = true → i ≤ j) : ∀ (n k : Nat) (U : Nat → Bool) (l : Prs), k + n = E → Ft E E ok k U l → l.length = n → l = dg n k ∧ ∀ i, k ≤ i → i < E → U i = false
  | 0, k, U, l, hk, h, hn => ⟨List.eq_nil_of_length_eq_zero hn, fun i h1 h2 => by omega⟩
  | n + 1, k, U, l, hk, h, hn => by
    cases l with
    | nil => simp at hn
    | cons p r =>
      obtain ⟨i, j⟩ := p
      obtain ⟨h1, h2, h3, h4, h5, h6⟩ := h
      simp only at h1 h2 h3 h4 h5 h6
      have hlen : r.length = n := by simpa using hn
      have := ft_len (by omega) h6
      have hik : i = k := by omega
      subst hik
      obtain ⟨g1, g2⟩ := dg_only2 hl n (i + 1) _ r (by omega) h6 hlen
      have hij := hl i j h2 h3 h5
      have hj : j = i := by
        rcases Nat.lt_or_ge i j with h | h
        · have := g2 j (by omega) h3
          simp [usd] at this
        · omega
      subst hj
      refine ⟨by rw [g1]; rfl, fun q hq1 hq2 => ?_⟩
      rcases Nat.lt_or_ge j q with h | h
      · have := g2 q (by omega) hq2
        simp [usd] at this
        exact this.1
      · have : q = j := by omega
        subst this; exact h4
theorem bst_visits2 (hl : ∀ i j, i < E → j < E → ok i j = true → i ≤ j) (ho : ∀ i, i < E → ok i i = true) (hd : ∀ i j, i < E → j < E → d i j = 0) {l : Prs} {n : Int} (h : Bst E E ok d 0 (fun _ => false) l n) : l = dg E 0 ∧ n = 0 := by
  obtain ⟨h1, h2, h3⟩ := h
  have hf := dg_fit ho (Nat.le_refl _) E 0 (fun _ => false) (by omega) fun _ _ => rfl
  have h4 := h3 _ hf
  have e0 : cst E E d 0 (fun _ => false) (dg E 0) = 0 := by
    rw [cst, dg_sm (fun i hi => hd i i hi hi) E 0 (by omega), dg_length, fre_none]; omega
  have hs : ∀ (m : Prs) (k : Nat) (U : Nat → Bool), Ft E E ok k U m → sm d m = 0 := by
    intro m
    induction m with
    | nil => intros; rfl
    | cons p r ih =>
      intro k U hm
      rw [sm, ih _ _ hm.2.2.2.2.2, hd _ _ hm.2.1 hm.2.2.1]; rfl
  have h5 := ft_len (Nat.zero_le _) h1
  rw [e0, h2, cst, hs l _ _ h1, fre_none] at h4
  have hlen : l.length = E := by omega
  obtain ⟨g, _⟩ := dg_only2 hl E 0 _ l (by omega) h1 hlen
  exact ⟨g, by rw [h2, g]; exact e0⟩
theorem dg_get : ∀ (n k i : Nat), i < n → (dg n k)[i]? = some (k + i, k + i)
  | 0, _, _, h => absurd h (Nat.not_lt_zero _)
  | n + 1, k, 0, _ => by simp [dg]
  | n + 1, k, i + 1, h => by
    rw [dg, List.getElem?_cons_succ, dg_get n (k + 1) i (by omega)]
    congr 2 <;> omega
end

/-! ### visits -/
/-- the minute after k visits -/
def mAt (l : List (UInt8 × UInt8)) : Nat → Nat
  | 0 => 0
  | k + 1 => mAt l k + (l.getD k (0, 0)).1.toNat + 1 + (l.getD k (0, 0)).2.toNat
def eAt (l : List (UInt8 × UInt8)) (k : Nat) : Nat := mAt l k + (l.getD k (0, 0)).1.toNat
def vE (s : ByteArray) (l : List (UInt8 × UInt8)) (n : Nat) : List Pas := (List.range n).map fun i => (s, (eAt l i : Int))
def vX (s : ByteArray) (l : List (UInt8 × UInt8)) (n : Nat) : List Pas := (List.range n).map fun i => (s, (mAt l (i + 1) : Int))
theorem vE_succ (s : ByteArray) (l : List (UInt8 × UInt8)) (n : Nat) : vE s l (n + 1) = vE s l n ++ [(s, (eAt l n : Int))] := by simp [vE, List.range_succ]
theorem vX_succ (s : ByteArray) (l : List (UInt8 × UInt8)) (n : Nat) : vX s l (n + 1) = vX s l n ++ [(s, (mAt l (n + 1) : Int))] := by simp [vX, List.range_succ]
theorem vE_length (s : ByteArray) (l : List (UInt8 × UInt8)) (n : Nat) : (vE s l n).length = n := by simp [vE]
theorem vX_length (s : ByteArray) (l : List (UInt8 × UInt8)) (n : Nat) : (vX s l n).length = n := by simp [vX]
theorem mAt_le (l : List (UInt8 × UInt8)) : ∀ k, mAt l k ≤ 600 * k
  | 0 => Nat.le_refl _
  | k + 1 => by
    have h := mAt_le l k
    have h1 := (l.getD k (0, 0)).1.toNat_lt
    have h2 := (l.getD k (0, 0)).2.toNat_lt
    rw [mAt]; omega
theorem mAt_mono (l : List (UInt8 × UInt8)) {i j : Nat} (h : i ≤ j) : mAt l i ≤ mAt l j := by
  induction h with
  | refl => exact Nat.le_refl _
  | step h ih => exact Nat.le_trans ih (by rw [mAt]; omega)
theorem eAt_le (l : List (UInt8 × UInt8)) (k : Nat) : mAt l k ≤ eAt l k ∧ eAt l k < mAt l (k + 1) := by
  unfold eAt; rw [mAt]; omega
theorem vE_valid {s : ByteArray} (hs : plB s = true) (l : List (UInt8 × UInt8)) {n : Nat} (hn : n ≤ 8) : mvB (vE s l n) = true := by
  refine mvB_mk (by rw [vE_length]; exact hn) (fun p hp => ?_) ?_
  · simp only [vE, List.mem_map, List.mem_range] at hp
    obtain ⟨i, hi, rfl⟩ := hp
    have h1 := eAt_le l i
    have h2 := mAt_le l (i + 1)
    exact ⟨hs, by simp only; omega, by simp only; omega⟩
  · rw [vE, List.pairwise_map]
    refine List.Pairwise.imp ?_ (List.pairwise_lt_range (n := n))
    intro i j hij
    have h1 := eAt_le l i
    have h2 := eAt_le l j
    have h3 := mAt_mono l (show i + 1 ≤ j by omega)
    simp only; omega
theorem vX_valid {s : ByteArray} (hs : plB s = true) (l : List (UInt8 × UInt8)) {n : Nat} (hn : n ≤ 8) : mvB (vX s l n) = true := by
  refine mvB_mk (by rw [vX_length]; exact hn) (fun p hp => ?_) ?_
  · simp only [vX, List.mem_map, List.mem_range] at hp
    obtain ⟨i, hi, rfl⟩ := hp
    have h2 := mAt_le l (i + 1)
    exact ⟨hs, by simp only; omega, by simp only; omega⟩
  · rw [vX, List.pairwise_map]
    refine List.Pairwise.imp ?_ (List.pairwise_lt_range (n := n))
    intro i j hij
    have h3 := mAt_mono l (show i + 1 ≤ j + 1 by omega)
    simp only; omega
theorem vE_getD (s : ByteArray) (l : List (UInt8 × UInt8)) {n i : Nat} (h : i < n) : (vE s l n).getD i ps0 = (s, (eAt l i : Int)) := by
  rw [List.getD_eq_getElem?_getD]; simp [vE, h]
theorem vX_getD (s : ByteArray) (l : List (UInt8 × UInt8)) {n i : Nat} (h : i < n) : (vX s l n).getD i ps0 = (s, (mAt l (i + 1) : Int)) := by
  rw [List.getD_eq_getElem?_getD]; simp [vX, h]
/-- THE BEST LIST OF VISITS: each entry with its own exit -/
theorem visits_best {s : ByteArray} (hs : plB s = true) (l : List (UInt8 × UInt8)) (n : Nat) {q : Prs} {c : Int} (h : BP (vE s l n) (vX s l n) 0 (fun _ => false) q c) : q = dg n 0 ∧ c = 0 := by
  unfold BP at h
  rw [vE_length, vX_length] at h
  refine bst_visits2 (fun i j hi hj ho => ?_) (fun i hi => ?_) (fun i j hi hj => ?_) h
  · rw [okP, vE_getD s l hi, vX_getD s l hj, decide_eq_true_iff] at ho
    simp only at ho
    rcases Nat.lt_or_ge j i with hji | hji
    · have h1 := eAt_le l i
      have h3 := mAt_mono l (show j + 1 ≤ i by omega)
      omega
    · exact hji
  · rw [okP, vE_getD s l hi, vX_getD s l hi, decide_eq_true_iff]
    have h1 := eAt_le l i
    simp only; omega
  · rw [dsP, vE_getD s l hi, vX_getD s l hj]; exact dsV_self hs

/-! ### the plates of the check -/
def pHO : ByteArray := ⟨#[72, 79, 49, 50]⟩
def pKX : ByteArray := ⟨#[75, 88, 57, 57]⟩
def pH0 : ByteArray := ⟨#[72, 48, 49, 50]⟩
def esC : List Pas := [(pHO, 1), (pKX, 2)]
def xsC : List Pas := [(pKX, 5), (pH0, 6)]
theorem esC_valid : mvB esC = true := by decide +kernel
theorem xsC_valid : mvB xsC = true := by decide +kernel
theorem plates_best {l : Prs} {n : Int} (h : BP esC xsC 0 (fun _ => false) l n) : l = [(0, 1), (1, 0)] ∧ n = 1 := by
  have d00 : dsP esC xsC 0 0 = 8 := by decide +kernel
  have d01 : dsP esC xsC 0 1 = 1 := by decide +kernel
  have d10 : dsP esC xsC 1 0 = 0 := by decide +kernel
  have d11 : dsP esC xsC 1 1 = 8 := by decide +kernel
  have h' := bst_dom (t := fun i => if i = 0 then some 1 else some 0) (fun i hi => ?_) (fun i i' j hi hi' h1 h2 => ?_) h
  · have e : tg (fun i => if i = 0 then some 1 else some 0) esC.length 0 = [(0, 1), (1, 0)] := rfl
    rw [e] at h'
    refine ⟨h'.1, h'.2.trans ?_⟩
    simp only [wt, d01, d10]
    rfl
  · have hi2 : i < 2 := hi
    rcases (by omega : i = 0 ∨ i = 1) with rfl | rfl
    · refine ⟨by decide, by decide +kernel, by rw [d01]; decide, fun j' hj' hne _ => ?_⟩
      have hj2 : j' < 2 := hj'
      obtain rfl : j' = 0 := by omega
      rw [d01, d00]; decide
    · refine ⟨by decide, by decide +kernel, by rw [d10]; decide, fun j' hj' hne _ => ?_⟩
      have hj2 : j' < 2 := hj'
      obtain rfl : j' = 1 := by omega
      rw [d10, d11]; decide
  · have a1 : i < 2 := hi
    have a2 : i' < 2 := hi'
    rcases (by omega : i = 0 ∨ i = 1) with rfl | rfl <;> rcases (by omega : i' = 0 ∨ i' = 1) with rfl | rfl <;> simp_all
end Go.Proofs.YthmipmdpdfdlaaaDoor
