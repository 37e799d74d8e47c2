/- Cars that come and go, as plain data: their passes, in the order in which they leave. No program. -/
import Derived.Test.YthmipmdpdfdlaaaDoorTv
set_option maxRecDepth 100000
set_option linter.unusedVariables false
set_option linter.unusedSimpArgs false
namespace Go.Proofs.YthmipmdpdfdlaaaDoor

/-- a car: its plate, how it is read at the exit, how long after the one before it comes, how long it stays -/
structure Car where
  p : ByteArray
  r : ByteArray
  wt : UInt8
  st : UInt8
def car0 : Car := ⟨ByteArray.empty, ByteArray.empty, 0, 0⟩
/-- the minute in which k cars have come -/
def mC (l : List Car) : Nat → Nat
  | 0 => 0
  | k + 1 => mC l k + (l.getD k car0).wt.toNat
def eOf (l : List Car) (i : Nat) : Pas := ((l.getD i car0).p, (mC l (i + 1) : Int))
def xOf (l : List Car) (i : Nat) : Pas := ((l.getD i car0).r, ((mC l (i + 1) + 1 + (l.getD i car0).st.toNat : Nat) : Int))
/-- where a pass is put: behind all that are not later -/
def posI (xs : List Pas) (m : Int) : Nat → Nat
  | 0 => 0
  | k + 1 => if m < (xs.getD k ps0).2 then posI xs m k else k + 1
theorem posI_le (xs : List Pas) (m : Int) : ∀ k, posI xs m k ≤ k
  | 0 => Nat.le_refl _
  | k + 1 => by
    have := posI_le xs m k
    rw [posI]; split <;> omega
theorem posI_hi (xs : List Pas) (m : Int) : ∀ k i, posI xs m k ≤ i → i < k → m < (xs.getD i ps0).2
  | 0, i, _, h => absurd h (Nat.not_lt_zero _)
  | k + 1, i, h1, h2 => by
    rw [posI] at h1
    split at h1
    · rename_i h
      by_cases hik : i = k
      · subst hik; exact h
      · exact posI_hi xs m k i h1 (by omega)
    · omega
theorem posI_lo (xs : List Pas) (m : Int) : ∀ k, 0 < posI xs m k → (xs.getD (posI xs m k - 1) ps0).2 ≤ m
  | 0, h => absurd h (Nat.not_lt_zero _)
  | k + 1, h => by
    rw [posI] at h ⊢
    split at h
    · rename_i h1
      rw [if_pos h1]; exact posI_lo xs m k h
    · rename_i h1
      rw [if_neg h1]; simp only [Nat.add_sub_cancel]; omega
/-- the cars in the order in which they leave -/
def cI (l : List Car) : Nat → List Nat
  | 0 => []
  | n + 1 => (cI l n).take (posI ((cI l n).map (xOf l)) (xOf l n).2 (cI l n).length) ++ n :: (cI l n).drop (posI ((cI l n).map (xOf l)) (xOf l n).2 (cI l n).length)
theorem cI_perm (l : List Car) : ∀ n, (cI l n).Perm (List.range n)
  | 0 => List.Perm.refl _
  | n + 1 => by
    rw [cI, List.range_succ]
    refine (List.perm_middle).trans ?_
    rw [List.take_append_drop]
    exact ((cI_perm l n).cons n).trans (List.perm_append_singleton n (List.range n)).symm
theorem cI_length (l : List Car) (n : Nat) : (cI l n).length = n := by
  rw [(cI_perm l n).length_eq, List.length_range]
theorem cI_mem (l : List Car) (n i : Nat) : i ∈ cI l n ↔ i < n := by
  rw [(cI_perm l n).mem_iff, List.mem_range]
theorem cI_nodup (l : List Car) (n : Nat) : (cI l n).Nodup := (cI_perm l n).nodup_iff.2 List.nodup_range
theorem getD_map {α : Type} (f : α → Pas) (c : List α) {i : Nat} (h : i < c.length) : (c.map f).getD i ps0 = f c[i] := by
  rw [List.getD_eq_getElem?_getD]; simp [h]
theorem cI_sorted (l : List Car) : ∀ n, ((cI l n).map (xOf l)).Pairwise (fun p q => p.2 ≤ q.2)
  | 0 => List.Pairwise.nil
  | n + 1 => by
    have ih := cI_sorted l n
    obtain ⟨c, hc⟩ : ∃ c, cI l n = c := ⟨_, rfl⟩
    obtain ⟨k, hk⟩ : ∃ k, posI (c.map (xOf l)) (xOf l n).2 c.length = k := ⟨_, rfl⟩
    have hkl : k ≤ c.length := by rw [← hk]; exact posI_le _ _ _
    have hhi : ∀ i, k ≤ i → (h : i < c.length) → (xOf l n).2 < (xOf l c[i]).2 := fun i h1 h2 => by
      have := posI_hi (c.map (xOf l)) (xOf l n).2 c.length i (by rw [hk]; exact h1) h2
      rwa [getD_map _ _ h2] at this
    have hlo : ∀ i, i < k → (h : i < c.length) → (xOf l c[i]).2 ≤ (xOf l n).2 := fun i h1 h2 => by
      have h3 := posI_lo (c.map (xOf l)) (xOf l n).2 c.length (by omega)
      rw [hk, getD_map _ _ (show k - 1 < c.length by omega)] at h3
      rw [hc, List.pairwise_iff_getElem] at ih
      by_cases hik : i = k - 1
      · subst hik; exact h3
      · have := ih i (k - 1) (by simpa using h2) (by simp; omega) (by omega)
        simp only [List.getElem_map] at this
        exact Int.le_trans this h3
    rw [cI, hc, hk, List.map_append, List.map_cons, List.pairwise_append]
    rw [hc] at ih
    refine ⟨?_, ?_, ?_⟩
    · exact ih.sublist (by rw [List.map_take]; exact List.take_sublist _ _)
    · rw [List.pairwise_cons]
      refine ⟨fun q hq => ?_, ih.sublist (by rw [List.map_drop]; exact List.drop_sublist _ _)⟩
      obtain ⟨j, hj, rfl⟩ := List.mem_map.1 hq
      obtain ⟨i, hi, rfl⟩ := List.mem_iff_getElem.1 hj
      rw [List.getElem_drop]
      exact Int.le_of_lt (hhi (k + i) (by omega) (by simp at hi; omega))
    · intro p hp q hq
      obtain ⟨j, hj, rfl⟩ := List.mem_map.1 hp
      obtain ⟨i, hi, rfl⟩ := List.mem_iff_getElem.1 hj
      rw [List.getElem_take]
      have h1 : (xOf l (c[i]'(by simp at hi; omega))).2 ≤ (xOf l n).2 := hlo i (by simp at hi; omega) (by simp at hi; omega)
      rcases List.mem_cons.1 hq with rfl | hq
      · exact h1
      · obtain ⟨j', hj', rfl⟩ := List.mem_map.1 hq
        obtain ⟨i', hi', rfl⟩ := List.mem_iff_getElem.1 hj'
        rw [List.getElem_drop]
        exact Int.le_trans h1 (Int.le_of_lt (hhi (k + i') (by omega) (by simp at hi'; omega)))

/-! ### misread plates -/
def esK (l : List Car) (n : Nat) : List Pas := (List.range n).map (eOf l)
def xsK (l : List Car) (n : Nat) : List Pas := (cI l n).map (xOf l)
theorem esK_length (l : List Car) (n : Nat) : (esK l n).length = n := by simp [esK]
theorem xsK_length (l : List Car) (n : Nat) : (xsK l n).length = n := by simp [xsK, cI_length]
theorem mC_le (l : List Car) : ∀ k, mC l k ≤ 256 * k
  | 0 => Nat.le_refl _
  | k + 1 => by
    have h := mC_le l k
    have h1 := (l.getD k car0).wt.toNat_lt
    rw [mC]; omega
theorem mC_mono (l : List Car) {i j : Nat} (h : i ≤ j) : mC l i ≤ mC l j := by
  induction h with
  | refl => exact Nat.le_refl _
  | step h ih => exact Nat.le_trans ih (by rw [mC]; omega)
/-- all plates and readings are plates -/
def CarsOk (l : List Car) (n : Nat) : Prop := ∀ i, i < n → plB (l.getD i car0).p = true ∧ plB (l.getD i car0).r = true
theorem esK_valid {l : List Car} {n : Nat} (h : CarsOk l n) (hn : n ≤ 8) : mvB (esK l n) = true := by
  refine mvB_mk (by rw [esK_length]; exact hn) (fun p hp => ?_) ?_
  · simp only [esK, List.mem_map, List.mem_range] at hp
    obtain ⟨i, hi, rfl⟩ := hp
    have h2 := mC_le l (i + 1)
    exact ⟨(h i hi).1, by simp only [eOf]; omega, by simp only [eOf]; omega⟩
  · rw [esK, List.pairwise_map]
    refine List.Pairwise.imp ?_ (List.pairwise_lt_range (n := n))
    intro i j hij
    have h3 := mC_mono l (show i + 1 ≤ j + 1 by omega)
    simp only [eOf]; omega
theorem xsK_valid {l : List Car} {n : Nat} (h : CarsOk l n) (hn : n ≤ 8) : mvB (xsK l n) = true := by
  refine mvB_mk (by rw [xsK_length]; exact hn) (fun p hp => ?_) (cI_sorted l n)
  simp only [xsK, List.mem_map] at hp
  obtain ⟨i, hi, rfl⟩ := hp
  rw [cI_mem] at hi
  have h2 := mC_le l (i + 1)
  have h3 := (l.getD i car0).st.toNat_lt
  exact ⟨(h i hi).2, by simp only [xOf]; omega, by simp only [xOf]; omega⟩
theorem esK_getD (l : List Car) {n i : Nat} (h : i < n) : (esK l n).getD i ps0 = eOf l i := by
  rw [List.getD_eq_getElem?_getD]; simp [esK, h]
theorem xsK_getD (l : List Car) {n j : Nat} (h : j < n) : (xsK l n).getD j ps0 = xOf l ((cI l n)[j]'(by rw [cI_length]; exact h)) := by
  rw [xsK, getD_map]
/-- the exit of car i -/
def exK (l : List Car) (n i : Nat) : Nat := (cI l n).idxOf i
theorem exK_lt (l : List Car) {n i : Nat} (h : i < n) : exK l n i < n := by
  have := List.idxOf_lt_length_of_mem ((cI_mem l n i).2 h)
  rwa [cI_length] at this
theorem exK_get (l : List Car) {n i : Nat} (h : i < n) : (cI l n)[exK l n i]'(by rw [cI_length]; exact exK_lt l h) = i := by
  unfold exK
  exact List.getElem_idxOf _
theorem dsV_val {a b : ByteArray} (ha : plB a = true) (hb : plB b = true) : dsV a b = dist a.data.toList b.data.toList := by rw [dsV, if_pos ⟨ha, hb⟩]
/-- the sum of what is wrong -/
def wrK (l : List Car) : Nat → Int
  | 0 => 0
  | n + 1 => wrK l n + dsV (l.getD n car0).p (l.getD n car0).r
theorem tg_all (f : Nat → Nat) : ∀ (m k : Nat), (tg (fun i => some (f i)) m k).length = m ∧ ∀ i, i < m → (tg (fun i => some (f i)) m k)[i]? = some (k + i, f (k + i))
  | 0, k => ⟨rfl, fun i h => absurd h (Nat.not_lt_zero _)⟩
  | m + 1, k => by
    obtain ⟨h1, h2⟩ := tg_all f m (k + 1)
    refine ⟨by rw [tg]; simp [h1], fun i hi => ?_⟩
    rw [tg]
    simp only
    cases i with
    | zero => simp
    | succ i =>
      rw [List.getElem?_cons_succ, h2 i (by omega)]
      rw [show k + 1 + i = k + (i + 1) by omega]
theorem xsK_self (l : List Car) {n i : Nat} (h : i < n) : (xsK l n).getD (exK l n i) ps0 = xOf l i := by
  rw [xsK_getD l (exK_lt l h), exK_get l h]
theorem wt_wr (l : List Car) (n : Nat) : ∀ (m k : Nat), k + m ≤ n → wt (dsP (esK l n) (xsK l n)) (tg (fun i => some (exK l n i)) m k) + 10 * (m : Int) = wrK l (k + m) - wrK l k
  | 0, k, _ => by simp [tg, wt]
  | m + 1, k, h => by
    have ih := wt_wr l n m (k + 1) (by omega)
    rw [tg]
    simp only [wt]
    have e : dsP (esK l n) (xsK l n) k (exK l n k) = dsV (l.getD k car0).p (l.getD k car0).r := by
      rw [dsP, esK_getD l (by omega), xsK_self l (by omega)]; rfl
    rw [e, show k + (m + 1) = k + 1 + m by omega]
    have e2 : wrK l (k + 1) = wrK l k + dsV (l.getD k car0).p (l.getD k car0).r := rfl
    push_cast
    omega
/-- THE BEST LIST: each entry with the exit of its car -/
theorem misreads_best {l : List Car} {n : Nat} (hok : CarsOk l n) (h1 : ∀ i, i < n → dsV (l.getD i car0).p (l.getD i car0).r ≤ 1) (h3 : ∀ i, i < n → ∀ k, k < i → 3 ≤ dsV (l.getD i car0).p (l.getD k car0).p) {q : Prs} {c : Int} (h : BP (esK l n) (xsK l n) 0 (fun _ => false) q c) :
    q = tg (fun i => some (exK l n i)) n 0 ∧ c = wrK l n := by
  have hapart : ∀ i i', i < n → i' < n → i ≠ i' → 3 ≤ dist (l.getD i car0).p.data.toList (l.getD i' car0).p.data.toList := by
    intro i i' hi hi' hne
    rcases Nat.lt_or_ge i' i with hlt | hge
    · have := h3 i hi i' hlt
      rwa [dsV_val (hok i hi).1 (hok i' hi').1] at this
    · have := h3 i' hi' i (by omega)
      rw [dsV_val (hok i' hi').1 (hok i hi).1, dist_symm] at this
      exact this
  unfold BP at h
  have h' := bst_dom (t := fun i => some (exK l n i)) (fun i hi => ?_) (fun i i' j hi hi' e1 e2 => ?_) h
  · rw [esK_length, xsK_length] at h'
    refine ⟨h'.1, h'.2.trans ?_⟩
    have := wt_wr l n n 0 (by omega)
    simp only [Nat.zero_add] at this
    have e : wrK l 0 = 0 := rfl
    omega
  · rw [esK_length] at hi
    have hd : dsP (esK l n) (xsK l n) i (exK l n i) = dsV (l.getD i car0).p (l.getD i car0).r := by
      rw [dsP, esK_getD l hi, xsK_self l hi]; rfl
    refine ⟨by rw [xsK_length]; exact exK_lt l hi, ?_, by rw [hd]; have := h1 i hi; omega, fun j' hj' hne _ => ?_⟩
    · rw [okP, esK_getD l hi, xsK_self l hi, decide_eq_true_iff]
      simp only [eOf, xOf]; omega
    · rw [xsK_length] at hj'
      rw [hd]
      obtain ⟨i', hi'⟩ : ∃ i', (cI l n)[j']'(by rw [cI_length]; exact hj') = i' := ⟨_, rfl⟩
      have hi'n : i' < n := by rw [← hi', ← cI_mem l n]; exact List.getElem_mem _
      have hii : i ≠ i' := fun e => by
        apply hne
        show j' = (cI l n).idxOf i
        rw [e, ← hi']
        first | exact ((cI_nodup l n).idxOf_getElem j' (by rw [cI_length]; exact hj')).symm | exact (List.idxOf_getElem (cI_nodup l n) j' (by rw [cI_length]; exact hj')).symm
      have hd' : dsP (esK l n) (xsK l n) i j' = dsV (l.getD i car0).p (l.getD i' car0).r := by
        rw [dsP, esK_getD l hi, xsK_getD l hj', hi']; rfl
      rw [hd', dsV_val (hok i hi).1 (hok i' hi'n).2]
      have a1 := h1 i hi
      have a2 := h1 i' hi'n
      rw [dsV_val (hok i' hi'n).1 (hok i' hi'n).2] at a2
      have a3 := hapart i i' hi hi'n hii
      have a4 := dist_tri (l.getD i car0).p.data.toList (l.getD i' car0).r.data.toList (l.getD i' car0).p.data.toList
      rw [dist_symm (l.getD i' car0).r.data.toList] at a4
      omega
  · rw [esK_length] at hi hi'
    have h8 := exK_get l hi
    have h9 := exK_get l hi'
    have e : exK l n i = exK l n i' := by
      simp only [Option.some.injEq] at e1 e2
      omega
    simp only [e] at h8
    exact h8.symm.trans h9
end Go.Proofs.YthmipmdpdfdlaaaDoor
