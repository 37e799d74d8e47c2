/- Plain laws: what is found in the memories of Append and Rewrite. -/
import Derived.Test.YthebojaminploaaGreatDoorKJN
set_option maxRecDepth 100000
set_option linter.unusedVariables false
set_option linter.unusedSimpArgs false
namespace Go.Proofs.YthebojaminploaaGreatDoor

theorem ext_getD {a b : List UInt8} (hl : a.length = b.length) (h : ∀ j, j < b.length → a.getD j 0 = b.getD j 0) : a = b := by
  apply List.ext_getElem hl
  intro i h1 h2
  have := h i h2
  rwa [List.getD_eq_getElem?_getD, List.getD_eq_getElem?_getD, List.getElem?_eq_getElem h1, List.getElem?_eq_getElem h2] at this
theorem area_getD (m : Mem) {a j : Nat} (hj : j < hf m) : (areaB m a).getD j 0 = m.2.getD (a * hf m + j) 0 := by
  unfold areaB
  exact getD_drop_take m.2 (a * hf m) (hf m) j hj
/-- another memory of the same kind -/
def mk (m : Mem) (bs : List UInt8) : Mem := (m.1, bs)
theorem hf_mk (m : Mem) {bs : List UInt8} (h : bs.length = m.2.length) : hf (mk m bs) = hf m := by unfold hf mk; rw [h]
theorem jv_mk (m : Mem) {bs : List UInt8} (h : bs.length = m.2.length) : jvB (mk m bs).1 (mk m bs).2.length = jvB m.1 m.2.length := by unfold mk; rw [h]
theorem area_mk (m : Mem) {bs : List UInt8} (h : bs.length = m.2.length) {a j : Nat} (hj : j < hf m) : (areaB (mk m bs) a).getD j 0 = bs.getD (a * hf m + j) 0 := by
  rw [area_getD (mk m bs) (by rw [hf_mk m h]; exact hj), hf_mk m h]; rfl
theorem area_same (m : Mem) {bs : List UInt8} (h : bs.length = m.2.length) {a : Nat} (ha : a ≤ 1) (hs : ∀ j, j < hf m → bs.getD (a * hf m + j) 0 = m.2.getD (a * hf m + j) 0) : areaB (mk m bs) a = areaB m a := by
  apply ext_getD
  · rw [areaB_length _ ha, areaB_length _ ha, hf_mk m h]
  · intro j hj
    rw [areaB_length _ ha] at hj
    rw [area_mk m h hj, area_getD m hj, hs j hj]
theorem genB_eq {b b' : List UInt8} (h : ∀ j, j < 5 → b'.getD j 0 = b.getD j 0) : genB b' = genB b := by
  unfold genB; rw [h 1 (by omega), h 2 (by omega), h 3 (by omega), h 4 (by omega)]
/-- which area counts, if the heads stay, or the other's first byte is no 80 -/
theorem cur_keep {m m' : Mem} {a : Nat} (hc : curO m = some a) (h5 : ∀ j, j < 5 → (areaB m' a).getD j 0 = (areaB m a).getD j 0)
    (ho : (∀ j, j < 5 → (areaB m' (1 - a)).getD j 0 = (areaB m (1 - a)).getD j 0) ∨ (areaB m' (1 - a)).getD 0 0 ≠ 80) : curO m' = some a := by
  have ha := curO_le hc
  have g1 := genB_eq h5
  have z1 := h5 0 (by omega)
  have hcase : a = 0 ∨ a = 1 := by omega
  rcases hcase with rfl | rfl
  · simp only [Nat.sub_zero] at ho
    unfold curO at hc ⊢
    rw [z1, g1]
    rcases ho with ho | ho
    · rw [genB_eq ho, ho 0 (by omega)]; exact hc
    · rw [if_neg ho, if_neg ho]
      split at hc
      · rename_i h; rw [if_pos h]
      · split at hc <;> cases hc
  · simp only [Nat.sub_self] at ho
    unfold curO at hc ⊢
    rw [z1, g1]
    rcases ho with ho | ho
    · rw [genB_eq ho, ho 0 (by omega)]; exact hc
    · rw [if_neg ho]
      split at hc
      · split at hc
        · rename_i h; rw [if_pos h]
        · cases hc
      · split at hc
        · rename_i h; rw [if_pos h]
        · cases hc
theorem cur_80 {m : Mem} {a : Nat} (hc : curO m = some a) : (areaB m a).getD 0 0 = 80 := by
  unfold curO at hc
  repeat' split at hc
  all_goals first | (cases hc; assumption) | (injection hc with hc; subst hc; assumption) | cases hc
/-- the other area with a greater generation counts -/
theorem cur_new {m' : Mem} {a o : Nat} (ha : a ≤ 1) (ho : o = 1 - a) (h1 : (areaB m' a).getD 0 0 = 80) (h2 : (areaB m' o).getD 0 0 = 80) (hg : genB (areaB m' a) < genB (areaB m' o)) : curO m' = some o := by
  have hcase : a = 0 ∨ a = 1 := by omega
  rcases hcase with rfl | rfl
  · obtain rfl : o = 1 := by omega
    unfold curO; rw [if_pos h1, if_pos h2, if_pos hg]
  · obtain rfl : o = 0 := by omega
    unfold curO; rw [if_pos h2, if_pos h1, if_neg (by omega)]
theorem scan_is {b : List UInt8} {l : List Rec} {rest : List UInt8} (hl : ∀ d ∈ l, d.length ≤ 65535) (hb : b.drop 5 = recs l ++ rest) (hs : stops rest) : scanA b = some (l, 5 + room l) := by
  refine scan_recs l b b.length 5 rest hl hb hs ?_
  have := congrArg List.length hb
  simp only [List.length_append, List.length_drop, recs_length] at this
  omega
theorem take_same {b b' : List UInt8} {e : Nat} (hl : b'.length = b.length) (h : ∀ j, j < e → b'.getD j 0 = b.getD j 0) : b'.take e = b.take e := by
  apply ext_getD
  · simp [hl]
  · intro j hj
    have hj' : j < e := by simp at hj; omega
    rw [List.getD_eq_getElem?_getD, List.getElem?_take, if_pos hj', ← List.getD_eq_getElem?_getD, List.getD_eq_getElem?_getD (l := b.take e), List.getElem?_take, if_pos hj', ← List.getD_eq_getElem?_getD]
    exact h j hj'
theorem split5 {b b' : List UInt8} {l : List Rec} {e : Nat} (h : scanA b = some (l, e)) (h5 : 5 ≤ b.length) (hl : b'.length = b.length) (ht : ∀ j, j < e → b'.getD j 0 = b.getD j 0) : b'.drop 5 = recs l ++ b'.drop e := by
  obtain ⟨h1, h2, h3, h4, h6⟩ := scanA_facts h h5
  have t := take_same hl ht
  have e1 : (b.take e).drop 5 = recs l := by
    have : (b.drop 5).take (e - 5) = recs l := by rw [h3, List.take_left' (by rw [recs_length]; omega)]
    rw [List.drop_take]; exact this
  have e2 : b'.drop 5 = (b'.take e ++ b'.drop e).drop 5 := by rw [List.take_append_drop]
  rw [e2, List.drop_append_of_le_length (by simp [hl]; omega), t, e1]
theorem scan_prefix {b b' : List UInt8} {l : List Rec} {e : Nat} (h : scanA b = some (l, e)) (h5 : 5 ≤ b.length) (hl : b'.length = b.length) (ht : ∀ j, j < e → b'.getD j 0 = b.getD j 0) (hs : e < b'.length → b'.getD e 0 ≠ 80) : scanA b' = some (l, e) := by
  obtain ⟨h1, h2, h3, h4, h6⟩ := scanA_facts h h5
  rw [h2]
  rw [h2] at ht hs
  exact scan_is h1 (split5 (by rw [h, h2]) h5 hl ht) ((stops_drop b' _).2 fun hh => hs hh.1 hh.2)
theorem rest_get {b : List UInt8} {e : Nat} (h : restB b e = true) {j : Nat} (hj : e ≤ j) (hl : j < b.length) : b.getD j 0 = 255 := by
  unfold restB at h
  have := List.all_eq_true.1 h (b.getD j 0) (by
    rw [List.getD_eq_getElem?_getD, List.getElem?_eq_getElem hl]
    simp only [Option.getD_some]
    rw [List.mem_iff_getElem]
    exact ⟨j - e, by simp; omega, by simp [show e + (j - e) = j by omega]⟩)
  simpa using this
theorem rest_of {b : List UInt8} {e : Nat} (h : ∀ j, e ≤ j → j < b.length → b.getD j 0 = 255) : restB b e = true := by
  unfold restB
  rw [List.all_eq_true]
  intro x hx
  obtain ⟨i, hi, rfl⟩ := List.mem_iff_getElem.1 hx
  have := h (e + i) (by omega) (by simp at hi; omega)
  rw [List.getD_eq_getElem?_getD, List.getElem?_eq_getElem (by simp at hi; omega)] at this
  simp at this ⊢
  exact this
theorem stops_255 {b : List UInt8} {e : Nat} (h : ∀ j, e ≤ j → j < b.length → b.getD j 0 = 255) : stops (b.drop e) := by
  rw [stops_drop]
  rintro ⟨h1, h2⟩
  rw [h e (Nat.le_refl _) h1] at h2
  cases h2
theorem and255 (x : UInt8) : (255 : UInt8) &&& x = x := by
  apply UInt8.toNat_inj.1
  rw [UInt8.toNat_and]
  have : x.toNat < 256 := x.toNat_lt
  show 255 &&& x.toNat = x.toNat
  rw [show (255 : Nat) = 2 ^ 8 - 1 from rfl, Nat.and_comm, Nat.and_two_pow_sub_one_eq_mod]
  omega
theorem addB_one (x : List UInt8) (f : Nat → UInt8 → UInt8) (p n : Nat) : addB [x] f p n = memos f x p n := by
  unfold addB memos
  have : List.range (n + 1) = 0 :: (List.range n).map (· + 1) := List.range_succ_eq_map
  rw [this]
  simp [memo]
theorem addB_last (L : List (List UInt8)) (f : Nat → UInt8 → UInt8) (p n : Nat) (hL : L ≠ []) : (addB L f p n).getLastD [] = memo f (L.getLastD []) p n := by
  unfold addB
  cases n with
  | zero => simp [memos, memo]
  | succ n =>
    rw [memos_succ, List.drop_append_of_le_length (by simp [memos_length])]
    rw [← List.append_assoc, List.getLastD_concat]
theorem addB_mem {L : List (List UInt8)} {f : Nat → UInt8 → UInt8} {p n : Nat} {x : List UInt8} (h : x ∈ addB L f p n) : x ∈ L ∨ ∃ i, 1 ≤ i ∧ i ≤ n ∧ x = memo f (L.getLastD []) p i := by
  unfold addB at h
  rcases List.mem_append.1 h with h | h
  · exact .inl h
  · right
    rw [List.mem_iff_getElem?] at h
    obtain ⟨k, hk⟩ := h
    rw [List.getElem?_drop] at hk
    have hlt : 1 + k < n + 1 := by
      have := (List.getElem?_eq_some_iff.1 hk).1
      rwa [memos_length] at this
    rw [memos_get _ _ _ _ _ hlt] at hk
    injection hk with hk
    exact ⟨1 + k, by omega, by omega, hk.symm⟩
end Go.Proofs.YthebojaminploaaGreatDoor

/- Plain laws: appending and rewriting, memory by memory. -/
set_option maxRecDepth 100000
set_option linter.unusedVariables false
set_option linter.unusedSimpArgs false
namespace Go.Proofs.YthebojaminploaaGreatDoor

/-- a readable journal: its area, records, end -/
def Jr (m : Mem) (a : Nat) (l : List Rec) (e : Nat) : Prop := jvB m.1 m.2.length = true ∧ curO m = some a ∧ scanA (areaB m a) = some (l, e)
theorem Jr.look {m : Mem} {a : Nat} {l : List Rec} {e : Nat} (h : Jr m a l e) : lookE m = 0 ∧ lookC m = ⟨a, genB (areaB m a), l, e, restB (areaB m a) e⟩ := look_ok h.1 h.2.1 h.2.2
theorem Jr.of {m : Mem} (h : lookE m = 0) : ∃ a l e, Jr m a l e := by
  obtain ⟨a, l, e, h1, h2, h3, _⟩ := lookE_ok h
  exact ⟨a, l, e, h1, h2, h3⟩
theorem Jr.hld {m : Mem} {a : Nat} {l : List Rec} {e : Nat} (h : Jr m a l e) : hldB m l = true := by
  unfold hldB; rw [h.look.1, h.look.2]; simp
theorem Jr.facts {m : Mem} {a : Nat} {l : List Rec} {e : Nat} (h : Jr m a l e) : a ≤ 1 ∧ 16 ≤ hf m ∧ 2 * hf m = m.2.length ∧ e ≤ hf m ∧ e = 5 + room l ∧ (∀ d ∈ l, d.length ≤ 65535) ∧ hf m ≤ 2048 := by
  have ha := curO_le h.2.1
  have h32 := jv_len h.1
  have hev := jv_even h.1
  have h4 := jv_max h.1
  have hl := areaB_length m ha
  have hf2 : hf m = m.2.length / 2 := rfl
  obtain ⟨f1, f2, f3, f4, f5⟩ := scanA_facts h.2.2 (by omega)
  rw [hl] at f5
  exact ⟨ha, by omega, by omega, f5, f2, f1, by omega⟩
theorem apart {a H j j' : Nat} (ha : a ≤ 1) (hj : j < H) (hj' : j' < H) : (1 - a) * H + j ≠ a * H + j' := by
  have : a = 0 ∨ a = 1 := by omega
  rcases this with rfl | rfl <;> simp <;> omega
theorem inlen {a H j n : Nat} (ha : a ≤ 1) (hj : j < H) (hn : 2 * H = n) : a * H + j < n := by
  have : a = 0 ∨ a = 1 := by omega
  rcases this with rfl | rfl <;> simp <;> omega

theorem app_mid {m : Mem} {a : Nat} {l : List Rec} {e : Nat} (h : Jr m a l e) (hcl : restB (areaB m a) e = true) (ds : List UInt8) (i : Nat) (hi : e + 1 + i ≤ hf m) :
    Jr (mk m (memo (andF ds) m.2 (a * hf m + e + 1) i)) a l e ∧ genB (areaB (mk m (memo (andF ds) m.2 (a * hf m + e + 1) i)) a) = genB (areaB m a) := by
  obtain ⟨ha, h16, h2H, he, hel, hd, hb⟩ := h.facts
  obtain ⟨x, hx⟩ : ∃ x, x = memo (andF ds) m.2 (a * hf m + e + 1) i := ⟨_, rfl⟩
  rw [← hx]
  have hxl : x.length = m.2.length := by rw [hx, memo_length]
  have hg : ∀ j, j < m.2.length → (j < a * hf m + e + 1 ∨ a * hf m + e + 1 + i ≤ j) → x.getD j 0 = m.2.getD j 0 := fun j hj hr => by
    rw [hx, memo_get _ _ _ _ _ hj, if_neg (by omega)]
  have hA : ∀ j, j ≤ e → j < hf m → (areaB (mk m x) a).getD j 0 = (areaB m a).getD j 0 := fun j hj hj2 => by
    rw [area_mk m hxl hj2, area_getD m hj2, hg _ (inlen ha hj2 h2H) (.inl (by omega))]
  have h5 : ∀ j, j < 5 → (areaB (mk m x) a).getD j 0 = (areaB m a).getD j 0 := fun j hj => hA j (by omega) (by omega)
  have ho : ∀ j, j < 5 → (areaB (mk m x) (1 - a)).getD j 0 = (areaB m (1 - a)).getD j 0 := fun j hj => by
    rw [area_mk m hxl (by omega), area_getD m (by omega), hg _ (inlen (by omega) (by omega) h2H) ?_]
    have hc : a = 0 ∨ a = 1 := by omega
    rcases hc with rfl | rfl <;> simp <;> omega
  refine ⟨⟨by rw [jv_mk m hxl]; exact h.1, cur_keep h.2.1 h5 (.inl ho), ?_⟩, genB_eq h5⟩
  refine scan_prefix h.2.2 (by rw [areaB_length m ha]; omega) (by rw [areaB_length _ ha, areaB_length _ ha, hf_mk m hxl]) (fun j hj => hA j (by omega) (by omega)) ?_
  intro hl
  rw [areaB_length _ ha, hf_mk m hxl] at hl
  rw [hA e (Nat.le_refl _) hl, rest_get hcl (Nat.le_refl _) (by rw [areaB_length m ha]; exact hl)]
  decide

theorem recs_one (d : Rec) : recs [d] = recL d := by simp [recs]
theorem recL_cons (d : Rec) : recL d = 80 :: (recL d).tail := by simp [recL]
theorem app_end {m : Mem} {a : Nat} {l : List Rec} {e : Nat} (h : Jr m a l e) (hcl : restB (areaB m a) e = true) (d : Rec) (hd : d.length ≤ 65535) (hfit : e + 7 + d.length ≤ hf m) :
    Jr (mk m (memo (andF [80]) (memo (andF (recL d).tail) m.2 (a * hf m + e + 1) (6 + d.length)) (a * hf m + e) 1)) a (l ++ [d]) (e + 7 + d.length) ∧
    restB (areaB (mk m (memo (andF [80]) (memo (andF (recL d).tail) m.2 (a * hf m + e + 1) (6 + d.length)) (a * hf m + e) 1)) a) (e + 7 + d.length) = true ∧
    (memo (andF [80]) (memo (andF (recL d).tail) m.2 (a * hf m + e + 1) (6 + d.length)) (a * hf m + e) 1).length = m.2.length := by
  obtain ⟨ha, h16, h2H, he, hel, hds, hb⟩ := h.facts
  obtain ⟨y, hy⟩ : ∃ y, y = memo (andF (recL d).tail) m.2 (a * hf m + e + 1) (6 + d.length) := ⟨_, rfl⟩
  rw [← hy]
  obtain ⟨x, hx⟩ : ∃ x, x = memo (andF [80]) y (a * hf m + e) 1 := ⟨_, rfl⟩
  rw [← hx]
  have hyl : y.length = m.2.length := by rw [hy, memo_length]
  have hxl : x.length = m.2.length := by rw [hx, memo_length, hyl]
  have htl : (recL d).tail.length = 6 + d.length := by rw [List.length_tail, recL_length]; omega
  have hg : ∀ j, j < m.2.length → (j < a * hf m + e ∨ a * hf m + e + 7 + d.length ≤ j) → x.getD j 0 = m.2.getD j 0 := fun j hj hr => by
    rw [hx, memo_get _ _ _ _ _ (by rw [hyl]; exact hj), if_neg (by omega), hy, memo_get _ _ _ _ _ hj, if_neg (by omega)]
  have h255 : ∀ j, e ≤ j → j < hf m → m.2.getD (a * hf m + j) 0 = 255 := fun j hj hj2 => by
    rw [← area_getD m hj2, rest_get hcl hj (by rw [areaB_length m ha]; exact hj2)]
  have hr : ∀ j, j < 7 + d.length → x.getD (a * hf m + (e + j)) 0 = (recL d).getD j 0 := fun j hj => by
    have hin := inlen (a := a) (j := e + j) ha (by omega) h2H
    rw [hx, memo_get _ _ _ _ _ (by rw [hyl]; exact hin)]
    by_cases h0 : j = 0
    · subst h0
      rw [if_pos (by omega), hy, memo_get _ _ _ _ _ (by simpa using hin), if_neg (by omega), Nat.add_zero, h255 e (Nat.le_refl _) (by omega)]
      have e0 : a * hf m + e - (a * hf m + e) = 0 := by omega
      rw [e0]
      unfold andF
      rw [and255]
      simp [recL]
    · rw [if_neg (by omega), hy, memo_get _ _ _ _ _ hin, if_pos (by omega), h255 (e + j) (by omega) (by omega)]
      unfold andF
      rw [and255]
      have e1 : a * hf m + (e + j) - (a * hf m + e + 1) = j - 1 := by omega
      rw [e1]
      obtain ⟨k, rfl⟩ : ∃ k, j = k + 1 := ⟨j - 1, by omega⟩
      conv => rhs; rw [recL_cons]
      simp
  have hA : ∀ j, j < e → j < hf m → (areaB (mk m x) a).getD j 0 = (areaB m a).getD j 0 := fun j hj hj2 => by
    rw [area_mk m hxl hj2, area_getD m hj2, hg _ (inlen ha hj2 h2H) (.inl (by omega))]
  have h5 : ∀ j, j < 5 → (areaB (mk m x) a).getD j 0 = (areaB m a).getD j 0 := fun j hj => hA j (by omega) (by omega)
  have ho : ∀ j, j < 5 → (areaB (mk m x) (1 - a)).getD j 0 = (areaB m (1 - a)).getD j 0 := fun j hj => by
    rw [area_mk m hxl (by omega), area_getD m (by omega), hg _ (inlen (by omega) (by omega) h2H) ?_]
    have hc : a = 0 ∨ a = 1 := by omega
    rcases hc with rfl | rfl <;> simp <;> omega
  have hal : (areaB (mk m x) a).length = hf m := by rw [areaB_length _ ha, hf_mk m hxl]
  have hrest : ∀ j, e + 7 + d.length ≤ j → j < (areaB (mk m x) a).length → (areaB (mk m x) a).getD j 0 = 255 := fun j hj hj2 => by
    rw [hal] at hj2
    rw [area_mk m hxl hj2, hg _ (inlen ha hj2 h2H) (.inr (by omega)), h255 j (by omega) hj2]
  have hs1 := split5 h.2.2 (by rw [areaB_length m ha]; omega) (b' := areaB (mk m x) a) (by rw [hal, areaB_length m ha]) (fun j hj => hA j hj (by omega))
  have hs2 : (areaB (mk m x) a).drop e = recL d ++ (areaB (mk m x) a).drop (e + 7 + d.length) := by
    have t1 : ((areaB (mk m x) a).drop e).take (7 + d.length) = recL d := by
      apply ext_getD
      · rw [List.length_take, List.length_drop, hal, recL_length]; omega
      · intro j hj
        rw [recL_length] at hj
        rw [getD_drop_take _ _ _ _ hj, area_mk m hxl (by omega), hr j hj]
    have t2 : (areaB (mk m x) a).drop (e + 7 + d.length) = ((areaB (mk m x) a).drop e).drop (7 + d.length) := by rw [List.drop_drop, Nat.add_assoc]
    rw [t2, ← t1, List.take_append_drop]
  refine ⟨⟨by rw [jv_mk m hxl]; exact h.1, cur_keep h.2.1 h5 (.inl ho), ?_⟩, rest_of hrest, hxl⟩
  have e9 : e + 7 + d.length = 5 + room (l ++ [d]) := by rw [room_append]; simp [room]; omega
  rw [e9]
  refine scan_is (rest := (areaB (mk m x) a).drop (e + 7 + d.length)) ?_ ?_ (stops_255 hrest)
  · intro z hz
    rcases List.mem_append.1 hz with hz | hz
    · exact hds z hz
    · obtain rfl : z = d := by simpa using hz
      exact hd
  · rw [hs1, hs2, recs_append, recs_one, List.append_assoc]
/-- what holds of all memories of a clean appending -/
theorem app_list {m : Mem} {a : Nat} {l : List Rec} {e : Nat} (h : Jr m a l e) (hcl : restB (areaB m a) e = true) (d : Rec) (hd : d.length ≤ 65535) (hfit : e + 7 + d.length ≤ hf m) :
    ∃ F z, appB m d = F ++ [z] ∧ F ≠ [] ∧ F.length = 7 + d.length ∧ (∀ x ∈ F, Jr (mk m x) a l e ∧ genB (areaB (mk m x) a) = genB (areaB m a) ∧ x.length = m.2.length) ∧ Jr (mk m z) a (l ++ [d]) (e + 7 + d.length) ∧ restB (areaB (mk m z) a) (e + 7 + d.length) = true ∧ z.length = m.2.length := by
  have hE := app_end h hcl d hd hfit
  refine ⟨memos (andF (recL d).tail) m.2 (a * hf m + e + 1) (6 + d.length), memo (andF [80]) (memo (andF (recL d).tail) m.2 (a * hf m + e + 1) (6 + d.length)) (a * hf m + e) 1, ?_, ?_, by rw [memos_length]; omega, ?_, hE.1, hE.2.1, hE.2.2⟩
  · unfold appB
    rw [h.look.2]
    simp only
    rw [addB_one]
    have hl : (memos (andF (recL d).tail) m.2 (a * hf m + e + 1) (6 + d.length)).getLastD [] = memo (andF (recL d).tail) m.2 (a * hf m + e + 1) (6 + d.length) := by
      rw [← addB_one, addB_last _ _ _ _ (by simp)]; rfl
    unfold addB
    rw [hl]
    simp [memos, List.range_succ]
  · intro h9; have := congrArg List.length h9; rw [memos_length] at this; simp at this
  · intro x hx
    obtain ⟨i, hi, rfl⟩ := List.mem_map.1 hx
    have hi' : i < 6 + d.length + 1 := by simpa using hi
    have := app_mid h hcl (recL d).tail i (by omega)
    exact ⟨this.1, this.2, memo_length _ _ _ _⟩
end Go.Proofs.YthebojaminploaaGreatDoor

/- Plain laws: rewriting, memory by memory. -/
set_option maxRecDepth 100000
set_option linter.unusedVariables false
set_option linter.unusedSimpArgs false
namespace Go.Proofs.YthebojaminploaaGreatDoor

theorem lastMem {L : List (List UInt8)} (h : L ≠ []) : L.getLastD [] ∈ L := by
  obtain ⟨pr, x, rfl⟩ : ∃ pr x, L = pr ++ [x] := ⟨L.dropLast, L.getLast h, (List.dropLast_concat_getLast h).symm⟩
  rw [List.getLastD_concat]; simp
/-- bytes outside a range are as before; inside they are as before, or erased -/
def Er (m : List UInt8) (lo hi : Nat) (x : List UInt8) : Prop := x.length = m.length ∧ ∀ j, j < m.length → (x.getD j 0 = m.getD j 0 ∨ (lo ≤ j ∧ j < hi ∧ x.getD j 0 = 255))
theorem Er.refl (m : List UInt8) (lo hi : Nat) : Er m lo hi m := ⟨rfl, fun j _ => .inl rfl⟩
theorem Er.memo {m x : List UInt8} {lo hi : Nat} (h : Er m lo hi x) (p i : Nat) (h1 : lo ≤ p) (h2 : p + i ≤ hi) : Er m lo hi (memo eraF x p i) := by
  refine ⟨by rw [memo_length]; exact h.1, fun j hj => ?_⟩
  rw [memo_get _ _ _ _ _ (by rw [h.1]; exact hj)]
  split
  · rename_i hr; exact .inr ⟨by omega, by omega, rfl⟩
  · exact h.2 j hj
theorem eraseB_er (m : Mem) (s lo hi : Nat) : ∀ (n i : Nat) (L : List (List UInt8)), L ≠ [] → (∀ x ∈ L, Er m.2 lo hi x) → lo ≤ i * s → (i + n) * s ≤ hi → hi ≤ m.2.length →
    (∀ j, lo ≤ j → j < i * s → (L.getLastD []).getD j 0 = 255) →
    (eraseB m s L i n ≠ [] ∧ (∀ x ∈ eraseB m s L i n, Er m.2 lo hi x) ∧ (∀ j, lo ≤ j → j < (i + n) * s → ((eraseB m s L i n).getLastD []).getD j 0 = 255))
  | 0, i, L, hL, hE, _, _, _, h255 => ⟨hL, hE, by simpa [eraseB] using h255⟩
  | n + 1, i, L, hL, hE, hlo, hhi, hhl, h255 => by
    have hsn : (i + (n + 1)) * s = (i + 1 + n) * s := by congr 1; omega
    have his : (i + 1) * s = i * s + s := Nat.succ_mul i s
    have hle : (i + 1) * s ≤ (i + (n + 1)) * s := Nat.mul_le_mul_right _ (by omega)
    have hlast : L.getLastD [] ∈ L := lastMem hL
    have hEl := hE _ hlast
    rw [eraseB]
    split
    · rename_i hr
      have := eraseB_er m s lo hi n (i + 1) L hL hE (by omega) (by rw [← hsn]; exact hhi) hhl (fun j h1 h2 => by
        by_cases hj : j < i * s
        · exact h255 j h1 hj
        · have hjl : j < m.2.length := by omega
          rcases hEl.2 j hjl with hh | hh
          · rw [hh]
            have hg := rest_get (b := (m.2.drop (i * s)).take s) (e := 0) hr (j := j - i * s) (by omega) (by simp; omega)
            rw [getD_drop_take _ _ _ _ (by omega), show i * s + (j - i * s) = j by omega] at hg
            exact hg
          · exact hh.2.2)
      rw [hsn]; exact this
    · have := eraseB_er m s lo hi n (i + 1) (addB L eraF (i * s) s) (addB_ne _ _ _ _ hL) (fun x hx => by
          rcases addB_mem hx with hx | ⟨k, hk1, hk2, rfl⟩
          · exact hE x hx
          · exact hEl.memo _ _ hlo (by omega)) (by omega) (by rw [← hsn]; exact hhi) hhl (fun j h1 h2 => by
        rw [addB_last _ _ _ _ hL, memo_get _ _ _ _ _ (by rw [hEl.1]; omega)]
        split
        · rfl
        · exact h255 j h1 (by omega))
      rw [hsn]; exact this
/-- a byte that is erased in the last memory stays so -/
theorem eraseB_first (m : Mem) (s lo : Nat) : ∀ (n i : Nat) (L : List (List UInt8)), L ≠ [] → (∀ x ∈ L, x.length = m.2.length ∧ (x = m.2 ∨ x.getD lo 0 = 255)) → lo < m.2.length → (L.getLastD []).getD lo 0 = 255 →
    ∀ x ∈ eraseB m s L i n, x = m.2 ∨ x.getD lo 0 = 255
  | 0, i, L, hL, hE, _, h255 => fun x hx => (hE x (by simpa [eraseB] using hx)).2
  | n + 1, i, L, hL, hE, hlt, h255 => by
    have hlast : L.getLastD [] ∈ L := lastMem hL
    have hll := (hE _ hlast).1
    rw [eraseB]
    split
    · exact eraseB_first m s lo n (i + 1) L hL hE hlt h255
    · refine eraseB_first m s lo n (i + 1) (addB L eraF (i * s) s) (addB_ne _ _ _ _ hL) (fun x hx => ?_) hlt ?_
      · rcases addB_mem hx with hx | ⟨k, hk1, hk2, rfl⟩
        · exact hE x hx
        · refine ⟨by rw [memo_length]; exact hll, .inr ?_⟩
          rw [memo_get _ _ _ _ _ (by rw [hll]; exact hlt)]
          split
          · rfl
          · exact h255
      · rw [addB_last _ _ _ _ hL, memo_get _ _ _ _ _ (by rw [hll]; exact hlt)]
        split
        · rfl
        · exact h255
theorem erase_first (m : Mem) (s q p0 : Nat) (hs : 1 ≤ s) (hq : 1 ≤ q) (hl : (p0 + q) * s ≤ m.2.length) : ∀ x ∈ eraseB m s [m.2] p0 q, x = m.2 ∨ x.getD (p0 * s) 0 = 255 := by
  obtain ⟨n, rfl⟩ : ∃ n, q = n + 1 := ⟨q - 1, by omega⟩
  have hle : (p0 + 1) * s ≤ (p0 + (n + 1)) * s := Nat.mul_le_mul_right _ (by omega)
  have his : (p0 + 1) * s = p0 * s + s := Nat.succ_mul p0 s
  have hlt : p0 * s < m.2.length := by omega
  rw [eraseB]
  split
  · rename_i hr
    refine eraseB_first m s (p0 * s) n (p0 + 1) [m.2] (by simp) (fun x hx => ?_) hlt ?_
    · obtain rfl : x = m.2 := by simpa using hx
      exact ⟨rfl, .inl rfl⟩
    · have hg := rest_get (b := (m.2.drop (p0 * s)).take s) (e := 0) hr (j := 0) (by omega) (by simp; omega)
      rw [getD_drop_take _ _ _ _ (by omega), Nat.add_zero] at hg
      exact hg
  · refine eraseB_first m s (p0 * s) n (p0 + 1) (addB [m.2] eraF (p0 * s) s) (addB_ne _ _ _ _ (by simp)) (fun x hx => ?_) hlt ?_
    · rcases addB_mem hx with hx | ⟨k, hk1, hk2, rfl⟩
      · obtain rfl : x = m.2 := by simpa using hx
        exact ⟨rfl, .inl rfl⟩
      · refine ⟨memo_length _ _ _ _, .inr ?_⟩
        show (memo eraF m.2 (p0 * s) k).getD _ 0 = 255
        rw [memo_get _ _ _ _ _ hlt, if_pos (by omega)]; rfl
    · rw [addB_last _ _ _ _ (by simp)]
      show (memo eraF m.2 (p0 * s) s).getD _ 0 = 255
      rw [memo_get _ _ _ _ _ hlt, if_pos (by omega)]; rfl

theorem be4_getD (n : Nat) (h : n < 4294967296) (b : List UInt8) (hb : ∀ j, j < 4 → b.getD (j + 1) 0 = (be4 n).getD j 0) : genB b = n := by
  unfold genB
  rw [hb 0 (by omega), hb 1 (by omega), hb 2 (by omega), hb 3 (by omega)]
  have e : be4 n = [UInt8.ofNat (n / 16777216), UInt8.ofNat (n / 65536 % 256), UInt8.ofNat (n / 256 % 256), UInt8.ofNat (n % 256)] := rfl
  rw [e]
  exact num4_be4 n h

/-- what holds of all memories of a rewriting -/
theorem rew_list {m : Mem} {a : Nat} {l : List Rec} {e : Nat} (h : Jr m a l e) (keep : List Rec) (hfit : room keep + 5 ≤ hf m) (hg : genB (areaB m a) ≠ 4294967295) :
    ∃ F z, rewB m keep = F ++ [z] ∧ F ≠ [] ∧ F.length ≤ 100000 ∧ (∀ x ∈ F, x.length = m.2.length ∧ areaB (mk m x) a = areaB m a ∧ Jr (mk m x) a l e) ∧
      z.length = m.2.length ∧ areaB (mk m z) a = areaB m a ∧ Jr (mk m z) (1 - a) keep (5 + room keep) ∧ restB (areaB (mk m z) (1 - a)) (5 + room keep) = true := by
  obtain ⟨ha, h16, h2H, he, hel, hds, hb⟩ := h.facts
  have hgl : genB (areaB m a) < 4294967296 := num4_lt _ _ _ _
  obtain ⟨v1, v2, v3, v4, v5⟩ := (valid_iff _ _).1 (by have := h.1; unfold jvB at this; simp only [Bool.and_eq_true] at this; exact this.1.1)
  obtain ⟨s, hs⟩ := Int.eq_ofNat_of_zero_le (by omega : 0 ≤ m.1)
  have hs1 : 1 ≤ s := by omega
  obtain ⟨q, hq1, hq2, hq3, hq4⟩ := jv_parts (s := s) (n := m.2.length) (by rw [← hs]; exact h.1) hs1
  obtain ⟨o, ho⟩ : ∃ o, o = 1 - a := ⟨_, rfl⟩
  obtain ⟨H, hH⟩ : ∃ H, H = hf m := ⟨_, rfl⟩
  rw [← hH] at h16 h2H he hfit hb
  have hHq : H = q * s := by rw [hH]; exact hq2
  have hq0 : 1 ≤ q := by
    rcases Nat.eq_zero_or_pos q with h0 | h0
    · rw [h0] at hHq; omega
    · exact h0
  have hfs : hf m / m.1.toNat = q := by rw [hs]; exact hq4
  have hts : m.1.toNat = s := by rw [hs]; simp
  obtain ⟨txt, htxt⟩ : ∃ txt, txt = txtB m keep := ⟨_, rfl⟩
  have htx : txt = be4 (genB (areaB m a) + 1) ++ recs keep := by rw [htxt]; unfold txtB; rw [h.look.2]
  have htl : txt.length = 4 + room keep := by rw [htx, List.length_append, be4_length, recs_length]
  have hoA : otherA m = o := by unfold otherA; rw [h.look.2, ho]
  obtain ⟨E, hE⟩ : ∃ E, E = eraseB m s [m.2] (o * q) q := ⟨_, rfl⟩
  have hop : o * q * s = o * H := by rw [hHq, Nat.mul_assoc]
  have hop2 : (o * q + q) * s = o * H + H := by rw [Nat.add_mul, hop, hHq]
  have hole : o * H + H ≤ m.2.length := by
    have : o = 0 ∨ o = 1 := by omega
    rcases this with h0 | h0 <;> rw [h0] <;> omega
  have hEr := eraseB_er m s (o * H) (o * H + H) q (o * q) [m.2] (by simp) (fun x hx => by obtain rfl : x = m.2 := by simpa using hx
                                                                                          exact Er.refl _ _ _) (by omega) (by omega) hole (fun j h1 h2 => by omega)
  rw [← hE] at hEr
  have hEf := erase_first m s q (o * q) hs1 hq0 (by omega)
  rw [← hE, hop] at hEf
  obtain ⟨hEne, hEer, hE255⟩ := hEr
  rw [hop2] at hE255
  obtain ⟨z0, hz0⟩ : ∃ z0, z0 = E.getLastD [] := ⟨_, rfl⟩
  have hz0m : z0 ∈ E := by rw [hz0]; exact lastMem hEne
  have hz0e := hEer z0 hz0m
  rw [← hz0] at hE255
  -- the part up to the last byte
  obtain ⟨F, hF⟩ : ∃ F, F = addB E (andF txt) (o * H + 1) txt.length := ⟨_, rfl⟩
  have hFl : F.getLastD [] = memo (andF txt) z0 (o * H + 1) txt.length := by rw [hF, addB_last _ _ _ _ hEne, hz0]
  obtain ⟨y, hy⟩ : ∃ y, y = memo (andF txt) z0 (o * H + 1) txt.length := ⟨_, rfl⟩
  have hrew : rewB m keep = F ++ [memo (andF [80]) y (o * H) 1] := by
    unfold rewB
    rw [hoA, hts, ← hH, ← htxt, show H / s = q by rw [hH]; exact hq4, ← hE, ← hF]
    unfold addB
    rw [hFl, ← hy]
    simp [memos, List.range_succ]
  have hout : ∀ x : List UInt8, x.length = m.2.length → (∀ j, j < m.2.length → ¬ (o * H ≤ j ∧ j < o * H + H) → x.getD j 0 = m.2.getD j 0) → areaB (mk m x) a = areaB m a := fun x hxl hx => by
    refine area_same m hxl ha fun j hj => hx _ (inlen ha hj (by rw [← hH]; exact h2H)) ?_
    rw [← hH] at hj ⊢
    have hc : a = 0 ∨ a = 1 := by omega
    rcases hc with h0 | h0
    · rw [h0] at ho ⊢; rw [ho]; omega
    · rw [h0] at ho ⊢; rw [ho]; omega
  have hmid : ∀ x : List UInt8, x.length = m.2.length → (∀ j, j < m.2.length → ¬ (o * H ≤ j ∧ j < o * H + H) → x.getD j 0 = m.2.getD j 0) → (x = m.2 ∨ x.getD (o * H) 0 = 255) → x.length = m.2.length ∧ areaB (mk m x) a = areaB m a ∧ Jr (mk m x) a l e := fun x hxl hx h0 => by
    have hA := hout x hxl hx
    refine ⟨hxl, hA, by rw [jv_mk m hxl]; exact h.1, ?_, by rw [hA]; exact h.2.2⟩
    rcases h0 with rfl | h0
    · exact h.2.1
    · refine cur_keep h.2.1 (fun j _ => by rw [hA]) (.inr ?_)
      rw [← ho, area_mk m hxl (by omega), ← hH, Nat.add_zero, h0]
      decide
  have hyl : y.length = m.2.length := by rw [hy, memo_length]; exact hz0e.1
  have hyg : ∀ j, j < m.2.length → ¬ (o * H ≤ j ∧ j < o * H + H) → y.getD j 0 = m.2.getD j 0 := fun j hj hr => by
    rw [hy, memo_get _ _ _ _ _ (by rw [hz0e.1]; exact hj), if_neg (by omega)]
    rcases hz0e.2 j hj with h0 | h0
    · exact h0
    · exact absurd ⟨h0.1, h0.2.1⟩ hr
  obtain ⟨z, hz⟩ : ∃ z, z = memo (andF [80]) y (o * H) 1 := ⟨_, rfl⟩
  have hzl : z.length = m.2.length := by rw [hz, memo_length, hyl]
  have hzg : ∀ j, j < m.2.length → ¬ (o * H ≤ j ∧ j < o * H + H) → z.getD j 0 = m.2.getD j 0 := fun j hj hr => by
    rw [hz, memo_get _ _ _ _ _ (by rw [hyl]; exact hj), if_neg (by omega), hyg j hj hr]
  have hz1 : z.getD (o * H) 0 = 80 := by
    rw [hz, memo_get _ _ _ _ _ (by rw [hyl]; omega), if_pos (by omega), hy, memo_get _ _ _ _ _ (by rw [hz0e.1]; omega), if_neg (by omega), hE255 _ (by omega) (by omega)]
    unfold andF; rw [and255, Nat.sub_self]; rfl
  have hz2 : ∀ j, j < txt.length → z.getD (o * H + 1 + j) 0 = txt.getD j 0 := fun j hj => by
    rw [hz, memo_get _ _ _ _ _ (by rw [hyl]; omega), if_neg (by omega), hy, memo_get _ _ _ _ _ (by rw [hz0e.1]; omega), if_pos (by omega), hE255 _ (by omega) (by omega)]
    unfold andF; rw [and255, show o * H + 1 + j - (o * H + 1) = j by omega]
  have hz3 : ∀ j, 1 + txt.length ≤ j → j < H → z.getD (o * H + j) 0 = 255 := fun j hj hj2 => by
    rw [hz, memo_get _ _ _ _ _ (by rw [hyl]; omega), if_neg (by omega), hy, memo_get _ _ _ _ _ (by rw [hz0e.1]; omega), if_neg (by omega), hE255 _ (by omega) (by omega)]
  have hbl : (areaB (mk m z) o).length = H := by rw [areaB_length _ (by omega), hf_mk m hzl, ← hH]
  have hbg : ∀ j, j < H → (areaB (mk m z) o).getD j 0 = z.getD (o * H + j) 0 := fun j hj => by rw [area_mk m hzl (by rw [← hH]; exact hj), ← hH]
  have hgen : genB (areaB (mk m z) o) = genB (areaB m a) + 1 := by
    refine be4_getD _ (by omega) _ fun j hj => ?_
    rw [hbg _ (by omega), show o * H + (j + 1) = o * H + 1 + j by omega, hz2 j (by omega), htx, List.getD_eq_getElem?_getD, List.getElem?_append_left (by rw [be4_length]; exact hj), ← List.getD_eq_getElem?_getD]
  have hAz := hout z hzl hzg
  have hrest : ∀ j, 5 + room keep ≤ j → j < (areaB (mk m z) o).length → (areaB (mk m z) o).getD j 0 = 255 := fun j hj hj2 => by
    rw [hbl] at hj2
    rw [hbg j hj2, hz3 j (by omega) hj2]
  have hdrop : (areaB (mk m z) o).drop 5 = recs keep ++ (areaB (mk m z) o).drop (5 + room keep) := by
    have t1 : ((areaB (mk m z) o).drop 5).take (room keep) = recs keep := by
      apply ext_getD
      · rw [List.length_take, List.length_drop, hbl, recs_length]; omega
      · intro j hj
        rw [recs_length] at hj
        rw [getD_drop_take _ _ _ _ hj, hbg _ (by omega), show o * H + (5 + j) = o * H + 1 + (4 + j) by omega, hz2 _ (by omega), htx, List.getD_eq_getElem?_getD, List.getElem?_append_right (by rw [be4_length]; omega), be4_length, show 4 + j - 4 = j by omega, ← List.getD_eq_getElem?_getD]
    rw [← List.drop_drop, ← t1, List.take_append_drop]
  have hkl : ∀ d ∈ keep, d.length ≤ 65535 := fun d hd => by have := (room_ge keep).2 d hd; omega
  refine ⟨F, z, by rw [hrew, hz], ?_, ?_, ?_, hzl, hAz, ⟨by rw [jv_mk m hzl]; exact h.1, ?_, ?_⟩, ?_⟩
  · rw [hF]; exact addB_ne _ _ _ _ hEne
  · have hlen : ∀ (n i : Nat) (L : List (List UInt8)), (eraseB m s L i n).length ≤ L.length + n * s := by
      intro n
      induction n with
      | zero => intro i L; simp [eraseB]
      | succ n ih =>
        intro i L
        rw [eraseB, Nat.succ_mul]
        split
        · have := ih (i + 1) L; omega
        · have := ih (i + 1) (addB L eraF (i * s) s)
          have e : (addB L eraF (i * s) s).length = L.length + s := by unfold addB; simp [memos_length]
          omega
    have h1 := hlen q (o * q) [m.2]
    rw [← hE] at h1
    have h2 : F.length = E.length + txt.length := by rw [hF]; unfold addB; simp [memos_length]
    simp at h1
    omega
  · intro x hx
    rw [hF] at hx
    rcases addB_mem hx with hx | ⟨i, hi1, hi2, rfl⟩
    · have hxe := hEer x hx
      exact hmid x hxe.1 (fun j hj hr => (hxe.2 j hj).resolve_right (fun h0 => hr ⟨h0.1, h0.2.1⟩)) (hEf x hx)
    · rw [← hz0]
      refine hmid _ (by rw [memo_length]; exact hz0e.1) (fun j hj hr => ?_) (.inr ?_)
      · rw [memo_get _ _ _ _ _ (by rw [hz0e.1]; exact hj), if_neg (by omega)]
        exact (hz0e.2 j hj).resolve_right (fun h0 => hr ⟨h0.1, h0.2.1⟩)
      · rw [memo_get _ _ _ _ _ (by rw [hz0e.1]; omega), if_neg (by omega), hE255 _ (by omega) (by omega)]
  · rw [← ho]
    refine cur_new ha ho ?_ ?_ ?_
    · rw [hAz]; exact cur_80 h.2.1
    · rw [hbg 0 (by omega), Nat.add_zero, hz1]
    · rw [hAz, hgen]; omega
  · rw [← ho]; exact scan_is hkl hdrop (stops_255 hrest)
  · rw [← ho]; exact rest_of hrest
end Go.Proofs.YthebojaminploaaGreatDoor

/- Plain laws: what Append and Rewrite leave, whichever way. -/
set_option maxRecDepth 100000
set_option linter.unusedVariables false
set_option linter.unusedSimpArgs false
namespace Go.Proofs.YthebojaminploaaGreatDoor

/-- all memories but the last one: the records of before, the same area, generation; the last one: those of after -/
structure Steps (m : Mem) (L : List (List UInt8)) (F : List (List UInt8)) (z : List UInt8) (after : List Rec) : Prop where
  split : L = F ++ [z]
  ne : F ≠ []
  len : F.length ≤ 100000
  mid : ∀ x ∈ F, x.length = m.2.length ∧ lookE (mk m x) = 0 ∧ (lookC (mk m x)).recs = (lookC m).recs ∧ (lookC (mk m x)).fin = (lookC m).fin ∧ (lookC (mk m x)).gen = (lookC m).gen
  zlen : z.length = m.2.length
  zok : lookE (mk m z) = 0
  zrecs : (lookC (mk m z)).recs = after
  zfin : (lookC (mk m z)).fin = 5 + room after
  zclean : (lookC (mk m z)).clean = true

theorem rew_steps {m : Mem} (h0 : lookE m = 0) (keep : List Rec) (h : rewE m keep = 0) : room keep + 5 ≤ hf m ∧ (lookC m).gen ≠ 4294967295 ∧ ∃ F z, Steps m (rewL m keep) F z keep ∧ (∀ x ∈ F, areaB (mk m x) (lookC m).area = areaB m (lookC m).area) ∧ areaB (mk m z) (lookC m).area = areaB m (lookC m).area := by
  have hcond : room keep + 5 ≤ hf m ∧ (lookC m).gen ≠ 4294967295 := by
    unfold rewE at h
    rw [if_pos h0] at h
    split at h
    · assumption
    · cases h
  obtain ⟨a, l, e, hJ⟩ := Jr.of h0
  have hl := hJ.look.2
  have hg : genB (areaB m a) ≠ 4294967295 := by have := hcond.2; rw [hl] at this; exact this
  obtain ⟨F, z, h1, h2, h3, h4, h5, h6, h7, h8⟩ := rew_list hJ keep hcond.1 hg
  have hL : rewL m keep = F ++ [z] := by unfold rewL; rw [if_pos h, h1]
  refine ⟨hcond.1, hcond.2, F, z, ⟨hL, h2, h3, fun x hx => ?_, h5, h7.look.1, by rw [h7.look.2], by rw [h7.look.2], by rw [h7.look.2]; exact h8⟩, fun x hx => by rw [hl]; exact (h4 x hx).2.1, by rw [hl]; exact h6⟩
  obtain ⟨k1, k2, k3⟩ := h4 x hx
  exact ⟨k1, k3.look.1, by rw [k3.look.2, hl], by rw [k3.look.2, hl], by rw [k3.look.2, hl, k2]⟩
theorem app_cond {m : Mem} (h0 : lookE m = 0) (d : Rec) (h : appE m d = 0) : d.length ≤ 65535 ∧ (lookC m).fin + 7 + d.length ≤ hf m ∧ ((lookC m).clean = true ∨ ((lookC m).clean = false ∧ rewE m ((lookC m).recs ++ [d]) = 0)) := by
  unfold appE at h
  rw [if_pos h0] at h
  split at h
  · rename_i hc
    refine ⟨hc.1, hc.2, ?_⟩
    split at h
    · rename_i h1; exact .inl h1
    · rename_i h1; exact .inr ⟨by simpa using h1, h⟩
  · cases h
theorem app_steps {m : Mem} (h0 : lookE m = 0) (d : Rec) (h : appE m d = 0) : ∃ F z, Steps m (appL m d) F z ((lookC m).recs ++ [d]) := by
  obtain ⟨hd, hfit, hcl | ⟨hcl, hr⟩⟩ := app_cond h0 d h
  · obtain ⟨a, l, e, hJ⟩ := Jr.of h0
    have hl := hJ.look.2
    have hrc : restB (areaB m a) e = true := by rw [hl] at hcl; exact hcl
    have hfit' : e + 7 + d.length ≤ hf m := by rw [hl] at hfit; exact hfit
    obtain ⟨F, z, h1, h2, h3, h4, h5, h6, h7⟩ := app_list hJ hrc d hd hfit'
    have hL : appL m d = F ++ [z] := by unfold appL; rw [if_pos h, if_pos hcl, h1]
    have he := hJ.facts.2.2.2.2.1
    have hb := hJ.facts.2.2.2.2.2.2
    refine ⟨F, z, ⟨hL, h2, by omega, fun x hx => ?_, h7, h5.look.1, by rw [h5.look.2, hl], by rw [h5.look.2, hl, room_append]; simp [room]; omega, by rw [h5.look.2]; exact h6⟩⟩
    obtain ⟨k1, k2, k3⟩ := h4 x hx
    exact ⟨k3, k1.look.1, by rw [k1.look.2, hl], by rw [k1.look.2, hl], by rw [k1.look.2, hl, k2]⟩
  · obtain ⟨_, _, F, z, hS, _⟩ := rew_steps h0 _ hr
    have hL : appL m d = rewL m ((lookC m).recs ++ [d]) := by
      unfold appL rewL
      rw [if_pos h, if_neg (by rw [hcl]; simp), if_pos hr]
    exact ⟨F, z, by rw [hL]; exact hS⟩
theorem steps_holds {m : Mem} {L F : List (List UInt8)} {z : List UInt8} {after : List Rec} (h : Steps m L F z after) : ∀ x ∈ L.map fun b => (m.1, b), hldB x (lookC m).recs = true ∨ hldB x after = true := by
  intro x hx
  obtain ⟨b, hb, rfl⟩ := List.mem_map.1 hx
  rw [h.split] at hb
  rcases List.mem_append.1 hb with hb | hb
  · left
    have := h.mid b hb
    unfold hldB
    exact decide_eq_true ⟨this.2.1, this.2.2.1⟩
  · right
    obtain rfl : b = z := by simpa using hb
    unfold hldB
    exact decide_eq_true ⟨h.zok, h.zrecs⟩
theorem steps_last {m : Mem} {L F : List (List UInt8)} {z : List UInt8} {after : List Rec} (h : Steps m L F z after) : ∀ k (hk : k < (L.map fun b => ((m.1, b) : Mem)).length), k + 1 = (L.map fun b => ((m.1, b) : Mem)).length → hldB ((L.map fun b => ((m.1, b) : Mem))[k]) after = true := by
  intro k hk he
  have hL := h.split
  subst hL
  simp only [List.length_map, List.length_append, List.length_cons, List.length_nil] at hk he
  have : ((F ++ [z]).map fun b => ((m.1, b) : Mem))[k] = mk m z := by
    simp only [List.getElem_map]
    rw [List.getElem_append_right (by omega)]
    simp [mk]
  rw [this]
  unfold hldB
  exact decide_eq_true ⟨h.zok, h.zrecs⟩
theorem steps_size {m : Mem} {L F : List (List UInt8)} {z : List UInt8} {after : List Rec} (h : Steps m L F z after) : 0 < L.length ∧ L.length ≤ 1000000 := by
  have := h.len; rw [h.split]; simp; omega
theorem recs_small {m : Mem} (h0 : lookE m = 0) : (lookC m).recs.length ≤ 4096 ∧ ∀ d ∈ (lookC m).recs, d.length ≤ 4096 := by
  obtain ⟨a, l, e, hJ⟩ := Jr.of h0
  obtain ⟨f1, f2, f3, f4, f5, f6, f7⟩ := hJ.facts
  rw [hJ.look.2]
  have h8 := room_ge l
  exact ⟨by show l.length ≤ _; omega, fun d hd => by have := h8.2 d hd; omega⟩
theorem keep_small {m : Mem} {keep : List Rec} (h0 : lookE m = 0) (h : room keep + 5 ≤ hf m) : keep.length ≤ 4096 ∧ ∀ d ∈ keep, d.length ≤ 4096 := by
  obtain ⟨a, l, e, hJ⟩ := Jr.of h0
  obtain ⟨f1, f2, f3, f4, f5, f6, f7⟩ := hJ.facts
  have h8 := room_ge keep
  exact ⟨by omega, fun d hd => by have := h8.2 d hd; omega⟩
theorem bad_all {m : Mem} (h0 : lookE m ≠ 0) (d : Rec) (keep : List Rec) : appE m d = lookE m ∧ appL m d = [] ∧ rewE m keep = lookE m ∧ rewL m keep = [] := by
  have h1 : appE m d = lookE m := by unfold appE; rw [if_neg h0]
  have h2 : rewE m keep = lookE m := by unfold rewE; rw [if_neg h0]
  exact ⟨h1, by unfold appL; rw [h1, if_neg h0], h2, by unfold rewL; rw [h2, if_neg h0]⟩
theorem appM_bad {m : Mem} {d : Rec} (h : appE m d ≠ 0) : appM m d = [] := by unfold appM appL; rw [if_neg h]; rfl
theorem rewM_bad {m : Mem} {keep : List Rec} (h : rewE m keep ≠ 0) : rewM m keep = [] := by unfold rewM rewL; rw [if_neg h]; rfl
end Go.Proofs.YthebojaminploaaGreatDoor

/- Plain: a formatted journal, and appending to a clean one. -/
set_option maxRecDepth 100000
set_option linter.unusedVariables false
set_option linter.unusedSimpArgs false
namespace Go.Proofs.YthebojaminploaaGreatDoor

/-- a clean journal with these records -/
def Cj (m : Mem) (l : List Rec) : Prop := lookE m = 0 ∧ (lookC m).recs = l ∧ (lookC m).fin = 5 + room l ∧ (lookC m).clean = true
theorem fmt_ok {s k : Int} (h : fmtE s k = 0) : Cj (fmtM s k) [] ∧ (fmtM s k).2.length ≤ 4096 ∧ 32 ≤ (fmtM s k).2.length := by
  have hc : newE s k = 0 ∧ jvB (newM s k).1 (newM s k).2.length = true := by
    unfold fmtE at h; split at h
    · assumption
    · cases h
  obtain ⟨h1, h2⟩ := hc
  have hM : fmtM s k = ((newM s k).1, [80, 0, 0, 0, 0] ++ (newM s k).2.drop 5) := by unfold fmtM; rw [if_pos h]
  have hn : newM s k = (s, List.replicate (s * k).toNat 255) := by unfold newM; rw [if_pos h1]
  have h32 := jv_len h2
  have h4k := jv_max h2
  have hev := jv_even h2
  obtain ⟨n, hnn⟩ : ∃ n, n = (newM s k).2.length := ⟨_, rfl⟩
  have hrep : (newM s k).2 = List.replicate n 255 := by rw [hnn, hn]; simp
  have hl : (fmtM s k).2.length = n := by rw [hM]; simp; omega
  have hjv : jvB (fmtM s k).1 (fmtM s k).2.length = true := by rw [hl, hnn]; rw [hM]; exact h2
  have hH : hf (fmtM s k) = n / 2 := by unfold hf; rw [hl]
  have hg : ∀ j, 5 ≤ j → j < n → (fmtM s k).2.getD j 0 = 255 := fun j h5 hj => by
    rw [hM]
    show ([80, 0, 0, 0, 0] ++ (newM s k).2.drop 5).getD j 0 = 255
    rw [List.getD_eq_getElem?_getD, List.getElem?_append_right (by simp; omega), hrep, List.getElem?_drop, List.getElem?_replicate, if_pos (by simp; omega)]
    rfl
  have hg0 : (fmtM s k).2.getD 0 0 = 80 := by rw [hM]; rfl
  have a0 : ∀ j, j < n / 2 → (areaB (fmtM s k) 0).getD j 0 = (fmtM s k).2.getD j 0 := fun j hj => by rw [area_getD _ (by rw [hH]; exact hj)]; simp
  have hcur : curO (fmtM s k) = some 0 := by
    unfold curO
    rw [if_pos (by rw [a0 0 (by omega)]; exact hg0), if_neg]
    rw [area_getD _ (by rw [hH]; omega), hH, hg _ (by omega) (by omega)]
    decide
  have hal : (areaB (fmtM s k) 0).length = n / 2 := by rw [areaB_length _ (by omega), hH]
  have hr : ∀ j, 5 ≤ j → j < (areaB (fmtM s k) 0).length → (areaB (fmtM s k) 0).getD j 0 = 255 := fun j h5 hj => by
    rw [hal] at hj; rw [a0 j hj, hg j h5 (by omega)]
  have hsc : scanA (areaB (fmtM s k) 0) = some ([], 5) := by
    have := scan_is (b := areaB (fmtM s k) 0) (l := []) (rest := (areaB (fmtM s k) 0).drop 5) (by simp) (by simp [recs]) (stops_255 hr)
    simpa [room] using this
  have hJ : Jr (fmtM s k) 0 [] 5 := ⟨hjv, hcur, hsc⟩
  refine ⟨⟨hJ.look.1, by rw [hJ.look.2], by rw [hJ.look.2]; simp [room], by rw [hJ.look.2]; exact rest_of hr⟩, by omega, by omega⟩
theorem cj_full {m : Mem} {l : List Rec} (h : Cj m l) (d : Rec) (hd : hf m < 5 + room l + 7 + d.length) : appE m d = 10 := by
  unfold appE
  rw [if_pos h.1, if_neg (fun hh => by have := hh.2; rw [h.2.2.1] at this; omega)]
theorem cj_fits {m : Mem} {l : List Rec} (h : Cj m l) (d : Rec) (hl : d.length ≤ 65535) (hd : 5 + room l + 7 + d.length ≤ hf m) : appE m d = 0 ∧ ∃ F z, appL m d = F ++ [z] ∧ F.length ≤ 100000 ∧ z.length = m.2.length ∧ Cj (mk m z) (l ++ [d]) := by
  have h0 : appE m d = 0 := by
    unfold appE
    rw [if_pos h.1, if_pos ⟨hl, by rw [h.2.2.1]; exact hd⟩, if_pos h.2.2.2]
  obtain ⟨F, z, hS⟩ := app_steps h.1 d h0
  refine ⟨h0, F, z, hS.split, hS.len, hS.zlen, hS.zok, by rw [hS.zrecs, h.2.1], by rw [hS.zfin, h.2.1], hS.zclean⟩
end Go.Proofs.YthebojaminploaaGreatDoor

/- Plain: the same call after an interruption. -/
set_option maxRecDepth 100000
set_option linter.unusedVariables false
set_option linter.unusedSimpArgs false
namespace Go.Proofs.YthebojaminploaaGreatDoor

theorem lastM_map {f m : Mem} {F : List (List UInt8)} {z : List UInt8} {L : List (List UInt8)} (h : L = F ++ [z]) : lastM f (L.map fun b => ((m.1, b) : Mem)) 0 = mk m z := by
  unfold lastM
  rw [if_pos rfl, h, List.map_append]
  simp [mk]
theorem again_app {m : Mem} {d : Rec} (h0 : lookE m = 0) (hg : (lookC m).gen ≤ 4294967293) {m' : Mem} (h0' : lookE m' = 0) (hr : (lookC m').recs = (lookC m).recs) (hf' : (lookC m').fin = (lookC m).fin) (hg' : (lookC m').gen = (lookC m).gen) (hh : hf m' = hf m) (ha : appE m d = 0) :
    appE m' d = 0 ∧ hldB (lastM m' (appM m' d) 0) ((lookC m).recs ++ [d]) = true ∧ (appM m' d).length ≤ 1000000 := by
  obtain ⟨hd, hfit, _⟩ := app_cond h0 d ha
  have hfin : (lookC m).fin = 5 + room (lookC m).recs := by
    obtain ⟨a, l, e, hJ⟩ := Jr.of h0
    rw [hJ.look.2]; exact hJ.facts.2.2.2.2.1
  have hE : appE m' d = 0 := by
    unfold appE
    rw [if_pos h0', if_pos ⟨hd, by rw [hf', hh]; exact hfit⟩]
    split
    · rfl
    · unfold rewE
      rw [if_pos h0', if_pos ⟨by rw [hr, room_append, hh]; simp [room]; omega, by rw [hg']; omega⟩]
  obtain ⟨F, z, hS⟩ := app_steps h0' d hE
  have hz : lastM m' (appM m' d) 0 = mk m' z := by unfold appM; exact lastM_map hS.split
  refine ⟨hE, ?_, by unfold appM; rw [List.length_map]; exact (steps_size hS).2⟩
  rw [hz]
  unfold hldB
  exact decide_eq_true ⟨hS.zok, by rw [hS.zrecs, hr]⟩
theorem again_rew {m : Mem} {keep : List Rec} (h0 : lookE m = 0) (hg : (lookC m).gen ≤ 4294967293) {m' : Mem} (h0' : lookE m' = 0) (hg' : (lookC m').gen = (lookC m).gen) (hh : hf m' = hf m) (ha : rewE m keep = 0) :
    rewE m' keep = 0 ∧ hldB (lastM m' (rewM m' keep) 0) keep = true ∧ (rewM m' keep).length ≤ 1000000 := by
  obtain ⟨hfit, _, _⟩ := rew_steps h0 keep ha
  have hE : rewE m' keep = 0 := by
    unfold rewE
    rw [if_pos h0', if_pos ⟨by rw [hh]; exact hfit, by rw [hg']; omega⟩]
  obtain ⟨_, _, F, z, hS, _⟩ := rew_steps h0' keep hE
  have hz : lastM m' (rewM m' keep) 0 = mk m' z := by unfold rewM; exact lastM_map hS.split
  refine ⟨hE, ?_, by unfold rewM; rw [List.length_map]; exact (steps_size hS).2⟩
  rw [hz]
  unfold hldB
  exact decide_eq_true ⟨hS.zok, hS.zrecs⟩
/-- a memory of before the last byte -/
theorem steps_at {m : Mem} {L F : List (List UInt8)} {z : List UInt8} {after : List Rec} (h : Steps m L F z after) (k : Nat) (hk : k < F.length) : ∃ x, (L.map fun b => ((m.1, b) : Mem))[k]? = some (mk m x) ∧ x.length = m.2.length ∧ lookE (mk m x) = 0 ∧ (lookC (mk m x)).recs = (lookC m).recs ∧ (lookC (mk m x)).fin = (lookC m).fin ∧ (lookC (mk m x)).gen = (lookC m).gen := by
  have h1 := h.mid F[k] (List.getElem_mem hk)
  refine ⟨F[k], ?_, h1⟩
  rw [h.split, List.map_append, List.getElem?_append_left (by simpa using hk), List.getElem?_map, List.getElem?_eq_getElem hk]
  rfl
end Go.Proofs.YthebojaminploaaGreatDoor
