/- Plain laws: appending and rewriting, memory by memory. -/
import Derived.Test.YtpcklbmhblmjpaaJT
set_option maxRecDepth 100000
set_option linter.unusedVariables false
set_option linter.unusedSimpArgs false
namespace Go.Proofs.Ytpcklbmhblmjpaa

/-- a readable journal: its area, records, end -/
def Jr (m : Mem) (a : Nat) (l : List Rec) (e : Nat) : Prop := jvB m.1 m.2.length = true ∧ curO m = some a ∧ scanA (areaB m a) = some (l, e)
theorem Jr.look {m : Mem} {a : Nat} {l : List Rec} {e : Nat} (h : Jr m a l e) : lookE m = 0 ∧ lookC m = ⟨a, genB (areaB m a), l, e, restB (areaB m a) e⟩ := look_ok h.1 h.2.1 h.2.2
theorem Jr.of {m : Mem} (h : lookE m = 0) : ∃ a l e, Jr m a l e := by
  obtain ⟨a, l, e, h1, h2, h3, _⟩ := lookE_ok h
  exact ⟨a, l, e, h1, h2, h3⟩
theorem Jr.hld {m : Mem} {a : Nat} {l : List Rec} {e : Nat} (h : Jr m a l e) : hldB m l = true := by
  unfold hldB; rw [h.look.1, h.look.2]; simp
theorem Jr.facts {m : Mem} {a : Nat} {l : List Rec} {e : Nat} (h : Jr m a l e) : a ≤ 1 ∧ 16 ≤ hf m ∧ 2 * hf m = m.2.length ∧ e ≤ hf m ∧ e = 5 + room l ∧ (∀ d ∈ l, d.length ≤ 65535) ∧ hf m ≤ 2048 := by
  have ha := curO_le h.2.1
  have h32 := jv_len h.1
  have hev := jv_even h.1
  have h4 := jv_max h.1
  have hl := areaB_length m ha
  have hf2 : hf m = m.2.length / 2 := rfl
  obtain ⟨f1, f2, f3, f4, f5⟩ := scanA_facts h.2.2 (by omega)
  rw [hl] at f5
  exact ⟨ha, by omega, by omega, f5, f2, f1, by omega⟩
theorem apart {a H j j' : Nat} (ha : a ≤ 1) (hj : j < H) (hj' : j' < H) : (1 - a) * H + j ≠ a * H + j' := by
  have : a = 0 ∨ a = 1 := by omega
  rcases this with rfl | rfl <;> simp <;> omega
theorem inlen {a H j n : Nat} (ha : a ≤ 1) (hj : j < H) (hn : 2 * H = n) : a * H + j < n := by
  have : a = 0 ∨ a = 1 := by omega
  rcases this with rfl | rfl <;> simp <;> omega

theorem app_mid {m : Mem} {a : Nat} {l : List Rec} {e : Nat} (h : Jr m a l e) (hcl : restB (areaB m a) e = true) (ds : List UInt8) (i : Nat) (hi : e + 1 + i ≤ hf m) :
    Jr (mk m (memo (andF ds) m.2 (a * hf m + e + 1) i)) a l e ∧ genB (areaB (mk m (memo (andF ds) m.2 (a * hf m + e + 1) i)) a) = genB (areaB m a) := by
  obtain ⟨ha, h16, h2H, he, hel, hd, hb⟩ := h.facts
  obtain ⟨x, hx⟩ : ∃ x, x = memo (andF ds) m.2 (a * hf m + e + 1) i := ⟨_, rfl⟩
  rw [← hx]
  have hxl : x.length = m.2.length := by rw [hx, memo_length]
  have hg : ∀ j, j < m.2.length → (j < a * hf m + e + 1 ∨ a * hf m + e + 1 + i ≤ j) → x.getD j 0 = m.2.getD j 0 := fun j hj hr => by
    rw [hx, memo_get _ _ _ _ _ hj, if_neg (by omega)]
  have hA : ∀ j, j ≤ e → j < hf m → (areaB (mk m x) a).getD j 0 = (areaB m a).getD j 0 := fun j hj hj2 => by
    rw [area_mk m hxl hj2, area_getD m hj2, hg _ (inlen ha hj2 h2H) (.inl (by omega))]
  have h5 : ∀ j, j < 5 → (areaB (mk m x) a).getD j 0 = (areaB m a).getD j 0 := fun j hj => hA j (by omega) (by omega)
  have ho : ∀ j, j < 5 → (areaB (mk m x) (1 - a)).getD j 0 = (areaB m (1 - a)).getD j 0 := fun j hj => by
    rw [area_mk m hxl (by omega), area_getD m (by omega), hg _ (inlen (by omega) (by omega) h2H) ?_]
    have hc : a = 0 ∨ a = 1 := by omega
    rcases hc with rfl | rfl <;> simp <;> omega
  refine ⟨⟨by rw [jv_mk m hxl]; exact h.1, cur_keep h.2.1 h5 (.inl ho), ?_⟩, genB_eq h5⟩
  refine scan_prefix h.2.2 (by rw [areaB_length m ha]; omega) (by rw [areaB_length _ ha, areaB_length _ ha, hf_mk m hxl]) (fun j hj => hA j (by omega) (by omega)) ?_
  intro hl
  rw [areaB_length _ ha, hf_mk m hxl] at hl
  rw [hA e (Nat.le_refl _) hl, rest_get hcl (Nat.le_refl _) (by rw [areaB_length m ha]; exact hl)]
  decide

theorem recs_one (d : Rec) : recs [d] = recL d := by simp [recs]
theorem recL_cons (d : Rec) : recL d = 80 :: (recL d).tail := by simp [recL]
theorem app_end {m : Mem} {a : Nat} {l : List Rec} {e : Nat} (h : Jr m a l e) (hcl : restB (areaB m a) e = true) (d : Rec) (hd : d.length ≤ 65535) (hfit : e + 7 + d.length ≤ hf m) :
    Jr (mk m (memo (andF [80]) (memo (andF (recL d).tail) m.2 (a * hf m + e + 1) (6 + d.length)) (a * hf m + e) 1)) a (l ++ [d]) (e + 7 + d.length) ∧
    restB (areaB (mk m (memo (andF [80]) (memo (andF (recL d).tail) m.2 (a * hf m + e + 1) (6 + d.length)) (a * hf m + e) 1)) a) (e + 7 + d.length) = true ∧
    (memo (andF [80]) (memo (andF (recL d).tail) m.2 (a * hf m + e + 1) (6 + d.length)) (a * hf m + e) 1).length = m.2.length := by
  obtain ⟨ha, h16, h2H, he, hel, hds, hb⟩ := h.facts
  obtain ⟨y, hy⟩ : ∃ y, y = memo (andF (recL d).tail) m.2 (a * hf m + e + 1) (6 + d.length) := ⟨_, rfl⟩
  rw [← hy]
  obtain ⟨x, hx⟩ : ∃ x, x = memo (andF [80]) y (a * hf m + e) 1 := ⟨_, rfl⟩
  rw [← hx]
  have hyl : y.length = m.2.length := by rw [hy, memo_length]
  have hxl : x.length = m.2.length := by rw [hx, memo_length, hyl]
  have htl : (recL d).tail.length = 6 + d.length := by rw [List.length_tail, recL_length]; omega
  have hg : ∀ j, j < m.2.length → (j < a * hf m + e ∨ a * hf m + e + 7 + d.length ≤ j) → x.getD j 0 = m.2.getD j 0 := fun j hj hr => by
    rw [hx, memo_get _ _ _ _ _ (by rw [hyl]; exact hj), if_neg (by omega), hy, memo_get _ _ _ _ _ hj, if_neg (by omega)]
  have h255 : ∀ j, e ≤ j → j < hf m → m.2.getD (a * hf m + j) 0 = 255 := fun j hj hj2 => by
    rw [← area_getD m hj2, rest_get hcl hj (by rw [areaB_length m ha]; exact hj2)]
  have hr : ∀ j, j < 7 + d.length → x.getD (a * hf m + (e + j)) 0 = (recL d).getD j 0 := fun j hj => by
    have hin := inlen (a := a) (j := e + j) ha (by omega) h2H
    rw [hx, memo_get _ _ _ _ _ (by rw [hyl]; exact hin)]
    by_cases h0 : j = 0
    · subst h0
      rw [if_pos (by omega), hy, memo_get _ _ _ _ _ (by simpa using hin), if_neg (by omega), Nat.add_zero, h255 e (Nat.le_refl _) (by omega)]
      have e0 : a * hf m + e - (a * hf m + e) = 0 := by omega
      rw [e0]
      unfold andF
      rw [and255]
      simp [recL]
    · rw [if_neg (by omega), hy, memo_get _ _ _ _ _ hin, if_pos (by omega), h255 (e + j) (by omega) (by omega)]
      unfold andF
      rw [and255]
      have e1 : a * hf m + (e + j) - (a * hf m + e + 1) = j - 1 := by omega
      rw [e1]
      obtain ⟨k, rfl⟩ : ∃ k, j = k + 1 := ⟨j - 1, by omega⟩
      conv => rhs; rw [recL_cons]
      simp
  have hA : ∀ j, j < e → j < hf m → (areaB (mk m x) a).getD j 0 = (areaB m a).getD j 0 := fun j hj hj2 => by
    rw [area_mk m hxl hj2, area_getD m hj2, hg _ (inlen ha hj2 h2H) (.inl (by omega))]
  have h5 : ∀ j, j < 5 → (areaB (mk m x) a).getD j 0 = (areaB m a).getD j 0 := fun j hj => hA j (by omega) (by omega)
  have ho : ∀ j, j < 5 → (areaB (mk m x) (1 - a)).getD j 0 = (areaB m (1 - a)).getD j 0 := fun j hj => by
    rw [area_mk m hxl (by omega), area_getD m (by omega), hg _ (inlen (by omega) (by omega) h2H) ?_]
    have hc : a = 0 ∨ a = 1 := by omega
    rcases hc with rfl | rfl <;> simp <;> omega
  have hal : (areaB (mk m x) a).length = hf m := by rw [areaB_length _ ha, hf_mk m hxl]
  have hrest : ∀ j, e + 7 + d.length ≤ j → j < (areaB (mk m x) a).length → (areaB (mk m x) a).getD j 0 = 255 := fun j hj hj2 => by
    rw [hal] at hj2
    rw [area_mk m hxl hj2, hg _ (inlen ha hj2 h2H) (.inr (by omega)), h255 j (by omega) hj2]
  have hs1 := split5 h.2.2 (by rw [areaB_length m ha]; omega) (b' := areaB (mk m x) a) (by rw [hal, areaB_length m ha]) (fun j hj => hA j hj (by omega))
  have hs2 : (areaB (mk m x) a).drop e = recL d ++ (areaB (mk m x) a).drop (e + 7 + d.length) := by
    have t1 : ((areaB (mk m x) a).drop e).take (7 + d.length) = recL d := by
      apply ext_getD
      · rw [List.length_take, List.length_drop, hal, recL_length]; omega
      · intro j hj
        rw [recL_length] at hj
        rw [getD_drop_take _ _ _ _ hj, area_mk m hxl (by omega), hr j hj]
    have t2 : (areaB (mk m x) a).drop (e + 7 + d.length) = ((areaB (mk m x) a).drop e).drop (7 + d.length) := by rw [List.drop_drop, Nat.add_assoc]
    rw [t2, ← t1, List.take_append_drop]
  refine ⟨⟨by rw [jv_mk m hxl]; exact h.1, cur_keep h.2.1 h5 (.inl ho), ?_⟩, rest_of hrest, hxl⟩
  have e9 : e + 7 + d.length = 5 + room (l ++ [d]) := by rw [room_append]; simp [room]; omega
  rw [e9]
  refine scan_is (rest := (areaB (mk m x) a).drop (e + 7 + d.length)) ?_ ?_ (stops_255 hrest)
  · intro z hz
    rcases List.mem_append.1 hz with hz | hz
    · exact hds z hz
    · obtain rfl : z = d := by simpa using hz
      exact hd
  · rw [hs1, hs2, recs_append, recs_one, List.append_assoc]
/-- what holds of all memories of a clean appending -/
theorem app_list {m : Mem} {a : Nat} {l : List Rec} {e : Nat} (h : Jr m a l e) (hcl : restB (areaB m a) e = true) (d : Rec) (hd : d.length ≤ 65535) (hfit : e + 7 + d.length ≤ hf m) :
    ∃ F z, appB m d = F ++ [z] ∧ F ≠ [] ∧ F.length = 7 + d.length ∧ (∀ x ∈ F, Jr (mk m x) a l e ∧ genB (areaB (mk m x) a) = genB (areaB m a) ∧ x.length = m.2.length) ∧ Jr (mk m z) a (l ++ [d]) (e + 7 + d.length) ∧ restB (areaB (mk m z) a) (e + 7 + d.length) = true ∧ z.length = m.2.length := by
  have hE := app_end h hcl d hd hfit
  refine ⟨memos (andF (recL d).tail) m.2 (a * hf m + e + 1) (6 + d.length), memo (andF [80]) (memo (andF (recL d).tail) m.2 (a * hf m + e + 1) (6 + d.length)) (a * hf m + e) 1, ?_, ?_, by rw [memos_length]; omega, ?_, hE.1, hE.2.1, hE.2.2⟩
  · unfold appB
    rw [h.look.2]
    simp only
    rw [addB_one]
    have hl : (memos (andF (recL d).tail) m.2 (a * hf m + e + 1) (6 + d.length)).getLastD [] = memo (andF (recL d).tail) m.2 (a * hf m + e + 1) (6 + d.length) := by
      rw [← addB_one, addB_last _ _ _ _ (by simp)]; rfl
    unfold addB
    rw [hl]
    simp [memos, List.range_succ]
  · intro h9; have := congrArg List.length h9; rw [memos_length] at this; simp at this
  · intro x hx
    obtain ⟨i, hi, rfl⟩ := List.mem_map.1 hx
    have hi' : i < 6 + d.length + 1 := by simpa using hi
    have := app_mid h hcl (recL d).tail i (by omega)
    exact ⟨this.1, this.2, memo_length _ _ _ _⟩
end Go.Proofs.Ytpcklbmhblmjpaa
