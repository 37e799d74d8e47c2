/- Plain: the generation of a journal behind Store; the law VaultRoom. -/
import Derived.Test.YtcnhmgcingmphaaDoorKVL
import Derived.Test.YtcnhmgcingmphaaDoorKVf
set_option maxRecDepth 100000
set_option linter.unusedVariables false
set_option linter.unusedSimpArgs false
namespace Go.Proofs.YtcnhmgcingmphaaDoor

theorem rew_gen {m : Mem} {a : Nat} {l : List Rec} {e : Nat} (h : Jr m a l e) (keep : List Rec) (hfit : room keep + 5 ≤ hf m) (hg : genB (areaB m a) ≠ 4294967295) :
    ∃ F z, rewB m keep = F ++ [z] ∧ genB (areaB (mk m z) (1 - a)) = genB (areaB m a) + 1 := by
  obtain ⟨ha, h16, h2H, he, hel, hds, hb⟩ := h.facts
  have hgl : genB (areaB m a) < 4294967296 := num4_lt _ _ _ _
  obtain ⟨v1, v2, v3, v4, v5⟩ := (valid_iff _ _).1 (by have := h.1; unfold jvB at this; simp only [Bool.and_eq_true] at this; exact this.1.1)
  obtain ⟨s, hs⟩ := Int.eq_ofNat_of_zero_le (by omega : 0 ≤ m.1)
  have hs1 : 1 ≤ s := by omega
  obtain ⟨q, hq1, hq2, hq3, hq4⟩ := jv_parts (s := s) (n := m.2.length) (by rw [← hs]; exact h.1) hs1
  obtain ⟨o, ho⟩ : ∃ o, o = 1 - a := ⟨_, rfl⟩
  obtain ⟨H, hH⟩ : ∃ H, H = hf m := ⟨_, rfl⟩
  rw [← hH] at h16 h2H he hfit hb
  have hHq : H = q * s := by rw [hH]; exact hq2
  have hq0 : 1 ≤ q := by
    rcases Nat.eq_zero_or_pos q with h0 | h0
    · rw [h0] at hHq; omega
    · exact h0
  have hfs : hf m / m.1.toNat = q := by rw [hs]; exact hq4
  have hts : m.1.toNat = s := by rw [hs]; simp
  obtain ⟨txt, htxt⟩ : ∃ txt, txt = txtB m keep := ⟨_, rfl⟩
  have htx : txt = be4 (genB (areaB m a) + 1) ++ recs keep := by rw [htxt]; unfold txtB; rw [h.look.2]
  have htl : txt.length = 4 + room keep := by rw [htx, List.length_append, be4_length, recs_length]
  have hoA : otherA m = o := by unfold otherA; rw [h.look.2, ho]
  obtain ⟨E, hE⟩ : ∃ E, E = eraseB m s [m.2] (o * q) q := ⟨_, rfl⟩
  have hop : o * q * s = o * H := by rw [hHq, Nat.mul_assoc]
  have hop2 : (o * q + q) * s = o * H + H := by rw [Nat.add_mul, hop, hHq]
  have hole : o * H + H ≤ m.2.length := by
    have : o = 0 ∨ o = 1 := by omega
    rcases this with h0 | h0 <;> rw [h0] <;> omega
  have hEr := eraseB_er m s (o * H) (o * H + H) q (o * q) [m.2] (by simp) (fun x hx => by obtain rfl : x = m.2 := by simpa using hx
                                                                                          exact Er.refl _ _ _) (by omega) (by omega) hole (fun j h1 h2 => by omega)
  rw [← hE] at hEr
  have hEf := erase_first m s q (o * q) hs1 hq0 (by omega)
  rw [← hE, hop] at hEf
  obtain ⟨hEne, hEer, hE255⟩ := hEr
  rw [hop2] at hE255
  obtain ⟨z0, hz0⟩ : ∃ z0, z0 = E.getLastD [] := ⟨_, rfl⟩
  have hz0m : z0 ∈ E := by rw [hz0]; exact lastMem hEne
  have hz0e := hEer z0 hz0m
  rw [← hz0] at hE255
  -- the part up to the last byte
  obtain ⟨F, hF⟩ : ∃ F, F = addB E (andF txt) (o * H + 1) txt.length := ⟨_, rfl⟩
  have hFl : F.getLastD [] = memo (andF txt) z0 (o * H + 1) txt.length := by rw [hF, addB_last _ _ _ _ hEne, hz0]
  obtain ⟨y, hy⟩ : ∃ y, y = memo (andF txt) z0 (o * H + 1) txt.length := ⟨_, rfl⟩
  have hrew : rewB m keep = F ++ [memo (andF [80]) y (o * H) 1] := by
    unfold rewB
    rw [hoA, hts, ← hH, ← htxt, show H / s = q by rw [hH]; exact hq4, ← hE, ← hF]
    unfold addB
    rw [hFl, ← hy]
    simp [memos, List.range_succ]
  have hout : ∀ x : List UInt8, x.length = m.2.length → (∀ j, j < m.2.length → ¬ (o * H ≤ j ∧ j < o * H + H) → x.getD j 0 = m.2.getD j 0) → areaB (mk m x) a = areaB m a := fun x hxl hx => by
    refine area_same m hxl ha fun j hj => hx _ (inlen ha hj (by rw [← hH]; exact h2H)) ?_
    rw [← hH] at hj ⊢
    have hc : a = 0 ∨ a = 1 := by omega
    rcases hc with h0 | h0
    · rw [h0] at ho ⊢; rw [ho]; omega
    · rw [h0] at ho ⊢; rw [ho]; omega
  have hmid : ∀ x : List UInt8, x.length = m.2.length → (∀ j, j < m.2.length → ¬ (o * H ≤ j ∧ j < o * H + H) → x.getD j 0 = m.2.getD j 0) → (x = m.2 ∨ x.getD (o * H) 0 = 255) → x.length = m.2.length ∧ areaB (mk m x) a = areaB m a ∧ Jr (mk m x) a l e := fun x hxl hx h0 => by
    have hA := hout x hxl hx
    refine ⟨hxl, hA, by rw [jv_mk m hxl]; exact h.1, ?_, by rw [hA]; exact h.2.2⟩
    rcases h0 with rfl | h0
    · exact h.2.1
    · refine cur_keep h.2.1 (fun j _ => by rw [hA]) (.inr ?_)
      rw [← ho, area_mk m hxl (by omega), ← hH, Nat.add_zero, h0]
      decide
  have hyl : y.length = m.2.length := by rw [hy, memo_length]; exact hz0e.1
  have hyg : ∀ j, j < m.2.length → ¬ (o * H ≤ j ∧ j < o * H + H) → y.getD j 0 = m.2.getD j 0 := fun j hj hr => by
    rw [hy, memo_get _ _ _ _ _ (by rw [hz0e.1]; exact hj), if_neg (by omega)]
    rcases hz0e.2 j hj with h0 | h0
    · exact h0
    · exact absurd ⟨h0.1, h0.2.1⟩ hr
  obtain ⟨z, hz⟩ : ∃ z, z = memo (andF [80]) y (o * H) 1 := ⟨_, rfl⟩
  have hzl : z.length = m.2.length := by rw [hz, memo_length, hyl]
  have hzg : ∀ j, j < m.2.length → ¬ (o * H ≤ j ∧ j < o * H + H) → z.getD j 0 = m.2.getD j 0 := fun j hj hr => by
    rw [hz, memo_get _ _ _ _ _ (by rw [hyl]; exact hj), if_neg (by omega), hyg j hj hr]
  have hz1 : z.getD (o * H) 0 = 80 := by
    rw [hz, memo_get _ _ _ _ _ (by rw [hyl]; omega), if_pos (by omega), hy, memo_get _ _ _ _ _ (by rw [hz0e.1]; omega), if_neg (by omega), hE255 _ (by omega) (by omega)]
    unfold andF; rw [and255, Nat.sub_self]; rfl
  have hz2 : ∀ j, j < txt.length → z.getD (o * H + 1 + j) 0 = txt.getD j 0 := fun j hj => by
    rw [hz, memo_get _ _ _ _ _ (by rw [hyl]; omega), if_neg (by omega), hy, memo_get _ _ _ _ _ (by rw [hz0e.1]; omega), if_pos (by omega), hE255 _ (by omega) (by omega)]
    unfold andF; rw [and255, show o * H + 1 + j - (o * H + 1) = j by omega]
  have hz3 : ∀ j, 1 + txt.length ≤ j → j < H → z.getD (o * H + j) 0 = 255 := fun j hj hj2 => by
    rw [hz, memo_get _ _ _ _ _ (by rw [hyl]; omega), if_neg (by omega), hy, memo_get _ _ _ _ _ (by rw [hz0e.1]; omega), if_neg (by omega), hE255 _ (by omega) (by omega)]
  have hbl : (areaB (mk m z) o).length = H := by rw [areaB_length _ (by omega), hf_mk m hzl, ← hH]
  have hbg : ∀ j, j < H → (areaB (mk m z) o).getD j 0 = z.getD (o * H + j) 0 := fun j hj => by rw [area_mk m hzl (by rw [← hH]; exact hj), ← hH]
  have hgen : genB (areaB (mk m z) o) = genB (areaB m a) + 1 := by
    refine be4_getD _ (by omega) _ fun j hj => ?_
    rw [hbg _ (by omega), show o * H + (j + 1) = o * H + 1 + j by omega, hz2 j (by omega), htx, List.getD_eq_getElem?_getD, List.getElem?_append_left (by rw [be4_length]; exact hj), ← List.getD_eq_getElem?_getD]
  exact ⟨F, z, by rw [hrew, hz], by rw [← ho]; exact hgen⟩
theorem last_eq {α : Type} {F F' : List α} {z z' : α} (h : F ++ [z] = F' ++ [z']) : z = z' := by
  have := List.append_inj_right' h (by simp)
  simpa using this
theorem rew_z {m : Mem} (h0 : lookE m = 0) (keep : List Rec) (hfit : room keep + 5 ≤ hf m) (hg : (lookC m).gen ≠ 4294967295) : ∃ F z, rewB m keep = F ++ [z] ∧ (lookC (mk m z)).gen = (lookC m).gen + 1 := by
  obtain ⟨a, l, e, hJ⟩ := Jr.of h0
  have hg' : genB (areaB m a) ≠ 4294967295 := by rw [hJ.look.2] at hg; exact hg
  obtain ⟨F, z, h1, _, _, _, _, _, h7, _⟩ := rew_list hJ keep hfit hg'
  obtain ⟨F', z', h1', h2'⟩ := rew_gen hJ keep hfit hg'
  obtain rfl := last_eq (h1.symm.trans h1')
  exact ⟨F, z, h1, by rw [h7.look.2, hJ.look.2]; exact h2'⟩
theorem app_z {m : Mem} (h0 : lookE m = 0) (hcl : (lookC m).clean = true) (d : Rec) (hd : d.length ≤ 65535) (hfit : (lookC m).fin + 7 + d.length ≤ hf m) : ∃ F z, appB m d = F ++ [z] ∧ (lookC (mk m z)).gen = (lookC m).gen := by
  obtain ⟨a, l, e, hJ⟩ := Jr.of h0
  rw [hJ.look.2] at hcl hfit
  simp only at hcl hfit
  obtain ⟨ha, h16, h2H, he, hel, hds, hb⟩ := hJ.facts
  have hE := app_end hJ hcl d hd hfit
  obtain ⟨F, z, h1, _, _, _, h5, _, h7⟩ := app_list hJ hcl d hd hfit
  have hz : z = memo (andF [80]) (memo (andF (recL d).tail) m.2 (a * hf m + e + 1) (6 + d.length)) (a * hf m + e) 1 := by
    have h9 : appB m d = memos (andF (recL d).tail) m.2 (a * hf m + e + 1) (6 + d.length) ++ [memo (andF [80]) (memo (andF (recL d).tail) m.2 (a * hf m + e + 1) (6 + d.length)) (a * hf m + e) 1] := by
      unfold appB
      rw [hJ.look.2]
      simp only
      rw [addB_one]
      have hl : (memos (andF (recL d).tail) m.2 (a * hf m + e + 1) (6 + d.length)).getLastD [] = memo (andF (recL d).tail) m.2 (a * hf m + e + 1) (6 + d.length) := by
        rw [← addB_one, addB_last _ _ _ _ (by simp)]; rfl
      unfold addB
      rw [hl]
      simp [memos, List.range_succ]
    exact last_eq (h1.symm.trans h9)
  refine ⟨F, z, h1, ?_⟩
  rw [h5.look.2, hJ.look.2]
  show genB (areaB (mk m z) a) = genB (areaB m a)
  refine genB_eq fun j hj => ?_
  have hjl : a * hf m + j < m.2.length := inlen ha (by omega) h2H
  rw [area_mk m h7 (by omega), area_getD m (by omega), hz, memo_get _ _ _ _ _ (by rw [memo_length]; exact hjl), if_neg (by omega), memo_get _ _ _ _ _ hjl, if_neg (by omega)]
/-- the generation of the last memory of Store -/
theorem sto_gen {m : Mem} {x : Lea} {tick : Int} (h : stoE m x tick = 0) : ∃ F z, stoM m x tick = F ++ [z] ∧ (lookC z).gen ≤ (lookC m).gen + 1 := by
  obtain ⟨L0, F0, z0, af, hs⟩ := sto_of h
  have h3 := (load_ok hs.load).2.2.1
  have key : ∀ {B : List (List UInt8)} {F z}, stoM m x tick = B.map (fun b => ((m.1, b) : Mem)) → B = F ++ [z] → (lookC (mk m z)).gen ≤ (lookC m).gen + 1 → ∃ F z, stoM m x tick = F ++ [z] ∧ (lookC z).gen ≤ (lookC m).gen + 1 := by
    intro B F z h1 h2 h9
    exact ⟨F.map (fun b => ((m.1, b) : Mem)), mk m z, by rw [h1, h2, List.map_append]; rfl, h9⟩
  by_cases h10 : appE m (packL x) = 10
  · obtain ⟨e1, e2⟩ := sto_rew hs.load hs.arg hs.old h10
    rw [e1] at h
    obtain ⟨r1, r2, _⟩ := rew_steps h3 _ h
    obtain ⟨F, z, f1, f2⟩ := rew_z h3 _ r1 r2
    exact key (by rw [e2]; unfold rewM rewL; rw [if_pos h]) f1 (by omega)
  · obtain ⟨e1, e2⟩ := sto_app hs.load hs.arg hs.old h10
    rw [e1] at h
    obtain ⟨c1, c2, hcl | ⟨hcl, hr⟩⟩ := app_cond h3 _ h
    · obtain ⟨F, z, f1, f2⟩ := app_z h3 hcl _ c1 c2
      exact key (by rw [e2]; unfold appM appL; rw [if_pos h, if_pos hcl]) f1 (by omega)
    · obtain ⟨r1, r2, _⟩ := rew_steps h3 _ hr
      obtain ⟨F, z, f1, f2⟩ := rew_z h3 _ r1 r2
      exact key (by rw [e2]; unfold appM appL; rw [if_pos h, if_neg (by rw [hcl]; simp)]) f1 (by omega)
theorem fmt_gen : (lookC (fmtM 512 4)).gen = 0 := by decide +kernel
/-- what Store did to f and all, with the generation -/
theorem old_same {m : Mem} {al : List Lea} {x : Lea} (hq : Sq m al) : oldB (loadL m) x = oldB al x := by
  unfold oldB
  rw [hq.last]
  by_cases h : al = []
  · rw [h, hq.none.2 h]
  · have h' : loadL m ≠ [] := fun e => h (hq.none.1 e)
    rw [decide_eq_true (List.length_pos_iff.2 h), decide_eq_true (List.length_pos_iff.2 h')]
theorem room_law {m : Mem} {al : List Lea} {x : Lea} (hq : Sq m al) (hg : (lookC m).gen ≤ 60) (hx : oneB x = true) (ho : oldB al x = false) (h : stoE m x x.f ≠ 0) : stoE m x x.f = 10 ∧ 52 ≤ (al.filter (lftB x.f)).length := by
  have hx' := (oneB_iff x).1 hx
  have ha : argB x x.f = true := by simp [argB, hx]; omega
  have hold : oldB (loadL m) x = false := by rw [old_same hq]; exact ho
  obtain ⟨_, _, h3, _, h5⟩ := load_ok hq.load
  have hH := load_vm hq.load
  have hE : stoE m x x.f = if appE m (packL x) = 10 then rewE m (keepR m x x.f) else appE m (packL x) := by
    unfold stoE; rw [if_pos hq.load, if_pos ha, hold]; rfl
  have hrew : ∀ keep, rewE m keep = 0 ∨ (rewE m keep = 10 ∧ hf m < room keep + 5) := fun keep => by
    unfold rewE
    rw [if_pos h3]
    by_cases hc : room keep + 5 ≤ hf m
    · rw [if_pos ⟨hc, by omega⟩]; exact .inl rfl
    · rw [if_neg (fun hh => hc hh.1)]; exact .inr ⟨rfl, by omega⟩
  have happ : appE m (packL x) = 0 ∨ appE m (packL x) = 10 := by
    unfold appE
    rw [if_pos h3]
    split
    · split
      · exact .inl rfl
      · rcases hrew ((lookC m).recs ++ [packL x]) with e | e
        · exact .inl e
        · exact .inr e.1
    · exact .inr rfl
  rcases happ with e | e
  · rw [hE, e, if_neg (by decide)] at h; exact absurd rfl h
  · rw [hE, if_pos e] at h ⊢
    obtain ⟨h1, h2⟩ := (hrew (keepR m x x.f)).resolve_left h
    refine ⟨h1, ?_⟩
    rw [keepR, room_pack, List.length_append] at h2
    have hk : (keptL (loadL m) x.f).length ≤ (leftL (loadL m) x.f).length + 1 := by
      unfold keptL
      rw [List.length_append]
      split <;> simp
    have hs : (leftL (loadL m) x.f).length ≤ (al.filter (lftB x.f)).length := (hq.sub.filter _).length_le
    simp only [List.length_cons, List.length_nil] at h2
    omega
end Go.Proofs.YtcnhmgcingmphaaDoor
