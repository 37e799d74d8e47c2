/- Plain: one byte of a record's checksum or data is changed. -/
import Derived.Test.YtkeghidlolidmaaJW
set_option maxRecDepth 100000
set_option linter.unusedVariables false
set_option linter.unusedSimpArgs false
namespace Go.Proofs.Ytkeghidlolidmaa

theorem mul_inj {x y : UInt32} (h : x * 16777619 = y * 16777619) : x = y := by
  have e : (16777619 : UInt32) * 899433627 = 1 := by decide
  have := congrArg (· * (899433627 : UInt32)) h
  simp only [UInt32.mul_assoc, e, UInt32.mul_one] at this
  exact this
theorem xor_inj_left {x y z : UInt32} (h : x ^^^ z = y ^^^ z) : x = y := by
  have := congrArg (· ^^^ z) h
  simpa [UInt32.xor_assoc] using this
theorem fnvS_inj {h h' : UInt32} {b : UInt8} (e : fnvS h b = fnvS h' b) : h = h' := xor_inj_left (mul_inj e)
theorem fnvS_byte {h : UInt32} {b b' : UInt8} (e : fnvS h b = fnvS h b') : b = b' := by
  have h1 := mul_inj e
  have h2 : b.toUInt32 = b'.toUInt32 := by
    have h3 : b.toUInt32 ^^^ h = b'.toUInt32 ^^^ h := by rw [UInt32.xor_comm _ h, UInt32.xor_comm _ h]; exact h1
    exact xor_inj_left h3
  apply UInt8.toNat_inj.1
  have := congrArg UInt32.toNat h2
  simpa using this
theorem fold_inj (r : List UInt8) : ∀ {h h' : UInt32}, r.foldl fnvS h = r.foldl fnvS h' → h = h' := by
  induction r with
  | nil => intro h h' e; exact e
  | cons x r ih => intro h h' e; exact fnvS_inj (ih e)
theorem fnv_set {l r : List UInt8} {x y : UInt8} (h : fnv (l ++ x :: r) = fnv (l ++ y :: r)) : x = y := by
  unfold fnv at h
  rw [List.foldl_append, List.foldl_append, List.foldl_cons, List.foldl_cons] at h
  exact fnvS_byte (fold_inj r h)
theorem scan_none (l : List Rec) : ∀ (b : List UInt8) (k p : Nat) (rest : List UInt8), (∀ d ∈ l, d.length ≤ 65535) → b.drop p = recs l ++ rest → rest ≠ [] → rest.getD 0 0 = 80 → stepOk rest = none → room l < k → scan b k p = none := by
  induction l with
  | nil =>
    intro b k p rest _ hb hne h80 hs hk
    have hb' : b.drop p = rest := by simpa [recs] using hb
    have hh : ¬ stops (b.drop p) := by
      rw [hb']
      rintro (h | h)
      · exact hne h
      · exact h h80
    rw [stops_drop, Classical.not_not] at hh
    cases k with
    | zero => simp at hk
    | succ k => rw [scan, if_pos hh, hb', hs]
  | cons d l ih =>
    intro b k p rest hd hb hne h80 hs hk
    have hd0 := hd d (by simp)
    rw [recs_cons, List.append_assoc] at hb
    have hh : ¬ stops (b.drop p) := by
      rw [hb]
      rintro (h | h)
      · have := congrArg List.length h; simp [recL_length] at this
      · exact h (by simp [recL])
    rw [stops_drop, Classical.not_not] at hh
    cases k with
    | zero => simp [room] at hk
    | succ k =>
      have hb2 : b.drop (p + 7 + d.length) = recs l ++ rest := by
        rw [Nat.add_assoc, ← List.drop_drop, hb, List.drop_left' (recL_length d)]
      rw [scan, if_pos hh, hb, stepOk_rec d hd0]
      simp only
      rw [ih b k _ rest (fun x hx => hd x (by simp [hx])) hb2 hne h80 hs (by simp [room] at hk; omega)]
      rfl
theorem be4_inj {n n' : Nat} (h : n < 4294967296) (h' : n' < 4294967296) (e : be4 n = be4 n') : n = n' := by
  have e1 := num4_be4 n h
  have e2 := num4_be4 n' h'
  have f1 : be4 n = [UInt8.ofNat (n / 16777216), UInt8.ofNat (n / 65536 % 256), UInt8.ofNat (n / 256 % 256), UInt8.ofNat (n % 256)] := rfl
  have f2 : be4 n' = [UInt8.ofNat (n' / 16777216), UInt8.ofNat (n' / 65536 % 256), UInt8.ofNat (n' / 256 % 256), UInt8.ofNat (n' % 256)] := rfl
  rw [f1, f2] at e
  simp only [List.cons.injEq, and_true] at e
  rw [← e1, ← e2, e.1, e.2.1, e.2.2.1, e.2.2.2]
/-- a record with one byte of its checksum or its data changed is wrong -/
theorem step_dam (d : Rec) (hd : d.length ≤ 65535) (rest : List UInt8) (t : Nat) (ht : t < 4 + d.length) (v : UInt8) (hv : v ≠ (recL d).getD (3 + t) 0) : stepOk ((recL d).set (3 + t) v ++ rest) = none := by
  have hb1 : UInt8.ofNat (d.length / 256) = (szL d.length).getD 0 0 := rfl
  obtain ⟨s1, hs1⟩ : ∃ s1, s1 = UInt8.ofNat (d.length / 256) := ⟨_, rfl⟩
  obtain ⟨s2, hs2⟩ : ∃ s2, s2 = UInt8.ofNat (d.length % 256) := ⟨_, rfl⟩
  obtain ⟨n, hn⟩ : ∃ n, n = fnvN (szL d.length ++ d) := ⟨_, rfl⟩
  obtain ⟨c1, c2, c3, c4, hc⟩ : ∃ c1 c2 c3 c4, be4 n = [c1, c2, c3, c4] := ⟨_, _, _, _, rfl⟩
  have hsz : szL d.length = [s1, s2] := by rw [hs1, hs2]; rfl
  have hsn : s1.toNat * 256 + s2.toNat = d.length := by
    rw [hs1, hs2, UInt8.toNat_ofNat', UInt8.toNat_ofNat']; omega
  have hr : recL d = [80, s1, s2, c1, c2, c3, c4] ++ d := by
    have : recL d = 80 :: (szL d.length ++ be4 (fnvN (szL d.length ++ d)) ++ d) := by simp [recL]
    rw [this, ← hn, hc, hsz]; rfl
  have hnl : n < 4294967296 := by rw [hn]; exact fnvN_lt _
  have hnum : num4 c1 c2 c3 c4 = n := by
    have h1 := num4_be4 n hnl
    have f1 : be4 n = [UInt8.ofNat (n / 16777216), UInt8.ofNat (n / 65536 % 256), UInt8.ofNat (n / 256 % 256), UInt8.ofNat (n % 256)] := rfl
    rw [hc] at f1
    simp only [List.cons.injEq, and_true] at f1
    rw [f1.1, f1.2.1, f1.2.2.1, f1.2.2.2]; exact h1
  have hfn : fnvN ([s1, s2] ++ d) = n := by rw [hn, hsz]
  rw [hr] at hv ⊢
  by_cases h4 : t < 4
  · obtain ⟨e1, e2, e3, e4, hE, hne⟩ : ∃ e1 e2 e3 e4, ([80, s1, s2, c1, c2, c3, c4] ++ d).set (3 + t) v = [80, s1, s2, e1, e2, e3, e4] ++ d ∧ num4 e1 e2 e3 e4 ≠ n := by
      have hh : t = 0 ∨ t = 1 ∨ t = 2 ∨ t = 3 := by omega
      have inj : ∀ {e1 e2 e3 e4 : UInt8}, num4 e1 e2 e3 e4 = n → [e1, e2, e3, e4] = [c1, c2, c3, c4] := fun {e1 e2 e3 e4} e => by rw [← be4_num4 e1 e2 e3 e4, ← be4_num4 c1 c2 c3 c4, e, hnum]
      rcases hh with rfl | rfl | rfl | rfl
      · exact ⟨v, c2, c3, c4, by simp, fun e => hv (by have := inj e; simp at this; simp [this])⟩
      · exact ⟨c1, v, c3, c4, by simp, fun e => hv (by have := inj e; simp at this; simp [this])⟩
      · exact ⟨c1, c2, v, c4, by simp, fun e => hv (by have := inj e; simp at this; simp [this])⟩
      · exact ⟨c1, c2, c3, v, by simp, fun e => hv (by have := inj e; simp at this; simp [this])⟩
    rw [hE]
    unfold stepOk
    simp only [List.cons_append, List.nil_append, List.append_assoc, List.getD_cons_zero, List.getD_cons_succ, List.length_cons, List.length_append, List.drop_succ_cons, List.drop_zero]
    rw [hsn, if_pos (by omega), if_pos (by omega), List.take_left' rfl, if_neg]
    intro e
    exact hne (by rw [← e]; exact hfn)
  · obtain ⟨j, rfl⟩ : ∃ j, t = 4 + j := ⟨t - 4, by omega⟩
    have hj : j < d.length := by omega
    have hE : ([80, s1, s2, c1, c2, c3, c4] ++ d).set (3 + (4 + j)) v = [80, s1, s2, c1, c2, c3, c4] ++ d.set j v := by
      rw [List.set_append_right _ _ (by simp; omega)]
      congr 2
      simp; omega
    have hgd : ([80, s1, s2, c1, c2, c3, c4] ++ d).getD (3 + (4 + j)) 0 = d[j] := by
      rw [List.getD_eq_getElem?_getD, List.getElem?_append_right (by simp; omega)]
      simp only [List.length_cons, List.length_nil]
      rw [show 3 + (4 + j) - (0 + 1 + 1 + 1 + 1 + 1 + 1 + 1) = j by omega, List.getElem?_eq_getElem hj]; rfl
    rw [hgd] at hv
    rw [hE]
    unfold stepOk
    simp only [List.cons_append, List.nil_append, List.append_assoc, List.getD_cons_zero, List.getD_cons_succ, List.length_cons, List.length_append, List.drop_succ_cons, List.drop_zero, List.length_set]
    rw [hsn, if_pos (by omega), if_pos (by omega), List.take_left' (by simp), if_neg]
    intro e
    rw [hnum, ← hfn] at e
    have e' : fnv ([s1, s2] ++ d.set j v) = fnv ([s1, s2] ++ d) := UInt32.toNat_inj.1 e
    have d1 : d = d.take j ++ d[j] :: d.drop (j + 1) := by rw [List.getElem_cons_drop, List.take_append_drop]
    have d2 : d.set j v = d.take j ++ v :: d.drop (j + 1) := List.set_eq_take_append_cons_drop.trans (by rw [if_pos hj])
    rw [d2] at e'
    conv at e' => rhs; rw [d1]
    rw [← List.append_assoc, ← List.append_assoc] at e'
    exact hv (fnv_set e')
theorem recs_split (l : List Rec) (k : Nat) (hk : k < l.length) : recs l = recs (l.take k) ++ (recL l[k] ++ recs (l.drop (k + 1))) := by
  have e : l = l.take k ++ l[k] :: l.drop (k + 1) := by rw [List.getElem_cons_drop, List.take_append_drop]
  conv => lhs; rw [e]
  rw [recs_append, recs_cons]
theorem set_get {b : List UInt8} {q j : Nat} {v : UInt8} (h : j ≠ q) : (b.set q v).getD j 0 = b.getD j 0 := by
  rw [List.getD_eq_getElem?_getD, List.getElem?_set_ne (Ne.symm h), ← List.getD_eq_getElem?_getD]
/-- reading returns a wrong sum -/
theorem damage {m : Mem} {a : Nat} {l : List Rec} {e : Nat} (h : Jr m a l e) (k : Nat) (hk : k < l.length) (t : Nat) (ht : t < 4 + l[k].length) (v : UInt8) (hv : v ≠ m.2.getD (a * hf m + (5 + room (l.take k)) + 3 + t) 0) :
    a * hf m + (5 + room (l.take k)) + 3 + t < m.2.length ∧ lookE (mk m (m.2.set (a * hf m + (5 + room (l.take k)) + 3 + t) v)) = 11 := by
  obtain ⟨ha, h16, h2H, he, hel, hds, hb⟩ := h.facts
  obtain ⟨f1, f2, f3, f4, f5⟩ := scanA_facts h.2.2 (by rw [areaB_length m ha]; omega)
  obtain ⟨p, hp⟩ : ∃ p, p = 5 + room (l.take k) := ⟨_, rfl⟩
  rw [← hp] at hv ⊢
  have hsp := recs_split l k hk
  have hrl : room l = room (l.take k) + (7 + l[k].length) + room (l.drop (k + 1)) := by
    have := congrArg List.length hsp
    simp only [List.length_append, recs_length, recL_length] at this
    omega
  have hq : p + 3 + t < hf m := by omega
  have hin := inlen (a := a) (j := p + 3 + t) ha hq h2H
  have hpl : a * hf m + p + 3 + t = a * hf m + (p + 3 + t) := by omega
  rw [hpl] at hv ⊢
  refine ⟨hin, ?_⟩
  obtain ⟨x, hx⟩ : ∃ x, x = m.2.set (a * hf m + (p + 3 + t)) v := ⟨_, rfl⟩
  rw [← hx]
  have hxl : x.length = m.2.length := by rw [hx]; simp
  have hA : areaB (mk m x) a = (areaB m a).set (p + 3 + t) v := by
    apply ext_getD
    · rw [List.length_set, areaB_length _ ha, areaB_length _ ha, hf_mk m hxl]
    · intro j hj
      rw [List.length_set, areaB_length m ha] at hj
      rw [area_mk m hxl hj, hx]
      by_cases hjq : j = p + 3 + t
      · subst hjq
        rw [List.getD_eq_getElem?_getD, List.getElem?_set_self hin, List.getD_eq_getElem?_getD, List.getElem?_set_self (by rw [areaB_length m ha]; exact hq)]
      · rw [set_get (by omega), set_get hjq, area_getD m hj]
  have h5 : ∀ j, j < 5 → (areaB (mk m x) a).getD j 0 = (areaB m a).getD j 0 := fun j hj => by rw [hA, set_get (by omega)]
  have ho : ∀ j, j < 5 → (areaB (mk m x) (1 - a)).getD j 0 = (areaB m (1 - a)).getD j 0 := fun j hj => by
    rw [area_mk m hxl (by omega), area_getD m (by omega), hx, set_get (apart ha (by omega) hq)]
  have hbd : areaB m a = ((areaB m a).take 5 ++ recs (l.take k)) ++ (recL l[k] ++ (recs (l.drop (k + 1)) ++ (areaB m a).drop e)) := by
    have e1 := f3
    rw [hsp] at e1
    conv => lhs; rw [← List.take_append_drop 5 (areaB m a), e1]
    simp [List.append_assoc]
  have hpre : ((areaB m a).take 5 ++ recs (l.take k)).length = p := by rw [List.length_append, List.length_take, areaB_length m ha, recs_length]; omega
  have hgv : (areaB m a).getD (p + 3 + t) 0 = (recL l[k]).getD (3 + t) 0 := by
    conv => lhs; rw [hbd]
    rw [List.getD_eq_getElem?_getD, List.getElem?_append_right (by rw [hpre]; omega), hpre, show p + 3 + t - p = 3 + t by omega, List.getElem?_append_left (by rw [recL_length]; omega), ← List.getD_eq_getElem?_getD]
  have hv2 : v ≠ (recL l[k]).getD (3 + t) 0 := by rw [← hgv, area_getD m hq]; exact hv
  have hB : areaB (mk m x) a = ((areaB m a).take 5 ++ recs (l.take k)) ++ ((recL l[k]).set (3 + t) v ++ (recs (l.drop (k + 1)) ++ (areaB m a).drop e)) := by
    rw [hA]
    conv => lhs; rw [hbd]
    rw [List.set_append_right _ _ (by rw [hpre]; omega), hpre, show p + 3 + t - p = 3 + t by omega, List.set_append_left _ _ (by rw [recL_length]; omega)]
  have hdr : (areaB (mk m x) a).drop 5 = recs (l.take k) ++ ((recL l[k]).set (3 + t) v ++ (recs (l.drop (k + 1)) ++ (areaB m a).drop e)) := by
    rw [hB, List.append_assoc, List.drop_left' (by rw [List.length_take, areaB_length m ha]; omega)]
  have hsc : scanA (areaB (mk m x) a) = none := by
    unfold scanA
    refine scan_none (l.take k) _ _ 5 _ (fun d hd => hds d (List.mem_of_mem_take hd)) hdr ?_ ?_ (step_dam l[k] (hds _ (List.getElem_mem hk)) _ t ht v hv2) ?_
    · intro e9
      have := congrArg List.length e9
      simp [recL_length] at this
    · rw [recL_cons, show 3 + t = (2 + t) + 1 by omega]
      simp
    · rw [areaB_length _ ha, hf_mk m hxl]; omega
  exact (look_sum (by rw [jv_mk m hxl]; exact h.1) (cur_keep h.2.1 h5 (.inl ho)) hsc).1
end Go.Proofs.Ytkeghidlolidmaa
