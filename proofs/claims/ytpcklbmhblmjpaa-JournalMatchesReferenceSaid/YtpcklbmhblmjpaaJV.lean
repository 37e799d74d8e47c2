/- Plain laws: rewriting, memory by memory. -/
import Derived.Test.YtpcklbmhblmjpaaJU
set_option maxRecDepth 100000
set_option linter.unusedVariables false
set_option linter.unusedSimpArgs false
namespace Go.Proofs.Ytpcklbmhblmjpaa

theorem lastMem {L : List (List UInt8)} (h : L ≠ []) : L.getLastD [] ∈ L := by
  obtain ⟨pr, x, rfl⟩ : ∃ pr x, L = pr ++ [x] := ⟨L.dropLast, L.getLast h, (List.dropLast_concat_getLast h).symm⟩
  rw [List.getLastD_concat]; simp
/-- bytes outside a range are as before; inside they are as before, or erased -/
def Er (m : List UInt8) (lo hi : Nat) (x : List UInt8) : Prop := x.length = m.length ∧ ∀ j, j < m.length → (x.getD j 0 = m.getD j 0 ∨ (lo ≤ j ∧ j < hi ∧ x.getD j 0 = 255))
theorem Er.refl (m : List UInt8) (lo hi : Nat) : Er m lo hi m := ⟨rfl, fun j _ => .inl rfl⟩
theorem Er.memo {m x : List UInt8} {lo hi : Nat} (h : Er m lo hi x) (p i : Nat) (h1 : lo ≤ p) (h2 : p + i ≤ hi) : Er m lo hi (memo eraF x p i) := by
  refine ⟨by rw [memo_length]; exact h.1, fun j hj => ?_⟩
  rw [memo_get _ _ _ _ _ (by rw [h.1]; exact hj)]
  split
  · rename_i hr; exact .inr ⟨by omega, by omega, rfl⟩
  · exact h.2 j hj
theorem eraseB_er (m : Mem) (s lo hi : Nat) : ∀ (n i : Nat) (L : List (List UInt8)), L ≠ [] → (∀ x ∈ L, Er m.2 lo hi x) → lo ≤ i * s → (i + n) * s ≤ hi → hi ≤ m.2.length →
    (∀ j, lo ≤ j → j < i * s → (L.getLastD []).getD j 0 = 255) →
    (eraseB m s L i n ≠ [] ∧ (∀ x ∈ eraseB m s L i n, Er m.2 lo hi x) ∧ (∀ j, lo ≤ j → j < (i + n) * s → ((eraseB m s L i n).getLastD []).getD j 0 = 255))
  | 0, i, L, hL, hE, _, _, _, h255 => ⟨hL, hE, by simpa [eraseB] using h255⟩
  | n + 1, i, L, hL, hE, hlo, hhi, hhl, h255 => by
    have hsn : (i + (n + 1)) * s = (i + 1 + n) * s := by congr 1; omega
    have his : (i + 1) * s = i * s + s := Nat.succ_mul i s
    have hle : (i + 1) * s ≤ (i + (n + 1)) * s := Nat.mul_le_mul_right _ (by omega)
    have hlast : L.getLastD [] ∈ L := lastMem hL
    have hEl := hE _ hlast
    rw [eraseB]
    split
    · rename_i hr
      have := eraseB_er m s lo hi n (i + 1) L hL hE (by omega) (by rw [← hsn]; exact hhi) hhl (fun j h1 h2 => by
        by_cases hj : j < i * s
        · exact h255 j h1 hj
        · have hjl : j < m.2.length := by omega
          rcases hEl.2 j hjl with hh | hh
          · rw [hh]
            have hg := rest_get (b := (m.2.drop (i * s)).take s) (e := 0) hr (j := j - i * s) (by omega) (by simp; omega)
            rw [getD_drop_take _ _ _ _ (by omega), show i * s + (j - i * s) = j by omega] at hg
            exact hg
          · exact hh.2.2)
      rw [hsn]; exact this
    · have := eraseB_er m s lo hi n (i + 1) (addB L eraF (i * s) s) (addB_ne _ _ _ _ hL) (fun x hx => by
          rcases addB_mem hx with hx | ⟨k, hk1, hk2, rfl⟩
          · exact hE x hx
          · exact hEl.memo _ _ hlo (by omega)) (by omega) (by rw [← hsn]; exact hhi) hhl (fun j h1 h2 => by
        rw [addB_last _ _ _ _ hL, memo_get _ _ _ _ _ (by rw [hEl.1]; omega)]
        split
        · rfl
        · exact h255 j h1 (by omega))
      rw [hsn]; exact this
/-- a byte that is erased in the last memory stays so -/
theorem eraseB_first (m : Mem) (s lo : Nat) : ∀ (n i : Nat) (L : List (List UInt8)), L ≠ [] → (∀ x ∈ L, x.length = m.2.length ∧ (x = m.2 ∨ x.getD lo 0 = 255)) → lo < m.2.length → (L.getLastD []).getD lo 0 = 255 →
    ∀ x ∈ eraseB m s L i n, x = m.2 ∨ x.getD lo 0 = 255
  | 0, i, L, hL, hE, _, h255 => fun x hx => (hE x (by simpa [eraseB] using hx)).2
  | n + 1, i, L, hL, hE, hlt, h255 => by
    have hlast : L.getLastD [] ∈ L := lastMem hL
    have hll := (hE _ hlast).1
    rw [eraseB]
    split
    · exact eraseB_first m s lo n (i + 1) L hL hE hlt h255
    · refine eraseB_first m s lo n (i + 1) (addB L eraF (i * s) s) (addB_ne _ _ _ _ hL) (fun x hx => ?_) hlt ?_
      · rcases addB_mem hx with hx | ⟨k, hk1, hk2, rfl⟩
        · exact hE x hx
        · refine ⟨by rw [memo_length]; exact hll, .inr ?_⟩
          rw [memo_get _ _ _ _ _ (by rw [hll]; exact hlt)]
          split
          · rfl
          · exact h255
      · rw [addB_last _ _ _ _ hL, memo_get _ _ _ _ _ (by rw [hll]; exact hlt)]
        split
        · rfl
        · exact h255
theorem erase_first (m : Mem) (s q p0 : Nat) (hs : 1 ≤ s) (hq : 1 ≤ q) (hl : (p0 + q) * s ≤ m.2.length) : ∀ x ∈ eraseB m s [m.2] p0 q, x = m.2 ∨ x.getD (p0 * s) 0 = 255 := by
  obtain ⟨n, rfl⟩ : ∃ n, q = n + 1 := ⟨q - 1, by omega⟩
  have hle : (p0 + 1) * s ≤ (p0 + (n + 1)) * s := Nat.mul_le_mul_right _ (by omega)
  have his : (p0 + 1) * s = p0 * s + s := Nat.succ_mul p0 s
  have hlt : p0 * s < m.2.length := by omega
  rw [eraseB]
  split
  · rename_i hr
    refine eraseB_first m s (p0 * s) n (p0 + 1) [m.2] (by simp) (fun x hx => ?_) hlt ?_
    · obtain rfl : x = m.2 := by simpa using hx
      exact ⟨rfl, .inl rfl⟩
    · have hg := rest_get (b := (m.2.drop (p0 * s)).take s) (e := 0) hr (j := 0) (by omega) (by simp; omega)
      rw [getD_drop_take _ _ _ _ (by omega), Nat.add_zero] at hg
      exact hg
  · refine eraseB_first m s (p0 * s) n (p0 + 1) (addB [m.2] eraF (p0 * s) s) (addB_ne _ _ _ _ (by simp)) (fun x hx => ?_) hlt ?_
    · rcases addB_mem hx with hx | ⟨k, hk1, hk2, rfl⟩
      · obtain rfl : x = m.2 := by simpa using hx
        exact ⟨rfl, .inl rfl⟩
      · refine ⟨memo_length _ _ _ _, .inr ?_⟩
        show (memo eraF m.2 (p0 * s) k).getD _ 0 = 255
        rw [memo_get _ _ _ _ _ hlt, if_pos (by omega)]; rfl
    · rw [addB_last _ _ _ _ (by simp)]
      show (memo eraF m.2 (p0 * s) s).getD _ 0 = 255
      rw [memo_get _ _ _ _ _ hlt, if_pos (by omega)]; rfl

theorem be4_getD (n : Nat) (h : n < 4294967296) (b : List UInt8) (hb : ∀ j, j < 4 → b.getD (j + 1) 0 = (be4 n).getD j 0) : genB b = n := by
  unfold genB
  rw [hb 0 (by omega), hb 1 (by omega), hb 2 (by omega), hb 3 (by omega)]
  have e : be4 n = [UInt8.ofNat (n / 16777216), UInt8.ofNat (n / 65536 % 256), UInt8.ofNat (n / 256 % 256), UInt8.ofNat (n % 256)] := rfl
  rw [e]
  exact num4_be4 n h

/-- what holds of all memories of a rewriting -/
theorem rew_list {m : Mem} {a : Nat} {l : List Rec} {e : Nat} (h : Jr m a l e) (keep : List Rec) (hfit : room keep + 5 ≤ hf m) (hg : genB (areaB m a) ≠ 4294967295) :
    ∃ F z, rewB m keep = F ++ [z] ∧ F ≠ [] ∧ F.length ≤ 100000 ∧ (∀ x ∈ F, x.length = m.2.length ∧ areaB (mk m x) a = areaB m a ∧ Jr (mk m x) a l e) ∧
      z.length = m.2.length ∧ areaB (mk m z) a = areaB m a ∧ Jr (mk m z) (1 - a) keep (5 + room keep) ∧ restB (areaB (mk m z) (1 - a)) (5 + room keep) = true := by
  obtain ⟨ha, h16, h2H, he, hel, hds, hb⟩ := h.facts
  have hgl : genB (areaB m a) < 4294967296 := num4_lt _ _ _ _
  obtain ⟨v1, v2, v3, v4, v5⟩ := (valid_iff _ _).1 (by have := h.1; unfold jvB at this; simp only [Bool.and_eq_true] at this; exact this.1.1)
  obtain ⟨s, hs⟩ := Int.eq_ofNat_of_zero_le (by omega : 0 ≤ m.1)
  have hs1 : 1 ≤ s := by omega
  obtain ⟨q, hq1, hq2, hq3, hq4⟩ := jv_parts (s := s) (n := m.2.length) (by rw [← hs]; exact h.1) hs1
  obtain ⟨o, ho⟩ : ∃ o, o = 1 - a := ⟨_, rfl⟩
  obtain ⟨H, hH⟩ : ∃ H, H = hf m := ⟨_, rfl⟩
  rw [← hH] at h16 h2H he hfit hb
  have hHq : H = q * s := by rw [hH]; exact hq2
  have hq0 : 1 ≤ q := by
    rcases Nat.eq_zero_or_pos q with h0 | h0
    · rw [h0] at hHq; omega
    · exact h0
  have hfs : hf m / m.1.toNat = q := by rw [hs]; exact hq4
  have hts : m.1.toNat = s := by rw [hs]; simp
  obtain ⟨txt, htxt⟩ : ∃ txt, txt = txtB m keep := ⟨_, rfl⟩
  have htx : txt = be4 (genB (areaB m a) + 1) ++ recs keep := by rw [htxt]; unfold txtB; rw [h.look.2]
  have htl : txt.length = 4 + room keep := by rw [htx, List.length_append, be4_length, recs_length]
  have hoA : otherA m = o := by unfold otherA; rw [h.look.2, ho]
  obtain ⟨E, hE⟩ : ∃ E, E = eraseB m s [m.2] (o * q) q := ⟨_, rfl⟩
  have hop : o * q * s = o * H := by rw [hHq, Nat.mul_assoc]
  have hop2 : (o * q + q) * s = o * H + H := by rw [Nat.add_mul, hop, hHq]
  have hole : o * H + H ≤ m.2.length := by
    have : o = 0 ∨ o = 1 := by omega
    rcases this with h0 | h0 <;> rw [h0] <;> omega
  have hEr := eraseB_er m s (o * H) (o * H + H) q (o * q) [m.2] (by simp) (fun x hx => by obtain rfl : x = m.2 := by simpa using hx
                                                                                          exact Er.refl _ _ _) (by omega) (by omega) hole (fun j h1 h2 => by omega)
  rw [← hE] at hEr
  have hEf := erase_first m s q (o * q) hs1 hq0 (by omega)
  rw [← hE, hop] at hEf
  obtain ⟨hEne, hEer, hE255⟩ := hEr
  rw [hop2] at hE255
  obtain ⟨z0, hz0⟩ : ∃ z0, z0 = E.getLastD [] := ⟨_, rfl⟩
  have hz0m : z0 ∈ E := by rw [hz0]; exact lastMem hEne
  have hz0e := hEer z0 hz0m
  rw [← hz0] at hE255
  -- the part up to the last byte
  obtain ⟨F, hF⟩ : ∃ F, F = addB E (andF txt) (o * H + 1) txt.length := ⟨_, rfl⟩
  have hFl : F.getLastD [] = memo (andF txt) z0 (o * H + 1) txt.length := by rw [hF, addB_last _ _ _ _ hEne, hz0]
  obtain ⟨y, hy⟩ : ∃ y, y = memo (andF txt) z0 (o * H + 1) txt.length := ⟨_, rfl⟩
  have hrew : rewB m keep = F ++ [memo (andF [80]) y (o * H) 1] := by
    unfold rewB
    rw [hoA, hts, ← hH, ← htxt, show H / s = q by rw [hH]; exact hq4, ← hE, ← hF]
    unfold addB
    rw [hFl, ← hy]
    simp [memos, List.range_succ]
  have hout : ∀ x : List UInt8, x.length = m.2.length → (∀ j, j < m.2.length → ¬ (o * H ≤ j ∧ j < o * H + H) → x.getD j 0 = m.2.getD j 0) → areaB (mk m x) a = areaB m a := fun x hxl hx => by
    refine area_same m hxl ha fun j hj => hx _ (inlen ha hj (by rw [← hH]; exact h2H)) ?_
    rw [← hH] at hj ⊢
    have hc : a = 0 ∨ a = 1 := by omega
    rcases hc with h0 | h0
    · rw [h0] at ho ⊢; rw [ho]; omega
    · rw [h0] at ho ⊢; rw [ho]; omega
  have hmid : ∀ x : List UInt8, x.length = m.2.length → (∀ j, j < m.2.length → ¬ (o * H ≤ j ∧ j < o * H + H) → x.getD j 0 = m.2.getD j 0) → (x = m.2 ∨ x.getD (o * H) 0 = 255) → x.length = m.2.length ∧ areaB (mk m x) a = areaB m a ∧ Jr (mk m x) a l e := fun x hxl hx h0 => by
    have hA := hout x hxl hx
    refine ⟨hxl, hA, by rw [jv_mk m hxl]; exact h.1, ?_, by rw [hA]; exact h.2.2⟩
    rcases h0 with rfl | h0
    · exact h.2.1
    · refine cur_keep h.2.1 (fun j _ => by rw [hA]) (.inr ?_)
      rw [← ho, area_mk m hxl (by omega), ← hH, Nat.add_zero, h0]
      decide
  have hyl : y.length = m.2.length := by rw [hy, memo_length]; exact hz0e.1
  have hyg : ∀ j, j < m.2.length → ¬ (o * H ≤ j ∧ j < o * H + H) → y.getD j 0 = m.2.getD j 0 := fun j hj hr => by
    rw [hy, memo_get _ _ _ _ _ (by rw [hz0e.1]; exact hj), if_neg (by omega)]
    rcases hz0e.2 j hj with h0 | h0
    · exact h0
    · exact absurd ⟨h0.1, h0.2.1⟩ hr
  obtain ⟨z, hz⟩ : ∃ z, z = memo (andF [80]) y (o * H) 1 := ⟨_, rfl⟩
  have hzl : z.length = m.2.length := by rw [hz, memo_length, hyl]
  have hzg : ∀ j, j < m.2.length → ¬ (o * H ≤ j ∧ j < o * H + H) → z.getD j 0 = m.2.getD j 0 := fun j hj hr => by
    rw [hz, memo_get _ _ _ _ _ (by rw [hyl]; exact hj), if_neg (by omega), hyg j hj hr]
  have hz1 : z.getD (o * H) 0 = 80 := by
    rw [hz, memo_get _ _ _ _ _ (by rw [hyl]; omega), if_pos (by omega), hy, memo_get _ _ _ _ _ (by rw [hz0e.1]; omega), if_neg (by omega), hE255 _ (by omega) (by omega)]
    unfold andF; rw [and255, Nat.sub_self]; rfl
  have hz2 : ∀ j, j < txt.length → z.getD (o * H + 1 + j) 0 = txt.getD j 0 := fun j hj => by
    rw [hz, memo_get _ _ _ _ _ (by rw [hyl]; omega), if_neg (by omega), hy, memo_get _ _ _ _ _ (by rw [hz0e.1]; omega), if_pos (by omega), hE255 _ (by omega) (by omega)]
    unfold andF; rw [and255, show o * H + 1 + j - (o * H + 1) = j by omega]
  have hz3 : ∀ j, 1 + txt.length ≤ j → j < H → z.getD (o * H + j) 0 = 255 := fun j hj hj2 => by
    rw [hz, memo_get _ _ _ _ _ (by rw [hyl]; omega), if_neg (by omega), hy, memo_get _ _ _ _ _ (by rw [hz0e.1]; omega), if_neg (by omega), hE255 _ (by omega) (by omega)]
  have hbl : (areaB (mk m z) o).length = H := by rw [areaB_length _ (by omega), hf_mk m hzl, ← hH]
  have hbg : ∀ j, j < H → (areaB (mk m z) o).getD j 0 = z.getD (o * H + j) 0 := fun j hj => by rw [area_mk m hzl (by rw [← hH]; exact hj), ← hH]
  have hgen : genB (areaB (mk m z) o) = genB (areaB m a) + 1 := by
    refine be4_getD _ (by omega) _ fun j hj => ?_
    rw [hbg _ (by omega), show o * H + (j + 1) = o * H + 1 + j by omega, hz2 j (by omega), htx, List.getD_eq_getElem?_getD, List.getElem?_append_left (by rw [be4_length]; exact hj), ← List.getD_eq_getElem?_getD]
  have hAz := hout z hzl hzg
  have hrest : ∀ j, 5 + room keep ≤ j → j < (areaB (mk m z) o).length → (areaB (mk m z) o).getD j 0 = 255 := fun j hj hj2 => by
    rw [hbl] at hj2
    rw [hbg j hj2, hz3 j (by omega) hj2]
  have hdrop : (areaB (mk m z) o).drop 5 = recs keep ++ (areaB (mk m z) o).drop (5 + room keep) := by
    have t1 : ((areaB (mk m z) o).drop 5).take (room keep) = recs keep := by
      apply ext_getD
      · rw [List.length_take, List.length_drop, hbl, recs_length]; omega
      · intro j hj
        rw [recs_length] at hj
        rw [getD_drop_take _ _ _ _ hj, hbg _ (by omega), show o * H + (5 + j) = o * H + 1 + (4 + j) by omega, hz2 _ (by omega), htx, List.getD_eq_getElem?_getD, List.getElem?_append_right (by rw [be4_length]; omega), be4_length, show 4 + j - 4 = j by omega, ← List.getD_eq_getElem?_getD]
    rw [← List.drop_drop, ← t1, List.take_append_drop]
  have hkl : ∀ d ∈ keep, d.length ≤ 65535 := fun d hd => by have := (room_ge keep).2 d hd; omega
  refine ⟨F, z, by rw [hrew, hz], ?_, ?_, ?_, hzl, hAz, ⟨by rw [jv_mk m hzl]; exact h.1, ?_, ?_⟩, ?_⟩
  · rw [hF]; exact addB_ne _ _ _ _ hEne
  · have hlen : ∀ (n i : Nat) (L : List (List UInt8)), (eraseB m s L i n).length ≤ L.length + n * s := by
      intro n
      induction n with
      | zero => intro i L; simp [eraseB]
      | succ n ih =>
        intro i L
        rw [eraseB, Nat.succ_mul]
        split
        · have := ih (i + 1) L; omega
        · have := ih (i + 1) (addB L eraF (i * s) s)
          have e : (addB L eraF (i * s) s).length = L.length + s := by unfold addB; simp [memos_length]
          omega
    have h1 := hlen q (o * q) [m.2]
    rw [← hE] at h1
    have h2 : F.length = E.length + txt.length := by rw [hF]; unfold addB; simp [memos_length]
    simp at h1
    omega
  · intro x hx
    rw [hF] at hx
    rcases addB_mem hx with hx | ⟨i, hi1, hi2, rfl⟩
    · have hxe := hEer x hx
      exact hmid x hxe.1 (fun j hj hr => (hxe.2 j hj).resolve_right (fun h0 => hr ⟨h0.1, h0.2.1⟩)) (hEf x hx)
    · rw [← hz0]
      refine hmid _ (by rw [memo_length]; exact hz0e.1) (fun j hj hr => ?_) (.inr ?_)
      · rw [memo_get _ _ _ _ _ (by rw [hz0e.1]; exact hj), if_neg (by omega)]
        exact (hz0e.2 j hj).resolve_right (fun h0 => hr ⟨h0.1, h0.2.1⟩)
      · rw [memo_get _ _ _ _ _ (by rw [hz0e.1]; omega), if_neg (by omega), hE255 _ (by omega) (by omega)]
  · rw [← ho]
    refine cur_new ha ho ?_ ?_ ?_
    · rw [hAz]; exact cur_80 h.2.1
    · rw [hbg 0 (by omega), Nat.add_zero, hz1]
    · rw [hAz, hgen]; omega
  · rw [← ho]; exact scan_is hkl hdrop (stops_255 hrest)
  · rw [← ho]; exact rest_of hrest
end Go.Proofs.Ytpcklbmhblmjpaa
