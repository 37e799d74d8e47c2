/- Plain: a formatted journal, and appending to a clean one. -/
import Derived.Test.YtpcklbmhblmjpaaJW
set_option maxRecDepth 100000
set_option linter.unusedVariables false
set_option linter.unusedSimpArgs false
namespace Go.Proofs.Ytpcklbmhblmjpaa

/-- a clean journal with these records -/
def Cj (m : Mem) (l : List Rec) : Prop := lookE m = 0 ∧ (lookC m).recs = l ∧ (lookC m).fin = 5 + room l ∧ (lookC m).clean = true
theorem fmt_ok {s k : Int} (h : fmtE s k = 0) : Cj (fmtM s k) [] ∧ (fmtM s k).2.length ≤ 4096 ∧ 32 ≤ (fmtM s k).2.length := by
  have hc : newE s k = 0 ∧ jvB (newM s k).1 (newM s k).2.length = true := by
    unfold fmtE at h; split at h
    · assumption
    · cases h
  obtain ⟨h1, h2⟩ := hc
  have hM : fmtM s k = ((newM s k).1, [80, 0, 0, 0, 0] ++ (newM s k).2.drop 5) := by unfold fmtM; rw [if_pos h]
  have hn : newM s k = (s, List.replicate (s * k).toNat 255) := by unfold newM; rw [if_pos h1]
  have h32 := jv_len h2
  have h4k := jv_max h2
  have hev := jv_even h2
  obtain ⟨n, hnn⟩ : ∃ n, n = (newM s k).2.length := ⟨_, rfl⟩
  have hrep : (newM s k).2 = List.replicate n 255 := by rw [hnn, hn]; simp
  have hl : (fmtM s k).2.length = n := by rw [hM]; simp; omega
  have hjv : jvB (fmtM s k).1 (fmtM s k).2.length = true := by rw [hl, hnn]; rw [hM]; exact h2
  have hH : hf (fmtM s k) = n / 2 := by unfold hf; rw [hl]
  have hg : ∀ j, 5 ≤ j → j < n → (fmtM s k).2.getD j 0 = 255 := fun j h5 hj => by
    rw [hM]
    show ([80, 0, 0, 0, 0] ++ (newM s k).2.drop 5).getD j 0 = 255
    rw [List.getD_eq_getElem?_getD, List.getElem?_append_right (by simp; omega), hrep, List.getElem?_drop, List.getElem?_replicate, if_pos (by simp; omega)]
    rfl
  have hg0 : (fmtM s k).2.getD 0 0 = 80 := by rw [hM]; rfl
  have a0 : ∀ j, j < n / 2 → (areaB (fmtM s k) 0).getD j 0 = (fmtM s k).2.getD j 0 := fun j hj => by rw [area_getD _ (by rw [hH]; exact hj)]; simp
  have hcur : curO (fmtM s k) = some 0 := by
    unfold curO
    rw [if_pos (by rw [a0 0 (by omega)]; exact hg0), if_neg]
    rw [area_getD _ (by rw [hH]; omega), hH, hg _ (by omega) (by omega)]
    decide
  have hal : (areaB (fmtM s k) 0).length = n / 2 := by rw [areaB_length _ (by omega), hH]
  have hr : ∀ j, 5 ≤ j → j < (areaB (fmtM s k) 0).length → (areaB (fmtM s k) 0).getD j 0 = 255 := fun j h5 hj => by
    rw [hal] at hj; rw [a0 j hj, hg j h5 (by omega)]
  have hsc : scanA (areaB (fmtM s k) 0) = some ([], 5) := by
    have := scan_is (b := areaB (fmtM s k) 0) (l := []) (rest := (areaB (fmtM s k) 0).drop 5) (by simp) (by simp [recs]) (stops_255 hr)
    simpa [room] using this
  have hJ : Jr (fmtM s k) 0 [] 5 := ⟨hjv, hcur, hsc⟩
  refine ⟨⟨hJ.look.1, by rw [hJ.look.2], by rw [hJ.look.2]; simp [room], by rw [hJ.look.2]; exact rest_of hr⟩, by omega, by omega⟩
theorem cj_full {m : Mem} {l : List Rec} (h : Cj m l) (d : Rec) (hd : hf m < 5 + room l + 7 + d.length) : appE m d = 10 := by
  unfold appE
  rw [if_pos h.1, if_neg (fun hh => by have := hh.2; rw [h.2.2.1] at this; omega)]
theorem cj_fits {m : Mem} {l : List Rec} (h : Cj m l) (d : Rec) (hl : d.length ≤ 65535) (hd : 5 + room l + 7 + d.length ≤ hf m) : appE m d = 0 ∧ ∃ F z, appL m d = F ++ [z] ∧ F.length ≤ 100000 ∧ z.length = m.2.length ∧ Cj (mk m z) (l ++ [d]) := by
  have h0 : appE m d = 0 := by
    unfold appE
    rw [if_pos h.1, if_pos ⟨hl, by rw [h.2.2.1]; exact hd⟩, if_pos h.2.2.2]
  obtain ⟨F, z, hS⟩ := app_steps h.1 d h0
  refine ⟨h0, F, z, hS.split, hS.len, hS.zlen, hS.zok, by rw [hS.zrecs, h.2.1], by rw [hS.zfin, h.2.1], hS.zclean⟩
end Go.Proofs.Ytpcklbmhblmjpaa
