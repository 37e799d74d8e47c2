/- What a journal memory is: areas, generations, which area counts. No program. -/
import Derived.Test.YtpcklbmhblmjpaaMem
import Derived.Test.YtpcklbmhblmjpaaJMem
import Derived.Test.YtpcklbmhblmjpaaFa
set_option linter.unusedVariables false
namespace Go.Proofs.Ytpcklbmhblmjpaa

def jvB (s : Int) (n : Nat) : Bool := validB s n && decide ((n : Int) / s % 2 = 0) && decide (32 ≤ (n : Int))
def hf (m : Mem) : Nat := m.2.length / 2
def areaB (m : Mem) (a : Nat) : List UInt8 := (m.2.drop (a * hf m)).take (hf m)
def genB (b : List UInt8) : Nat := num4 (b.getD 1 0) (b.getD 2 0) (b.getD 3 0) (b.getD 4 0)
def curO (m : Mem) : Option Nat :=
  if (areaB m 0).getD 0 0 = 80 then
    if (areaB m 1).getD 0 0 = 80 then if genB (areaB m 0) < genB (areaB m 1) then some 1 else some 0 else some 0
  else if (areaB m 1).getD 0 0 = 80 then some 1 else none
theorem areaB_length (m : Mem) {a : Nat} (ha : a ≤ 1) : (areaB m a).length = hf m := by
  unfold areaB hf
  rw [List.length_take, List.length_drop]
  have : a * (m.2.length / 2) ≤ m.2.length / 2 := by
    calc a * (m.2.length / 2) ≤ 1 * (m.2.length / 2) := Nat.mul_le_mul_right _ ha
      _ = _ := Nat.one_mul _
  omega
theorem jv_len {s : Int} {n : Nat} (h : jvB s n = true) : 32 ≤ n := by
  simp only [jvB, Bool.and_eq_true, decide_eq_true_eq] at h; omega
/-- a part of what is read -/
theorem RdB.part {w : World} {B b o : Nat} {bs : List UInt8} (h : RdB w B (some ⟨b, o, none⟩) bs) (i n : Nat) (hn : 0 < n) (hi : i + n ≤ bs.length) : RdB w B (some ⟨b, o + i, none⟩) ((bs.drop i).take n) := by
  have hl : ((bs.drop i).take n).length = n := by rw [List.length_take, List.length_drop]; omega
  obtain ⟨b', o', e, hb, hc⟩ := h.addr (by omega)
  obtain ⟨rfl, rfl⟩ : b = b' ∧ o = o' := by simpa using e
  refine ⟨by simp, fun _ => ⟨b, o + i, rfl, hb, fun j u hu => ?_⟩⟩
  have hj : j < n := by
    rcases Nat.lt_or_ge j n with h' | h'
    · exact h'
    · rw [List.getElem?_eq_none (by simp; omega)] at hu; cases hu
  rw [u8s_get _ j (by omega)] at hu
  rw [← Option.some.inj hu, Nat.add_assoc, hc (i + j) (by omega)]
  simp
end Go.Proofs.Ytpcklbmhblmjpaa
