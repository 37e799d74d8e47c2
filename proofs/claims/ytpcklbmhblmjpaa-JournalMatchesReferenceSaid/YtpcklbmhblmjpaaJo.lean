/- The law's examples, plain. -/
import Derived.Test.YtpcklbmhblmjpaaJn
set_option maxRecDepth 100000
namespace Go.Proofs.Ytpcklbmhblmjpaa
def hd0 : Mem := fmtM 32 2
def hd1 : Mem := lastM hd0 (appM hd0 [7]) 0
def hd2 : Mem := lastM hd1 (appM hd1 []) 0
def hd3 : Mem := lastM hd2 (rewM hd2 [[1, 2]]) 0
theorem hd_a : fmtE 32 2 = 0 := by decide +kernel
theorem hd_b : appE hd0 [7] = 0 := by decide +kernel
theorem hd_c : (appM hd0 [7]).length = 9 := by decide +kernel
theorem hd_d : appE hd1 [] = 0 := by decide +kernel
theorem hd_e : rewE hd2 [[1, 2]] = 0 := by decide +kernel
theorem hd_f : appE hd0 (List.replicate 21 0) = 10 := by decide +kernel
theorem hd_g : lookE (32, List.replicate 64 0) = 4 := by decide +kernel
theorem hd_h : fmtE 31 1 = 1 := by decide +kernel
theorem hd_i : hldB hd0 [] = true := by decide +kernel
theorem hd_j : hldB hd1 [[7]] = true := by decide +kernel
theorem hd_k : hldB hd2 [[7], []] = true := by decide +kernel
theorem hd_l : hldB hd3 [[1, 2]] = true := by decide +kernel
theorem hd_m : (appM hd1 []).length ≤ 1000000 ∧ (rewM hd2 [[1, 2]]).length ≤ 1000000 := by decide +kernel
end Go.Proofs.Ytpcklbmhblmjpaa
