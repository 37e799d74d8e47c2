/- flash.New: an erased memory. -/
import Derived.Test.YtpcklbmhblmjpaaFe
set_option maxRecDepth 100000
set_option linter.unusedVariables false
namespace Go.Proofs.Ytpcklbmhblmjpaa
open Go.RowKit

def newE (s k : Int) : Int := if 1 ≤ s ∧ s ≤ 512 ∧ 1 ≤ k ∧ k ≤ 4096 / s then 0 else 1
def newM (s k : Int) : Mem := if newE s k = 0 then (s, List.replicate (s * k).toNat 255) else (0, [])
theorem new_in {s k : Int} (h1 : 1 ≤ s) (h2 : s ≤ 512) (h3 : 1 ≤ k) (h4 : k ≤ 4096 / s) : newE s k = 0 ∧ newM s k = (s, List.replicate (s * k).toNat 255) := by simp [newE, newM, h1, h2, h3, h4]
theorem new_out {s k : Int} (h : ¬ (1 ≤ s ∧ s ≤ 512 ∧ 1 ≤ k ∧ k ≤ 4096 / s)) : newE s k = 1 ∧ newM s k = (0, []) := by simp [newE, newM, h]
theorem new_bd {s k : Int} (h1 : 1 ≤ s) (h3 : 1 ≤ k) (h4 : k ≤ 4096 / s) : 1 ≤ s * k ∧ s * k ≤ 4096 ∧ s ≤ s * k := by
  have e : s * (4096 / s) ≤ 4096 := by have := Int.mul_ediv_self_le (x := 4096) (k := s) (by omega); omega
  have a : s * k ≤ s * (4096 / s) := Int.mul_le_mul_of_nonneg_left h4 (by omega)
  have b : s * 1 ≤ s * k := Int.mul_le_mul_of_nonneg_left h3 (by omega)
  omega

/-- an array in the middle of the loop -/
def half (n k : Nat) : Array Value := (u8s (List.replicate k 255 ++ List.replicate (n - k) 0)).toArray
theorem half_zero (n : Nat) : half n 0 = zeros n := by
  apply Array.ext'
  simp [half, zeros, u8s, u8]
theorem half_set (n k : Nat) (h : k < n) : (half n k).setIfInBounds k (.int .u8 255) = half n (k + 1) := by
  unfold half
  rw [show (Value.int .u8 255) = .int .u8 ((255 : UInt8).toNat : Int) from rfl]
  rw [u8s_set]
  congr 2
  rw [List.set_append_right _ _ (by simp)]
  simp only [List.length_replicate, Nat.sub_self]
  rw [show n - k = (n - (k + 1)) + 1 from by omega, List.replicate_succ, List.set_cons_zero, List.replicate_succ']
  simp
theorem half_size (n k : Nat) (h : k ≤ n) : (half n k).size = n := by simp [half]; omega
theorem half_full (n : Nat) : half n n = (u8s (List.replicate n 255)).toArray := by simp [half]

def NewPost (w : World) (s k : Int) (e : Ending) (w' : World) : Prop :=
  ∃ A c, e = .returned (.tuple #[.agg #[.int .i64 (newM s k).1, .slice A (newM s k).2.length c], .int .i64 (newE s k)]) ∧ (newM s k).2.length ≤ c ∧ RdB w' w'.heap.size A (newM s k).2 ∧ Below w.heap.size w w' ∧
    (newE s k = 0 → ∃ g, A = some ⟨g, 0, none⟩ ∧ w.heap.size ≤ g ∧ c = (newM s k).2.length ∧ Bk w' g 5 (u8s (newM s k).2).toArray)

set_option maxHeartbeats 2000000 in
theorem New_any (s k : Int) (w : World) (hs0 : -9223372036854775808 ≤ s) (hs1 : s ≤ 9223372036854775807) (hp0 : -9223372036854775808 ≤ k) (hp1 : k ≤ 9223372036854775807) :
    Calls Try.prog 20 #[.int .i64 s, .int .i64 k] w (NewPost w s k) := by
  by_cases h1 : 1 ≤ s
  · by_cases h2 : s ≤ 512
    · have d0 : 0 ≤ 4096 / s := Int.ediv_nonneg (by omega) (by omega)
      have d1 : 4096 / s ≤ 4096 := Int.ediv_le_self _ (by omega)
      by_cases h3 : 1 ≤ k
      · by_cases h4 : k ≤ 4096 / s
        · obtain ⟨b1, b2, b3⟩ := new_bd h1 h3 h4
          obtain ⟨e1, e2⟩ := new_in h1 h2 h3 h4
          obtain ⟨n, hn⟩ := Int.eq_ofNat_of_zero_le (a := s * k) (by omega)
          have hn' : (s * k).toNat = n := by omega
          have hmk := run_make_u8 n (by omega)
          have HE : Hid (newE s k = 0 ∧ newM s k = (s, List.replicate n 255)) := ⟨e1, by rw [e2, hn']⟩
          have hn1 : 1 ≤ n := by omega
          have hn2 : n ≤ 4096 := by omega
          clear e1 e2 hn' b1 b2 b3
          go_enter Try.func20, Try.ntmps20
          go_wp2
          go_loopw [34] (fun i wr => ∃ j : Nat, i = .int .i64 (j : Int) ∧ j ≤ n ∧ Bk wr w.heap.size 24 #[.int .i64 0, .slice none 0 0] ∧ Bk wr (w.heap.size + 1) 5 (half n j) ∧ Bk wr (w.heap.size + 2) 24 #[.int .i64 s, .slice (some ⟨w.heap.size + 1, 0, none⟩) n n] ∧ Below w.heap.size w wr) (fun i _ => n - (intOf i).toNat)
          case atStart => exact ⟨0, rfl, Nat.zero_le _, ((Bk.new _ _ _).alloc _).alloc _, by rw [half_zero]; exact bkOf (by simp [at?_alloc]), bkOf (by simp [at?_alloc]), (((Below.refl _ w).alloc (Nat.le_refl _) _).alloc (by simp) _).alloc (by simp; omega) _⟩
          case round =>
            obtain ⟨j, rfl, hj, k1, k2, k3, hb⟩ := hrel
            have c0 := k3.cell 0
            have c1 := k3.cell 1
            have t0 := k1.cell 0
            have t1 := k1.cell 1
            have f0 := k1.frozen 0
            have f1 := k1.frozen 1
            simp only [List.getElem?_toArray, List.getElem?_cons_zero, List.getElem?_cons_succ] at c0 c1 t0 t1
            by_cases hlt : j < n
            · have hcj : ∃ u, wr.cell? ⟨w.heap.size + 1, j, none⟩ = some u := ⟨_, (k2.cell j).trans (Array.getElem?_eq_getElem (by rw [half_size n j hj]; exact hlt))⟩
              obtain ⟨u, hu⟩ := hcj
              have fj := k2.frozen j
              go_wp2
              go_roundw
              case rel => exact ⟨j + 1, by go_num, by omega, k1.far (p := ⟨w.heap.size + 1, j, none⟩) (by show w.heap.size ≠ w.heap.size + 1; omega) _, by rw [← half_set n j hlt]; exact k2.set j _, k3.far (p := ⟨w.heap.size + 1, j, none⟩) (by show w.heap.size + 2 ≠ w.heap.size + 1; omega) _, hb.setCell (p := ⟨w.heap.size + 1, j, none⟩) (by show _ ≤ w.heap.size + 1; omega) _⟩
              case measure => simp [intOf]; omega
            · obtain rfl : j = n := by omega
              have k4 := k2
              rw [half_full] at k4
              go_wp2
              refine bodyPost_ret (v := .tuple #[.agg #[.int .i64 s, .slice (some ⟨w.heap.size + 1, 0, none⟩) j j], .int .i64 0]) (by simp [results, Try.results20, go_sem, t0, t1]) rfl ?_
              unfold NewPost
              rw [HE.out.1, HE.out.2]
              have k5 : Bk ((wr.setCell ⟨w.heap.size, 0, none⟩ (.int .i64 s)).setCell ⟨w.heap.size, 1, none⟩ (.slice (some ⟨w.heap.size + 1, 0, none⟩) j j)) (w.heap.size + 1) 5 (u8s (List.replicate j 255)).toArray := (k4.far (p := ⟨w.heap.size, 0, none⟩) (by show w.heap.size + 1 ≠ w.heap.size; omega) _).far (p := ⟨w.heap.size, 1, none⟩) (by show w.heap.size + 1 ≠ w.heap.size; omega) _
              refine ⟨some ⟨w.heap.size + 1, 0, none⟩, j, by simp, by simp, RdB.of_bk k5 k5.lt, (hb.setCell (p := ⟨w.heap.size, 0, none⟩) (Nat.le_refl _) _).setCell (p := ⟨w.heap.size, 1, none⟩) (Nat.le_refl _) _, fun _ => ⟨w.heap.size + 1, rfl, by omega, by simp, k5⟩⟩
        · have h4' : 4096 / s < k := by omega
          obtain ⟨e1, e2⟩ := new_out (s := s) (k := k) (by omega)
          have HE : Hid (newE s k = 1 ∧ newM s k = (0, [])) := ⟨e1, e2⟩
          clear e1 e2
          go_enter Try.func20, Try.ntmps20
          go_wp2
          refine bodyPost_ret (v := .tuple #[.agg #[.int .i64 0, .slice none 0 0], .int .i64 1]) (by simp [results, Try.results20, go_sem]) rfl ?_
          unfold NewPost
          rw [HE.out.1, HE.out.2]
          exact ⟨none, 0, rfl, Nat.le_refl _, RdS.nil, (Below.refl _ _).alloc (Nat.le_refl _) _, fun h => by simp at h⟩
      · have h3' : k < 1 := by omega
        obtain ⟨e1, e2⟩ := new_out (s := s) (k := k) (by omega)
        have HE : Hid (newE s k = 1 ∧ newM s k = (0, [])) := ⟨e1, e2⟩
        clear e1 e2
        go_enter Try.func20, Try.ntmps20
        go_wp2
        refine bodyPost_ret (v := .tuple #[.agg #[.int .i64 0, .slice none 0 0], .int .i64 1]) (by simp [results, Try.results20, go_sem]) rfl ?_
        unfold NewPost
        rw [HE.out.1, HE.out.2]
        exact ⟨none, 0, rfl, Nat.le_refl _, RdS.nil, (Below.refl _ _).alloc (Nat.le_refl _) _, fun h => by simp at h⟩
    · have h2' : 512 < s := by omega
      obtain ⟨e1, e2⟩ := new_out (s := s) (k := k) (by omega)
      have HE : Hid (newE s k = 1 ∧ newM s k = (0, [])) := ⟨e1, e2⟩
      clear e1 e2
      go_enter Try.func20, Try.ntmps20
      go_wp2
      refine bodyPost_ret (v := .tuple #[.agg #[.int .i64 0, .slice none 0 0], .int .i64 1]) (by simp [results, Try.results20, go_sem]) rfl ?_
      unfold NewPost
      rw [HE.out.1, HE.out.2]
      exact ⟨none, 0, rfl, Nat.le_refl _, RdS.nil, (Below.refl _ _).alloc (Nat.le_refl _) _, fun h => by simp at h⟩
  · have h1' : s < 1 := by omega
    obtain ⟨e1, e2⟩ := new_out (s := s) (k := k) (by omega)
    have HE : Hid (newE s k = 1 ∧ newM s k = (0, [])) := ⟨e1, e2⟩
    clear e1 e2
    go_enter Try.func20, Try.ntmps20
    go_wp2
    refine bodyPost_ret (v := .tuple #[.agg #[.int .i64 0, .slice none 0 0], .int .i64 1]) (by simp [results, Try.results20, go_sem]) rfl ?_
    unfold NewPost
    rw [HE.out.1, HE.out.2]
    exact ⟨none, 0, rfl, Nat.le_refl _, RdS.nil, (Below.refl _ _).alloc (Nat.le_refl _) _, fun h => by simp at h⟩
end Go.Proofs.Ytpcklbmhblmjpaa
