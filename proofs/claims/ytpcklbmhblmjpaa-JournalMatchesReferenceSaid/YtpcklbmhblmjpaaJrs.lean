/- Room within a wide bound; a slice of slices opened, with the reach of what lies inside it. -/
import Derived.Test.YtpcklbmhblmjpaaJOpen
import Derived.Test.YtpcklbmhblmjpaaJn
import Derived.SizedLaws
set_option maxRecDepth 100000
set_option linter.unusedVariables false
set_option linter.unusedSimpArgs false
namespace Go.Proofs.Ytpcklbmhblmjpaa
section
open Go.RowKit Go.Sort Go.Shelf
set_option maxHeartbeats 1000000 in
theorem Room_wide (x : List Rec) (A1 : Option Addr) (c1 : Nat) (w : World) (h1 : RdBs w w.heap.size A1 x) (m1 : x.length ≤ 1000000) :
    Calls Try.prog 9 #[.slice A1 x.length c1] w fun e w' => ∃ r : Int, e = .returned (.int .i64 r) ∧ (room x ≤ 4000000000000000000 → r = 5 + (room x : Int)) ∧ w = w' := by
  have H1 := Lib.hid h1
  clear h1
  go_enter Try.func9, Try.ntmps9
  go_wp2
  go_loopw [3, 4] (fun v i wr => ∃ (k : Nat) (z : Int), v = .int .i64 z ∧ i = .int .i64 (k : Int) ∧ k ≤ x.length ∧ (room x ≤ 4000000000000000000 → z = 5 + (room (x.take k) : Int)) ∧ w = wr) (fun _ i _ => x.length - (intOf i).toNat)
  case atStart => exact ⟨0, 5, rfl, rfl, Nat.zero_le _, fun _ => by simp [room], rfl⟩
  case round =>
    obtain ⟨k, v, rfl, rfl, hk, hv, rfl⟩ := hrel
    by_cases hlt : k < x.length
    · obtain ⟨b1, o1, A1', c1', rfl, h1b, z1, h1c, r1⟩ := H1.out.at_ hlt
      have k1 : (0 : Int) ≤ (k : Int) := by omega
      have k2 : (k : Int) < (x.length : Int) := by omega
      obtain ⟨p, hp⟩ : ∃ p, p = x[k] := ⟨_, rfl⟩
      rw [← hp] at z1 h1c r1
      have hst := room_take_succ hlt
      rw [← hp] at hst
      have hrl := room_take_le x k
      have hrl2 := room_take_le x (k + 1)
      obtain ⟨v2, hv2⟩ : ∃ v2 : Int, v2 = RowKit.wrap64 (RowKit.wrap64 (v + 7) + (p.length : Int)) := ⟨_, rfl⟩
      have HV : Hid (room x ≤ 4000000000000000000 → v2 = 5 + (room (x.take (k + 1)) : Int)) := fun hr => by
        have h9 := hv hr
        rw [hv2, IntWalk.wrap64_in (v + 7) (by omega), IntWalk.wrap64_in _ (by omega)]
        omega
      have HV2 := Lib.hid hv2
      clear hp r1 hst hrl hrl2 hv hv2
      go_wp2
      go_roundw
      case rel => exact ⟨k + 1, v2, by rw [HV2.out], by go_num, by omega, HV.out, trivial⟩
      case measure => simp [intOf]; omega
    · obtain rfl : k = x.length := by omega
      rw [List.take_of_length_le (Nat.le_refl _)] at hv
      have HV := Lib.hid hv
      clear hv
      go_wp2
      go_ret
      exact ⟨v, rfl, HV.out, rfl⟩
end
section
open Go.ChangeShapes Go.WideShapes Go.ChangeAt Go.RowKit Go.Joins Go.Deep
theorem open_bytess_w {H : Type} {enc : TypeId × Value → H} {w : World} {r : Reach} {b0 : Nat} {v : Value} {d : DataW H} {p : List MemPlace} (hv : Value.okWide Try.prog w r b0 25 v) (h : DataW.Trod enc Try.prog w 0 (fun _ => true) true 25 v d p) :
    ∃ (A : Option Addr) (l : List Rec) (c : Nat), v = .slice A l.length c ∧ l.length ≤ c ∧ c ≤ maxLen ∧ RdBs w w.heap.size A l ∧ ∀ d' ∈ l, d'.length = 0 ∨ ∃ elems spare e' sp', d = .slice elems spare ∧ DataW.slice e' sp' ∈ elems ∧ d'.length ≤ e'.length + sp'.length := by
  obtain ⟨a, len, cap, rfl⟩ := okWide_slice (P := Try.prog) Try.underlying25 hv
  obtain ⟨fuel, hf⟩ := h
  have hC : Try.prog.cellsOf 22 = 1 := by kernel_rfl
  rcases open_slice Try.underlying25 (by simpa [Value.cells] using hf) with ⟨hcs, _⟩ | ⟨a', len', cap', m, n, D, Pl, hcs, _, hl, hm, hmm, hdat, hi⟩
  · obtain ⟨rfl, rfl, rfl⟩ : a = none ∧ len = 0 ∧ cap = 0 := by simpa using hcs
    exact ⟨none, [], 0, rfl, Nat.le_refl _, by simp [maxLen], RdBs.nil, by simp⟩
  · obtain ⟨rfl, rfl, rfl⟩ : a = some a' ∧ len = len' ∧ cap = cap' := by simpa using hcs
    simp only [if_true] at hmm
    subst hmm
    rw [hC] at hi
    have hy : ∀ i, i < len → ∃ y : Option Addr × Nat × Rec, w.cell? (a'.add i) = some (.slice y.1 y.2.2.length y.2.1) ∧ y.2.2.length ≤ y.2.1 ∧ y.2.1 ≤ maxLen ∧ RdB w w.heap.size y.1 y.2.2 ∧ (y.2.2.length = 0 ∨ ∃ e' sp', D i = .slice e' sp' ∧ y.2.2.length ≤ e'.length + sp'.length) := by
      intro i hil
      obtain ⟨cs', hc, ht⟩ := hi i (by omega)
      obtain ⟨_, hcl, hat⟩ := World.cells?_some hc
      obtain ⟨u, rfl⟩ : ∃ u, cs' = [u] := by
        match cs', hcl with
        | [u], _ => exact ⟨u, rfl⟩
      obtain ⟨A, bs, c, rfl, hbc, hcm, hrd⟩ := open_bytes ht
      have hwt : bs.length = 0 ∨ ∃ e' sp', D i = .slice e' sp' ∧ bs.length ≤ e'.length + sp'.length := by
        rcases open_slice Try.underlying22 ht with ⟨hcs2, _⟩ | ⟨a2, len2, cap2, m2, n2, D2, Pl2, hcs2, _, _, _, _, hdat2, _⟩
        · left
          have : bs.length = 0 := by
            have h9 : (Value.slice A bs.length c) = .slice none 0 0 := by simpa using hcs2
            injection h9
          exact this
        · right
          have h9 : bs.length = len2 := by
            have h8 : (Value.slice A bs.length c) = .slice (some a2) len2 cap2 := by simpa using hcs2
            injection h8
          have h7 := (Prod.mk.inj hdat2).1
          exact ⟨_, _, h7, by simp; omega⟩
      refine ⟨(A, c, bs), ?_, hbc, hcm, hrd, hwt⟩
      have := hat 0 (by omega)
      rw [Go.Deep.add_add] at this
      simpa using this
    have key : ∀ k, k ≤ len → ∃ ys : List (Option Addr × Nat × Rec), ys.length = k ∧ ∀ i y, ys[i]? = some y → w.cell? (a'.add i) = some (.slice y.1 y.2.2.length y.2.1) ∧ y.2.2.length ≤ y.2.1 ∧ y.2.1 ≤ maxLen ∧ RdB w w.heap.size y.1 y.2.2 ∧ (i < len) ∧ (y.2.2.length = 0 ∨ ∃ e' sp', D i = .slice e' sp' ∧ y.2.2.length ≤ e'.length + sp'.length) := by
      intro k
      induction k with
      | zero => intro _; exact ⟨[], rfl, by simp⟩
      | succ k ih =>
        intro hk
        obtain ⟨ys, hyl, hys⟩ := ih (by omega)
        obtain ⟨y, hy⟩ := hy k (by omega)
        refine ⟨ys ++ [y], by simp [hyl], fun i z hz => ?_⟩
        by_cases h0 : i < ys.length
        · exact hys i z (by rwa [List.getElem?_append_left h0] at hz)
        · rw [List.getElem?_append_right (by omega)] at hz
          have h1 : i - ys.length = 0 := by
            by_cases h2 : i - ys.length = 0
            · exact h2
            · rw [List.getElem?_eq_none (by simp; omega)] at hz; cases hz
          rw [h1] at hz
          obtain rfl : y = z := by simpa using hz
          obtain rfl : i = k := by omega
          obtain ⟨z1, z2, z3, z4, z5⟩ := hy
          exact ⟨z1, z2, z3, z4, by omega, z5⟩
    obtain ⟨ys, hyl, hys⟩ := key len (Nat.le_refl _)
    refine ⟨some a', ys.map (·.2.2), _, by simp [hyl], by simp [hyl]; omega, hm, fun hn => ?_, ?_⟩
    · have hn' : 0 < ys.length := by simpa using hn
      obtain ⟨c0, _⟩ := hys 0 ys[0] (List.getElem?_eq_getElem hn')
      obtain ⟨b, o, q⟩ := a'
      have hq : q = none := by
        have := World.cell?_spot c0
        simpa [Addr.add] using this
      subst hq
      refine ⟨b, o, rfl, World.block_lt_of_cell? w _ c0, fun i d hd => ?_⟩
      rw [List.getElem?_map, Option.map_eq_some_iff] at hd
      obtain ⟨y, hyi, rfl⟩ := hd
      obtain ⟨k1, k2, k3, k4, _⟩ := hys i y hyi
      exact ⟨y.1, y.2.1, by rw [← add_mk]; exact k1, k2, k4⟩
    · intro d hd
      obtain ⟨y, hyi, rfl⟩ := List.mem_map.1 hd
      obtain ⟨i, hi'⟩ := List.mem_iff_getElem?.1 hyi
      obtain ⟨k1, k2, k3, k4, k5, k6⟩ := hys i y hi'
      rcases k6 with k6 | ⟨e', sp', k6, k7⟩
      · exact .inl k6
      · refine .inr ⟨_, _, e', sp', (Prod.mk.inj hdat).1, ?_, k7⟩
        rw [← k6]
        exact List.mem_map.2 ⟨i, List.mem_range.2 k5, rfl⟩
theorem weightsAll_mem {H : Type} {P : Program} {e : TypeId} : ∀ {l : List (DataW H)} {d : DataW H}, d ∈ l → ∀ n ∈ d.weights P e, n ∈ DataW.weightsAll P e l
  | d0 :: l, d, hd, n, hn => by
    simp only [DataW.weightsAll, List.mem_append]
    rcases List.mem_cons.1 hd with rfl | hd
    · exact Or.inl hn
    · exact Or.inr (weightsAll_mem hd n hn)
theorem sized_in {H : Type} {P : Program} {ts : List TypeId} {ds : List (DataW H)} (h : (DataW.weightsEach P ts ds).all (· ≤ reachBytes) = true) {j : Nat} {t e q : TypeId} {elems spare e' sp' : List (DataW H)}
    (ht : ts[j]? = some t) (hd : ds[j]? = some (.slice elems spare)) (hu : P.underlying t = some (.slice e)) (hu2 : P.underlying e = some (.slice q)) (hx : DataW.slice e' sp' ∈ elems) : (e'.length + sp'.length) * P.bytesOf q ≤ reachBytes := by
  refine of_decide_eq_true (List.all_eq_true.1 h _ (DataW.weights_mem_each ht hd _ ?_))
  simp only [DataW.weights, hu, List.mem_cons, List.mem_append]
  exact Or.inr (Or.inl (weightsAll_mem hx _ (by simp [DataW.weights, hu2])))
theorem bytes_u8 : Try.prog.bytesOf 5 = 1 := by kernel_rfl
end
end Go.Proofs.Ytpcklbmhblmjpaa
