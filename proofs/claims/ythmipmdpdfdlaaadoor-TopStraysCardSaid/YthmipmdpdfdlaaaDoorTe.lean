/- match: valid, distance, less and what it calls, slices.Clone. -/
import Derived.Test.YthmipmdpdfdlaaaDoorTd
import Derived.Test.YthmipmdpdfdlaaaDoorTm
import Derived.StillTailTactics
import Derived.WalkSpells
set_option maxRecDepth 100000
set_option linter.unusedVariables false
set_option linter.unusedSimpArgs false
namespace Go.Proofs.YthmipmdpdfdlaaaDoor
open Go.RowKit

/-! ### valid -/
def mvF : Int → List Pas → Bool
  | _, [] => true
  | b, p :: r => plB p.1 && (decide (b ≤ p.2) && (decide (p.2 ≤ 52560000) && mvF p.2 r))
def mvB (ps : List Pas) : Bool := decide (ps.length ≤ 8) && mvF 0 ps
set_option maxHeartbeats 1000000 in
theorem mvalid_any (ps : List Pas) (A : Option Addr) (c : Nat) (w : World) (hA : RdP w w.heap.size A ps) (hS : ∀ p ∈ ps, p.1.size ≤ 9223372036854775807) (hn : ps.length ≤ 9223372036854775807) :
    Calls Tryd.prog 13 #[.slice A ps.length c] w fun e w' => e = .returned (.bool (mvB ps)) ∧ Below w.heap.size w w' := by
  have HA := Lib.hid hA
  have HS := Lib.hid hS
  clear hA hS
  by_cases h8 : 8 < ps.length
  · have hv : mvB ps = false := by simp [mvB]; omega
    rw [hv]
    clear hv
    go_enter Tryd.func13, Tryd.ntmps13
    go_wp2
    go_ret
    exact ⟨rfl, Below.refl _ _⟩
  · go_enter Tryd.func13, Tryd.ntmps13
    go_wp2
    go_loopw [3, 11] (fun bf i wr => ∃ (k : Nat) (b : Int), bf = .int .i64 b ∧ i = .int .i64 (k : Int) ∧ k ≤ ps.length ∧ mvF 0 ps = mvF b (ps.drop k) ∧ Below w.heap.size w wr) (fun _ i _ => ps.length - (intOf i).toNat)
    case atStart => exact ⟨0, 0, rfl, rfl, Nat.zero_le _, by rw [List.drop_zero], Below.refl _ _⟩
    case round =>
      obtain ⟨k, b, rfl, rfl, hk, hq, hbw⟩ := hrel
      have HBW := Lib.hid hbw
      have hsz := hbw.size
      clear hbw
      by_cases hlt : k < ps.length
      · obtain ⟨p, hp⟩ : ∃ p, p = ps[k] := ⟨_, rfl⟩
        have HQ : Hid (mvF 0 ps = mvF b (p :: ps.drop (k + 1))) := by show _ = _; rw [hq, List.drop_eq_getElem_cons hlt, hp]
        obtain ⟨bb, oo, rfl, hbb, c0, c1⟩ := (Rd2.below HA.out HBW.out).at_ hlt
        rw [← hp] at c0 c1
        simp only [paF, paG] at c0 c1
        have hS1 := HS.out p (by rw [hp]; exact List.getElem_mem _)
        clear hq hp
        have hbb2 : bb < wr.heap.size := by omega
        have k1 : (0 : Int) ≤ (k : Int) := by omega
        have k2 : (k : Int) < (ps.length : Int) := by omega
        go_wp2_with fail
        obtain ⟨U, hU⟩ : ∃ Zz, Zz = wr.alloc (.cells #[.string p.1, .int .i64 p.2] 42) := ⟨_, rfl⟩
        have kx : Bk U wr.heap.size 42 #[.string p.1, .int .i64 p.2] := by rw [hU]; exact Bk.new _ _ _
        have HU : Hid (Below w.heap.size w U) := by show Below _ _ _; rw [hU]; exact HBW.out.alloc hsz _
        rw [← hU]
        clear hU c0 c1
        refine (PValid_any p.1 _ hS1).mono ?_
        rintro e W1 ⟨rfl, hb1⟩
        obtain ⟨x0, x1⟩ := box2 (kx.next hb1)
        have hl1 := (kx.next hb1).lt
        have HW1 := Lib.hid (bt hb1 HU.out)
        clear kx hb1
        by_cases hpl : plB p.1 = true
        · rw [hpl]
          by_cases hmb : p.2 < b
          · have HV : Hid (mvB ps = false) := by
              show _ = _
              rw [mvB, HQ.out, mvF, decide_eq_false (by omega : ¬ b ≤ p.2)]; simp
            clear hpl
            go_wp2
            go_ret
            exact ⟨by rw [HV.out]; rfl, HW1.out⟩
          · by_cases hmm : 52560000 < p.2
            · have HV : Hid (mvB ps = false) := by
                show _ = _
                rw [mvB, HQ.out, mvF, decide_eq_false (by omega : ¬ p.2 ≤ 52560000)]; simp
              clear hpl
              go_wp2
              go_ret
              exact ⟨by rw [HV.out]; rfl, HW1.out⟩
            · have HN : Hid (mvF 0 ps = mvF p.2 (ps.drop (k + 1))) := by
                show _ = _
                rw [HQ.out, mvF, hpl, decide_eq_true (by omega : b ≤ p.2), decide_eq_true (by omega : p.2 ≤ 52560000)]; simp
              clear hpl
              go_wp2
              go_roundw
              case rel => exact ⟨k + 1, p.2, rfl, by go_num, by omega, HN.out, HW1.out⟩
              case measure => simp [intOf]; omega
        · have hpl : plB p.1 = false := by simpa using hpl
          rw [hpl]
          have HV : Hid (mvB ps = false) := by
            show _ = _
            rw [mvB, HQ.out, mvF, hpl]; simp
          clear hpl
          go_wp2
          go_ret
          exact ⟨by rw [HV.out]; rfl, HW1.out⟩
      · have HV : Hid (mvB ps = true) := by
          show _ = _
          rw [mvB, hq, List.drop_eq_nil_of_le (by omega), mvF, decide_eq_true (by omega : ps.length ≤ 8)]; rfl
        clear hq
        have k2 : ¬ (k : Int) < (ps.length : Int) := by omega
        go_wp2
        go_ret
        exact ⟨by rw [HV.out]; rfl, HBW.out⟩

/-! ### distance -/
theorem mdist_any (p q : Pas) (w : World) (hp : p.1.size ≤ 9223372036854775807) (hq : q.1.size ≤ 9223372036854775807) (hC : Cf w) :
    Calls Tryd.prog 15 #[.agg #[.string p.1, .int .i64 p.2], .agg #[.string q.1, .int .i64 q.2]] w fun e w' => e = .returned (.int .i64 (dsV p.1 q.1)) ∧ Below w.heap.size w w' := by
  have HC := Lib.hid hC
  clear hC
  go_enter Tryd.func15, Tryd.ntmps15
  go_wp2_with fail
  refine (Distance_any p.1 q.1 _ hp hq (HC.out.next (al2 _ _ _))).mono ?_
  rintro e W1 ⟨rfl, hb⟩
  have HB := Lib.hid (bt hb (al2 _ _ _))
  clear hb
  by_cases hv : plB p.1 = true ∧ plB q.1 = true
  · have he : dsE p.1 q.1 = 0 := by rw [dsE, if_pos hv]
    rw [he]
    clear hv he
    go_wp2
    go_ret
    exact ⟨rfl, HB.out⟩
  · have he : dsE p.1 q.1 = 1 := by rw [dsE, if_neg hv]
    have HV : Hid (dsV p.1 q.1 = 0) := by show _ = _; rw [dsV, if_neg hv]
    rw [he]
    clear hv he
    go_wp2
    go_ret
    exact ⟨by rw [HV.out]; rfl, HB.out⟩

/-! ### comparisons -/
theorem isNaN_any (a : Int) (w : World) : Calls Tryd.prog 23 #[.int .i64 a] w fun e w' => e = .returned (.bool false) ∧ w = w' := by
  have q : (a == a) = true := by simp
  go_enter Tryd.func23, Tryd.ntmps23
  go_wp2
  go_ret
  exact ⟨by simp, rfl⟩
def cmpV (a b : Int) : Int := if a < b then -1 else if b < a then 1 else 0
theorem Compare_any (a b : Int) (w : World) : Calls Tryd.prog 22 #[.int .i64 a, .int .i64 b] w fun e w' => e = .returned (.int .i64 (cmpV a b)) ∧ w = w' := by
  by_cases h1 : a < b
  · have hv : cmpV a b = -1 := by rw [cmpV, if_pos h1]
    rw [hv]
    clear hv
    go_enter Tryd.func22, Tryd.ntmps22
    go_wp2_with (go_at_call 23; refine (isNaN_any _ _).mono ?_; rintro e w' ⟨rfl, rfl⟩)
    go_ret
    exact ⟨rfl, rfl⟩
  · by_cases h2 : b < a
    · have hv : cmpV a b = 1 := by rw [cmpV, if_neg h1, if_pos h2]
      rw [hv]
      clear hv
      go_enter Tryd.func22, Tryd.ntmps22
      go_wp2_with (go_at_call 23; refine (isNaN_any _ _).mono ?_; rintro e w' ⟨rfl, rfl⟩)
      go_ret
      exact ⟨rfl, rfl⟩
    · have hv : cmpV a b = 0 := by rw [cmpV, if_neg h1, if_neg h2]
      rw [hv]
      clear hv
      go_enter Tryd.func22, Tryd.ntmps22
      go_wp2_with (go_at_call 23; refine (isNaN_any _ _).mono ?_; rintro e w' ⟨rfl, rfl⟩)
      go_ret
      exact ⟨rfl, rfl⟩
theorem Compare_same (a b : Int) (w : World) : Calls Tryd.prog 22 #[.int .i64 a, .int .i64 b] w fun e w' => e = .returned (.int .i64 (cmpV a b)) ∧ w' = w :=
  (Compare_any a b w).mono fun _ _ h => ⟨h.1, h.2.symm⟩
def orV (x y : Int) : Int := if x = 0 then y else x
theorem Or_any (g c : Nat) (x y : Int) (t : TypeId) (w : World) (hA : Bk w g t #[.int .i64 x, .int .i64 y]) : Calls Tryd.prog 21 #[.slice (some ⟨g, 0, none⟩) 2 c] w fun e w' => e = .returned (.int .i64 (orV x y)) ∧ w = w' := by
  obtain ⟨c0, c1⟩ := box2 hA
  clear hA
  go_enter Tryd.func21, Tryd.ntmps21
  go_wp2
  go_loop [5, 8] (fun _ i => ∃ k : Nat, i = .int .i64 (k : Int) ∧ k ≤ 2 ∧ (1 ≤ k → x = 0) ∧ (2 ≤ k → y = 0)) (fun _ i => 2 - (intOf i).toNat)
  case atStart => exact ⟨0, rfl, by omega, fun h => absurd h (by omega), fun h => absurd h (by omega)⟩
  case round =>
    obtain ⟨k, rfl, hk, hx, hy⟩ := hrel
    rcases (by omega : k = 0 ∨ k = 1 ∨ k = 2) with h0 | h0 | h0
    · obtain rfl : k = 0 := h0
      clear hx hy hk
      rw [show ((0 : Nat) : Int) = 0 from rfl]
      by_cases hx : x = 0
      · have HX := Lib.hid hx
        have q : (x == 0) = true := by rw [beq_iff_eq]; exact hx
        clear hx
        go_wp2
        go_round
        case rel => exact ⟨1, by go_num, by omega, fun _ => HX.out, fun h => absurd h (by omega)⟩
        case measure => simp [intOf]
      · have HV : Hid (orV x y = x) := by show _ = _; rw [orV, if_neg hx]
        have q : (x == 0) = false := by rw [beq_eq_false_iff_ne]; exact hx
        clear hx
        go_wp2
        go_ret
        exact ⟨by rw [HV.out]; rfl, rfl⟩
    · obtain rfl : k = 1 := h0
      have HX := Lib.hid (hx (by omega))
      clear hx hy hk
      rw [show ((1 : Nat) : Int) = 1 from rfl]
      by_cases hy : y = 0
      · have HY := Lib.hid hy
        have q : (y == 0) = true := by rw [beq_iff_eq]; exact hy
        clear hy
        go_wp2
        go_round
        case rel => exact ⟨2, by go_num, by omega, fun _ => HX.out, fun _ => HY.out⟩
        case measure => simp [intOf]
      · have HV : Hid (orV x y = y) := by show _ = _; rw [orV, if_pos HX.out]
        have q : (y == 0) = false := by rw [beq_eq_false_iff_ne]; exact hy
        clear hy
        go_wp2
        go_ret
        exact ⟨by rw [HV.out]; rfl, rfl⟩
    · obtain rfl : k = 2 := h0
      have HV : Hid (orV x y = 0) := by show _ = _; rw [orV, if_pos (hx (by omega)), hy (by omega)]
      clear hx hy hk
      rw [show ((2 : Nat) : Int) = 2 from rfl]
      go_wp2
      go_ret
      exact ⟨by rw [HV.out]; rfl, rfl⟩
set_option maxHeartbeats 1000000 in
theorem cmpP_any (a b c d : Int) (w : World) : Calls Tryd.prog 20 #[.agg #[.int .i64 a, .int .i64 b], .agg #[.int .i64 c, .int .i64 d]] w fun e w' => e = .returned (.int .i64 (orV (cmpV a c) (cmpV b d))) ∧ Below w.heap.size w w' := by
  go_enter Tryd.func20, Tryd.ntmps20
  go_wp2
  refine region_tail 10 (by kernel_rfl) (by decide +kernel) ?_
  simp only [List.take_succ_cons, List.take_zero, List.drop_succ_cons, List.drop_zero]
  still_step
  still_step
  still_step
  still_step
  still_call (Compare_same _ _ _)
  still_step
  still_step
  still_step
  still_step
  still_call (Compare_same _ _ _)
  refine wpStill_nil ?_
  go_wp2_with fail
  refine (Or_any _ _ (cmpV a c) (cmpV b d) _ _ (bkOf (by simp [at?_alloc, at?_drew, at?_drewN]; first | rfl | done))).mono ?_
  rintro e w' ⟨rfl, rfl⟩
  go_wp2
  go_ret
  exact ⟨rfl, (al3 _ _ _ _).drew⟩
def SomeI (w : World) (e : Ending) (w' : World) : Prop := ∃ n : Int, e = .returned (.int .i64 n) ∧ Below w.heap.size w w'
set_option maxHeartbeats 1000000 in
theorem CompareFunc_any (l m : Prs) (A B : Option Addr) (c d : Nat) (w : World) (hA : RdQ w w.heap.size A l) (hB : RdQ w w.heap.size B m) (hl : l.length ≤ 1000000) (hm : m.length ≤ 1000000) :
    Calls Tryd.prog 19 #[.slice A l.length c, .slice B m.length d, .func (.func 20) #[] #[]] w (SomeI w) := by
  have HA := Lib.hid hA
  have HB := Lib.hid hB
  clear hA hB
  go_enter Tryd.func19, Tryd.ntmps19
  go_wp2
  go_loopw [7, 13] (fun _ i wr => ∃ k : Nat, i = .int .i64 (k : Int) ∧ k ≤ l.length ∧ Below w.heap.size w wr) (fun _ i _ => l.length - (intOf i).toNat)
  case atStart => exact ⟨0, rfl, Nat.zero_le _, Below.refl _ _⟩
  case round =>
    obtain ⟨k, rfl, hk, hbw⟩ := hrel
    have HBW := Lib.hid hbw
    have hsz := hbw.size
    clear hbw
    by_cases hlt : k < l.length
    · obtain ⟨p, hp⟩ : ∃ p, p = l[k] := ⟨_, rfl⟩
      obtain ⟨ba, oa, rfl, hba, c0, c1⟩ := (Rd2.below HA.out HBW.out).at_ hlt
      rw [← hp] at c0 c1
      simp only [prF, prG] at c0 c1
      clear hp
      have k1 : (0 : Int) ≤ (k : Int) := by omega
      have k2 : (k : Int) < (l.length : Int) := by omega
      have hba2 : ba < wr.heap.size := by omega
      by_cases hm2 : k < m.length
      · obtain ⟨q, hq⟩ : ∃ q, q = m[k] := ⟨_, rfl⟩
        obtain ⟨bb, ob, rfl, hbb, d0, d1⟩ := (Rd2.below HB.out HBW.out).at_ hm2
        rw [← hq] at d0 d1
        simp only [prF, prG] at d0 d1
        clear hq
        have k3 : (k : Int) < (m.length : Int) := by omega
        have hbb2 : bb < wr.heap.size := by omega
        go_wp2_with fail
        refine (cmpP_any _ _ _ _ _).mono ?_
        rintro e W1 ⟨rfl, hb⟩
        have HW : Hid (Below w.heap.size w W1) := (HBW.out.trans ((bt hb (al2 _ _ _)).mono hsz))
        clear hb
        obtain ⟨v, hv⟩ : ∃ v, orV (cmpV (p.1 : Int) (q.1 : Int)) (cmpV (p.2 : Int) (q.2 : Int)) = v := ⟨_, rfl⟩
        rw [hv]
        clear hv
        by_cases hv0 : v = 0
        · subst hv0
          go_wp2
          go_roundw
          case rel => exact ⟨k + 1, by go_num, by omega, HW.out⟩
          case measure => simp [intOf]; omega
        · have q0 : (v == 0) = false := by rw [beq_eq_false_iff_ne]; exact hv0
          clear hv0
          go_wp2
          go_ret
          exact ⟨v, rfl, HW.out⟩
      · have k3 : (m.length : Int) ≤ (k : Int) := by omega
        have HW : Hid (∀ o, Below w.heap.size w (wr.alloc o)) := fun o => HBW.out.alloc hsz o
        go_wp2
        go_ret
        exact ⟨1, rfl, HW.out _⟩
    · obtain rfl : k = l.length := by omega
      by_cases hlm : l.length < m.length
      · have k3 : (l.length : Int) < (m.length : Int) := by omega
        go_wp2
        go_ret
        exact ⟨-1, rfl, HBW.out⟩
      · have k3 : ¬ (l.length : Int) < (m.length : Int) := by omega
        go_wp2
        go_ret
        exact ⟨0, rfl, HBW.out⟩
theorem compare_any (l m : Prs) (A B : Option Addr) (c d : Nat) (w : World) (hA : RdQ w w.heap.size A l) (hB : RdQ w w.heap.size B m) (hl : l.length ≤ 1000000) (hm : m.length ≤ 1000000) :
    Calls Tryd.prog 18 #[.slice A l.length c, .slice B m.length d] w (SomeI w) := by
  have HA := Lib.hid hA
  have HB := Lib.hid hB
  clear hA hB
  go_enter Tryd.func18, Tryd.ntmps18
  go_wp2_with fail
  refine (CompareFunc_any l m A B c d _ HA.out HB.out hl hm).mono ?_
  rintro e W1 ⟨n, rfl, hb⟩
  go_wp2
  go_ret
  exact ⟨n, rfl, hb⟩
/-- is the first list better, or as good? -/
def LessP (x y : Int) (w : World) (e : Ending) (w' : World) : Prop := ∃ b : Bool, e = .returned (.bool b) ∧ (b = true → x ≤ y) ∧ (b = false → y ≤ x) ∧ Below w.heap.size w w'
theorem less_any (l m : Prs) (x y : Int) (A B : Option Addr) (c d : Nat) (w : World) (hA : RdQ w w.heap.size A l) (hB : RdQ w w.heap.size B m) (hl : l.length ≤ 1000000) (hm : m.length ≤ 1000000) :
    Calls Tryd.prog 16 #[.agg #[.slice A l.length c, .int .i64 x], .agg #[.slice B m.length d, .int .i64 y]] w (LessP x y w) := by
  have HA := Lib.hid hA
  have HB := Lib.hid hB
  clear hA hB
  by_cases hxy : x = y
  · subst hxy
    have q : (x == x) = true := by simp
    go_enter Tryd.func16, Tryd.ntmps16
    go_wp2_with fail
    have h2 := al2 w (.cells #[.slice A l.length c, .int .i64 x] 56) (.cells #[.slice B m.length d, .int .i64 x] 56)
    refine (compare_any l m A B c d _ (HA.out.next h2) (HB.out.next h2) hl hm).mono ?_
    rintro e W1 ⟨n, rfl, hb⟩
    have HW := Lib.hid (bt hb h2)
    clear hb h2
    go_wp2
    go_ret
    exact ⟨_, rfl, fun _ => Int.le_refl _, fun _ => Int.le_refl _, HW.out⟩
  · have q : (x == y) = false := by rw [beq_eq_false_iff_ne]; exact hxy
    by_cases hlt : x < y
    · clear hxy
      go_enter Tryd.func16, Tryd.ntmps16
      go_wp2
      go_ret
      exact ⟨true, rfl, (fun _ => by omega), (fun h => nomatch h), al2 _ _ _⟩
    · clear hxy
      go_enter Tryd.func16, Tryd.ntmps16
      go_wp2
      go_ret
      exact ⟨false, rfl, (fun h => nomatch h), (fun _ => by omega), al2 _ _ _⟩
/-! ### Clone -/
def CloneP (l : Prs) (w : World) (e : Ending) (w' : World) : Prop := ∃ A c, e = .returned (.slice A l.length c) ∧ l.length ≤ c ∧ RdQ w' w'.heap.size A l ∧ Below w.heap.size w w'
theorem prq_one (l : Prs) : ∀ u ∈ cl2 prF prG l, u.oneCell' = true := cl2_one prF prG (fun _ => rfl) (fun _ => rfl) l
theorem info_pair : (Tryd.prog.info? 39).map (fun i => (i.zero, i.size, i.bytes)) = some (some (.agg #[.int .i64 0, .int .i64 0]), 2, 16) := by kernel_rfl
theorem Clone_any (l : Prs) (A : Option Addr) (c : Nat) (w : World) (hA : RdQ w w.heap.size A l) (hl : l.length ≤ 1000000) :
    Calls Tryd.prog 17 #[.slice A l.length c] w (CloneP l w) := by
  obtain ⟨i0, hi, hz0, hz1, hz2⟩ := info_parts info_pair
  have HA := Lib.hid hA
  clear hA
  rcases A with _ | ad
  · have hl0 : l = [] := by
      rcases Nat.eq_zero_or_pos l.length with h | h
      · exact List.eq_nil_of_length_eq_zero h
      · obtain ⟨_, _, h9, _⟩ := HA.out.2 h; cases h9
    subst hl0
    have hnil := fun W : World => Lib.run_eql_slice_nil W 35 39 none 0 c 0 0 Tryd.underlying35
    go_enter Tryd.func17, Tryd.ntmps17
    go_wp2
    go_ret
    exact ⟨none, 0, rfl, Nat.le_refl _, Rd2.nil, Below.refl _ _⟩
  · have hnil := fun W : World => Lib.run_eql_slice_nil W 35 39 (some ad) l.length c 0 0 Tryd.underlying35
    go_enter Tryd.func17, Tryd.ntmps17
    go_wp2_with (at_builtin; refine wpList_append_rd _ rfl _ _ _ rfl w.heap.size 39 i0 _ 2 16 Tryd.underlying35 hi hz0 hz1 hz2 rfl (by omega) (.slice (some ⟨w.heap.size, 0, none⟩) 0 0) 0 [] (by rfl) (own_empty (by simp [at?_alloc]) (Nat.le_refl _)) (w.alloc (.cells #[] 39)).heap.size (some ad) l.length c (cl2 prF prG l) (by rfl) (HA.out.next (al1 _ _)) (prq_one l) (by simp only [maxLen]; omega) (by omega) (by simp) ?_; intro v' W2 hown hg hat)
    obtain ⟨A2, c2, rfl, hc2, hr⟩ := own_read hown
    have HB : Hid (Below w.heap.size w W2) := (al1 w (.cells #[] 39)).grown hg (by simp) (fun k hk => by cases hk; exact Nat.le_refl _)
    have HR : Hid (RdQ W2 W2.heap.size A2 l) := by
      show RdS _ _ _ _ _ _
      simpa using hr
    have e0 : 0 + l.length = l.length := Nat.zero_add _
    rw [e0] at hc2
    simp only [e0]
    clear hown hg hat hr e0
    go_wp2
    go_ret
    exact ⟨A2, c2, rfl, hc2, HR.out, HB.out⟩
end Go.Proofs.YthmipmdpdfdlaaaDoor
