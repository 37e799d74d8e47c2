/- The law JournalDamage, walked. -/
import Derived.Test.YtkeghidlolidmaaJZ
import Derived.Test.YtkeghidlolidmaaJr
import Derived.Test.YtkeghidlolidmaaJp
set_option maxRecDepth 100000
set_option linter.unusedVariables false
set_option linter.unusedSimpArgs false
namespace Go.Proofs.Ytkeghidlolidmaa
open Go.RowKit Go.Sort Go.Shelf

theorem few_nil (b : Bool) (m : Mem) (A : Option Addr) (c : Nat) (w : World) (h : decide (m.2.length ≤ 600) = b) :
    Calls Try.prog 13 #[.agg #[.int .i64 m.1, .slice A m.2.length c], .slice none 0 0] w fun e w' => e = .returned (.bool b) ∧ Below w.heap.size w w' := by
  have h9 := few_any m [] A none c 0 w
  have e : decide (m.2.length ≤ 600 ∧ ([] : Rec).length ≤ 700) = b := by rw [← h]; simp
  rw [e] at h9
  exact h9
theorem Memory_lit' (b : Bool) (s : Int) (A : Option Addr) (n c : Nat) (w : World) (h : jvB s n = b) :
    Calls Try.prog 27 #[.agg #[.int .i64 s, .slice A n c]] w fun e w' => e = .returned (.bool b) ∧ Below w.heap.size w w' := by subst h; exact Memory_any s A n c w
theorem Room_x (x : List Rec) (n rm : Nat) (A1 : Option Addr) (c1 : Nat) (w : World) (h1 : RdBs w w.heap.size A1 x) (hn : x.length = n) (m1 : x.length ≤ 1000000) (hr : room x ≤ 1000000) (hrm : rm = 5 + room x) :
    Calls Try.prog 14 #[.slice A1 n c1] w fun e w' => e = .returned (.int .i64 (rm : Int)) ∧ Below w.heap.size w w' := by
  subst hn
  refine (Room_any x A1 c1 w h1 m1).mono fun e w' ⟨r, h1, h2, h3⟩ => ⟨?_, by rw [h3]; exact Below.refl _ _⟩
  rw [h1, h2 hr, hrm]
  simp
theorem RdBs.take {w : World} {B : Nat} {A : Option Addr} {ds : List Rec} (h : RdBs w B A ds) (k : Nat) : RdBs w B A (ds.take k) := fun hn => by
  have hn' : 0 < ds.length := by simp at hn; omega
  obtain ⟨b, o, e, hb, hi⟩ := h hn'
  refine ⟨b, o, e, hb, fun i d hd => hi i d ?_⟩
  rw [List.getElem?_take] at hd
  split at hd
  · exact hd
  · cases hd
theorem xor_u8 (a b : UInt8) : bits .xor .u8 (a.toNat : Int) (b.toNat : Int) = ((a ^^^ b).toNat : Int) := by
  show IntKind.u8.wrap ((BitVec.ofInt 8 (a.toNat : Int) ^^^ BitVec.ofInt 8 (b.toNat : Int)).toNat : Int) = _
  have e : ∀ x : UInt8, (BitVec.ofInt 8 (x.toNat : Int)).toNat = x.toNat := fun x => by
    rw [BitVec.ofInt_natCast, BitVec.toNat_ofNat]; exact Nat.mod_eq_of_lt x.toNat_lt
  rw [BitVec.toNat_xor, e, e, UInt8.toNat_xor]
  have hx : a.toNat ^^^ b.toNat < 2 ^ 8 := Nat.xor_lt_two_pow a.toNat_lt b.toNat_lt
  simp [IntKind.wrap, IntKind.bits, IntKind.signed]
  omega
theorem xor_ne {a b : UInt8} (h : b ≠ 0) : a ^^^ b ≠ a := fun e => h (by
  have := congrArg (a ^^^ ·) e
  simpa [← UInt8.xor_assoc] using this)
theorem own_zero {W : World} {g base n : Nat} {cs : Array Value} (h : Bk W g 5 cs) (hb : base ≤ g) (hs : cs.size = n) (hn : n ≤ 1000000) : W.ownsRow base 5 1 (.slice (some ⟨g, 0, none⟩) 0 n) 0 [] :=
  ⟨by simp, .inr ⟨g, n, cs, rfl, hb, h, by omega, by simp only [maxLen]; omega, by omega, by simp⟩⟩
theorem run_make0 (n : Nat) (hn : n ≤ 1000000000) (w : World) :
    (Instr.makeSlice 22 (.int .i64 0) (.int .i64 (n : Int))).run Try.prog w = .ok (.slice (some ⟨w.heap.size, 0, none⟩) 0 n) (w.alloc (.cells (zeros n) 5)) := by
  obtain ⟨i0, hi, hz0, hz1, hz2⟩ := info_parts info_u8
  have hr := run_make (P := Try.prog) w 22 5 i0 _ Try.underlying22 hi hz0 .i64 .i64 0 n (by omega) (by omega) (by rw [hz2]; omega) (by omega)
  rw [hr, hz1]
  simp only [Int.toNat_natCast, Nat.mul_one, Int.toNat_zero]
  have e : madeCells (Value.int .u8 0).cells n = zeros n := by
    apply Array.ext'
    rw [show (Value.int .u8 0).cells = #[.int .u8 0] from rfl, toList_madeCells_one]
    simp [zeros]
  rw [e]

set_option maxHeartbeats 800000 in
theorem JournalDamage_walk (m : Mem) (A : Option Addr) (c : Nat) (which at_ : Int) (by_ : UInt8) (w : World) (hA : RdB w w.heap.size A m.2) (hc : m.2.length ≤ c) (hw : which ≤ 9223372036854775807) (hat : at_ ≤ 9223372036854775807) :
    Calls Try.prog 8 #[.agg #[.int .i64 m.1, .slice A m.2.length c], .int .i64 which, .int .i64 at_, .int .u8 (by_.toNat : Int)] w fun e w' => e = .returned (.bool true) ∧ Below w.heap.size w w' := by
  have HB := Lib.hid (Below.refl w.heap.size w)
  have F_m := Lib.hid hA
  clear hA
  go_enter Try.func8, Try.ntmps8
  go_wp2_with fail
  refine (head_any _).mono ?_
  rintro e V1 ⟨rfl, hb⟩
  have hB := bt hb (al1 w _)
  have K_f : Hid (Bk V1 (w.heap.size) 24 #[.int .i64 m.1, .slice A m.2.length c]) := Bk.next (by first | exact Bk.new _ _ _ | exact (Bk.new _ _ _).alloc _ | exact ((Bk.new _ _ _).alloc _).alloc _ | exact bkOf (by simp [at?_alloc])) hb
  replace F_m := Lib.hid (F_m.out.next hB)
  replace HB := Lib.hid (bt hB HB.out)
  clear hb hB
  by_cases hfew : m.2.length ≤ 600
  · obtain ⟨c_f0, c_f1⟩ := box2 K_f.out
    have l_f := K_f.out.lt
    go_wp2_with fail
    clear c_f0 c_f1 l_f
    refine (few_nil true m A c _ (decide_eq_true hfew)).mono ?_
    rintro e V2 ⟨rfl, hb⟩
    have hB := hb
    replace F_m := Lib.hid (F_m.out.next hB)
    replace K_f := Lib.hid (K_f.out.next hB)
    replace HB := Lib.hid (bt hB HB.out)
    clear hb hB
    by_cases h1 : which < 0
    · obtain ⟨c_f0, c_f1⟩ := box2 K_f.out
      have l_f := K_f.out.lt
      go_wp2
      go_ret
      exact ⟨rfl, HB.out⟩
    · by_cases h2 : at_ < 0
      · have q1 : ¬ which < 0 := h1
        obtain ⟨c_f0, c_f1⟩ := box2 K_f.out
        have l_f := K_f.out.lt
        go_wp2
        go_ret
        exact ⟨rfl, HB.out⟩
      · by_cases h3 : by_ = 0
        · have q1 : ¬ which < 0 := h1
          have q2 : ¬ at_ < 0 := h2
          have q3 : ((by_.toNat : Int) == 0) = true := by rw [h3]; rfl
          obtain ⟨c_f0, c_f1⟩ := box2 K_f.out
          have l_f := K_f.out.lt
          go_wp2
          go_ret
          exact ⟨rfl, HB.out⟩
        · have q1 : ¬ which < 0 := h1
          have q2 : ¬ at_ < 0 := h2
          have q3 : ((by_.toNat : Int) == 0) = false := by
            rw [beq_eq_false_iff_ne]
            intro e
            exact h3 (UInt8.toNat_inj.1 (by have : by_.toNat = 0 := by omega
                                            exact this))
          obtain ⟨wh, rfl⟩ := Int.eq_ofNat_of_zero_le (by omega : 0 ≤ which)
          obtain ⟨tt, rfl⟩ := Int.eq_ofNat_of_zero_le (by omega : 0 ≤ at_)
          clear h1 h2
          by_cases h0 : lookE m = 0
          · obtain ⟨a, l, en, hJ⟩ := Jr.of h0
            have ha := hJ.facts.1
            have h32 := jv_len hJ.1
            have h4k := jv_max hJ.1
            obtain ⟨b, o, rfl, hbb, _⟩ := F_m.out.addr (by omega)
            have HJ := Lib.hid hJ
            have hll : (lookC m).recs = l := by rw [hJ.look.2]
            have HLL := Lib.hid hll
            obtain ⟨n0, hn0⟩ : ∃ n0, l.length = n0 := ⟨_, rfl⟩
            have HN0 := Lib.hid hn0
            have hrl : room l ≤ 4096 := by have := hJ.facts; omega
            have hrg := room_ge l
            have hn4 : n0 ≤ 4096 := by omega
            have HRL := Lib.hid (⟨hrl, hrg⟩ : _ ∧ _)
            clear hJ hll hn0 hrl hrg
            obtain ⟨c_f0, c_f1⟩ := box2 K_f.out
            have l_f := K_f.out.lt
            go_wp2_with fail
            clear c_f0 c_f1 l_f
            refine (Read_lit 0 n0 m.2.length m.1 m (some ⟨b, o, none⟩) c _ rfl h0 (by rw [HLL.out]; exact HN0.out) rfl F_m.out hc).mono ?_
            rintro e V3 ⟨A1, c1, rfl, hc1, r1, hb⟩
            have hB := hb
            replace F_m := Lib.hid (F_m.out.next hB)
            replace K_f := Lib.hid (K_f.out.next hB)
            replace HB := Lib.hid (bt hB HB.out)
            clear hb hB
            rw [HLL.out] at r1
            have F_1 := Lib.hid (r1)
            clear r1
            obtain ⟨c_f0, c_f1⟩ := box2 K_f.out
            have l_f := K_f.out.lt
            go_wp2_with fail
            clear c_f0 c_f1 l_f
            refine (Memory_lit' true m.1 (some ⟨b, o, none⟩) m.2.length c _ HJ.out.1).mono ?_
            rintro e V4 ⟨rfl, hb⟩
            have hB := hb
            replace F_m := Lib.hid (F_m.out.next hB)
            replace F_1 := Lib.hid (F_1.out.next hB)
            replace K_f := Lib.hid (K_f.out.next hB)
            replace HB := Lib.hid (bt hB HB.out)
            clear hb hB
            by_cases hz : n0 = 0
            · have q4 : ((n0 : Int) == 0) = true := by simp [hz]
              obtain ⟨c_f0, c_f1⟩ := box2 K_f.out
              have l_f := K_f.out.lt
              go_wp2
              go_ret
              exact ⟨rfl, HB.out⟩
            · have q4 : ((n0 : Int) == 0) = false := by simp [hz]
              have hn0p : 0 < n0 := by omega
              clear hz
              have HCA : Hid (∀ W, RdB W W.heap.size (some ⟨b, o, none⟩) m.2 → Calls Try.prog 28 #[.agg #[.int .i64 m.1, .slice (some ⟨b, o, none⟩) m.2.length c]] W fun e w' => e = .returned (.int .i64 (a : Int)) ∧ Below W.heap.size W w') := fun W hW => by
                have h9 := Area_any m b o c W h32 h4k hc hW
                have e9 : areaI m = (a : Int) := by unfold areaI; rw [HJ.out.2.1]
                rw [e9] at h9
                exact h9
              have qa : ¬ (a : Int) < 0 := by omega
              obtain ⟨c_f0, c_f1⟩ := box2 K_f.out
              have l_f := K_f.out.lt
              go_wp2_with fail
              clear c_f0 c_f1 l_f
              refine (HCA.out _ F_m.out).mono ?_
              rintro e V5 ⟨rfl, hb⟩
              have hB := hb
              replace F_m := Lib.hid (F_m.out.next hB)
              replace F_1 := Lib.hid (F_1.out.next hB)
              replace K_f := Lib.hid (K_f.out.next hB)
              replace HB := Lib.hid (bt hB HB.out)
              clear hb hB
              obtain ⟨k, hk⟩ : ∃ k, k = wh % n0 := ⟨_, rfl⟩
              have hkl : k < n0 := by rw [hk]; exact Nat.mod_lt _ hn0p
              have hkI : (wh : Int) % (n0 : Int) = (k : Int) := by rw [hk]; simp
              have hkT : Int.tmod (wh : Int) (n0 : Int) = (k : Int) := by rw [Int.tmod_eq_emod_of_nonneg (by omega)]; exact hkI
              have hkl2 : k < l.length := by rw [HN0.out]; exact hkl
              obtain ⟨b1, o1, A', c', hA1, hb1, z1, hcc, _⟩ := F_1.out.at_ hkl2
              subst hA1
              obtain ⟨dl, hdl⟩ : ∃ dl, dl = l[k].length := ⟨_, rfl⟩
              rw [← hdl] at z1 hcc
              have hdl4 : dl ≤ 4096 := by rw [hdl]; have := HRL.out.2.2 _ (List.getElem_mem hkl2); have := HRL.out.1; omega
              obtain ⟨rm, hrm⟩ : ∃ rm, rm = 5 + room (l.take k) := ⟨_, rfl⟩
              have hrt : room (l.take k) ≤ 4096 := by have := room_take_le l k; have := HRL.out.1; omega
              have HRO : Hid (∀ W, Below V5.heap.size V5 W → Calls Try.prog 14 #[.slice (some ⟨b1, o1, none⟩) k c1] W fun e w' => e = .returned (.int .i64 (rm : Int)) ∧ Below W.heap.size W w') := fun W hW => Room_x (l.take k) k rm _ c1 W ((F_1.out.next hW).take k) (by simp; omega) (by simp; omega) (by omega) hrm
              have HCA2 : Hid (∀ W, Below V5.heap.size V5 W → Calls Try.prog 28 #[.agg #[.int .i64 m.1, .slice (some ⟨b, o, none⟩) m.2.length c]] W fun e w' => e = .returned (.int .i64 (a : Int)) ∧ Below W.heap.size W w') := fun W hW => HCA.out W (F_m.out.next hW)
              obtain ⟨H, hH⟩ : ∃ H, H = m.2.length / 2 := ⟨_, rfl⟩
              have HHC : Hid (∀ W, Calls Try.prog 30 #[.agg #[.int .i64 m.1, .slice (some ⟨b, o, none⟩) m.2.length c]] W fun e w' => e = .returned (.int .i64 (H : Int)) ∧ Below W.heap.size W w') := fun W => by rw [hH]; exact Half_any m.1 _ m.2.length c W (by omega)
              obtain ⟨t, htt⟩ : ∃ t, t = tt % (4 + dl) := ⟨_, rfl⟩
              have htl : t < 4 + dl := by rw [htt]; exact Nat.mod_lt _ (by omega)
              have htI : (tt : Int) % (4 + (dl : Int)) = (t : Int) := by rw [htt]; simp
              have htT : Int.tmod (tt : Int) (4 + (dl : Int)) = (t : Int) := by rw [Int.tmod_eq_emod_of_nonneg (by omega)]; exact htI
              obtain ⟨P0, hP0⟩ : ∃ P0, P0 = a * H := ⟨_, rfl⟩
              have hP0b : P0 ≤ H := by rw [hP0]; have : a * H ≤ 1 * H := Nat.mul_le_mul_right _ ha; omega
              have e0 : (a : Int) * (H : Int) = (P0 : Int) := by rw [hP0]; simp
              obtain ⟨P1, hP1⟩ : ∃ P1, P1 = P0 + rm := ⟨_, rfl⟩
              have e1 : (P0 : Int) + (rm : Int) = (P1 : Int) := by omega
              obtain ⟨P3, hP3⟩ : ∃ P3, P3 = P1 + 3 + t := ⟨_, rfl⟩
              have e2 : (P1 : Int) + 3 + (t : Int) = (P3 : Int) := by omega
              have w0 : IntKind.i64.wrap (P0 : Int) = (P0 : Int) := IntWalk.i64_in _ (by omega)
              have w1' : IntKind.i64.wrap (P1 : Int) = (P1 : Int) := IntWalk.i64_in _ (by omega)
              have w2' : IntKind.i64.wrap ((P1 : Int) + 3) = (P1 : Int) + 3 := IntWalk.i64_in _ (by omega)
              have w3' : IntKind.i64.wrap (4 + (dl : Int)) = 4 + (dl : Int) := IntWalk.i64_in _ (by omega)
              have w4' : IntKind.i64.wrap (t : Int) = (t : Int) := IntWalk.i64_in _ (by omega)
              have w5' : IntKind.i64.wrap (P3 : Int) = (P3 : Int) := IntWalk.i64_in _ (by omega)
              have hplE : P3 = a * hf m + (5 + room (l.take k)) + 3 + t := by rw [hP3, hP1, hP0, hH, hrm]; rfl
              have hdam := damage HJ.out k hkl2 t (by rw [← hdl]; exact htl) (m.2.getD P3 0 ^^^ by_) (by rw [← hplE]; exact xor_ne h3)
              rw [← hplE] at hdam
              have HDAM := Lib.hid hdam
              have hin : P3 < m.2.length := hdam.1
              have k0 : (0 : Int) ≤ (k : Int) := by omega
              have k1 : (k : Int) ≤ (n0 : Int) := by omega
              have k2 : (k : Int) < (n0 : Int) := by omega
              have k3 : n0 ≤ c1 := hc1
              have k4 : (k : Int) ≤ (c1 : Int) := by omega
              clear hk hdl hrm hH htt hP0 hP1 hP3 hplE hdam HCA
              obtain ⟨c_f0, c_f1⟩ := box2 K_f.out
              have l_f := K_f.out.lt
              go_wp2
              have Rc_f0 := cell_regrown c_f0
              have Rc_f1 := cell_regrown c_f1
              have Rz1 := cell_regrown z1
              have CA := fun (d : Nat) (os : Array Obj) => Calls.regrown_of (HCA2.out (grow (redrawn V5 d) os) (below_regrown V5 d os))
              have CR := fun (d : Nat) (os : Array Obj) => Calls.regrown_of (HRO.out (grow (redrawn V5 d) os) (below_regrown V5 d os))
              have CH := fun (d : Nat) (os : Array Obj) => Calls.regrown_of (HHC.out (grow (redrawn V5 d) os))
              refine wp_region_quiet_below (by kernel_rfl) (by kernel_rfl) ?_
              repeat (first | go_big_quiet_step (first | (with_reducible exact CA _ _) | (with_reducible exact CR _ _) | (with_reducible exact CH _ _)) | quiet_step (first | (with_reducible exact CA _ _) | (with_reducible exact CR _ _) | (with_reducible exact CH _ _)))
              refine wpQuiet_nil ?_
              intro _ hw'
              obtain ⟨⟨dq, osq⟩, hw''⟩ := hw'
              subst hw''
              obtain ⟨Vz, hVz⟩ : ∃ V, V = grow (redrawn V5 dq) osq := ⟨_, rfl⟩
              have hbVz : Below V5.heap.size V5 Vz := by rw [hVz]; exact below_regrown _ _ _
              rw [← hVz]
              clear hVz
              clear Rc_f0
              clear Rc_f1
              clear Rz1
              clear CA
              clear CR
              clear CH
              clear HCA2 HRO HHC c_f0 c_f1 l_f z1
              replace F_m := Lib.hid (F_m.out.next hbVz)
              replace F_1 := Lib.hid (F_1.out.next hbVz)
              replace K_f := Lib.hid (K_f.out.next hbVz)
              replace HB := Lib.hid (bt hbVz HB.out)
              clear hbVz
              obtain ⟨c_f0, c_f1⟩ := box2 K_f.out
              have l_f := K_f.out.lt
              have qp : ¬ (m.2.length : Int) ≤ (P3 : Int) := by omega
              go_wp2
              clear c_f0 c_f1
              have HS : Hid (∀ w', Below Vz.heap.size Vz w' → (w'.cell? ⟨w.heap.size, 0, none⟩ = some (.int .i64 m.1) ∧ w'.cell? ⟨w.heap.size, 1, none⟩ = some (.slice (some ⟨b, o, none⟩) m.2.length c))) := fun w' hW => box2 (K_f.out.next hW)
              have HRD : Hid (∀ W, Below Vz.heap.size Vz W → RdS W W.heap.size 1 (some ⟨b, o, none⟩) m.2.length (u8s m.2)) := fun W hW => RdS.next F_m.out hW
              obtain ⟨N, hN⟩ : ∃ N, N = m.2.length := ⟨_, rfl⟩
              obtain ⟨i0, hi, hz0, hz1, hz2⟩ := info_parts info_u8
              have hmk := run_make0 m.2.length (by omega)
              clear hN N
              refine region_S (fun w' => w'.cell? ⟨w.heap.size, 0, none⟩ = some (.int .i64 m.1) ∧ w'.cell? ⟨w.heap.size, 1, none⟩ = some (.slice (some ⟨b, o, none⟩) m.2.length c)) 11 (by kernel_rfl) ?_
              obtain ⟨U0, hU0⟩ : ∃ Zz, Zz = Vz.drew := ⟨_, rfl⟩
              have hb0 : Below Vz.heap.size Vz U0 := by rw [hU0]; exact (Below.refl _ Vz).drew
              rw [← hU0]
              clear hU0
              have HS0 := HS.out _ hb0
              refine anyS_take (i := 0) rfl (by kernel_rfl) (by kernel_rfl) (by kernel_rfl) (by kernel_rfl) (fun _ _ _ h => h) (Or.inl ⟨by rfl, fun w' hS' => (by obtain ⟨s1, s2⟩ := hS'; go_simp; try with_reducible rfl)⟩) HS0 ?_
              refine anyS_take (i := 1) rfl (by kernel_rfl) (by kernel_rfl) (by kernel_rfl) (by kernel_rfl) (fun _ _ _ h => h) (Or.inl ⟨by rfl, fun w' hS' => (by obtain ⟨s1, s2⟩ := hS'; go_simp; try with_reducible rfl)⟩) HS0 ?_
              refine anyS_take (i := 2) rfl (by kernel_rfl) (by kernel_rfl) (by kernel_rfl) (by kernel_rfl) (fun _ _ _ h => h) (Or.inl ⟨by rfl, fun w' hS' => (by obtain ⟨s1, s2⟩ := hS'; go_simp; try with_reducible rfl)⟩) HS0 ?_
              refine anyS_take (i := 3) rfl (by kernel_rfl) (by kernel_rfl) (by kernel_rfl) (by kernel_rfl) (fun _ _ _ h => h) (Or.inl ⟨by rfl, fun w' hS' => (by obtain ⟨s1, s2⟩ := hS'; go_simp; try with_reducible rfl)⟩) HS0 ?_
              refine anyS_take (i := 4) rfl (by kernel_rfl) (by kernel_rfl) (by kernel_rfl) (by kernel_rfl) (fun _ _ _ h => h) (Or.inl ⟨by rfl, fun w' hS' => (by obtain ⟨s1, s2⟩ := hS'; go_simp; try with_reducible rfl)⟩) HS0 ?_
              refine anyS_take (i := 6) rfl (by kernel_rfl) (by kernel_rfl) (by kernel_rfl) (by kernel_rfl) (fun _ _ _ h => h) (Or.inl ⟨by rfl, fun w' hS' => (by obtain ⟨s1, s2⟩ := hS'; go_simp; try with_reducible rfl)⟩) HS0 ?_
              refine anyS_take (i := 7) rfl (by kernel_rfl) (by kernel_rfl) (by kernel_rfl) (by kernel_rfl) (fun _ _ _ h => h) (Or.inl ⟨by rfl, fun w' hS' => (by obtain ⟨s1, s2⟩ := hS'; go_simp; try with_reducible rfl)⟩) HS0 ?_
              refine anyS_two (i := 5) (j := 10) (by kernel_rfl) rfl rfl rfl rfl (fun K hK => ?_) (fun K hK => ?_)
              · go_simp
                obtain ⟨U1, hU1⟩ : ∃ Zz, Zz = U0.alloc (.cells (zeros m.2.length) 5) := ⟨_, rfl⟩
                have hx : Below U0.heap.size U0 U1 := by rw [hU1]; exact al1 _ _
                have k6 : Bk U1 U0.heap.size 5 (zeros m.2.length) := by rw [hU1]; exact Bk.new _ _ _
                rw [← hU1]
                clear hU1
                have hb1 := bt hx hb0

                clear hx
                have l6 := hb0.size
                have lk6 := k6.lt
                refine hK _ _ (fun _ => HS.out _ hb1) ?_
                clear hK K
                refine anyS_two (i := 8) (j := 10) (by kernel_rfl) rfl rfl rfl rfl (fun K hK => ?_) (fun K hK => ?_)
                · refine wp_append_rd _ (.tmp 93) (.tmp 95) _ (by rfl) Vz.heap.size 5 i0 _ 1 1 Try.underlying22 hi hz0 hz1 hz2 rfl (by omega) (.slice (some ⟨U0.heap.size, 0, none⟩) 0 m.2.length) 0 [] (by rfl) (own_zero k6 l6 (zeros_size _) (by omega)) _ (some ⟨b, o, none⟩) m.2.length c (u8s m.2) (by rfl) (HRD.out _ hb1) (u8s_one _) (by simp only [maxLen]; omega) (by omega) hb1.size ?_
                  intro v1 U2 hown1 hg1 hat1
                  have hb2 : Below Vz.heap.size Vz U2 := hb1.grown hg1 hb1.size (by intro k hk; simp [Value.ownBlock] at hk; omega)
                  have ho1 : U2.ownsRow Vz.heap.size 5 1 v1 m.2.length (u8s m.2) := by simpa using hown1
                  obtain ⟨A9, q9, rfl, hq9, _⟩ := own_read ho1
                  have HO1 := Lib.hid ho1

                  clear hown1 hat1 ho1 k6
                  refine hK _ _ (fun _ => HS.out _ hb2) ?_
                  clear hK K
                  refine anyS_take (i := 9) rfl (by kernel_rfl) (by kernel_rfl) (by kernel_rfl) (by kernel_rfl) (fun _ _ _ h => h) (Or.inl ⟨by rfl, fun w' hS' => (by obtain ⟨s1, s2⟩ := hS'; go_simp; try with_reducible rfl)⟩) (HS.out _ hb2) ?_
                  refine anyS_one (i := 10) (by kernel_rfl) rfl rfl (fun K hK => ?_)
                  go_simp
                  obtain ⟨U3, hU3⟩ : ∃ Zz, Zz = U2.alloc (.cells #[.int .i64 0, .slice none 0 0] 24) := ⟨_, rfl⟩
                  have hx : Below U2.heap.size U2 U3 := by rw [hU3]; exact al1 _ _
                  have k3 : Bk U3 U2.heap.size 24 #[.int .i64 0, .slice none 0 0] := by rw [hU3]; exact Bk.new _ _ _
                  rw [← hU3]
                  clear hU3
                  have hb3 := bt hx hb2
                  replace HO1 := Lib.hid (own_on HO1.out hx)
                  clear hx
                  have l3 := hb2.size
                  have lk3 := k3.lt
                  refine hK _ _ (fun _ => HS.out _ hb3) ?_
                  clear hK K
                  refine anyS_one (i := 11) (by kernel_rfl) rfl rfl (fun K hK => ?_)
                  obtain ⟨e0', e1'⟩ := box2 k3
                  have g0 := k3.frozen 0
                  have g1 := k3.frozen 1
                  go_simp
                  refine hK _ _ (fun h => absurd rfl h) ?_
                  clear hK K
                  refine anyS_done (by kernel_rfl) ?_ _
                  simp only [normPost]
                  obtain ⟨X, hX⟩ : ∃ Zz, Zz = (U3.setCell ⟨U2.heap.size, 0, none⟩ (.int .i64 m.1)).setCell ⟨U2.heap.size, 1, none⟩ (.slice A9 m.2.length q9) := ⟨_, rfl⟩
                  have kX : Bk X U2.heap.size 24 #[.int .i64 m.1, .slice A9 m.2.length q9] := by rw [hX]; simpa using (k3.set 0 (.int .i64 m.1)).set 1 (.slice A9 m.2.length q9)
                  have hbX : Below Vz.heap.size Vz X := by rw [hX]; exact (hb3.setCell (p := ⟨U2.heap.size, 0, none⟩) l3 _).setCell (p := ⟨U2.heap.size, 1, none⟩) l3 _
                  have hOX : X.ownsRow Vz.heap.size 5 1 (.slice A9 m.2.length q9) m.2.length (u8s m.2) := by
                    rw [hX]
                    exact own_set_far (own_set_far HO1.out (p := ⟨U2.heap.size, 0, none⟩) (own_ne HO1.out k3 (by decide)) _) (p := ⟨U2.heap.size, 1, none⟩) (by
                      have := own_set_far HO1.out (p := ⟨U2.heap.size, 0, none⟩) (own_ne HO1.out k3 (by decide)) (.int .i64 m.1)
                      exact own_ne this (k3.set 0 (.int .i64 m.1)) (by decide)) _
                  rw [← hX]
                  clear hX e0' e1' g0 g1 HO1 HS0 k3 hmk
                  obtain ⟨Bt, hBt⟩ : ∃ Bt, Bt = U2.heap.size := ⟨_, rfl⟩
                  rw [← hBt] at kX ⊢
                  clear hBt
                  obtain ⟨_, h9 | ⟨g, cap, cur, hv9, hg9, hh9, _, _, hsz9, htk9⟩⟩ := hOX
                  · exact absurd h9.2 (by omega)
                  obtain ⟨rfl, rfl⟩ : A9 = some ⟨g, 0, none⟩ ∧ q9 = cap := by
                    injection hv9 with h1 h2 h3; exact ⟨h1, h3⟩
                  have kg : Bk X g 5 cur := hh9
                  have hcs : m.2.length ≤ cur.size := by
                    have := congrArg List.length htk9
                    simp at this
                    omega
                  have hcell : X.cell? ⟨g, P3, none⟩ = some (.int .u8 ((m.2.getD P3 0).toNat : Int)) := by
                    rw [kg.cell]
                    have h1 := u8s_get m.2 P3 hin
                    rw [← htk9, List.getElem?_take] at h1
                    have h2 : P3 < m.2.length * 1 := by omega
                    rw [if_pos h2] at h1
                    rw [← Array.getElem?_toList, h1, List.getD_eq_getElem?_getD, List.getElem?_eq_getElem hin]
                    rfl
                  obtain ⟨y, hy⟩ : ∃ y, y = m.2.getD P3 0 := ⟨_, rfl⟩
                  rw [← hy] at hcell HDAM
                  have hfz := kg.frozen P3
                  have hgB : g ≠ Bt := Bk.ne kg kX (by decide)
                  have lg := kg.lt
                  have lB := kX.lt
                  have hxor := xor_u8 y by_
                  obtain ⟨u0, u1⟩ := box2 kX
                  have p0 : (0 : Int) ≤ (P3 : Int) := by omega
                  have p1 : (P3 : Int) < (m.2.length : Int) := by omega
                  have HY : Hid (Bk (X.setCell ⟨g, P3, none⟩ (.int .u8 ((y ^^^ by_).toNat : Int))) Bt 24 #[.int .i64 m.1, .slice (some ⟨g, 0, none⟩) m.2.length q9] ∧ RdB (X.setCell ⟨g, P3, none⟩ (.int .u8 ((y ^^^ by_).toNat : Int))) (X.setCell ⟨g, P3, none⟩ (.int .u8 ((y ^^^ by_).toNat : Int))).heap.size (some ⟨g, 0, none⟩) (m.2.set P3 (y ^^^ by_)) ∧ Below Vz.heap.size Vz (X.setCell ⟨g, P3, none⟩ (.int .u8 ((y ^^^ by_).toNat : Int)))) := by
                    refine ⟨kX.far (p := ⟨g, P3, none⟩) (Ne.symm hgB) _, ?_, hbX.setCell (p := ⟨g, P3, none⟩) hg9 _⟩
                    have k9 := kg.set P3 (.int .u8 ((y ^^^ by_).toNat : Int))
                    refine RdB.of_cells k9 k9.lt ?_
                    have h1 : (u8s m.2).toArray.setIfInBounds P3 (.int .u8 ((y ^^^ by_).toNat : Int)) = (u8s (m.2.set P3 (y ^^^ by_))).toArray := u8s_set m.2 P3 (y ^^^ by_)
                    have h2 : (u8s m.2).set P3 (.int .u8 ((y ^^^ by_).toNat : Int)) = u8s (m.2.set P3 (y ^^^ by_)) := by
                      have := congrArg Array.toList h1
                      simpa using this
                    rw [← h2, ← htk9, Array.toList_setIfInBounds, List.length_set, List.take_set]
                    simp
                  have HDD : Hid (lookE (mk m (m.2.set P3 (y ^^^ by_))) = 11) := HDAM.out.2
                  have HRR : Hid ((lookC (mk m (m.2.set P3 (y ^^^ by_)))).recs.length = 0) := by show _ = _; rw [lookC_bad (by rw [HDD.out]; decide)]; rfl
                  clear kg hh9 htk9 hv9 kX hbX hy hsz9
                  go_wp2_with fail
                  rw [show ((y.toNat ^^^ by_.toNat : Nat) : Int) = ((y ^^^ by_).toNat : Int) by rw [UInt8.toNat_xor]]
                  obtain ⟨Y, hY⟩ : ∃ Zz, Zz = X.setCell ⟨g, P3, none⟩ (.int .u8 ((y ^^^ by_).toNat : Int)) := ⟨_, rfl⟩
                  rw [← hY] at HY ⊢
                  clear hY
                  refine (Read_lit 11 0 m.2.length m.1 (mk m (m.2.set P3 (y ^^^ by_))) (some ⟨g, 0, none⟩) q9 Y rfl HDD.out HRR.out (by simp [mk]) HY.out.2.1 (by simpa [mk] using hq9)).mono ?_
                  rintro e V9 ⟨A8, c8, rfl, _, _, hb9⟩
                  have HBF := Lib.hid (bt hb9 (bt HY.out.2.2 HB.out))
                  clear hb9
                  go_wp2
                  go_ret
                  exact ⟨rfl, HBF.out⟩
                · go_simp
                  obtain ⟨U2, hU2⟩ : ∃ Zz, Zz = U1.alloc (.cells #[.int .i64 0, .slice none 0 0] 24) := ⟨_, rfl⟩
                  have hx : Below U1.heap.size U1 U2 := by rw [hU2]; exact al1 _ _
                  have k3 : Bk U2 U1.heap.size 24 #[.int .i64 0, .slice none 0 0] := by rw [hU2]; exact Bk.new _ _ _
                  rw [← hU2]
                  clear hU2
                  have hb2 := bt hx hb1
                  replace k6 := k6.next hx
                  clear hx
                  have l3 := hb1.size
                  have lk3 := k3.lt
                  refine hK _ _ (fun _ => HS.out _ hb2) ?_
                  clear hK K
                  refine anyS_one (i := 8) (by kernel_rfl) rfl rfl (fun K hK => ?_)
                  refine wp_append_rd _ (.tmp 93) (.tmp 95) _ (by rfl) Vz.heap.size 5 i0 _ 1 1 Try.underlying22 hi hz0 hz1 hz2 rfl (by omega) (.slice (some ⟨U0.heap.size, 0, none⟩) 0 m.2.length) 0 [] (by rfl) (own_zero k6 l6 (zeros_size _) (by omega)) _ (some ⟨b, o, none⟩) m.2.length c (u8s m.2) (by rfl) (HRD.out _ hb2) (u8s_one _) (by simp only [maxLen]; omega) (by omega) hb2.size ?_
                  intro v1 U3 hown1 hg1 hat1
                  have hb3 : Below Vz.heap.size Vz U3 := hb2.grown hg1 hb2.size (by intro k hk; simp [Value.ownBlock] at hk; omega)
                  have ho1 : U3.ownsRow Vz.heap.size 5 1 v1 m.2.length (u8s m.2) := by simpa using hown1
                  obtain ⟨A9, q9, rfl, hq9, _⟩ := own_read ho1
                  have HO1 := Lib.hid ho1
                  replace k3 := Bk.grown k3 hg1 (by simp [Value.ownBlock]; omega)
                  clear hown1 hat1 ho1 k6
                  refine hK _ _ (fun _ => HS.out _ hb3) ?_
                  clear hK K
                  refine anyS_take (i := 9) rfl (by kernel_rfl) (by kernel_rfl) (by kernel_rfl) (by kernel_rfl) (fun _ _ _ h => h) (Or.inl ⟨by rfl, fun w' hS' => (by obtain ⟨s1, s2⟩ := hS'; go_simp; try with_reducible rfl)⟩) (HS.out _ hb3) ?_
                  refine anyS_one (i := 11) (by kernel_rfl) rfl rfl (fun K hK => ?_)
                  obtain ⟨e0', e1'⟩ := box2 k3
                  have g0 := k3.frozen 0
                  have g1 := k3.frozen 1
                  go_simp
                  refine hK _ _ (fun h => absurd rfl h) ?_
                  clear hK K
                  refine anyS_done (by kernel_rfl) ?_ _
                  simp only [normPost]
                  obtain ⟨X, hX⟩ : ∃ Zz, Zz = (U3.setCell ⟨U1.heap.size, 0, none⟩ (.int .i64 m.1)).setCell ⟨U1.heap.size, 1, none⟩ (.slice A9 m.2.length q9) := ⟨_, rfl⟩
                  have kX : Bk X U1.heap.size 24 #[.int .i64 m.1, .slice A9 m.2.length q9] := by rw [hX]; simpa using (k3.set 0 (.int .i64 m.1)).set 1 (.slice A9 m.2.length q9)
                  have hbX : Below Vz.heap.size Vz X := by rw [hX]; exact (hb3.setCell (p := ⟨U1.heap.size, 0, none⟩) l3 _).setCell (p := ⟨U1.heap.size, 1, none⟩) l3 _
                  have hOX : X.ownsRow Vz.heap.size 5 1 (.slice A9 m.2.length q9) m.2.length (u8s m.2) := by
                    rw [hX]
                    exact own_set_far (own_set_far HO1.out (p := ⟨U1.heap.size, 0, none⟩) (own_ne HO1.out k3 (by decide)) _) (p := ⟨U1.heap.size, 1, none⟩) (by
                      have := own_set_far HO1.out (p := ⟨U1.heap.size, 0, none⟩) (own_ne HO1.out k3 (by decide)) (.int .i64 m.1)
                      exact own_ne this (k3.set 0 (.int .i64 m.1)) (by decide)) _
                  rw [← hX]
                  clear hX e0' e1' g0 g1 HO1 HS0 k3 hmk
                  obtain ⟨Bt, hBt⟩ : ∃ Bt, Bt = U1.heap.size := ⟨_, rfl⟩
                  rw [← hBt] at kX ⊢
                  clear hBt
                  obtain ⟨_, h9 | ⟨g, cap, cur, hv9, hg9, hh9, _, _, hsz9, htk9⟩⟩ := hOX
                  · exact absurd h9.2 (by omega)
                  obtain ⟨rfl, rfl⟩ : A9 = some ⟨g, 0, none⟩ ∧ q9 = cap := by
                    injection hv9 with h1 h2 h3; exact ⟨h1, h3⟩
                  have kg : Bk X g 5 cur := hh9
                  have hcs : m.2.length ≤ cur.size := by
                    have := congrArg List.length htk9
                    simp at this
                    omega
                  have hcell : X.cell? ⟨g, P3, none⟩ = some (.int .u8 ((m.2.getD P3 0).toNat : Int)) := by
                    rw [kg.cell]
                    have h1 := u8s_get m.2 P3 hin
                    rw [← htk9, List.getElem?_take] at h1
                    have h2 : P3 < m.2.length * 1 := by omega
                    rw [if_pos h2] at h1
                    rw [← Array.getElem?_toList, h1, List.getD_eq_getElem?_getD, List.getElem?_eq_getElem hin]
                    rfl
                  obtain ⟨y, hy⟩ : ∃ y, y = m.2.getD P3 0 := ⟨_, rfl⟩
                  rw [← hy] at hcell HDAM
                  have hfz := kg.frozen P3
                  have hgB : g ≠ Bt := Bk.ne kg kX (by decide)
                  have lg := kg.lt
                  have lB := kX.lt
                  have hxor := xor_u8 y by_
                  obtain ⟨u0, u1⟩ := box2 kX
                  have p0 : (0 : Int) ≤ (P3 : Int) := by omega
                  have p1 : (P3 : Int) < (m.2.length : Int) := by omega
                  have HY : Hid (Bk (X.setCell ⟨g, P3, none⟩ (.int .u8 ((y ^^^ by_).toNat : Int))) Bt 24 #[.int .i64 m.1, .slice (some ⟨g, 0, none⟩) m.2.length q9] ∧ RdB (X.setCell ⟨g, P3, none⟩ (.int .u8 ((y ^^^ by_).toNat : Int))) (X.setCell ⟨g, P3, none⟩ (.int .u8 ((y ^^^ by_).toNat : Int))).heap.size (some ⟨g, 0, none⟩) (m.2.set P3 (y ^^^ by_)) ∧ Below Vz.heap.size Vz (X.setCell ⟨g, P3, none⟩ (.int .u8 ((y ^^^ by_).toNat : Int)))) := by
                    refine ⟨kX.far (p := ⟨g, P3, none⟩) (Ne.symm hgB) _, ?_, hbX.setCell (p := ⟨g, P3, none⟩) hg9 _⟩
                    have k9 := kg.set P3 (.int .u8 ((y ^^^ by_).toNat : Int))
                    refine RdB.of_cells k9 k9.lt ?_
                    have h1 : (u8s m.2).toArray.setIfInBounds P3 (.int .u8 ((y ^^^ by_).toNat : Int)) = (u8s (m.2.set P3 (y ^^^ by_))).toArray := u8s_set m.2 P3 (y ^^^ by_)
                    have h2 : (u8s m.2).set P3 (.int .u8 ((y ^^^ by_).toNat : Int)) = u8s (m.2.set P3 (y ^^^ by_)) := by
                      have := congrArg Array.toList h1
                      simpa using this
                    rw [← h2, ← htk9, Array.toList_setIfInBounds, List.length_set, List.take_set]
                    simp
                  have HDD : Hid (lookE (mk m (m.2.set P3 (y ^^^ by_))) = 11) := HDAM.out.2
                  have HRR : Hid ((lookC (mk m (m.2.set P3 (y ^^^ by_)))).recs.length = 0) := by show _ = _; rw [lookC_bad (by rw [HDD.out]; decide)]; rfl
                  clear kg hh9 htk9 hv9 kX hbX hy hsz9
                  go_wp2_with fail
                  rw [show ((y.toNat ^^^ by_.toNat : Nat) : Int) = ((y ^^^ by_).toNat : Int) by rw [UInt8.toNat_xor]]
                  obtain ⟨Y, hY⟩ : ∃ Zz, Zz = X.setCell ⟨g, P3, none⟩ (.int .u8 ((y ^^^ by_).toNat : Int)) := ⟨_, rfl⟩
                  rw [← hY] at HY ⊢
                  clear hY
                  refine (Read_lit 11 0 m.2.length m.1 (mk m (m.2.set P3 (y ^^^ by_))) (some ⟨g, 0, none⟩) q9 Y rfl HDD.out HRR.out (by simp [mk]) HY.out.2.1 (by simpa [mk] using hq9)).mono ?_
                  rintro e V9 ⟨A8, c8, rfl, _, _, hb9⟩
                  have HBF := Lib.hid (bt hb9 (bt HY.out.2.2 HB.out))
                  clear hb9
                  go_wp2
                  go_ret
                  exact ⟨rfl, HBF.out⟩
              · go_simp
                obtain ⟨U1, hU1⟩ : ∃ Zz, Zz = U0.alloc (.cells #[.int .i64 0, .slice none 0 0] 24) := ⟨_, rfl⟩
                have hx : Below U0.heap.size U0 U1 := by rw [hU1]; exact al1 _ _
                have k3 : Bk U1 U0.heap.size 24 #[.int .i64 0, .slice none 0 0] := by rw [hU1]; exact Bk.new _ _ _
                rw [← hU1]
                clear hU1
                have hb1 := bt hx hb0

                clear hx
                have l3 := hb0.size
                have lk3 := k3.lt
                refine hK _ _ (fun _ => HS.out _ hb1) ?_
                clear hK K
                refine anyS_one (i := 5) (by kernel_rfl) rfl rfl (fun K hK => ?_)
                go_simp
                obtain ⟨U2, hU2⟩ : ∃ Zz, Zz = U1.alloc (.cells (zeros m.2.length) 5) := ⟨_, rfl⟩
                have hx : Below U1.heap.size U1 U2 := by rw [hU2]; exact al1 _ _
                have k6 : Bk U2 U1.heap.size 5 (zeros m.2.length) := by rw [hU2]; exact Bk.new _ _ _
                rw [← hU2]
                clear hU2
                have hb2 := bt hx hb1
                replace k3 := k3.next hx
                clear hx
                have l6 := hb1.size
                have lk6 := k6.lt
                refine hK _ _ (fun _ => HS.out _ hb2) ?_
                clear hK K
                refine anyS_one (i := 8) (by kernel_rfl) rfl rfl (fun K hK => ?_)
                refine wp_append_rd _ (.tmp 93) (.tmp 95) _ (by rfl) Vz.heap.size 5 i0 _ 1 1 Try.underlying22 hi hz0 hz1 hz2 rfl (by omega) (.slice (some ⟨U1.heap.size, 0, none⟩) 0 m.2.length) 0 [] (by rfl) (own_zero k6 l6 (zeros_size _) (by omega)) _ (some ⟨b, o, none⟩) m.2.length c (u8s m.2) (by rfl) (HRD.out _ hb2) (u8s_one _) (by simp only [maxLen]; omega) (by omega) hb2.size ?_
                intro v1 U3 hown1 hg1 hat1
                have hb3 : Below Vz.heap.size Vz U3 := hb2.grown hg1 hb2.size (by intro k hk; simp [Value.ownBlock] at hk; omega)
                have ho1 : U3.ownsRow Vz.heap.size 5 1 v1 m.2.length (u8s m.2) := by simpa using hown1
                obtain ⟨A9, q9, rfl, hq9, _⟩ := own_read ho1
                have HO1 := Lib.hid ho1
                replace k3 := Bk.grown k3 hg1 (by simp [Value.ownBlock]; omega)
                clear hown1 hat1 ho1 k6
                refine hK _ _ (fun _ => HS.out _ hb3) ?_
                clear hK K
                refine anyS_take (i := 9) rfl (by kernel_rfl) (by kernel_rfl) (by kernel_rfl) (by kernel_rfl) (fun _ _ _ h => h) (Or.inl ⟨by rfl, fun w' hS' => (by obtain ⟨s1, s2⟩ := hS'; go_simp; try with_reducible rfl)⟩) (HS.out _ hb3) ?_
                refine anyS_one (i := 11) (by kernel_rfl) rfl rfl (fun K hK => ?_)
                obtain ⟨e0', e1'⟩ := box2 k3
                have g0 := k3.frozen 0
                have g1 := k3.frozen 1
                go_simp
                refine hK _ _ (fun h => absurd rfl h) ?_
                clear hK K
                refine anyS_done (by kernel_rfl) ?_ _
                simp only [normPost]
                obtain ⟨X, hX⟩ : ∃ Zz, Zz = (U3.setCell ⟨U0.heap.size, 0, none⟩ (.int .i64 m.1)).setCell ⟨U0.heap.size, 1, none⟩ (.slice A9 m.2.length q9) := ⟨_, rfl⟩
                have kX : Bk X U0.heap.size 24 #[.int .i64 m.1, .slice A9 m.2.length q9] := by rw [hX]; simpa using (k3.set 0 (.int .i64 m.1)).set 1 (.slice A9 m.2.length q9)
                have hbX : Below Vz.heap.size Vz X := by rw [hX]; exact (hb3.setCell (p := ⟨U0.heap.size, 0, none⟩) l3 _).setCell (p := ⟨U0.heap.size, 1, none⟩) l3 _
                have hOX : X.ownsRow Vz.heap.size 5 1 (.slice A9 m.2.length q9) m.2.length (u8s m.2) := by
                  rw [hX]
                  exact own_set_far (own_set_far HO1.out (p := ⟨U0.heap.size, 0, none⟩) (own_ne HO1.out k3 (by decide)) _) (p := ⟨U0.heap.size, 1, none⟩) (by
                    have := own_set_far HO1.out (p := ⟨U0.heap.size, 0, none⟩) (own_ne HO1.out k3 (by decide)) (.int .i64 m.1)
                    exact own_ne this (k3.set 0 (.int .i64 m.1)) (by decide)) _
                rw [← hX]
                clear hX e0' e1' g0 g1 HO1 HS0 k3 hmk
                obtain ⟨Bt, hBt⟩ : ∃ Bt, Bt = U0.heap.size := ⟨_, rfl⟩
                rw [← hBt] at kX ⊢
                clear hBt
                obtain ⟨_, h9 | ⟨g, cap, cur, hv9, hg9, hh9, _, _, hsz9, htk9⟩⟩ := hOX
                · exact absurd h9.2 (by omega)
                obtain ⟨rfl, rfl⟩ : A9 = some ⟨g, 0, none⟩ ∧ q9 = cap := by
                  injection hv9 with h1 h2 h3; exact ⟨h1, h3⟩
                have kg : Bk X g 5 cur := hh9
                have hcs : m.2.length ≤ cur.size := by
                  have := congrArg List.length htk9
                  simp at this
                  omega
                have hcell : X.cell? ⟨g, P3, none⟩ = some (.int .u8 ((m.2.getD P3 0).toNat : Int)) := by
                  rw [kg.cell]
                  have h1 := u8s_get m.2 P3 hin
                  rw [← htk9, List.getElem?_take] at h1
                  have h2 : P3 < m.2.length * 1 := by omega
                  rw [if_pos h2] at h1
                  rw [← Array.getElem?_toList, h1, List.getD_eq_getElem?_getD, List.getElem?_eq_getElem hin]
                  rfl
                obtain ⟨y, hy⟩ : ∃ y, y = m.2.getD P3 0 := ⟨_, rfl⟩
                rw [← hy] at hcell HDAM
                have hfz := kg.frozen P3
                have hgB : g ≠ Bt := Bk.ne kg kX (by decide)
                have lg := kg.lt
                have lB := kX.lt
                have hxor := xor_u8 y by_
                obtain ⟨u0, u1⟩ := box2 kX
                have p0 : (0 : Int) ≤ (P3 : Int) := by omega
                have p1 : (P3 : Int) < (m.2.length : Int) := by omega
                have HY : Hid (Bk (X.setCell ⟨g, P3, none⟩ (.int .u8 ((y ^^^ by_).toNat : Int))) Bt 24 #[.int .i64 m.1, .slice (some ⟨g, 0, none⟩) m.2.length q9] ∧ RdB (X.setCell ⟨g, P3, none⟩ (.int .u8 ((y ^^^ by_).toNat : Int))) (X.setCell ⟨g, P3, none⟩ (.int .u8 ((y ^^^ by_).toNat : Int))).heap.size (some ⟨g, 0, none⟩) (m.2.set P3 (y ^^^ by_)) ∧ Below Vz.heap.size Vz (X.setCell ⟨g, P3, none⟩ (.int .u8 ((y ^^^ by_).toNat : Int)))) := by
                  refine ⟨kX.far (p := ⟨g, P3, none⟩) (Ne.symm hgB) _, ?_, hbX.setCell (p := ⟨g, P3, none⟩) hg9 _⟩
                  have k9 := kg.set P3 (.int .u8 ((y ^^^ by_).toNat : Int))
                  refine RdB.of_cells k9 k9.lt ?_
                  have h1 : (u8s m.2).toArray.setIfInBounds P3 (.int .u8 ((y ^^^ by_).toNat : Int)) = (u8s (m.2.set P3 (y ^^^ by_))).toArray := u8s_set m.2 P3 (y ^^^ by_)
                  have h2 : (u8s m.2).set P3 (.int .u8 ((y ^^^ by_).toNat : Int)) = u8s (m.2.set P3 (y ^^^ by_)) := by
                    have := congrArg Array.toList h1
                    simpa using this
                  rw [← h2, ← htk9, Array.toList_setIfInBounds, List.length_set, List.take_set]
                  simp
                have HDD : Hid (lookE (mk m (m.2.set P3 (y ^^^ by_))) = 11) := HDAM.out.2
                have HRR : Hid ((lookC (mk m (m.2.set P3 (y ^^^ by_)))).recs.length = 0) := by show _ = _; rw [lookC_bad (by rw [HDD.out]; decide)]; rfl
                clear kg hh9 htk9 hv9 kX hbX hy hsz9
                go_wp2_with fail
                rw [show ((y.toNat ^^^ by_.toNat : Nat) : Int) = ((y ^^^ by_).toNat : Int) by rw [UInt8.toNat_xor]]
                obtain ⟨Y, hY⟩ : ∃ Zz, Zz = X.setCell ⟨g, P3, none⟩ (.int .u8 ((y ^^^ by_).toNat : Int)) := ⟨_, rfl⟩
                rw [← hY] at HY ⊢
                clear hY
                refine (Read_lit 11 0 m.2.length m.1 (mk m (m.2.set P3 (y ^^^ by_))) (some ⟨g, 0, none⟩) q9 Y rfl HDD.out HRR.out (by simp [mk]) HY.out.2.1 (by simpa [mk] using hq9)).mono ?_
                rintro e V9 ⟨A8, c8, rfl, _, _, hb9⟩
                have HBF := Lib.hid (bt hb9 (bt HY.out.2.2 HB.out))
                clear hb9
                go_wp2
                go_ret
                exact ⟨rfl, HBF.out⟩
          · obtain ⟨er, her⟩ : ∃ er, er = lookE m := ⟨_, rfl⟩
            have z0 : (er != 0) = true := by rw [her]; simp [h0]
            have HER : Hid (lookE m = er) := her.symm
            have hN : (lookC m).recs.length = 0 := by rw [lookC_bad h0]; rfl
            obtain ⟨mb, hmb⟩ : ∃ mb, jvB m.1 m.2.length = mb := ⟨_, rfl⟩
            clear her
            obtain ⟨c_f0, c_f1⟩ := box2 K_f.out
            have l_f := K_f.out.lt
            go_wp2_with fail
            clear c_f0 c_f1 l_f
            refine (Read_lit er 0 m.2.length m.1 m A c _ rfl HER.out hN rfl F_m.out hc).mono ?_
            rintro e V3 ⟨A1, c1, rfl, hc1, r1, hb⟩
            have hB := hb
            replace F_m := Lib.hid (F_m.out.next hB)
            replace K_f := Lib.hid (K_f.out.next hB)
            replace HB := Lib.hid (bt hB HB.out)
            clear hb hB
            clear r1
            obtain ⟨c_f0, c_f1⟩ := box2 K_f.out
            have l_f := K_f.out.lt
            go_wp2_with fail
            clear c_f0 c_f1 l_f
            refine (Memory_lit' mb m.1 A m.2.length c _ hmb).mono ?_
            rintro e V4 ⟨rfl, hb⟩
            have hB := hb
            replace F_m := Lib.hid (F_m.out.next hB)
            replace K_f := Lib.hid (K_f.out.next hB)
            replace HB := Lib.hid (bt hB HB.out)
            clear hb hB
            obtain ⟨c_f0, c_f1⟩ := box2 K_f.out
            have l_f := K_f.out.lt
            go_wp2
            go_ret
            exact ⟨rfl, HB.out⟩
  · obtain ⟨c_f0, c_f1⟩ := box2 K_f.out
    have l_f := K_f.out.lt
    go_wp2_with fail
    clear c_f0 c_f1 l_f
    refine (few_nil false m A c _ (decide_eq_false hfew)).mono ?_
    rintro e V2 ⟨rfl, hb⟩
    have hB := hb
    replace F_m := Lib.hid (F_m.out.next hB)
    replace K_f := Lib.hid (K_f.out.next hB)
    replace HB := Lib.hid (bt hB HB.out)
    clear hb hB
    obtain ⟨c_f0, c_f1⟩ := box2 K_f.out
    have l_f := K_f.out.lt
    go_wp2
    go_ret
    exact ⟨rfl, HB.out⟩

theorem JournalDamage_int (m : Mem) (A : Option Addr) (c : Nat) (which at_ b : Int) (lo : 0 ≤ b) (hi : b ≤ 255) (w : World) (hA : RdB w w.heap.size A m.2) (hc : m.2.length ≤ c) (hw : which ≤ 9223372036854775807) (hat : at_ ≤ 9223372036854775807) :
    Calls Try.prog 8 #[.agg #[.int .i64 m.1, .slice A m.2.length c], .int .i64 which, .int .i64 at_, .int .u8 b] w fun e w' => e = .returned (.bool true) ∧ Below w.heap.size w w' := by
  have h := JournalDamage_walk m A c which at_ (UInt8.ofNat b.toNat) w hA hc hw hat
  have e : ((UInt8.ofNat b.toNat).toNat : Int) = b := by rw [UInt8.toNat_ofNat']; omega
  rw [e] at h
  exact h
end Go.Proofs.Ytkeghidlolidmaa
