/- match: the search for the best pairs. -/
import Derived.Test.YthmipmdpdfdlaaaDoorTg
import Derived.Test.YthmipmdpdfdlaaaDoorRound
import Derived.Lib.QuietBelow
import Derived.BigRegion
set_option maxRecDepth 100000
set_option linter.unusedVariables false
set_option linter.unusedSimpArgs false
namespace Go.Proofs.YthmipmdpdfdlaaaDoor
open Go.RowKit

theorem or_yes2 {u k : Nat} (hu : u < 256) (h : k < 8) : bits .or .i64 (u : Int) (IntKind.i64.wrap ((2 : Int) ^ k)) = ((u ||| 2 ^ k : Nat) : Int) := by
  have e : IntKind.i64.wrap ((2 : Int) ^ k) = ((2 ^ k : Nat) : Int) := by
    rcases (by omega : k = 0 ∨ k = 1 ∨ k = 2 ∨ k = 3 ∨ k = 4 ∨ k = 5 ∨ k = 6 ∨ k = 7) with rfl | rfl | rfl | rfl | rfl | rfl | rfl | rfl <;> decide +kernel
  rw [e, or_all u hu k h]
theorem caps_app (s : Sx) (v : Value) : #[v] ++ s.caps = #[v, .pointer (some ⟨s.k1, 0, none⟩), .pointer (some ⟨s.k2, 0, none⟩), .pointer (some ⟨s.k3, 0, none⟩), .pointer (some ⟨s.k4, 0, none⟩)] := rfl
theorem zeroF (W : World) : (zeroValue 56).run Tryd.prog W = .ok zF W := by kernel_rfl
/-- what the search returns for entry a and the exits u: T: how many entries it may have laid in the map -/
def Sx.LP (s : Sx) (a u N T : Nat) (w : World) (e : Ending) (w' : World) : Prop :=
  ∃ A c l m N' D', e = .returned (.agg #[.slice A l.length c, .int .i64 m]) ∧ l.length ≤ c ∧ RdQ w' w'.heap.size A l ∧ BP s.es s.xs a (bitsOf u) l m ∧ s.Env w' ∧ s.Kn w' N' D' ∧ N' ≤ N + T ∧ w.grownBy w' (some s.M)
set_option maxHeartbeats 12000000 in
theorem least_step (s : Sx) (hs : s.Ok) (T a u N : Nat) (D : DataW Value) (w : World) (ha : a ≤ s.es.length) (hu : u < 256) (hE : s.Env w) (hK : s.Kn w N D) (hN : N + (9 * T + 1) ≤ 1000000000)
    (ih : a < s.es.length → ∀ (u' N' : Nat) (D' : DataW Value) (w' : World), u' < 256 → s.Env w' → s.Kn w' N' D' → N' + T ≤ 1000000000 → Calls Tryd.prog 14 #[.agg #[.int .i64 ((a : Int) + 1), .int .i64 (u' : Int)], .pointer (some ⟨s.k1, 0, none⟩), .pointer (some ⟨s.k2, 0, none⟩), .pointer (some ⟨s.k3, 0, none⟩), .pointer (some ⟨s.k4, 0, none⟩)] w' (s.LP (a + 1) u' N' T w')) :
    Calls Tryd.prog 14 #[.agg #[.int .i64 (a : Int), .int .i64 (u : Int)], .pointer (some ⟨s.k1, 0, none⟩), .pointer (some ⟨s.k2, 0, none⟩), .pointer (some ⟨s.k3, 0, none⟩), .pointer (some ⟨s.k4, 0, none⟩)] w (s.LP a u N (9 * T + 1) w) := by
  have e8 := hs.e8
  have x8 := hs.x8
  have HS := Lib.hid hs
  have HE := Lib.hid hE
  have HK := Lib.hid hK
  have HIH := Lib.hid ih
  have HKEY := Lib.hid (key_place (a := (a : Int)) (b := (u : Int)) (by omega) (by omega) (by omega) (by omega))
  clear hs ih
  have c1 := box1 hE.b1
  have c2 := box1 hE.b2
  have c3 := box1 hE.b3
  have c4 := box1 hE.b4
  have l1 := hE.b1.lt
  have l2 := hE.b2.lt
  have l3 := hE.b3.lt
  have l4 := hE.b4.lt
  clear hE hK
  by_cases hh : Maps.has D (pk a u) = true
  · obtain ⟨A, c, l, m, hd, hc, hr, hbp⟩ := HK.out.found a u ha hu hh
    have HV0 := Lib.hid hd
    have HH := Lib.hid hh
    have HC := Lib.hid hc
    have HR := Lib.hid hr
    have HBP := Lib.hid hbp
    clear hd hh hc hr hbp
    go_enter Tryd.func14, Tryd.ntmps14
    go_wp2_with (at_lookup; refine wpList_lookup_held _ rfl _ _ 51 rfl 54 56 place_law Tryd.underlying51 (zeroF _) s.M N D rfl ((HK.out.own.alloc _).alloc _) _ _ rfl HKEY.out (.agg #[.slice A l.length c, .int .i64 m]) true HV0.out HH.out ?_)
    refine bodyPost_ret (v := .agg #[.slice A l.length c, .int .i64 m]) (by simp [results, Tryd.results14, go_sem]) rfl ?_
    refine (fun hb => ⟨A, c, l, m, N, D, rfl, HC.out, HR.out.next hb, HBP.out, HE.out.next hb, HK.out.next hb, by omega, gbelow hb _⟩) (by repeat (first | exact Below.refl _ _ | refine Below.setCell ?_ (by simp) _ | refine Below.drew ?_ | refine Below.alloc ?_ (by simp; try omega) _))
  · have hh : Maps.has D (pk a u) = false := by simpa using hh
    have HV0 : Hid (D.atKey (pk a u) (.held zF) = .held zF) := by show _ = _; exact Maps.atKey_of_not_has hh _
    have HH := Lib.hid hh
    clear hh
    go_enter Tryd.func14, Tryd.ntmps14
    go_wp2_with (at_lookup; refine wpList_lookup_held _ rfl _ _ 51 rfl 54 56 place_law Tryd.underlying51 (zeroF _) s.M N D rfl ((HK.out.own.alloc _).alloc _) _ _ rfl HKEY.out (.agg #[.slice none 0 0, .int .i64 0]) false HV0.out HH.out ?_)
    obtain ⟨B, hB⟩ : ∃ B, B = w.heap.size := ⟨_, rfl⟩
    obtain ⟨U, hU⟩ : ∃ Zz, Zz = ((w.alloc (.cells #[.int .i64 (a : Int), .int .i64 (u : Int)] 54)).alloc (.cells #[.slice none 0 0, .int .i64 0] 56)).alloc (.cells #[.slice none 0 0, .int .i64 0] 56) := ⟨_, rfl⟩
    have hUb : Below w.heap.size w U := by rw [hU]; exact al3 _ _ _ _
    have hUs : U.heap.size = B + 3 := by rw [hU, hB]; simp
    have kB : Bk U B 54 #[.int .i64 (a : Int), .int .i64 (u : Int)] := by rw [hU, hB]; exact ((Bk.new _ _ _).alloc _).alloc _
    have kR : Bk U (B + 1) 56 #[.slice none 0 0, .int .i64 0] := by
      rw [hU, hB]
      have := ((Bk.new (w.alloc (.cells #[.int .i64 (a : Int), .int .i64 (u : Int)] 54)) 56 #[.slice none 0 0, .int .i64 0]).alloc (.cells #[.slice none 0 0, .int .i64 0] 56))
      simpa using this
    rw [← hU, ← hB]
    have HG : Hid (w.grownBy U (some s.M)) := gbelow hUb _
    have HOW := Lib.hid HK.out.own
    replace HK := Lib.hid (HK.out.next hUb)
    have HUS := Lib.hid hUs
    have HKB := Lib.hid kB
    have HKR := Lib.hid kR
    have HB := Lib.hid hB
    clear hU hUb hB hUs c1 c2 c3 c4 l1 l2 l3 l4 HV0 HH
    obtain ⟨k0, k1⟩ := box2 kB
    have lB := kB.lt
    clear kB kR
    go_region
    clear k0 k1
    have EU := HE.out.grown HOW.out HG.out
    have c2 := box1 EU.b2
    have c3 := box1 EU.b3
    have l2 := EU.b2.lt
    have l3 := EU.b3.lt
    have c4 := box1 EU.b4
    have l4 := EU.b4.lt
    clear EU
    by_cases hae : a = s.es.length
    · have HAE := Lib.hid hae
      have q0 : ((a : Int) == (s.es.length : Int)) = true := by rw [beq_iff_eq]; omega
      clear hae
      go_wp2_with fail
      obtain ⟨K, hK⟩ : ∃ K, K = U.heap.size := ⟨_, rfl⟩
      obtain ⟨V, hV⟩ : ∃ Zz, Zz = (U.alloc (.cells #[.slice none 0 0, .int .i64 0] 56)).drew := ⟨_, rfl⟩
      have hUV : Below U.heap.size U V := by rw [hV]; exact (al1 _ _).drew
      have kK : Bk V K 56 #[.slice none 0 0, .int .i64 0] := by rw [hV, hK]; exact (Bk.new _ _ _).drew
      rw [← hV, ← hK]
      replace HG := Lib.hid (gnext HG.out hUV)
      replace HK := Lib.hid (HK.out.next hUV)
      replace HKB := Lib.hid (HKB.out.next hUV)
      replace HKR := Lib.hid (HKR.out.next hUV)
      have HKK := Lib.hid kK
      have HKS : Hid (K = B + 3) := by show _ = _; rw [hK]; exact HUS.out
      clear hV hUV kK hK c2 c3 c4 l2 l3 l4 q0
      go_loopw [12, 36] (fun _ i wr => ∃ k : Nat, i = .int .i64 (k : Int) ∧ k ≤ s.xs.length ∧ Bk wr K 56 #[.slice none 0 0, .int .i64 (5 * (fre (bitsOf u) k : Int))] ∧ Bk wr B 54 #[.int .i64 (a : Int), .int .i64 (u : Int)] ∧ Bk wr (B + 1) 56 #[.slice none 0 0, .int .i64 0] ∧ s.Kn wr N D ∧ w.grownBy wr (some s.M)) (fun _ i _ => s.xs.length - (intOf i).toNat)
      case atStart => exact ⟨0, rfl, Nat.zero_le _, HKK.out, HKB.out, HKR.out, HK.out, HG.out⟩
      case round =>
        obtain ⟨k, rfl, hk, kK, kB, kR, kn, hg⟩ := hrel
        replace HKK := Lib.hid kK
        replace HKB := Lib.hid kB
        replace HKR := Lib.hid kR
        replace HK := Lib.hid kn
        replace HG := Lib.hid hg
        clear kn hg
        by_cases hlt : k < s.xs.length
        · have hk8 : k < 8 := by omega
          have hf := fre_le (bitsOf u) k
          obtain ⟨C, hC⟩ : ∃ C : Int, C = 5 * (fre (bitsOf u) k : Int) := ⟨_, rfl⟩
          have hC0 : 0 ≤ C := by omega
          have hC1 : C ≤ 40 := by omega
          have HC := Lib.hid hC
          rw [← hC] at kK
          clear hf hC
          obtain ⟨x0, x1⟩ := box2 kK
          have f1 := kK.frozen 1
          clear kK kB kR
          by_cases hb : u.testBit k = true
          · have had := and_yes hu hk8 hb
            have q0 := wrap_ne hk8
            have HFR : Hid (fre (bitsOf u) (k + 1) = fre (bitsOf u) k) := by show _ = _; rw [fre, if_pos (show bitsOf u k = true from hb), Nat.add_zero]
            clear hb
            go_wp2
            go_roundw
            case rel => exact ⟨k + 1, by go_num, by omega, by rw [HFR.out]; exact HKK.out, HKB.out, HKR.out, HK.out, HG.out⟩
            case measure => simp [intOf]; omega
          · have had := and_no hu hk8 hb
            have HFR : Hid (5 * (fre (bitsOf u) (k + 1) : Int) = C + 5) := by show _ = _; rw [fre, if_neg (show ¬ bitsOf u k = true from hb), HC.out]; push_cast; omega
            clear hb
            go_wp2
            go_roundw
            case rel =>
              have hBS := HKS.out
              exact ⟨k + 1, by go_num, by omega, by rw [HFR.out]; exact HKK.out.sndSet, HKB.out.far (by show B ≠ K; omega) _, HKR.out.far (by show B + 1 ≠ K; omega) _, HK.out.set HKK.out _, gset HG.out (by show _ ≤ K; have := HB.out; omega) _⟩
            case measure => simp [intOf]; omega
        · obtain rfl : k = s.xs.length := by omega
          clear kK kB kR hlt hk
          have EU := HE.out.grown HOW.out HG.out
          have c1 := box1 EU.b1
          obtain ⟨x0, x1⟩ := box2 HKK.out
          obtain ⟨b0, b1⟩ := box2 HKB.out
          clear EU
          have HBS := Lib.hid (show B + 1 ≠ s.M from HKR.out.neM HK.out.own)
          have HKM := Lib.hid (show K ≠ s.M from HKK.out.neM HK.out.own)
          have HL1 := HKR.out.lt
          have HL2 := HKK.out.lt
          go_wp2_with (at_mapUpdate; refine wpList_mapUpdate_own _ rfl _ _ _ 51 rfl 54 56 place_law Tryd.underlying51 Rv s.M N D rfl HK.out.own (by unfold maxLen; omega) _ _ (pk a u) rfl rfl HKEY.out (.held (.agg #[.slice none 0 0, .int .i64 (5 * (fre (bitsOf u) s.xs.length : Int))])) [] rfl ?_; intro w6 hown6 hg6; have kK6 := HKK.out.grown hg6 (fun e => HKM.out (by injection e)); obtain ⟨y0, y1⟩ := box2 kK6; have kR6 := HKR.out.grown hg6 (fun e => HBS.out (by injection e)); obtain ⟨z0, z1⟩ := box2 kR6; have g0 := kR6.frozen 0; have g1 := kR6.frozen 1)
          have HBP : Hid (BP s.es s.xs a (bitsOf u) [] (5 * (fre (bitsOf u) s.xs.length : Int))) := by
            show BP _ _ _ _ _ _
            rw [HAE.out]; exact bst_end _
          have hk6 := HK.out.put HS.out ha hu ⟨none, 0, [], _, rfl, Nat.le_refl _, Rd2.nil, HBP.out⟩ hown6 hg6
          have hkn := (hk6.set (i := 0) kR6 (.slice none 0 0)).set (i := 1) (kR6.set 0 (.slice none 0 0)) (.int .i64 (5 * (fre (bitsOf u) s.xs.length : Int)))
          have hBw := HB.out
          have hgw := gset (gset (gtrans HG.out hg6) (p := ⟨B + 1, 0, none⟩) (by show _ ≤ B + 1; omega) (.slice none 0 0)) (p := ⟨B + 1, 1, none⟩) (by show _ ≤ B + 1; omega) (.int .i64 (5 * (fre (bitsOf u) s.xs.length : Int)))
          have henv := HE.out.grown HOW.out hgw
          refine bodyPost_ret (v := .agg #[.slice none 0 0, .int .i64 (5 * (fre (bitsOf u) s.xs.length : Int))]) (by simp [results, Tryd.results14, go_sem, y0, y1, z0, z1]) rfl ?_
          exact ⟨none, 0, [], _, _, _, rfl, Nat.le_refl _, Rd2.nil, HBP.out, henv, hkn, by omega, hgw⟩
    · have hal : a < s.es.length := by omega
      have q0 : ((a : Int) == (s.es.length : Int)) = false := by rw [beq_eq_false_iff_ne]; omega
      clear hae
      go_wp2_with fail
      obtain ⟨K, hK⟩ : ∃ K, K = U.heap.size := ⟨_, rfl⟩
      obtain ⟨V, hV⟩ : ∃ Zz, Zz = (U.alloc (.cells #[.slice none 0 0, .int .i64 0] 56)).drew := ⟨_, rfl⟩
      have hUV : Below U.heap.size U V := by rw [hV]; exact (al1 _ _).drew
      have kK : Bk V K 56 #[.slice none 0 0, .int .i64 0] := by rw [hV, hK]; exact (Bk.new _ _ _).drew
      rw [← hV]
      try rw [← hK]
      replace HG := Lib.hid (gnext HG.out hUV)
      replace HK := Lib.hid (HK.out.next hUV)
      replace HKB := Lib.hid (HKB.out.next hUV)
      replace HKR := Lib.hid (HKR.out.next hUV)
      have HKK := Lib.hid kK
      have HKS : Hid (K = B + 3) := by show _ = _; rw [hK]; exact HUS.out
      clear hV hUV kK c2 c3 c4 l2 l3 l4 q0
      refine (HIH.out hal u N D V hu (HE.out.grown HOW.out HG.out) HK.out (by omega)).mono ?_
      rintro e W1 ⟨A1, d1, l1, m1, N1, D1, rfl, hd1, hr1, hbp1, hE1, hK1, hN1, hg1⟩
      have hbd := bp_bd e8 x8 hal hbp1
      have hl8 := hbd.1
      have hm0 := hbd.2.1
      have hm1 := hbd.2.2
      have kB1 := HKB.out.grown hg1 (fun e => HKB.out.neM HK.out.own (by injection e))
      have kR1 := HKR.out.grown hg1 (fun e => HKR.out.neM HK.out.own (by injection e))
      have kK1 := HKK.out.grown hg1 (fun e => HKK.out.neM HK.out.own (by injection e))
      replace HG := Lib.hid (gtrans HG.out hg1)
      replace HKB := Lib.hid kB1
      replace HKR := Lib.hid kR1
      replace HKK := Lib.hid kK1
      replace HK := Lib.hid hK1
      have HD1 := Lib.hid hd1
      have HR1 := Lib.hid hr1
      have HBP1 := Lib.hid hbp1
      obtain ⟨x0, x1⟩ := box2 kK1
      have f0 := kK1.frozen 0
      have f1 := kK1.frozen 1
      have c3 := box1 hE1.b3
      have l3 := hE1.b3.lt
      have n3 : s.k3 ≠ K := hE1.b3.ne kK1 (by decide)
      have n3' : K ≠ s.k3 := Ne.symm n3
      clear hbd kB1 kR1 kK1 hg1 hK1 hd1 hr1 hbp1 hE1 hK
      go_wp2_with fail
      obtain ⟨W2, hW2⟩ : ∃ Zz, Zz = ((W1.setCell ⟨K, 0, none⟩ (.slice A1 l1.length d1)).setCell ⟨K, 1, none⟩ (.int .i64 m1)).setCell ⟨K, 1, none⟩ (.int .i64 (m1 + 5)) := ⟨_, rfl⟩
      have hBS := HKS.out
      have hBw := HB.out
      have kA := HKK.out.set 0 (.slice A1 l1.length d1)
      have kA2 := kA.set 1 (.int .i64 m1)
      have kA3 := kA2.set 1 (.int .i64 (m1 + 5))
      have kn2 : s.Kn W2 N1 D1 := by rw [hW2]; exact ((HK.out.set HKK.out _).set kA _).set kA2 _
      have rq2 : RdQ W2 W2.heap.size A1 l1 := by rw [hW2]; exact rdq_set (rdq_set (rdq_set HR1.out HKK.out _) kA _) kA2 _
      have kK2 : Bk W2 K 56 #[.slice A1 l1.length d1, .int .i64 (m1 + 5)] := by rw [hW2]; exact kA3
      have kB2 : Bk W2 B 54 #[.int .i64 (a : Int), .int .i64 (u : Int)] := by rw [hW2]; exact ((HKB.out.far (p := ⟨K, 0, none⟩) (by show B ≠ K; omega) _).far (p := ⟨K, 1, none⟩) (by show B ≠ K; omega) _).far (p := ⟨K, 1, none⟩) (by show B ≠ K; omega) _
      have kR2 : Bk W2 (B + 1) 56 #[.slice none 0 0, .int .i64 0] := by rw [hW2]; exact ((HKR.out.far (p := ⟨K, 0, none⟩) (by show B + 1 ≠ K; omega) _).far (p := ⟨K, 1, none⟩) (by show B + 1 ≠ K; omega) _).far (p := ⟨K, 1, none⟩) (by show B + 1 ≠ K; omega) _
      have hg2 : w.grownBy W2 (some s.M) := by rw [hW2]; exact gset (gset (gset HG.out (p := ⟨K, 0, none⟩) (by show _ ≤ K; omega) _) (p := ⟨K, 1, none⟩) (by show _ ≤ K; omega) _) (p := ⟨K, 1, none⟩) (by show _ ≤ K; omega) _
      rw [← hW2]
      have HST : Hid (Bk W2 K 56 #[.slice A1 l1.length d1, .int .i64 (m1 + 5)] ∧ l1.length ≤ d1 ∧ RdQ W2 W2.heap.size A1 l1 ∧ BO s.es s.xs a 0 (bitsOf u) l1 (m1 + 5) ∧ s.Kn W2 N1 D1 ∧ N1 ≤ N + 1 * T ∧ Bk W2 B 54 #[.int .i64 (a : Int), .int .i64 (u : Int)] ∧ Bk W2 (B + 1) 56 #[.slice none 0 0, .int .i64 0] ∧ w.grownBy W2 (some s.M)) :=
        ⟨kK2, HD1.out, rq2, bso_start HBP1.out, kn2, by omega, kB2, kR2, hg2⟩
      have EU := HE.out.grown HOW.out hg2
      obtain ⟨be, oe, hAe, _⟩ := EU.re.at_ hal
      have HAE := Lib.hid hAe
      clear hW2 kA kA2 kA3 kn2 rq2 kK2 kB2 kR2 hg2 x0 x1 f0 f1 c3 l3 n3 n3' HR1 HBP1 HD1 HKK HKB HKR HK HG hm0 hm1 hl8 HUS hN1 hBS hBw
      rw [hAe]
      clear hAe
      by_cases hX : 0 < s.xs.length
      · obtain ⟨bx, ox, hAx, _⟩ := EU.rx.at_ hX
        have HAX := Lib.hid hAx
        rw [hAx]
        clear hAx EU
        go_loopw [13, 65] (fun _ i wr => ∃ (J N' : Nat) (D' : DataW Value) (A : Option Addr) (c : Nat) (l : Prs) (m : Int), i = .int .i64 (J : Int) ∧ J ≤ s.xs.length ∧ Bk wr K 56 #[.slice A l.length c, .int .i64 m] ∧ l.length ≤ c ∧ RdQ wr wr.heap.size A l ∧ BO s.es s.xs a J (bitsOf u) l m ∧ s.Kn wr N' D' ∧ N' ≤ N + (J + 1) * T ∧ Bk wr B 54 #[.int .i64 (a : Int), .int .i64 (u : Int)] ∧ Bk wr (B + 1) 56 #[.slice none 0 0, .int .i64 0] ∧ w.grownBy wr (some s.M)) (fun _ i _ => s.xs.length - (intOf i).toNat)
        case atStart => exact ⟨0, N1, D1, A1, d1, l1, m1 + 5, rfl, Nat.zero_le _, HST.out.1, HST.out.2.1, HST.out.2.2.1, HST.out.2.2.2.1, HST.out.2.2.2.2.1, by have := HST.out.2.2.2.2.2.1; omega, HST.out.2.2.2.2.2.2⟩
        case round =>
          obtain ⟨J, N2, D2, A2, d2, l2, m2, rfl, hJ, kK, hd2, rq2, hbo, kn2, hN2, kB, kR, hg⟩ := hrel
          have HKK := Lib.hid kK
          have HKB := Lib.hid kB
          have HKR := Lib.hid kR
          have HK := Lib.hid kn2
          have HG := Lib.hid hg
          have HD2 := Lib.hid hd2
          have HR2 := Lib.hid rq2
          have HBO := Lib.hid hbo
          have HN2 := Lib.hid hN2
          clear kK kB kR kn2 hg hd2 rq2 hbo hN2
          by_cases hlt : J < s.xs.length
          · have EU := HE.out.grown HOW.out HG.out
            obtain ⟨bx', ox', hA', hbx, e0, e1⟩ := EU.rx.at_ hlt
            rw [HAX.out] at hA'
            injection hA' with hA'
            injection hA' with hA1 hA2 _
            subst hA1 hA2
            obtain ⟨be', oe', hA', hbe, e2, e3⟩ := EU.re.at_ hal
            rw [HAE.out] at hA'
            injection hA' with hA'
            injection hA' with hA1 hA2 _
            subst hA1 hA2
            obtain ⟨p, hp⟩ : ∃ p, p = s.xs[J] := ⟨_, rfl⟩
            obtain ⟨q, hq⟩ : ∃ q, q = s.es[a] := ⟨_, rfl⟩
            rw [← hp] at e0 e1
            rw [← hq] at e2 e3
            simp only [paF, paG] at e0 e1 e2 e3
            have HP := Lib.hid hp
            have HQ := Lib.hid hq
            have hOK : Hid (okP s.es s.xs a J = decide (q.2 < p.2)) := by
              show _ = _
              rw [okP, List.getD_eq_getElem?_getD, List.getElem?_eq_getElem hal, List.getD_eq_getElem?_getD, List.getElem?_eq_getElem hlt, hp, hq]; rfl
            have hDS : Hid (dsP s.es s.xs a J = dsV q.1 p.1) := by
              show _ = _
              rw [dsP, List.getD_eq_getElem?_getD, List.getElem?_eq_getElem hal, List.getD_eq_getElem?_getD, List.getElem?_eq_getElem hlt, hp, hq]; rfl
            have c2 := box1 EU.b2
            rw [HAE.out] at c2
            have l2' := EU.b2.lt
            have c4 := box1 EU.b4
            have l4 := EU.b4.lt
            clear hp hq EU
            have j0 : (0 : Int) ≤ (J : Int) := by omega
            have j1 : (J : Int) < (s.xs.length : Int) := by omega
            have j8 : J < 8 := by omega
            have ja0 : (0 : Int) ≤ (a : Int) := by omega
            have ja1 : (a : Int) < (s.es.length : Int) := by omega
            go_wp2_with fail
            obtain ⟨V3, hV3⟩ : ∃ Zz, Zz = wr.alloc (.cells #[.string p.1, .int .i64 p.2] 42) := ⟨_, rfl⟩
            have hb3 : Below wr.heap.size wr V3 := by rw [hV3]; exact al1 _ _
            have kp : Bk V3 wr.heap.size 42 #[.string p.1, .int .i64 p.2] := by rw [hV3]; exact Bk.new _ _ _
            have v2 : V3.cell? ⟨s.k2, 0, none⟩ = some (.slice (some ⟨be, oe, none⟩) s.es.length s.ce) := (hb3.cell (p := ⟨s.k2, 0, none⟩) l2').trans c2
            have v3 : V3.cell? ⟨be, oe + a * 2 + 1, none⟩ = some (.int .i64 q.2) := (hb3.cell (p := ⟨be, oe + a * 2 + 1, none⟩) hbe).trans e3
            have v3' : V3.cell? ⟨be, oe + a * 2, none⟩ = some (.string q.1) := (hb3.cell (p := ⟨be, oe + a * 2, none⟩) hbe).trans e2
            obtain ⟨v4, v5⟩ := box2 kp
            rw [← hV3]
            have HB3 := Lib.hid hb3
            have HKP := Lib.hid kp
            have HL3 := kp.lt
            clear hV3 hb3 kp c2 e0 e1 e2 e3
            by_cases hb : u.testBit J = true
            · have had := and_yes hu j8 hb
              have q0 := wrap_ne j8
              have q1 : (wrap64 ((2 : Int) ^ J) != 0) = true := by rw [bne, q0]; rfl
              have HSK := Lib.hid hb
              clear hb
              go_quiet (fail)
              go_wp2
              go_roundw
              case rel =>
                have hb : Below wr.heap.size wr (V3.drewN nq) := belowDrew HB3.out nq
                have hn9 : N2 ≤ N + (J + 1 + 1) * T := Nat.le_trans HN2.out (Nat.add_le_add_left (Nat.mul_le_mul_right T (by omega)) N)
                exact ⟨J + 1, N2, D2, A2, d2, l2, m2, by go_num, by omega, HKK.out.next hb, HD2.out, HR2.out.next hb, bso_skip HBO.out (Or.inl HSK.out), HK.out.next hb, hn9, HKB.out.next hb, HKR.out.next hb, gnext HG.out hb⟩
              case measure => simp [intOf]; omega
            · have had := and_no hu j8 hb
              have HSK := Lib.hid hb
              clear hb
              by_cases hge : p.2 ≤ q.2
              · go_quiet (fail)
                go_wp2
                go_roundw
                case rel =>
                  have hb : Below wr.heap.size wr (V3.drewN nq) := belowDrew HB3.out nq
                  have hn9 : N2 ≤ N + (J + 1 + 1) * T := Nat.le_trans HN2.out (Nat.add_le_add_left (Nat.mul_le_mul_right T (by omega)) N)
                  exact ⟨J + 1, N2, D2, A2, d2, l2, m2, by go_num, by omega, HKK.out.next hb, HD2.out, HR2.out.next hb, bso_skip HBO.out (Or.inr (by rw [hOK.out]; simp; omega)), HK.out.next hb, hn9, HKB.out.next hb, HKR.out.next hb, gnext HG.out hb⟩
                case measure => simp [intOf]; omega
              · go_quiet (fail)
                have HUSE := Lib.hid (or_lt hu j8)
                obtain ⟨u2, hu2e⟩ : ∃ u2, u2 = u ||| 2 ^ J := ⟨_, rfl⟩
                have hu2 : u2 < 256 := by rw [hu2e]; exact HUSE.out
                have hor := or_yes hu j8
                rw [← hu2e] at hor
                have hor2 : bits .or .i64 (u : Int) (IntKind.i64.wrap ((2 : Int) ^ J)) = (u2 : Int) := by rw [or_yes2 hu j8, ← hu2e]
                have HU2 : Hid (bitsOf u2 = usd (bitsOf u) J) := by show _ = _; rw [hu2e]; exact bits_or u J
                have w1 : IntKind.i64.wrap ((a : Int) + 1) = (a : Int) + 1 := IntWalk.i64_in _ (by omega)
                have hnT : N2 + T ≤ 1000000000 := by
                  have := HN2.out
                  have h9 := Nat.mul_le_mul_right T (show J + 1 ≤ 8 by omega)
                  omega
                clear hu2e HUSE had
                go_wp2_with fail
                obtain ⟨V5, hV5⟩ : ∃ Zz, Zz = (V3.drewN nq).drew := ⟨_, rfl⟩
                have hb5 : Below wr.heap.size wr V5 := by rw [hV5]; exact (belowDrew HB3.out nq).drew
                have HG5 := Lib.hid (gnext HG.out hb5)
                have HK5 := Lib.hid (HK.out.next hb5)
                have HB5 := Lib.hid hb5
                have kp5 : Bk V5 wr.heap.size 42 #[.string p.1, .int .i64 p.2] := by rw [hV5]; exact HKP.out
                have HKP5 := Lib.hid kp5
                have HSG : Hid (∀ W, V5.grownBy W (some s.M) → W.cell? ⟨s.k4, 0, none⟩ = some (.func (.func 14) #[] s.caps)) := fun W hW => box1 (HE.out.grown HOW.out (gtrans HG5.out hW)).b4
                have HS0 := HSG.out V5 (World.grownBy.refl V5 _)
                refine region_S (fun w' => w'.cell? ⟨s.k4, 0, none⟩ = some (.func (.func 14) #[] s.caps)) 10 (by kernel_rfl) ?_
                rw [← hV5]
                clear hV5 hb5 kp5 v2 v3 v3' v4 v5 c4 l4
                refine anyS_take (i := 0) rfl (by kernel_rfl) (by kernel_rfl) (by kernel_rfl) (by kernel_rfl) (fun _ _ _ h => h) (Or.inl ⟨by rfl, fun w' hS' => (by have s1 := hS'; go_simp; try with_reducible rfl)⟩) HS0 ?_
                refine anyS_take (i := 1) rfl (by kernel_rfl) (by kernel_rfl) (by kernel_rfl) (by kernel_rfl) (fun _ _ _ h => h) (Or.inl ⟨by rfl, fun w' hS' => (by have s1 := hS'; go_simp; try with_reducible rfl)⟩) HS0 ?_
                refine anyS_take (i := 2) rfl (by kernel_rfl) (by kernel_rfl) (by kernel_rfl) (by kernel_rfl) (fun _ _ _ h => h) (Or.inl ⟨by rfl, fun w' hS' => (by have s1 := hS'; go_simp; try with_reducible rfl)⟩) HS0 ?_
                refine anyS_take (i := 3) rfl (by kernel_rfl) (by kernel_rfl) (by kernel_rfl) (by kernel_rfl) (fun _ _ _ h => h) (Or.inl ⟨by rfl, fun w' hS' => (by have s1 := hS'; go_simp; try with_reducible rfl)⟩) HS0 ?_
                refine anyS_take (i := 4) rfl (by kernel_rfl) (by kernel_rfl) (by kernel_rfl) (by kernel_rfl) (fun _ _ _ h => h) (Or.inl ⟨by rfl, fun w' hS' => (by have s1 := hS'; go_simp; try with_reducible rfl)⟩) HS0 ?_
                refine anyS_take (i := 5) rfl (by kernel_rfl) (by kernel_rfl) (by kernel_rfl) (by kernel_rfl) (fun _ _ _ h => h) (Or.inl ⟨by rfl, fun w' hS' => (by have s1 := hS'; go_simp; try with_reducible rfl)⟩) HS0 ?_
                refine anyS_take (i := 6) rfl (by kernel_rfl) (by kernel_rfl) (by kernel_rfl) (by kernel_rfl) (fun _ _ _ h => h) (Or.inl ⟨by rfl, fun w' hS' => (by have s1 := hS'; go_simp; try with_reducible rfl)⟩) HS0 ?_
                refine anyS_take (i := 7) rfl (by kernel_rfl) (by kernel_rfl) (by kernel_rfl) (by kernel_rfl) (fun _ _ _ h => h) (Or.inl ⟨by rfl, fun w' hS' => (by have s1 := hS'; go_simp; try with_reducible rfl)⟩) HS0 ?_
                refine anyS_two (i := 8) (j := 9) (by kernel_rfl) rfl rfl rfl rfl (fun K9 hK9 => ?_) (fun K9 hK9 => ?_)
                · go_simp
                  rw [caps_app]
                  refine (HIH.out hal u2 N2 D2 V5 hu2 (HE.out.grown HOW.out HG5.out) HK5.out hnT).mono ?_
                  rintro e W5 ⟨A3, d3, l3, m3, N3, D3, rfl, hd3, hr3, hbp3, hE3, hK3, hN3, hg3⟩
                  go_simp
                  have HG6 : Hid (V5.grownBy W5 (some s.M)) := hg3
                  have HS1 := Lib.hid (HSG.out _ HG6.out)
                  refine hK9 _ _ (fun _ => HS1.out) ?_
                  clear hK9 K9
                  refine anyS_one (i := 9) (by kernel_rfl) rfl rfl (fun K9 hK9 => ?_)
                  go_simp
                  obtain ⟨K15, hK15⟩ : ∃ K15, K15 = W5.heap.size := ⟨_, rfl⟩
                  obtain ⟨W6, hW6⟩ : ∃ Zz, Zz = W5.alloc (.cells #[.slice none 0 0, .int .i64 0] 56) := ⟨_, rfl⟩
                  have hb6 : Below W5.heap.size W5 W6 := by rw [hW6]; exact al1 _ _
                  have k15 : Bk W6 K15 56 #[.slice none 0 0, .int .i64 0] := by rw [hW6, hK15]; exact Bk.new _ _ _
                  have HG7 : Hid (V5.grownBy W6 (some s.M)) := gnext HG6.out hb6
                  have HL15 : Hid (V5.heap.size ≤ K15) := by show _ ≤ _; rw [hK15]; exact HG6.out.size
                  rw [← hW6, ← hK15]
                  clear hW6 hK15
                  refine hK9 _ _ (fun _ => HSG.out _ HG7.out) ?_
                  clear hK9 K9
                  have hd3' := hd3
                  have hr3' := hr3.next hb6
                  have hK3' := hK3.next hb6
                  clear hr3 hK3 hE3 hg3 HG6 HS1
                  refine anyS_one (i := 10) (by kernel_rfl) rfl rfl (fun K9 hK9 => ?_)
                  obtain ⟨x0, x1⟩ := box2 k15
                  have f0 := k15.frozen 0
                  have f1 := k15.frozen 1
                  go_simp
                  refine hK9 _ _ (fun h => absurd rfl h) ?_
                  clear hK9 K9 x0 x1 f0 f1
                  refine anyS_done (by kernel_rfl) ?_ _
                  simp only [normPost]
                  have hbd := bp_bd e8 x8 hal hbp3
                  have hl3 := hbd.1
                  have hm30 := hbd.2.1
                  have hm31 := hbd.2.2
                  obtain ⟨W7, hW7⟩ : ∃ Zz, Zz = (W6.setCell ⟨K15, 0, none⟩ (.slice A3 l3.length d3)).setCell ⟨K15, 1, none⟩ (.int .i64 m3) := ⟨_, rfl⟩
                  have t15 : Bk W7 K15 56 #[.slice A3 l3.length d3, .int .i64 m3] := by rw [hW7]; exact k15.pairSet
                  have r7 : RdQ W7 W7.heap.size A3 l3 := by rw [hW7]; exact rdq_set (rdq_set hr3' k15 _) (k15.set 0 _) _
                  have n7 : s.Kn W7 N3 D3 := by rw [hW7]; exact (hK3'.set k15 _).set (k15.set 0 _) _
                  have g57 : V5.grownBy W7 (some s.M) := by
                    rw [hW7]
                    have h1 := HL15.out
                    exact gset (gset HG7.out (p := ⟨K15, 0, none⟩) h1 _) (p := ⟨K15, 1, none⟩) h1 _
                  rw [← hW7]
                  have HT15 := Lib.hid t15
                  have HR7 := Lib.hid r7
                  have HN7 := Lib.hid n7
                  have HG57 := Lib.hid g57
                  have HN3 := Lib.hid hN3
                  have HBP3 := Lib.hid hbp3
                  have HD3 := Lib.hid hd3'
                  obtain ⟨y0, y1⟩ := box2 t15
                  have l15 := t15.lt
                  clear hW7 t15 r7 n7 g57 k15 hr3' hK3' HG7 hbd hN3 hbp3 hd3' HL15
                  obtain ⟨i0, hi, hz0, hz1, hz2⟩ := info_parts info_pair
                  go_wp2_with (at_builtin; refine wpList_append_rd _ rfl _ _ _ rfl W7.heap.size 39 i0 _ 2 16 Tryd.underlying35 hi hz0 hz1 hz2 rfl (by omega) (.slice (some ⟨W7.heap.size, 0, none⟩) 1 1) 1 [.int .i64 (a : Int), .int .i64 (J : Int)] (by rfl) (own_lit (by simp [at?_alloc]) (Nat.le_refl _)) (W7.alloc (.cells #[.int .i64 (a : Int), .int .i64 (J : Int)] 39)).heap.size A3 l3.length d3 (cl2 prF prG l3) (by rfl) (HR7.out.next (al1 _ _)) (prq_one l3) (by simp only [maxLen]; omega) (by omega) (by simp) ?_; intro v' W8 hown hg hat; obtain ⟨A4, c4', rfl, hc4, hr4⟩ := own_read hown)
                  have hb8 : Below W7.heap.size W7 W8 := (al1 W7 (.cells #[.int .i64 (a : Int), .int .i64 (J : Int)] 39)).grown hg (by simp) (fun k hk => by cases hk; exact Nat.le_refl _)
                  obtain ⟨l4, hl4⟩ : ∃ l4 : Prs, l4 = (a, J) :: l3 := ⟨_, rfl⟩
                  have e4 : 1 + l3.length = l4.length := by rw [hl4]; simp; omega
                  have r4 : RdQ W8 W8.heap.size A4 l4 := by
                    have h9 : cl2 prF prG l4 = [.int .i64 (a : Int), .int .i64 (J : Int)] ++ cl2 prF prG l3 := by rw [hl4]; rfl
                    show RdS _ _ _ _ _ _
                    rw [h9, ← e4]; exact hr4
                  rw [e4] at hc4 ⊢
                  have hl48 : l4.length ≤ 9 := by omega
                  have g58 := gnext HG57.out hb8
                  have HK8 := Lib.hid ((HKK.out.next HB5.out).grown g58 (fun e => (HKK.out.next HB5.out).neM HK5.out.own (by injection e)))
                  have HKB8 := Lib.hid ((HKB.out.next HB5.out).grown g58 (fun e => (HKB.out.next HB5.out).neM HK5.out.own (by injection e)))
                  have HKR8 := Lib.hid ((HKR.out.next HB5.out).grown g58 (fun e => (HKR.out.next HB5.out).neM HK5.out.own (by injection e)))
                  have HKP8 := Lib.hid (HKP5.out.grown g58 (fun e => HKP5.out.neM HK5.out.own (by injection e)))
                  have HT158 := Lib.hid (HT15.out.next hb8)
                  have HR28 : Hid (RdQ W8 W8.heap.size A2 l2) := (HR2.out.next HB5.out).grown g58 (own_none HK5.out.own)
                  have HN8 := Lib.hid (HN7.out.next hb8)
                  have HG8 := Lib.hid (gtrans HG5.out g58)
                  have HR4 := Lib.hid r4
                  have HC4 := Lib.hid hc4
                  have HL4 := Lib.hid hl4
                  have EU := HE.out.grown HOW.out HG8.out
                  obtain ⟨be', oe', hA', hbe, e2, e3⟩ := EU.re.at_ hal
                  rw [HAE.out] at hA'
                  injection hA' with hA'
                  injection hA' with hA1 hA2 _
                  subst hA1 hA2
                  rw [← HQ.out] at e2 e3
                  simp only [paF, paG] at e2 e3
                  have c2 := box1 EU.b2
                  rw [HAE.out] at c2
                  have l2' := EU.b2.lt
                  have HCF := Lib.hid EU.cf
                  have HE2 := Lib.hid e2
                  have HE3 := Lib.hid e3
                  have HC2 := Lib.hid c2
                  have hsz1 : q.1.size ≤ 9223372036854775807 := by rw [HQ.out]; exact HS.out.se _ (List.getElem_mem _)
                  have hsz2 : p.1.size ≤ 9223372036854775807 := by rw [HP.out]; exact HS.out.sx _ (List.getElem_mem _)
                  obtain ⟨dV, hdV⟩ : ∃ dV, dsV q.1 p.1 = dV := ⟨_, rfl⟩
                  have HDV := Lib.hid hdV
                  have hd0 := (dsV_bd q.1 p.1).1
                  have hd1 := (dsV_bd q.1 p.1).2
                  rw [hdV] at hd0 hd1
                  clear hdV EU y0 y1 l15 hown hg hat hr4 hc4 r4 hl4 e4 e2 e3 c2 g58 hb8 HT15 HR7 HN7 HG57 hi hz0 hz1 hz2 i0
                  obtain ⟨V9, hV9⟩ : ∃ Zz, Zz = W8.drew := ⟨_, rfl⟩
                  have HB8D : Hid (Below W8.heap.size W8 V9) := by show Below _ _ _; rw [hV9]; exact (Below.refl _ _).drew
                  have HS9 : Hid (∀ W, Below V9.heap.size V9 W → W.cell? ⟨K15, 1, none⟩ = some (.int .i64 m3) ∧ W.cell? ⟨s.k2, 0, none⟩ = some (.slice (some ⟨be, oe, none⟩) s.es.length s.ce) ∧ W.cell? ⟨be, oe + a * 2, none⟩ = some (.string q.1) ∧ W.cell? ⟨be, oe + a * 2 + 1, none⟩ = some (.int .i64 q.2) ∧ W.cell? ⟨wr.heap.size, 0, none⟩ = some (.string p.1) ∧ W.cell? ⟨wr.heap.size, 1, none⟩ = some (.int .i64 p.2)) := fun W hW => by
                    have hb := bt hW HB8D.out
                    exact ⟨(box2 (HT158.out.next hb)).2, (hb.cell (p := ⟨s.k2, 0, none⟩) l2').trans HC2.out, (hb.cell (p := ⟨be, oe + a * 2, none⟩) hbe).trans HE2.out, (hb.cell (p := ⟨be, oe + a * 2 + 1, none⟩) hbe).trans HE3.out, (box2 (HKP8.out.next hb)).1, (box2 (HKP8.out.next hb)).2⟩
                  have HMD : Hid (∀ W, Below V9.heap.size V9 W → Calls Tryd.prog 15 #[.agg #[.string q.1, .int .i64 q.2], .agg #[.string p.1, .int .i64 p.2]] W fun e w' => e = .returned (.int .i64 dV) ∧ Below W.heap.size W w') := fun W hW => by
                    have := mdist_any q p W hsz1 hsz2 (HCF.out.next (bt hW HB8D.out))
                    rwa [HDV.out] at this
                  have w2 : IntKind.i64.wrap (m3 + dV) = m3 + dV := IntWalk.i64_in _ (by omega)
                  have HS0 := HS9.out V9 (Below.refl _ _)
                  refine region_S (fun w' => w'.cell? ⟨K15, 1, none⟩ = some (.int .i64 m3) ∧ w'.cell? ⟨s.k2, 0, none⟩ = some (.slice (some ⟨be, oe, none⟩) s.es.length s.ce) ∧ w'.cell? ⟨be, oe + a * 2, none⟩ = some (.string q.1) ∧ w'.cell? ⟨be, oe + a * 2 + 1, none⟩ = some (.int .i64 q.2) ∧ w'.cell? ⟨wr.heap.size, 0, none⟩ = some (.string p.1) ∧ w'.cell? ⟨wr.heap.size, 1, none⟩ = some (.int .i64 p.2)) 12 (by kernel_rfl) ?_
                  rw [← hV9]
                  clear hV9 hsz1 hsz2
                  refine anyS_take (i := 0) rfl (by kernel_rfl) (by kernel_rfl) (by kernel_rfl) (by kernel_rfl) (fun _ _ _ h => h) (Or.inl ⟨by rfl, fun w' hS' => (by obtain ⟨s1, s2, s3, s4, s5, s6⟩ := hS'; go_simp; try with_reducible rfl)⟩) HS0 ?_
                  refine anyS_take (i := 1) rfl (by kernel_rfl) (by kernel_rfl) (by kernel_rfl) (by kernel_rfl) (fun _ _ _ h => h) (Or.inl ⟨by rfl, fun w' hS' => (by obtain ⟨s1, s2, s3, s4, s5, s6⟩ := hS'; go_simp; try with_reducible rfl)⟩) HS0 ?_
                  refine anyS_take (i := 2) rfl (by kernel_rfl) (by kernel_rfl) (by kernel_rfl) (by kernel_rfl) (fun _ _ _ h => h) (Or.inl ⟨by rfl, fun w' hS' => (by obtain ⟨s1, s2, s3, s4, s5, s6⟩ := hS'; go_simp; try with_reducible rfl)⟩) HS0 ?_
                  refine anyS_take (i := 3) rfl (by kernel_rfl) (by kernel_rfl) (by kernel_rfl) (by kernel_rfl) (fun _ _ _ h => h) (Or.inl ⟨by rfl, fun w' hS' => (by obtain ⟨s1, s2, s3, s4, s5, s6⟩ := hS'; go_simp; try with_reducible rfl)⟩) HS0 ?_
                  refine anyS_take (i := 4) rfl (by kernel_rfl) (by kernel_rfl) (by kernel_rfl) (by kernel_rfl) (fun _ _ _ h => h) (Or.inl ⟨by rfl, fun w' hS' => (by obtain ⟨s1, s2, s3, s4, s5, s6⟩ := hS'; go_simp; try with_reducible rfl)⟩) HS0 ?_
                  refine anyS_take (i := 5) rfl (by kernel_rfl) (by kernel_rfl) (by kernel_rfl) (by kernel_rfl) (fun _ _ _ h => h) (Or.inl ⟨by rfl, fun w' hS' => (by obtain ⟨s1, s2, s3, s4, s5, s6⟩ := hS'; go_simp; try with_reducible rfl)⟩) HS0 ?_
                  refine anyS_take (i := 6) rfl (by kernel_rfl) (by kernel_rfl) (by kernel_rfl) (by kernel_rfl) (fun _ _ _ h => h) (Or.inl ⟨by rfl, fun w' hS' => (by obtain ⟨s1, s2, s3, s4, s5, s6⟩ := hS'; go_simp; try with_reducible rfl)⟩) HS0 ?_
                  refine anyS_take (i := 7) rfl (by kernel_rfl) (by kernel_rfl) (by kernel_rfl) (by kernel_rfl) (fun _ _ _ h => h) (Or.inl ⟨by rfl, fun w' hS' => (by obtain ⟨s1, s2, s3, s4, s5, s6⟩ := hS'; go_simp; try with_reducible rfl)⟩) HS0 ?_
                  refine anyS_two (i := 8) (j := 11) (by kernel_rfl) rfl rfl rfl rfl (fun K9 hK9 => ?_) (fun K9 hK9 => ?_)
                  · go_simp
                    refine (HMD.out V9 (Below.refl _ _)).mono ?_
                    rintro e W9 ⟨rfl, hb9⟩
                    go_simp
                    have HB9 : Hid (Below V9.heap.size V9 W9) := hb9
                    clear hb9
                    have HS1 := HS9.out _ HB9.out
                    refine hK9 _ _ (fun _ => HS1) ?_
                    clear hK9 K9 HS0
                    have HS0 := HS1
                    clear HS1
                    refine anyS_take (i := 9) rfl (by kernel_rfl) (by kernel_rfl) (by kernel_rfl) (by kernel_rfl) (fun _ _ _ h => h) (Or.inl ⟨by rfl, fun w' hS' => (by obtain ⟨s1, s2, s3, s4, s5, s6⟩ := hS'; go_simp; try with_reducible rfl)⟩) HS0 ?_
                    refine anyS_take (i := 10) rfl (by kernel_rfl) (by kernel_rfl) (by kernel_rfl) (by kernel_rfl) (fun _ _ _ h => h) (Or.inl ⟨by rfl, fun w' hS' => (by obtain ⟨s1, s2, s3, s4, s5, s6⟩ := hS'; go_simp; try with_reducible rfl)⟩) HS0 ?_
                    refine anyS_one (i := 11) (by kernel_rfl) rfl rfl (fun K9 hK9 => ?_)
                    go_simp
                    obtain ⟨K17, hK17⟩ : ∃ K17, K17 = W9.heap.size := ⟨_, rfl⟩
                    obtain ⟨W10, hW10⟩ : ∃ Zz, Zz = W9.alloc (.cells #[.slice none 0 0, .int .i64 0] 56) := ⟨_, rfl⟩
                    have hb10 : Below W9.heap.size W9 W10 := by rw [hW10]; exact al1 _ _
                    have k17 : Bk W10 K17 56 #[.slice none 0 0, .int .i64 0] := by rw [hW10, hK17]; exact Bk.new _ _ _
                    have HB10 : Hid (Below V9.heap.size V9 W10) := bt hb10 HB9.out
                    have HL17 : Hid (V9.heap.size ≤ K17) := by show _ ≤ _; rw [hK17]; exact HB9.out.size
                    rw [← hW10, ← hK17]
                    clear hW10 hK17 hb10 HS0
                    refine hK9 _ _ (fun _ => HS9.out _ HB10.out) ?_
                    clear hK9 K9
                    refine anyS_one (i := 12) (by kernel_rfl) rfl rfl (fun K9 hK9 => ?_)
                    obtain ⟨x0, x1⟩ := box2 k17
                    have f0 := k17.frozen 0
                    have f1 := k17.frozen 1
                    go_simp
                    refine hK9 _ _ (fun h => absurd rfl h) ?_
                    clear hK9 K9 x0 x1 f0 f1
                    refine anyS_done (by kernel_rfl) ?_ _
                    simp only [normPost]
                    obtain ⟨W11, hW11⟩ : ∃ Zz, Zz = (W10.setCell ⟨K17, 0, none⟩ (.slice A4 l4.length c4')).setCell ⟨K17, 1, none⟩ (.int .i64 (m3 + dV)) := ⟨_, rfl⟩
                    have t17 : Bk W11 K17 56 #[.slice A4 l4.length c4', .int .i64 (m3 + dV)] := by rw [hW11]; exact k17.pairSet
                    have hb11 : Below W8.heap.size W8 W11 := by
                      rw [hW11]
                      have h1 := HL17.out
                      have h2 := HB8D.out.size
                      exact ((bt HB10.out HB8D.out).setCell (p := ⟨K17, 0, none⟩) (by show _ ≤ K17; omega) _).setCell (p := ⟨K17, 1, none⟩) (by show _ ≤ K17; omega) _
                    rw [← hW11]
                    obtain ⟨y0, y1⟩ := box2 t17
                    obtain ⟨z0, z1⟩ := box2 (HK8.out.next hb11)
                    have l17 := t17.lt
                    have lK := (HK8.out.next hb11).lt
                    have HT17 := Lib.hid t17
                    clear hW11 k17 HB10 HL17 t17
                    have HB11 := Lib.hid hb11
                    clear hb11
                    go_wp2_with fail
                    refine (less_any l4 l2 (m3 + dV) m2 A4 A2 c4' d2 _ (HR4.out.next HB11.out) (HR28.out.next HB11.out) (by omega) (by have := (bo_bd e8 x8 ha HBO.out).1; omega)).mono ?_
                    rintro e W12 ⟨b, rfl, hb1, hb2, hbw⟩
                    have HB12 : Hid (Below W8.heap.size W8 W12) := bt hbw HB11.out
                    have HBW12 := Lib.hid hbw
                    have hn9 : N3 ≤ N + (J + 1 + 1) * T := by
                      have h1 := HN2.out
                      have h2 := HN3.out
                      have h3 : (J + 1 + 1) * T = (J + 1) * T + T := by rw [Nat.succ_mul]
                      omega
                    have hBS := HKS.out
                    have hBw := HB.out
                    have kK12 := HK8.out.next HB12.out
                    have kB12 := HKB8.out.next HB12.out
                    have kR12 := HKR8.out.next HB12.out
                    have HF := Lib.hid (And.intro hn9 (And.intro kK12 (And.intro kB12 (And.intro kR12 (And.intro hBS hBw)))))
                    have g0 := kK12.frozen 0
                    have g1 := kK12.frozen 1
                    obtain ⟨z0', z1'⟩ := box2 kK12
                    clear hn9 kK12 kB12 kR12 hBS hBw z0 z1 hbw y0 y1 l17 lK
                    have htry := bso_try HBO.out hal hlt (show bitsOf u J = false from by simpa [bitsOf] using HSK.out) (by rw [hOK.out]; simp; omega) (by have := HBP3.out; rw [HU2.out] at this; exact this)
                    rw [hDS.out, HDV.out] at htry
                    have HTRY := Lib.hid htry
                    clear htry
                    cases b
                    · have hle := hb2 rfl
                      clear hb1 hb2 z0' z1' g0 g1
                      go_wp2
                      go_roundw
                      case rel =>
                        exact ⟨J + 1, N3, D3, A2, d2, l2, m2, by go_num, by omega, HF.out.2.1, HD2.out, HR28.out.next HB12.out, HTRY.out.1 hle, HN8.out.next HB12.out, HF.out.1, HF.out.2.2.1, HF.out.2.2.2.1, gnext HG8.out HB12.out⟩
                      case measure => simp [intOf]; omega
                    · have hle := hb1 rfl
                      clear hb1 hb2
                      obtain ⟨y0, y1⟩ := box2 (HT17.out.next HBW12.out)
                      go_wp2
                      go_roundw
                      case rel =>
                        obtain ⟨f1, f2, f3, f4, f5, f6⟩ := HF.out
                        exact ⟨J + 1, N3, D3, A4, c4', l4, m3 + dV, by go_num, by omega, f2.pairSet, HC4.out, rdq_set (rdq_set (HR4.out.next HB12.out) f2 _) (f2.set 0 _) _, by rw [HL4.out]; exact HTRY.out.2 hle, ((HN8.out.next HB12.out).set f2 _).set (f2.set 0 _) _, f1, (f3.far (p := ⟨K, 0, none⟩) (by show B ≠ K; omega) _).far (p := ⟨K, 1, none⟩) (by show B ≠ K; omega) _, (f4.far (p := ⟨K, 0, none⟩) (by show B + 1 ≠ K; omega) _).far (p := ⟨K, 1, none⟩) (by show B + 1 ≠ K; omega) _, gset (gset (gnext HG8.out HB12.out) (p := ⟨K, 0, none⟩) (by show _ ≤ K; omega) _) (p := ⟨K, 1, none⟩) (by show _ ≤ K; omega) _⟩
                      case measure => simp [intOf]; omega
                  · go_simp
                    obtain ⟨K17, hK17⟩ : ∃ K17, K17 = V9.heap.size := ⟨_, rfl⟩
                    obtain ⟨W9, hW9⟩ : ∃ Zz, Zz = V9.alloc (.cells #[.slice none 0 0, .int .i64 0] 56) := ⟨_, rfl⟩
                    have hb9 : Below V9.heap.size V9 W9 := by rw [hW9]; exact al1 _ _
                    have k17' : Bk W9 K17 56 #[.slice none 0 0, .int .i64 0] := by rw [hW9, hK17]; exact Bk.new _ _ _
                    have HL17 : Hid (V9.heap.size ≤ K17) := by show _ ≤ _; rw [hK17]; exact Nat.le_refl _
                    have HB9 := Lib.hid hb9
                    rw [← hW9, ← hK17]
                    clear hW9 hK17 hb9 HS0
                    refine hK9 _ _ (fun _ => HS9.out _ HB9.out) ?_
                    clear hK9 K9
                    refine anyS_one (i := 8) (by kernel_rfl) rfl rfl (fun K9 hK9 => ?_)
                    go_simp
                    refine (HMD.out W9 HB9.out).mono ?_
                    rintro e W10 ⟨rfl, hb10⟩
                    go_simp
                    have HB10 : Hid (Below V9.heap.size V9 W10) := bt hb10 HB9.out
                    have HS0 := HS9.out _ HB10.out
                    have k17 := k17'.next hb10
                    refine hK9 _ _ (fun _ => HS0) ?_
                    clear hK9 K9 k17' hb10
                    refine anyS_take (i := 9) rfl (by kernel_rfl) (by kernel_rfl) (by kernel_rfl) (by kernel_rfl) (fun _ _ _ h => h) (Or.inl ⟨by rfl, fun w' hS' => (by obtain ⟨s1, s2, s3, s4, s5, s6⟩ := hS'; go_simp; try with_reducible rfl)⟩) HS0 ?_
                    refine anyS_take (i := 10) rfl (by kernel_rfl) (by kernel_rfl) (by kernel_rfl) (by kernel_rfl) (fun _ _ _ h => h) (Or.inl ⟨by rfl, fun w' hS' => (by obtain ⟨s1, s2, s3, s4, s5, s6⟩ := hS'; go_simp; try with_reducible rfl)⟩) HS0 ?_
                    clear HS0
                    refine anyS_one (i := 12) (by kernel_rfl) rfl rfl (fun K9 hK9 => ?_)
                    obtain ⟨x0, x1⟩ := box2 k17
                    have f0 := k17.frozen 0
                    have f1 := k17.frozen 1
                    go_simp
                    refine hK9 _ _ (fun h => absurd rfl h) ?_
                    clear hK9 K9 x0 x1 f0 f1
                    refine anyS_done (by kernel_rfl) ?_ _
                    simp only [normPost]
                    obtain ⟨W11, hW11⟩ : ∃ Zz, Zz = (W10.setCell ⟨K17, 0, none⟩ (.slice A4 l4.length c4')).setCell ⟨K17, 1, none⟩ (.int .i64 (m3 + dV)) := ⟨_, rfl⟩
                    have t17 : Bk W11 K17 56 #[.slice A4 l4.length c4', .int .i64 (m3 + dV)] := by rw [hW11]; exact k17.pairSet
                    have hb11 : Below W8.heap.size W8 W11 := by
                      rw [hW11]
                      have h1 := HL17.out
                      have h2 := HB8D.out.size
                      exact ((bt HB10.out HB8D.out).setCell (p := ⟨K17, 0, none⟩) (by show _ ≤ K17; omega) _).setCell (p := ⟨K17, 1, none⟩) (by show _ ≤ K17; omega) _
                    rw [← hW11]
                    obtain ⟨y0, y1⟩ := box2 t17
                    obtain ⟨z0, z1⟩ := box2 (HK8.out.next hb11)
                    have l17 := t17.lt
                    have lK := (HK8.out.next hb11).lt
                    have HT17 := Lib.hid t17
                    clear hW11 k17 HB10 HL17 t17
                    have HB11 := Lib.hid hb11
                    clear hb11
                    go_wp2_with fail
                    refine (less_any l4 l2 (m3 + dV) m2 A4 A2 c4' d2 _ (HR4.out.next HB11.out) (HR28.out.next HB11.out) (by omega) (by have := (bo_bd e8 x8 ha HBO.out).1; omega)).mono ?_
                    rintro e W12 ⟨b, rfl, hb1, hb2, hbw⟩
                    have HB12 : Hid (Below W8.heap.size W8 W12) := bt hbw HB11.out
                    have HBW12 := Lib.hid hbw
                    have hn9 : N3 ≤ N + (J + 1 + 1) * T := by
                      have h1 := HN2.out
                      have h2 := HN3.out
                      have h3 : (J + 1 + 1) * T = (J + 1) * T + T := by rw [Nat.succ_mul]
                      omega
                    have hBS := HKS.out
                    have hBw := HB.out
                    have kK12 := HK8.out.next HB12.out
                    have kB12 := HKB8.out.next HB12.out
                    have kR12 := HKR8.out.next HB12.out
                    have HF := Lib.hid (And.intro hn9 (And.intro kK12 (And.intro kB12 (And.intro kR12 (And.intro hBS hBw)))))
                    have g0 := kK12.frozen 0
                    have g1 := kK12.frozen 1
                    obtain ⟨z0', z1'⟩ := box2 kK12
                    clear hn9 kK12 kB12 kR12 hBS hBw z0 z1 hbw y0 y1 l17 lK
                    have htry := bso_try HBO.out hal hlt (show bitsOf u J = false from by simpa [bitsOf] using HSK.out) (by rw [hOK.out]; simp; omega) (by have := HBP3.out; rw [HU2.out] at this; exact this)
                    rw [hDS.out, HDV.out] at htry
                    have HTRY := Lib.hid htry
                    clear htry
                    cases b
                    · have hle := hb2 rfl
                      clear hb1 hb2 z0' z1' g0 g1
                      go_wp2
                      go_roundw
                      case rel =>
                        exact ⟨J + 1, N3, D3, A2, d2, l2, m2, by go_num, by omega, HF.out.2.1, HD2.out, HR28.out.next HB12.out, HTRY.out.1 hle, HN8.out.next HB12.out, HF.out.1, HF.out.2.2.1, HF.out.2.2.2.1, gnext HG8.out HB12.out⟩
                      case measure => simp [intOf]; omega
                    · have hle := hb1 rfl
                      clear hb1 hb2
                      obtain ⟨y0, y1⟩ := box2 (HT17.out.next HBW12.out)
                      go_wp2
                      go_roundw
                      case rel =>
                        obtain ⟨f1, f2, f3, f4, f5, f6⟩ := HF.out
                        exact ⟨J + 1, N3, D3, A4, c4', l4, m3 + dV, by go_num, by omega, f2.pairSet, HC4.out, rdq_set (rdq_set (HR4.out.next HB12.out) f2 _) (f2.set 0 _) _, by rw [HL4.out]; exact HTRY.out.2 hle, ((HN8.out.next HB12.out).set f2 _).set (f2.set 0 _) _, f1, (f3.far (p := ⟨K, 0, none⟩) (by show B ≠ K; omega) _).far (p := ⟨K, 1, none⟩) (by show B ≠ K; omega) _, (f4.far (p := ⟨K, 0, none⟩) (by show B + 1 ≠ K; omega) _).far (p := ⟨K, 1, none⟩) (by show B + 1 ≠ K; omega) _, gset (gset (gnext HG8.out HB12.out) (p := ⟨K, 0, none⟩) (by show _ ≤ K; omega) _) (p := ⟨K, 1, none⟩) (by show _ ≤ K; omega) _⟩
                      case measure => simp [intOf]; omega
                · go_simp
                  obtain ⟨K15, hK15⟩ : ∃ K15, K15 = V5.heap.size := ⟨_, rfl⟩
                  obtain ⟨W5, hW5⟩ : ∃ Zz, Zz = V5.alloc (.cells #[.slice none 0 0, .int .i64 0] 56) := ⟨_, rfl⟩
                  have hb5 : Below V5.heap.size V5 W5 := by rw [hW5]; exact al1 _ _
                  have k15' : Bk W5 K15 56 #[.slice none 0 0, .int .i64 0] := by rw [hW5, hK15]; exact Bk.new _ _ _
                  have HL15 : Hid (V5.heap.size ≤ K15) := by show _ ≤ _; rw [hK15]; exact Nat.le_refl _
                  rw [← hW5, ← hK15]
                  clear hW5 hK15
                  have HG6 : Hid (V5.grownBy W5 (some s.M)) := gbelow hb5 _
                  refine hK9 _ _ (fun _ => HSG.out _ HG6.out) ?_
                  clear hK9 K9
                  refine anyS_one (i := 8) (by kernel_rfl) rfl rfl (fun K9 hK9 => ?_)
                  go_simp
                  rw [caps_app]
                  refine (HIH.out hal u2 N2 D2 W5 hu2 (HE.out.grown HOW.out (gtrans HG5.out HG6.out)) (HK5.out.next hb5) hnT).mono ?_
                  rintro e W6 ⟨A3, d3, l3, m3, N3, D3, rfl, hd3', hr3', hbp3, hE3, hK3', hN3, hg3⟩
                  go_simp
                  have HG7 : Hid (V5.grownBy W6 (some s.M)) := gtrans HG6.out hg3
                  refine hK9 _ _ (fun _ => HSG.out _ HG7.out) ?_
                  clear hK9 K9
                  have k15 := k15'.grown hg3 (fun e => k15'.neM (HK5.out.next hb5).own (by injection e))
                  clear hE3 hg3 HG6 k15' hb5
                  refine anyS_one (i := 10) (by kernel_rfl) rfl rfl (fun K9 hK9 => ?_)
                  obtain ⟨x0, x1⟩ := box2 k15
                  have f0 := k15.frozen 0
                  have f1 := k15.frozen 1
                  go_simp
                  refine hK9 _ _ (fun h => absurd rfl h) ?_
                  clear hK9 K9 x0 x1 f0 f1
                  refine anyS_done (by kernel_rfl) ?_ _
                  simp only [normPost]
                  have hbd := bp_bd e8 x8 hal hbp3
                  have hl3 := hbd.1
                  have hm30 := hbd.2.1
                  have hm31 := hbd.2.2
                  obtain ⟨W7, hW7⟩ : ∃ Zz, Zz = (W6.setCell ⟨K15, 0, none⟩ (.slice A3 l3.length d3)).setCell ⟨K15, 1, none⟩ (.int .i64 m3) := ⟨_, rfl⟩
                  have t15 : Bk W7 K15 56 #[.slice A3 l3.length d3, .int .i64 m3] := by rw [hW7]; exact k15.pairSet
                  have r7 : RdQ W7 W7.heap.size A3 l3 := by rw [hW7]; exact rdq_set (rdq_set hr3' k15 _) (k15.set 0 _) _
                  have n7 : s.Kn W7 N3 D3 := by rw [hW7]; exact (hK3'.set k15 _).set (k15.set 0 _) _
                  have g57 : V5.grownBy W7 (some s.M) := by
                    rw [hW7]
                    have h1 := HL15.out
                    exact gset (gset HG7.out (p := ⟨K15, 0, none⟩) h1 _) (p := ⟨K15, 1, none⟩) h1 _
                  rw [← hW7]
                  have HT15 := Lib.hid t15
                  have HR7 := Lib.hid r7
                  have HN7 := Lib.hid n7
                  have HG57 := Lib.hid g57
                  have HN3 := Lib.hid hN3
                  have HBP3 := Lib.hid hbp3
                  have HD3 := Lib.hid hd3'
                  obtain ⟨y0, y1⟩ := box2 t15
                  have l15 := t15.lt
                  clear hW7 t15 r7 n7 g57 k15 hr3' hK3' HG7 hbd hN3 hbp3 hd3' HL15
                  obtain ⟨i0, hi, hz0, hz1, hz2⟩ := info_parts info_pair
                  go_wp2_with (at_builtin; refine wpList_append_rd _ rfl _ _ _ rfl W7.heap.size 39 i0 _ 2 16 Tryd.underlying35 hi hz0 hz1 hz2 rfl (by omega) (.slice (some ⟨W7.heap.size, 0, none⟩) 1 1) 1 [.int .i64 (a : Int), .int .i64 (J : Int)] (by rfl) (own_lit (by simp [at?_alloc]) (Nat.le_refl _)) (W7.alloc (.cells #[.int .i64 (a : Int), .int .i64 (J : Int)] 39)).heap.size A3 l3.length d3 (cl2 prF prG l3) (by rfl) (HR7.out.next (al1 _ _)) (prq_one l3) (by simp only [maxLen]; omega) (by omega) (by simp) ?_; intro v' W8 hown hg hat; obtain ⟨A4, c4', rfl, hc4, hr4⟩ := own_read hown)
                  have hb8 : Below W7.heap.size W7 W8 := (al1 W7 (.cells #[.int .i64 (a : Int), .int .i64 (J : Int)] 39)).grown hg (by simp) (fun k hk => by cases hk; exact Nat.le_refl _)
                  obtain ⟨l4, hl4⟩ : ∃ l4 : Prs, l4 = (a, J) :: l3 := ⟨_, rfl⟩
                  have e4 : 1 + l3.length = l4.length := by rw [hl4]; simp; omega
                  have r4 : RdQ W8 W8.heap.size A4 l4 := by
                    have h9 : cl2 prF prG l4 = [.int .i64 (a : Int), .int .i64 (J : Int)] ++ cl2 prF prG l3 := by rw [hl4]; rfl
                    show RdS _ _ _ _ _ _
                    rw [h9, ← e4]; exact hr4
                  rw [e4] at hc4 ⊢
                  have hl48 : l4.length ≤ 9 := by omega
                  have g58 := gnext HG57.out hb8
                  have HK8 := Lib.hid ((HKK.out.next HB5.out).grown g58 (fun e => (HKK.out.next HB5.out).neM HK5.out.own (by injection e)))
                  have HKB8 := Lib.hid ((HKB.out.next HB5.out).grown g58 (fun e => (HKB.out.next HB5.out).neM HK5.out.own (by injection e)))
                  have HKR8 := Lib.hid ((HKR.out.next HB5.out).grown g58 (fun e => (HKR.out.next HB5.out).neM HK5.out.own (by injection e)))
                  have HKP8 := Lib.hid (HKP5.out.grown g58 (fun e => HKP5.out.neM HK5.out.own (by injection e)))
                  have HT158 := Lib.hid (HT15.out.next hb8)
                  have HR28 : Hid (RdQ W8 W8.heap.size A2 l2) := (HR2.out.next HB5.out).grown g58 (own_none HK5.out.own)
                  have HN8 := Lib.hid (HN7.out.next hb8)
                  have HG8 := Lib.hid (gtrans HG5.out g58)
                  have HR4 := Lib.hid r4
                  have HC4 := Lib.hid hc4
                  have HL4 := Lib.hid hl4
                  have EU := HE.out.grown HOW.out HG8.out
                  obtain ⟨be', oe', hA', hbe, e2, e3⟩ := EU.re.at_ hal
                  rw [HAE.out] at hA'
                  injection hA' with hA'
                  injection hA' with hA1 hA2 _
                  subst hA1 hA2
                  rw [← HQ.out] at e2 e3
                  simp only [paF, paG] at e2 e3
                  have c2 := box1 EU.b2
                  rw [HAE.out] at c2
                  have l2' := EU.b2.lt
                  have HCF := Lib.hid EU.cf
                  have HE2 := Lib.hid e2
                  have HE3 := Lib.hid e3
                  have HC2 := Lib.hid c2
                  have hsz1 : q.1.size ≤ 9223372036854775807 := by rw [HQ.out]; exact HS.out.se _ (List.getElem_mem _)
                  have hsz2 : p.1.size ≤ 9223372036854775807 := by rw [HP.out]; exact HS.out.sx _ (List.getElem_mem _)
                  obtain ⟨dV, hdV⟩ : ∃ dV, dsV q.1 p.1 = dV := ⟨_, rfl⟩
                  have HDV := Lib.hid hdV
                  have hd0 := (dsV_bd q.1 p.1).1
                  have hd1 := (dsV_bd q.1 p.1).2
                  rw [hdV] at hd0 hd1
                  clear hdV EU y0 y1 l15 hown hg hat hr4 hc4 r4 hl4 e4 e2 e3 c2 g58 hb8 HT15 HR7 HN7 HG57 hi hz0 hz1 hz2 i0
                  obtain ⟨V9, hV9⟩ : ∃ Zz, Zz = W8.drew := ⟨_, rfl⟩
                  have HB8D : Hid (Below W8.heap.size W8 V9) := by show Below _ _ _; rw [hV9]; exact (Below.refl _ _).drew
                  have HS9 : Hid (∀ W, Below V9.heap.size V9 W → W.cell? ⟨K15, 1, none⟩ = some (.int .i64 m3) ∧ W.cell? ⟨s.k2, 0, none⟩ = some (.slice (some ⟨be, oe, none⟩) s.es.length s.ce) ∧ W.cell? ⟨be, oe + a * 2, none⟩ = some (.string q.1) ∧ W.cell? ⟨be, oe + a * 2 + 1, none⟩ = some (.int .i64 q.2) ∧ W.cell? ⟨wr.heap.size, 0, none⟩ = some (.string p.1) ∧ W.cell? ⟨wr.heap.size, 1, none⟩ = some (.int .i64 p.2)) := fun W hW => by
                    have hb := bt hW HB8D.out
                    exact ⟨(box2 (HT158.out.next hb)).2, (hb.cell (p := ⟨s.k2, 0, none⟩) l2').trans HC2.out, (hb.cell (p := ⟨be, oe + a * 2, none⟩) hbe).trans HE2.out, (hb.cell (p := ⟨be, oe + a * 2 + 1, none⟩) hbe).trans HE3.out, (box2 (HKP8.out.next hb)).1, (box2 (HKP8.out.next hb)).2⟩
                  have HMD : Hid (∀ W, Below V9.heap.size V9 W → Calls Tryd.prog 15 #[.agg #[.string q.1, .int .i64 q.2], .agg #[.string p.1, .int .i64 p.2]] W fun e w' => e = .returned (.int .i64 dV) ∧ Below W.heap.size W w') := fun W hW => by
                    have := mdist_any q p W hsz1 hsz2 (HCF.out.next (bt hW HB8D.out))
                    rwa [HDV.out] at this
                  have w2 : IntKind.i64.wrap (m3 + dV) = m3 + dV := IntWalk.i64_in _ (by omega)
                  have HS0 := HS9.out V9 (Below.refl _ _)
                  refine region_S (fun w' => w'.cell? ⟨K15, 1, none⟩ = some (.int .i64 m3) ∧ w'.cell? ⟨s.k2, 0, none⟩ = some (.slice (some ⟨be, oe, none⟩) s.es.length s.ce) ∧ w'.cell? ⟨be, oe + a * 2, none⟩ = some (.string q.1) ∧ w'.cell? ⟨be, oe + a * 2 + 1, none⟩ = some (.int .i64 q.2) ∧ w'.cell? ⟨wr.heap.size, 0, none⟩ = some (.string p.1) ∧ w'.cell? ⟨wr.heap.size, 1, none⟩ = some (.int .i64 p.2)) 12 (by kernel_rfl) ?_
                  rw [← hV9]
                  clear hV9 hsz1 hsz2
                  refine anyS_take (i := 0) rfl (by kernel_rfl) (by kernel_rfl) (by kernel_rfl) (by kernel_rfl) (fun _ _ _ h => h) (Or.inl ⟨by rfl, fun w' hS' => (by obtain ⟨s1, s2, s3, s4, s5, s6⟩ := hS'; go_simp; try with_reducible rfl)⟩) HS0 ?_
                  refine anyS_take (i := 1) rfl (by kernel_rfl) (by kernel_rfl) (by kernel_rfl) (by kernel_rfl) (fun _ _ _ h => h) (Or.inl ⟨by rfl, fun w' hS' => (by obtain ⟨s1, s2, s3, s4, s5, s6⟩ := hS'; go_simp; try with_reducible rfl)⟩) HS0 ?_
                  refine anyS_take (i := 2) rfl (by kernel_rfl) (by kernel_rfl) (by kernel_rfl) (by kernel_rfl) (fun _ _ _ h => h) (Or.inl ⟨by rfl, fun w' hS' => (by obtain ⟨s1, s2, s3, s4, s5, s6⟩ := hS'; go_simp; try with_reducible rfl)⟩) HS0 ?_
                  refine anyS_take (i := 3) rfl (by kernel_rfl) (by kernel_rfl) (by kernel_rfl) (by kernel_rfl) (fun _ _ _ h => h) (Or.inl ⟨by rfl, fun w' hS' => (by obtain ⟨s1, s2, s3, s4, s5, s6⟩ := hS'; go_simp; try with_reducible rfl)⟩) HS0 ?_
                  refine anyS_take (i := 4) rfl (by kernel_rfl) (by kernel_rfl) (by kernel_rfl) (by kernel_rfl) (fun _ _ _ h => h) (Or.inl ⟨by rfl, fun w' hS' => (by obtain ⟨s1, s2, s3, s4, s5, s6⟩ := hS'; go_simp; try with_reducible rfl)⟩) HS0 ?_
                  refine anyS_take (i := 5) rfl (by kernel_rfl) (by kernel_rfl) (by kernel_rfl) (by kernel_rfl) (fun _ _ _ h => h) (Or.inl ⟨by rfl, fun w' hS' => (by obtain ⟨s1, s2, s3, s4, s5, s6⟩ := hS'; go_simp; try with_reducible rfl)⟩) HS0 ?_
                  refine anyS_take (i := 6) rfl (by kernel_rfl) (by kernel_rfl) (by kernel_rfl) (by kernel_rfl) (fun _ _ _ h => h) (Or.inl ⟨by rfl, fun w' hS' => (by obtain ⟨s1, s2, s3, s4, s5, s6⟩ := hS'; go_simp; try with_reducible rfl)⟩) HS0 ?_
                  refine anyS_take (i := 7) rfl (by kernel_rfl) (by kernel_rfl) (by kernel_rfl) (by kernel_rfl) (fun _ _ _ h => h) (Or.inl ⟨by rfl, fun w' hS' => (by obtain ⟨s1, s2, s3, s4, s5, s6⟩ := hS'; go_simp; try with_reducible rfl)⟩) HS0 ?_
                  refine anyS_two (i := 8) (j := 11) (by kernel_rfl) rfl rfl rfl rfl (fun K9 hK9 => ?_) (fun K9 hK9 => ?_)
                  · go_simp
                    refine (HMD.out V9 (Below.refl _ _)).mono ?_
                    rintro e W9 ⟨rfl, hb9⟩
                    go_simp
                    have HB9 : Hid (Below V9.heap.size V9 W9) := hb9
                    clear hb9
                    have HS1 := HS9.out _ HB9.out
                    refine hK9 _ _ (fun _ => HS1) ?_
                    clear hK9 K9 HS0
                    have HS0 := HS1
                    clear HS1
                    refine anyS_take (i := 9) rfl (by kernel_rfl) (by kernel_rfl) (by kernel_rfl) (by kernel_rfl) (fun _ _ _ h => h) (Or.inl ⟨by rfl, fun w' hS' => (by obtain ⟨s1, s2, s3, s4, s5, s6⟩ := hS'; go_simp; try with_reducible rfl)⟩) HS0 ?_
                    refine anyS_take (i := 10) rfl (by kernel_rfl) (by kernel_rfl) (by kernel_rfl) (by kernel_rfl) (fun _ _ _ h => h) (Or.inl ⟨by rfl, fun w' hS' => (by obtain ⟨s1, s2, s3, s4, s5, s6⟩ := hS'; go_simp; try with_reducible rfl)⟩) HS0 ?_
                    refine anyS_one (i := 11) (by kernel_rfl) rfl rfl (fun K9 hK9 => ?_)
                    go_simp
                    obtain ⟨K17, hK17⟩ : ∃ K17, K17 = W9.heap.size := ⟨_, rfl⟩
                    obtain ⟨W10, hW10⟩ : ∃ Zz, Zz = W9.alloc (.cells #[.slice none 0 0, .int .i64 0] 56) := ⟨_, rfl⟩
                    have hb10 : Below W9.heap.size W9 W10 := by rw [hW10]; exact al1 _ _
                    have k17 : Bk W10 K17 56 #[.slice none 0 0, .int .i64 0] := by rw [hW10, hK17]; exact Bk.new _ _ _
                    have HB10 : Hid (Below V9.heap.size V9 W10) := bt hb10 HB9.out
                    have HL17 : Hid (V9.heap.size ≤ K17) := by show _ ≤ _; rw [hK17]; exact HB9.out.size
                    rw [← hW10, ← hK17]
                    clear hW10 hK17 hb10 HS0
                    refine hK9 _ _ (fun _ => HS9.out _ HB10.out) ?_
                    clear hK9 K9
                    refine anyS_one (i := 12) (by kernel_rfl) rfl rfl (fun K9 hK9 => ?_)
                    obtain ⟨x0, x1⟩ := box2 k17
                    have f0 := k17.frozen 0
                    have f1 := k17.frozen 1
                    go_simp
                    refine hK9 _ _ (fun h => absurd rfl h) ?_
                    clear hK9 K9 x0 x1 f0 f1
                    refine anyS_done (by kernel_rfl) ?_ _
                    simp only [normPost]
                    obtain ⟨W11, hW11⟩ : ∃ Zz, Zz = (W10.setCell ⟨K17, 0, none⟩ (.slice A4 l4.length c4')).setCell ⟨K17, 1, none⟩ (.int .i64 (m3 + dV)) := ⟨_, rfl⟩
                    have t17 : Bk W11 K17 56 #[.slice A4 l4.length c4', .int .i64 (m3 + dV)] := by rw [hW11]; exact k17.pairSet
                    have hb11 : Below W8.heap.size W8 W11 := by
                      rw [hW11]
                      have h1 := HL17.out
                      have h2 := HB8D.out.size
                      exact ((bt HB10.out HB8D.out).setCell (p := ⟨K17, 0, none⟩) (by show _ ≤ K17; omega) _).setCell (p := ⟨K17, 1, none⟩) (by show _ ≤ K17; omega) _
                    rw [← hW11]
                    obtain ⟨y0, y1⟩ := box2 t17
                    obtain ⟨z0, z1⟩ := box2 (HK8.out.next hb11)
                    have l17 := t17.lt
                    have lK := (HK8.out.next hb11).lt
                    have HT17 := Lib.hid t17
                    clear hW11 k17 HB10 HL17 t17
                    have HB11 := Lib.hid hb11
                    clear hb11
                    go_wp2_with fail
                    refine (less_any l4 l2 (m3 + dV) m2 A4 A2 c4' d2 _ (HR4.out.next HB11.out) (HR28.out.next HB11.out) (by omega) (by have := (bo_bd e8 x8 ha HBO.out).1; omega)).mono ?_
                    rintro e W12 ⟨b, rfl, hb1, hb2, hbw⟩
                    have HB12 : Hid (Below W8.heap.size W8 W12) := bt hbw HB11.out
                    have HBW12 := Lib.hid hbw
                    have hn9 : N3 ≤ N + (J + 1 + 1) * T := by
                      have h1 := HN2.out
                      have h2 := HN3.out
                      have h3 : (J + 1 + 1) * T = (J + 1) * T + T := by rw [Nat.succ_mul]
                      omega
                    have hBS := HKS.out
                    have hBw := HB.out
                    have kK12 := HK8.out.next HB12.out
                    have kB12 := HKB8.out.next HB12.out
                    have kR12 := HKR8.out.next HB12.out
                    have HF := Lib.hid (And.intro hn9 (And.intro kK12 (And.intro kB12 (And.intro kR12 (And.intro hBS hBw)))))
                    have g0 := kK12.frozen 0
                    have g1 := kK12.frozen 1
                    obtain ⟨z0', z1'⟩ := box2 kK12
                    clear hn9 kK12 kB12 kR12 hBS hBw z0 z1 hbw y0 y1 l17 lK
                    have htry := bso_try HBO.out hal hlt (show bitsOf u J = false from by simpa [bitsOf] using HSK.out) (by rw [hOK.out]; simp; omega) (by have := HBP3.out; rw [HU2.out] at this; exact this)
                    rw [hDS.out, HDV.out] at htry
                    have HTRY := Lib.hid htry
                    clear htry
                    cases b
                    · have hle := hb2 rfl
                      clear hb1 hb2 z0' z1' g0 g1
                      go_wp2
                      go_roundw
                      case rel =>
                        exact ⟨J + 1, N3, D3, A2, d2, l2, m2, by go_num, by omega, HF.out.2.1, HD2.out, HR28.out.next HB12.out, HTRY.out.1 hle, HN8.out.next HB12.out, HF.out.1, HF.out.2.2.1, HF.out.2.2.2.1, gnext HG8.out HB12.out⟩
                      case measure => simp [intOf]; omega
                    · have hle := hb1 rfl
                      clear hb1 hb2
                      obtain ⟨y0, y1⟩ := box2 (HT17.out.next HBW12.out)
                      go_wp2
                      go_roundw
                      case rel =>
                        obtain ⟨f1, f2, f3, f4, f5, f6⟩ := HF.out
                        exact ⟨J + 1, N3, D3, A4, c4', l4, m3 + dV, by go_num, by omega, f2.pairSet, HC4.out, rdq_set (rdq_set (HR4.out.next HB12.out) f2 _) (f2.set 0 _) _, by rw [HL4.out]; exact HTRY.out.2 hle, ((HN8.out.next HB12.out).set f2 _).set (f2.set 0 _) _, f1, (f3.far (p := ⟨K, 0, none⟩) (by show B ≠ K; omega) _).far (p := ⟨K, 1, none⟩) (by show B ≠ K; omega) _, (f4.far (p := ⟨K, 0, none⟩) (by show B + 1 ≠ K; omega) _).far (p := ⟨K, 1, none⟩) (by show B + 1 ≠ K; omega) _, gset (gset (gnext HG8.out HB12.out) (p := ⟨K, 0, none⟩) (by show _ ≤ K; omega) _) (p := ⟨K, 1, none⟩) (by show _ ≤ K; omega) _⟩
                      case measure => simp [intOf]; omega
                  · go_simp
                    obtain ⟨K17, hK17⟩ : ∃ K17, K17 = V9.heap.size := ⟨_, rfl⟩
                    obtain ⟨W9, hW9⟩ : ∃ Zz, Zz = V9.alloc (.cells #[.slice none 0 0, .int .i64 0] 56) := ⟨_, rfl⟩
                    have hb9 : Below V9.heap.size V9 W9 := by rw [hW9]; exact al1 _ _
                    have k17' : Bk W9 K17 56 #[.slice none 0 0, .int .i64 0] := by rw [hW9, hK17]; exact Bk.new _ _ _
                    have HL17 : Hid (V9.heap.size ≤ K17) := by show _ ≤ _; rw [hK17]; exact Nat.le_refl _
                    have HB9 := Lib.hid hb9
                    rw [← hW9, ← hK17]
                    clear hW9 hK17 hb9 HS0
                    refine hK9 _ _ (fun _ => HS9.out _ HB9.out) ?_
                    clear hK9 K9
                    refine anyS_one (i := 8) (by kernel_rfl) rfl rfl (fun K9 hK9 => ?_)
                    go_simp
                    refine (HMD.out W9 HB9.out).mono ?_
                    rintro e W10 ⟨rfl, hb10⟩
                    go_simp
                    have HB10 : Hid (Below V9.heap.size V9 W10) := bt hb10 HB9.out
                    have HS0 := HS9.out _ HB10.out
                    have k17 := k17'.next hb10
                    refine hK9 _ _ (fun _ => HS0) ?_
                    clear hK9 K9 k17' hb10
                    refine anyS_take (i := 9) rfl (by kernel_rfl) (by kernel_rfl) (by kernel_rfl) (by kernel_rfl) (fun _ _ _ h => h) (Or.inl ⟨by rfl, fun w' hS' => (by obtain ⟨s1, s2, s3, s4, s5, s6⟩ := hS'; go_simp; try with_reducible rfl)⟩) HS0 ?_
                    refine anyS_take (i := 10) rfl (by kernel_rfl) (by kernel_rfl) (by kernel_rfl) (by kernel_rfl) (fun _ _ _ h => h) (Or.inl ⟨by rfl, fun w' hS' => (by obtain ⟨s1, s2, s3, s4, s5, s6⟩ := hS'; go_simp; try with_reducible rfl)⟩) HS0 ?_
                    clear HS0
                    refine anyS_one (i := 12) (by kernel_rfl) rfl rfl (fun K9 hK9 => ?_)
                    obtain ⟨x0, x1⟩ := box2 k17
                    have f0 := k17.frozen 0
                    have f1 := k17.frozen 1
                    go_simp
                    refine hK9 _ _ (fun h => absurd rfl h) ?_
                    clear hK9 K9 x0 x1 f0 f1
                    refine anyS_done (by kernel_rfl) ?_ _
                    simp only [normPost]
                    obtain ⟨W11, hW11⟩ : ∃ Zz, Zz = (W10.setCell ⟨K17, 0, none⟩ (.slice A4 l4.length c4')).setCell ⟨K17, 1, none⟩ (.int .i64 (m3 + dV)) := ⟨_, rfl⟩
                    have t17 : Bk W11 K17 56 #[.slice A4 l4.length c4', .int .i64 (m3 + dV)] := by rw [hW11]; exact k17.pairSet
                    have hb11 : Below W8.heap.size W8 W11 := by
                      rw [hW11]
                      have h1 := HL17.out
                      have h2 := HB8D.out.size
                      exact ((bt HB10.out HB8D.out).setCell (p := ⟨K17, 0, none⟩) (by show _ ≤ K17; omega) _).setCell (p := ⟨K17, 1, none⟩) (by show _ ≤ K17; omega) _
                    rw [← hW11]
                    obtain ⟨y0, y1⟩ := box2 t17
                    obtain ⟨z0, z1⟩ := box2 (HK8.out.next hb11)
                    have l17 := t17.lt
                    have lK := (HK8.out.next hb11).lt
                    have HT17 := Lib.hid t17
                    clear hW11 k17 HB10 HL17 t17
                    have HB11 := Lib.hid hb11
                    clear hb11
                    go_wp2_with fail
                    refine (less_any l4 l2 (m3 + dV) m2 A4 A2 c4' d2 _ (HR4.out.next HB11.out) (HR28.out.next HB11.out) (by omega) (by have := (bo_bd e8 x8 ha HBO.out).1; omega)).mono ?_
                    rintro e W12 ⟨b, rfl, hb1, hb2, hbw⟩
                    have HB12 : Hid (Below W8.heap.size W8 W12) := bt hbw HB11.out
                    have HBW12 := Lib.hid hbw
                    have hn9 : N3 ≤ N + (J + 1 + 1) * T := by
                      have h1 := HN2.out
                      have h2 := HN3.out
                      have h3 : (J + 1 + 1) * T = (J + 1) * T + T := by rw [Nat.succ_mul]
                      omega
                    have hBS := HKS.out
                    have hBw := HB.out
                    have kK12 := HK8.out.next HB12.out
                    have kB12 := HKB8.out.next HB12.out
                    have kR12 := HKR8.out.next HB12.out
                    have HF := Lib.hid (And.intro hn9 (And.intro kK12 (And.intro kB12 (And.intro kR12 (And.intro hBS hBw)))))
                    have g0 := kK12.frozen 0
                    have g1 := kK12.frozen 1
                    obtain ⟨z0', z1'⟩ := box2 kK12
                    clear hn9 kK12 kB12 kR12 hBS hBw z0 z1 hbw y0 y1 l17 lK
                    have htry := bso_try HBO.out hal hlt (show bitsOf u J = false from by simpa [bitsOf] using HSK.out) (by rw [hOK.out]; simp; omega) (by have := HBP3.out; rw [HU2.out] at this; exact this)
                    rw [hDS.out, HDV.out] at htry
                    have HTRY := Lib.hid htry
                    clear htry
                    cases b
                    · have hle := hb2 rfl
                      clear hb1 hb2 z0' z1' g0 g1
                      go_wp2
                      go_roundw
                      case rel =>
                        exact ⟨J + 1, N3, D3, A2, d2, l2, m2, by go_num, by omega, HF.out.2.1, HD2.out, HR28.out.next HB12.out, HTRY.out.1 hle, HN8.out.next HB12.out, HF.out.1, HF.out.2.2.1, HF.out.2.2.2.1, gnext HG8.out HB12.out⟩
                      case measure => simp [intOf]; omega
                    · have hle := hb1 rfl
                      clear hb1 hb2
                      obtain ⟨y0, y1⟩ := box2 (HT17.out.next HBW12.out)
                      go_wp2
                      go_roundw
                      case rel =>
                        obtain ⟨f1, f2, f3, f4, f5, f6⟩ := HF.out
                        exact ⟨J + 1, N3, D3, A4, c4', l4, m3 + dV, by go_num, by omega, f2.pairSet, HC4.out, rdq_set (rdq_set (HR4.out.next HB12.out) f2 _) (f2.set 0 _) _, by rw [HL4.out]; exact HTRY.out.2 hle, ((HN8.out.next HB12.out).set f2 _).set (f2.set 0 _) _, f1, (f3.far (p := ⟨K, 0, none⟩) (by show B ≠ K; omega) _).far (p := ⟨K, 1, none⟩) (by show B ≠ K; omega) _, (f4.far (p := ⟨K, 0, none⟩) (by show B + 1 ≠ K; omega) _).far (p := ⟨K, 1, none⟩) (by show B + 1 ≠ K; omega) _, gset (gset (gnext HG8.out HB12.out) (p := ⟨K, 0, none⟩) (by show _ ≤ K; omega) _) (p := ⟨K, 1, none⟩) (by show _ ≤ K; omega) _⟩
                      case measure => simp [intOf]; omega
          · obtain rfl : J = s.xs.length := by omega
            clear hlt hJ
            have EU := HE.out.grown HOW.out HG.out
            have c1 := box1 EU.b1
            obtain ⟨x0, x1⟩ := box2 HKK.out
            obtain ⟨b0, b1⟩ := box2 HKB.out
            clear EU
            have HBP := Lib.hid (bso_end HBO.out)
            have HBS := Lib.hid (show B + 1 ≠ s.M from HKR.out.neM HK.out.own)
            have HKM := Lib.hid (show K ≠ s.M from HKK.out.neM HK.out.own)
            have HL1 := HKR.out.lt
            have HL2 := HKK.out.lt
            have hN9 : N2 ≤ N + 9 * T := Nat.le_trans HN2.out (Nat.add_le_add_left (Nat.mul_le_mul_right T (by omega)) N)
            go_wp2_with (at_mapUpdate; refine wpList_mapUpdate_own _ rfl _ _ _ 51 rfl 54 56 place_law Tryd.underlying51 Rv s.M N2 D2 rfl HK.out.own (by unfold maxLen; omega) _ _ (pk a u) rfl rfl HKEY.out (.held (.agg #[.slice A2 l2.length d2, .int .i64 m2])) [] rfl ?_; intro w6 hown6 hg6; have kK6 := HKK.out.grown hg6 (fun e => HKM.out (by injection e)); obtain ⟨y0, y1⟩ := box2 kK6; have kR6 := HKR.out.grown hg6 (fun e => HBS.out (by injection e)); obtain ⟨z0, z1⟩ := box2 kR6; have g0 := kR6.frozen 0; have g1 := kR6.frozen 1)
            have hk6 := HK.out.put HS.out ha hu ⟨A2, d2, l2, m2, rfl, HD2.out, HR2.out, HBP.out⟩ hown6 hg6
            have hkn := (hk6.set (i := 0) kR6 (.slice A2 l2.length d2)).set (i := 1) (kR6.set 0 (.slice A2 l2.length d2)) (.int .i64 m2)
            have hrq := rdq_set (i := 1) (rdq_set (i := 0) (HR2.out.grown hg6 (own_none HK.out.own)) kR6 (.slice A2 l2.length d2)) (kR6.set 0 (.slice A2 l2.length d2)) (.int .i64 m2)
            have hBw := HB.out
            have hgw := gset (gset (gtrans HG.out hg6) (p := ⟨B + 1, 0, none⟩) (by show _ ≤ B + 1; omega) (.slice A2 l2.length d2)) (p := ⟨B + 1, 1, none⟩) (by show _ ≤ B + 1; omega) (.int .i64 m2)
            have henv := HE.out.grown HOW.out hgw
            refine bodyPost_ret (v := .agg #[.slice A2 l2.length d2, .int .i64 m2]) (by simp [results, Tryd.results14, go_sem, y0, y1, z0, z1]) rfl ?_
            exact ⟨A2, d2, l2, m2, _, _, rfl, HD2.out, hrq, HBP.out, henv, hkn, by omega, hgw⟩
      · clear EU
        go_loopw [13, 65] (fun _ i wr => ∃ (J N' : Nat) (D' : DataW Value) (A : Option Addr) (c : Nat) (l : Prs) (m : Int), i = .int .i64 (J : Int) ∧ J ≤ s.xs.length ∧ Bk wr K 56 #[.slice A l.length c, .int .i64 m] ∧ l.length ≤ c ∧ RdQ wr wr.heap.size A l ∧ BO s.es s.xs a J (bitsOf u) l m ∧ s.Kn wr N' D' ∧ N' ≤ N + (J + 1) * T ∧ Bk wr B 54 #[.int .i64 (a : Int), .int .i64 (u : Int)] ∧ Bk wr (B + 1) 56 #[.slice none 0 0, .int .i64 0] ∧ w.grownBy wr (some s.M)) (fun _ i _ => s.xs.length - (intOf i).toNat)
        case atStart => exact ⟨0, N1, D1, A1, d1, l1, m1 + 5, rfl, Nat.zero_le _, HST.out.1, HST.out.2.1, HST.out.2.2.1, HST.out.2.2.2.1, HST.out.2.2.2.2.1, by have := HST.out.2.2.2.2.2.1; omega, HST.out.2.2.2.2.2.2⟩
        case round =>
          obtain ⟨J, N2, D2, A2, d2, l2, m2, rfl, hJ, kK, hd2, rq2, hbo, kn2, hN2, kB, kR, hg⟩ := hrel
          have HKK := Lib.hid kK
          have HKB := Lib.hid kB
          have HKR := Lib.hid kR
          have HK := Lib.hid kn2
          have HG := Lib.hid hg
          have HD2 := Lib.hid hd2
          have HR2 := Lib.hid rq2
          have HBO := Lib.hid hbo
          have HN2 := Lib.hid hN2
          clear kK kB kR kn2 hg hd2 rq2 hbo hN2
          by_cases hlt : J < s.xs.length
          · exact absurd hlt (by omega)
          · obtain rfl : J = s.xs.length := by omega
            clear hlt hJ
            have EU := HE.out.grown HOW.out HG.out
            have c1 := box1 EU.b1
            obtain ⟨x0, x1⟩ := box2 HKK.out
            obtain ⟨b0, b1⟩ := box2 HKB.out
            clear EU
            have HBP := Lib.hid (bso_end HBO.out)
            have HBS := Lib.hid (show B + 1 ≠ s.M from HKR.out.neM HK.out.own)
            have HKM := Lib.hid (show K ≠ s.M from HKK.out.neM HK.out.own)
            have HL1 := HKR.out.lt
            have HL2 := HKK.out.lt
            have hN9 : N2 ≤ N + 9 * T := Nat.le_trans HN2.out (Nat.add_le_add_left (Nat.mul_le_mul_right T (by omega)) N)
            go_wp2_with (at_mapUpdate; refine wpList_mapUpdate_own _ rfl _ _ _ 51 rfl 54 56 place_law Tryd.underlying51 Rv s.M N2 D2 rfl HK.out.own (by unfold maxLen; omega) _ _ (pk a u) rfl rfl HKEY.out (.held (.agg #[.slice A2 l2.length d2, .int .i64 m2])) [] rfl ?_; intro w6 hown6 hg6; have kK6 := HKK.out.grown hg6 (fun e => HKM.out (by injection e)); obtain ⟨y0, y1⟩ := box2 kK6; have kR6 := HKR.out.grown hg6 (fun e => HBS.out (by injection e)); obtain ⟨z0, z1⟩ := box2 kR6; have g0 := kR6.frozen 0; have g1 := kR6.frozen 1)
            have hk6 := HK.out.put HS.out ha hu ⟨A2, d2, l2, m2, rfl, HD2.out, HR2.out, HBP.out⟩ hown6 hg6
            have hkn := (hk6.set (i := 0) kR6 (.slice A2 l2.length d2)).set (i := 1) (kR6.set 0 (.slice A2 l2.length d2)) (.int .i64 m2)
            have hrq := rdq_set (i := 1) (rdq_set (i := 0) (HR2.out.grown hg6 (own_none HK.out.own)) kR6 (.slice A2 l2.length d2)) (kR6.set 0 (.slice A2 l2.length d2)) (.int .i64 m2)
            have hBw := HB.out
            have hgw := gset (gset (gtrans HG.out hg6) (p := ⟨B + 1, 0, none⟩) (by show _ ≤ B + 1; omega) (.slice A2 l2.length d2)) (p := ⟨B + 1, 1, none⟩) (by show _ ≤ B + 1; omega) (.int .i64 m2)
            have henv := HE.out.grown HOW.out hgw
            refine bodyPost_ret (v := .agg #[.slice A2 l2.length d2, .int .i64 m2]) (by simp [results, Tryd.results14, go_sem, y0, y1, z0, z1]) rfl ?_
            exact ⟨A2, d2, l2, m2, _, _, rfl, HD2.out, hrq, HBP.out, henv, hkn, by omega, hgw⟩
end Go.Proofs.YthmipmdpdfdlaaaDoor
