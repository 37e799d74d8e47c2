/- The law VaultForgets, walked. -/
import Derived.Test.YtcnhmgcingmphaaDoorKVh
import Derived.Test.YtcnhmgcingmphaaDoorKVwa
import Derived.Test.YtcnhmgcingmphaaDoorKLX
import Derived.BigQuiet
set_option maxRecDepth 100000
set_option linter.unusedVariables false
set_option linter.unusedSimpArgs false
namespace Go.Proofs.YtcnhmgcingmphaaDoor
open Go.RowKit Go.Sort Go.Shelf

theorem Alive_n (zs : List Int) (l : List Lea) (tick : Int) (A : Option Addr) (n c : Nat) (w : World) (hn : l.length = n) (hz : alvL l 16 tick = zs) (h0 : alvE l 16 tick = 0) (hl : zs.length = 16) (hA : RdL w w.heap.size A l) (hll : l.length ≤ 1000) :
    Calls Tryd.prog 20 #[.slice A n c, .int .i64 16, .int .i64 tick] w fun e w' => ∃ A c, e = .returned (.tuple #[.slice A 16 c, .int .i64 0]) ∧ 16 ≤ c ∧ RdI w' w'.heap.size A zs ∧ Below w.heap.size w w' := by
  subst hn
  have h := Ls.Alive_any l A c 16 tick w hA (by omega)
  rw [hz, h0] at h
  refine h.mono ?_
  rintro e w' ⟨A', c', he, h1, h2, h3⟩
  rw [hl] at he h1
  exact ⟨A', c', he, h1, h2, h3⟩
theorem ints_at' {zs : List Int} {k : Nat} (h : k < zs.length) : zs[k] = zs.getD k 0 := by rw [List.getD_eq_getElem?_getD, List.getElem?_eq_getElem h]; rfl
/-- what is alive of the memories of Store, for a walk -/
theorem forg_walk {m : Mem} {x : Lea} {tick later : Int} (h : stoE m x tick = 0) (h1 : tick ≤ later) (h2 : later ≤ 1100000) : ∃ (bf on : List Int), alvE (loadL m) 16 later = 0 ∧ alvL (loadL m) 16 later = bf ∧ bf.length = 16 ∧ alvE [x] 16 later = 0 ∧ alvL [x] 16 later = on ∧ on.length = 16 ∧
    ∀ k (hk : k < (stoM m x tick).length), alvE (loadL (stoM m x tick)[k]) 16 later = 0 ∧ (alvL (loadL (stoM m x tick)[k]) 16 later).length = 16 ∧
      ∀ c, c < 16 → bf.getD c 0 ≤ (alvL (loadL (stoM m x tick)[k]) 16 later).getD c 0 ∧ (k + 1 = (stoM m x tick).length → (alvL (loadL (stoM m x tick)[k]) 16 later).getD c 0 = max (bf.getD c 0) (on.getD c 0)) := by
  obtain ⟨L, F, z, af, hs⟩ := sto_of h
  obtain ⟨a1, a2, a3, a4, a5⟩ := hs.forgets h1 h2
  exact ⟨_, _, a1, rfl, a3, a2, rfl, a4, a5⟩
set_option maxHeartbeats 4000000 in
theorem VaultForgets_walk (m : Mem) (x : Lea) (tick later : Int) (A : Option Addr) (c : Nat) (w : World) (hW : Wd w) (hA : RdB w w.heap.size A m.2) (hc : m.2.length ≤ c) :
    Calls Tryd.prog 7 #[.agg #[.int .i64 m.1, .slice A m.2.length c], .agg #[.int .i64 x.n, .int .i64 x.c, .int .i64 x.a, .int .i64 x.f, .int .i64 x.t], .int .i64 tick, .int .i64 later] w fun e w' => e = .returned (.bool true) ∧ Below w.heap.size w w' := by
  have F_W := Lib.hid hW
  have F_m := Lib.hid hA
  have HB := Lib.hid (Below.refl w.heap.size w)
  clear hW hA
  obtain ⟨old, hold⟩ : ∃ old, old = loadL m := ⟨_, rfl⟩
  have HO := Lib.hid hold
  have hol : old.length ≤ 64 := by rw [hold]; exact load_len64 m
  clear hold
  by_cases h0 : stoE m x tick = 0
  · by_cases ht : later < tick
    · obtain ⟨hE, K, mz, af, hN, hK, _⟩ := sto_walk h0
      have HG := Lib.hid h0
      have HE := Lib.hid hE
      have HN := Lib.hid hN
      have q2 : (((K : Int) + 1) == 0) = false := by rw [beq_eq_false_iff_ne]; omega
      have q9 : (0 : Int) < (K : Int) + 1 := by omega
      clear h0 hE hN
      have t1 : later < tick := ht
      clear ht
      go_enter Tryd.func7, Tryd.ntmps7
      go_wp2_with fail
      refine (head_any _ (F_W.out.next (al2 _ _ _))).mono ?_
      rintro e V1 ⟨rfl, hb⟩
      have hB := bt hb (al2 w _ _)
      have K_f : Hid (Bk V1 (w.heap.size) 24 #[.int .i64 m.1, .slice A m.2.length c]) := Bk.next (by first | exact Bk.new _ _ _ | exact (Bk.new _ _ _).alloc _ | exact ((Bk.new _ _ _).alloc _).alloc _ | exact bkOf (by simp [at?_alloc])) hb
      have K_x : Hid (Bk V1 (w.heap.size + 1) 26 #[.int .i64 x.n, .int .i64 x.c, .int .i64 x.a, .int .i64 x.f, .int .i64 x.t]) := Bk.next (by first | exact Bk.new _ _ _ | exact (Bk.new _ _ _).alloc _ | exact ((Bk.new _ _ _).alloc _).alloc _ | exact bkOf (by simp [at?_alloc])) hb
      replace F_W := Lib.hid (F_W.out.next hB)
      replace F_m := Lib.hid (F_m.out.next hB)
      replace HB := Lib.hid (bt hB HB.out)
      clear hb hB
      obtain ⟨c_f0, c_f1⟩ := box2 K_f.out
      have l_f := K_f.out.lt
      obtain ⟨c_x0, c_x1, c_x2, c_x3, c_x4⟩ := box5 K_x.out
      have l_x := K_x.out.lt
      go_wp2_with fail
      clear c_f0 c_f1 l_f
      clear c_x0 c_x1 c_x2 c_x3 c_x4 l_x
      refine (Load_lit old 0 m A c _ HO.out.symm HE.out F_m.out hc F_W.out).mono ?_
      rintro e V2 ⟨A1, c1, rfl, hc1, r1, hb⟩
      have hB := hb
      replace F_W := Lib.hid (F_W.out.next hB)
      replace F_m := Lib.hid (F_m.out.next hB)
      replace K_f := Lib.hid (K_f.out.next hB)
      replace K_x := Lib.hid (K_x.out.next hB)
      replace HB := Lib.hid (bt hB HB.out)
      clear hb hB
      have F_1 := Lib.hid (r1)
      clear r1
      obtain ⟨c_f0, c_f1⟩ := box2 K_f.out
      have l_f := K_f.out.lt
      obtain ⟨c_x0, c_x1, c_x2, c_x3, c_x4⟩ := box5 K_x.out
      have l_x := K_x.out.lt
      go_wp2_with fail
      clear c_f0 c_f1 l_f
      clear c_x0 c_x1 c_x2 c_x3 c_x4 l_x
      refine (Store_lit (K + 1) 0 m x tick A c _ HN.out HG.out F_m.out hc F_W.out).mono ?_
      rintro e V3 ⟨A2, c2, rfl, hc2, r2, hb⟩
      have hB := hb
      replace F_W := Lib.hid (F_W.out.next hB)
      replace F_m := Lib.hid (F_m.out.next hB)
      replace F_1 := Lib.hid (F_1.out.next hB)
      replace K_f := Lib.hid (K_f.out.next hB)
      replace K_x := Lib.hid (K_x.out.next hB)
      replace HB := Lib.hid (bt hB HB.out)
      clear hb hB
      have F_2 := Lib.hid (r2)
      clear r2
      go_wp2
      go_ret
      exact ⟨rfl, HB.out⟩
    · by_cases ht2 : 1100000 < later
      · obtain ⟨hE, K, mz, af, hN, hK, _⟩ := sto_walk h0
        have HG := Lib.hid h0
        have HE := Lib.hid hE
        have HN := Lib.hid hN
        have q2 : (((K : Int) + 1) == 0) = false := by rw [beq_eq_false_iff_ne]; omega
        have q9 : (0 : Int) < (K : Int) + 1 := by omega
        clear h0 hE hN
        have t1 : ¬ later < tick := ht
        have t2 : 1100000 < later := ht2
        clear ht ht2
        go_enter Tryd.func7, Tryd.ntmps7
        go_wp2_with fail
        refine (head_any _ (F_W.out.next (al2 _ _ _))).mono ?_
        rintro e V1 ⟨rfl, hb⟩
        have hB := bt hb (al2 w _ _)
        have K_f : Hid (Bk V1 (w.heap.size) 24 #[.int .i64 m.1, .slice A m.2.length c]) := Bk.next (by first | exact Bk.new _ _ _ | exact (Bk.new _ _ _).alloc _ | exact ((Bk.new _ _ _).alloc _).alloc _ | exact bkOf (by simp [at?_alloc])) hb
        have K_x : Hid (Bk V1 (w.heap.size + 1) 26 #[.int .i64 x.n, .int .i64 x.c, .int .i64 x.a, .int .i64 x.f, .int .i64 x.t]) := Bk.next (by first | exact Bk.new _ _ _ | exact (Bk.new _ _ _).alloc _ | exact ((Bk.new _ _ _).alloc _).alloc _ | exact bkOf (by simp [at?_alloc])) hb
        replace F_W := Lib.hid (F_W.out.next hB)
        replace F_m := Lib.hid (F_m.out.next hB)
        replace HB := Lib.hid (bt hB HB.out)
        clear hb hB
        obtain ⟨c_f0, c_f1⟩ := box2 K_f.out
        have l_f := K_f.out.lt
        obtain ⟨c_x0, c_x1, c_x2, c_x3, c_x4⟩ := box5 K_x.out
        have l_x := K_x.out.lt
        go_wp2_with fail
        clear c_f0 c_f1 l_f
        clear c_x0 c_x1 c_x2 c_x3 c_x4 l_x
        refine (Load_lit old 0 m A c _ HO.out.symm HE.out F_m.out hc F_W.out).mono ?_
        rintro e V2 ⟨A1, c1, rfl, hc1, r1, hb⟩
        have hB := hb
        replace F_W := Lib.hid (F_W.out.next hB)
        replace F_m := Lib.hid (F_m.out.next hB)
        replace K_f := Lib.hid (K_f.out.next hB)
        replace K_x := Lib.hid (K_x.out.next hB)
        replace HB := Lib.hid (bt hB HB.out)
        clear hb hB
        have F_1 := Lib.hid (r1)
        clear r1
        obtain ⟨c_f0, c_f1⟩ := box2 K_f.out
        have l_f := K_f.out.lt
        obtain ⟨c_x0, c_x1, c_x2, c_x3, c_x4⟩ := box5 K_x.out
        have l_x := K_x.out.lt
        go_wp2_with fail
        clear c_f0 c_f1 l_f
        clear c_x0 c_x1 c_x2 c_x3 c_x4 l_x
        refine (Store_lit (K + 1) 0 m x tick A c _ HN.out HG.out F_m.out hc F_W.out).mono ?_
        rintro e V3 ⟨A2, c2, rfl, hc2, r2, hb⟩
        have hB := hb
        replace F_W := Lib.hid (F_W.out.next hB)
        replace F_m := Lib.hid (F_m.out.next hB)
        replace F_1 := Lib.hid (F_1.out.next hB)
        replace K_f := Lib.hid (K_f.out.next hB)
        replace K_x := Lib.hid (K_x.out.next hB)
        replace HB := Lib.hid (bt hB HB.out)
        clear hb hB
        have F_2 := Lib.hid (r2)
        clear r2
        go_wp2
        go_ret
        exact ⟨rfl, HB.out⟩
      · obtain ⟨hE, K, mz, af, hN, hK, hZ, hZE, hZL, hLX, hafl, haf0, hall⟩ := sto_walk h0
        obtain ⟨bf, on, f1, f2, hbf, f4, f5, hon, f7⟩ := forg_walk h0 (by omega : tick ≤ later) (by omega)
        have HG := Lib.hid h0
        have HE := Lib.hid hE
        have HN := Lib.hid hN
        have HALL := Lib.hid hall
        have HFG := Lib.hid f7
        rw [← HO.out] at f1 f2
        have HA1 := Lib.hid f1
        have HBF := Lib.hid f2
        have HA2 := Lib.hid f4
        have HON := Lib.hid f5
        have q2 : (((K : Int) + 1) == 0) = false := by rw [beq_eq_false_iff_ne]; omega
        have t1 : ¬ later < tick := ht
        have t2 : ¬ 1100000 < later := ht2
        clear h0 hE hN hZ hZE hZL hLX hall f1 f2 f4 f5 f7 ht ht2
        go_enter Tryd.func7, Tryd.ntmps7
        go_wp2_with fail
        refine (head_any _ (F_W.out.next (al2 _ _ _))).mono ?_
        rintro e V1 ⟨rfl, hb⟩
        have hB := bt hb (al2 w _ _)
        have K_f : Hid (Bk V1 (w.heap.size) 24 #[.int .i64 m.1, .slice A m.2.length c]) := Bk.next (by first | exact Bk.new _ _ _ | exact (Bk.new _ _ _).alloc _ | exact ((Bk.new _ _ _).alloc _).alloc _ | exact bkOf (by simp [at?_alloc])) hb
        have K_x : Hid (Bk V1 (w.heap.size + 1) 26 #[.int .i64 x.n, .int .i64 x.c, .int .i64 x.a, .int .i64 x.f, .int .i64 x.t]) := Bk.next (by first | exact Bk.new _ _ _ | exact (Bk.new _ _ _).alloc _ | exact ((Bk.new _ _ _).alloc _).alloc _ | exact bkOf (by simp [at?_alloc])) hb
        replace F_W := Lib.hid (F_W.out.next hB)
        replace F_m := Lib.hid (F_m.out.next hB)
        replace HB := Lib.hid (bt hB HB.out)
        clear hb hB
        obtain ⟨c_f0, c_f1⟩ := box2 K_f.out
        have l_f := K_f.out.lt
        obtain ⟨c_x0, c_x1, c_x2, c_x3, c_x4⟩ := box5 K_x.out
        have l_x := K_x.out.lt
        go_wp2_with fail
        clear c_f0 c_f1 l_f
        clear c_x0 c_x1 c_x2 c_x3 c_x4 l_x
        refine (Load_lit old 0 m A c _ HO.out.symm HE.out F_m.out hc F_W.out).mono ?_
        rintro e V2 ⟨A1, c1, rfl, hc1, r1, hb⟩
        have hB := hb
        replace F_W := Lib.hid (F_W.out.next hB)
        replace F_m := Lib.hid (F_m.out.next hB)
        replace K_f := Lib.hid (K_f.out.next hB)
        replace K_x := Lib.hid (K_x.out.next hB)
        replace HB := Lib.hid (bt hB HB.out)
        clear hb hB
        have F_1 := Lib.hid (r1)
        clear r1
        obtain ⟨c_f0, c_f1⟩ := box2 K_f.out
        have l_f := K_f.out.lt
        obtain ⟨c_x0, c_x1, c_x2, c_x3, c_x4⟩ := box5 K_x.out
        have l_x := K_x.out.lt
        go_wp2_with fail
        clear c_f0 c_f1 l_f
        clear c_x0 c_x1 c_x2 c_x3 c_x4 l_x
        refine (Store_lit (K + 1) 0 m x tick A c _ HN.out HG.out F_m.out hc F_W.out).mono ?_
        rintro e V3 ⟨A2, c2, rfl, hc2, r2, hb⟩
        have hB := hb
        replace F_W := Lib.hid (F_W.out.next hB)
        replace F_m := Lib.hid (F_m.out.next hB)
        replace F_1 := Lib.hid (F_1.out.next hB)
        replace K_f := Lib.hid (K_f.out.next hB)
        replace K_x := Lib.hid (K_x.out.next hB)
        replace HB := Lib.hid (bt hB HB.out)
        clear hb hB
        have F_2 := Lib.hid (r2)
        clear r2
        obtain ⟨c_f0, c_f1⟩ := box2 K_f.out
        have l_f := K_f.out.lt
        obtain ⟨c_x0, c_x1, c_x2, c_x3, c_x4⟩ := box5 K_x.out
        have l_x := K_x.out.lt
        go_wp2_with fail
        clear c_f0 c_f1 l_f
        clear c_x0 c_x1 c_x2 c_x3 c_x4 l_x
        refine (Alive_n bf old later A1 old.length c1 _ rfl HBF.out HA1.out hbf F_1.out (by omega)).mono ?_
        rintro e V4 ⟨A3, c3, rfl, hc3, r3, hb⟩
        have hB := hb
        replace F_W := Lib.hid (F_W.out.next hB)
        replace F_m := Lib.hid (F_m.out.next hB)
        replace F_1 := Lib.hid (F_1.out.next hB)
        replace F_2 := Lib.hid (F_2.out.next hB)
        replace K_f := Lib.hid (K_f.out.next hB)
        replace K_x := Lib.hid (K_x.out.next hB)
        replace HB := Lib.hid (bt hB HB.out)
        clear hb hB
        have F_3 := Lib.hid (r3)
        clear r3
        obtain ⟨c_f0, c_f1⟩ := box2 K_f.out
        have l_f := K_f.out.lt
        obtain ⟨c_x0, c_x1, c_x2, c_x3, c_x4⟩ := box5 K_x.out
        have l_x := K_x.out.lt
        go_wp2_with fail
        clear c_f0 c_f1 l_f
        clear c_x0 c_x1 c_x2 c_x3 c_x4 l_x
        refine (Alive_n on [x] later (some ⟨V4.heap.size, 0, none⟩) 1 1 _ rfl HON.out HA2.out hon (RdL.of_bk (l := [x]) (t := 26) (Bk.new _ _ _) (by simp)) (by simp)).mono ?_
        rintro e V5 ⟨A4, c4, rfl, hc4, r4, hb⟩
        have hB := bt hb (al1 V4 _)
        replace F_W := Lib.hid (F_W.out.next hB)
        replace F_m := Lib.hid (F_m.out.next hB)
        replace F_1 := Lib.hid (F_1.out.next hB)
        replace F_2 := Lib.hid (F_2.out.next hB)
        replace F_3 := Lib.hid (F_3.out.next hB)
        replace K_f := Lib.hid (K_f.out.next hB)
        replace K_x := Lib.hid (K_x.out.next hB)
        replace HB := Lib.hid (bt hB HB.out)
        clear hb hB
        have F_4 := Lib.hid (r4)
        clear r4
        go_wp2
        go_loopw [96] (fun i wr => ∃ k : Nat, i = .int .i64 (k : Int) ∧ k ≤ K + 1 ∧ Below V5.heap.size V5 wr) (fun i _ => K + 1 - (intOf i).toNat)
        case atStart => exact ⟨0, rfl, Nat.zero_le _, Below.refl _ _⟩
        case round =>
          obtain ⟨k, rfl, hk, hbr⟩ := hrel
          have HR := Lib.hid hbr
          have lr := hbr.size
          clear hbr
          by_cases hlt : k < K + 1
          · have hkl : k < (stoM m x tick).length := by rw [HN.out]; omega
            obtain ⟨b1, o1, A', c', rfl, hb1, z0, z1, hc', hr'⟩ := (F_2.out.next HR.out).at_ hkl
            have hl1 := (HALL.out k hkl).1
            obtain ⟨g1, g2, g3⟩ := HFG.out k hkl
            obtain ⟨mm, hmm⟩ : ∃ mm, mm = (stoM m x tick)[k] := ⟨_, rfl⟩
            rw [← hmm] at z0 z1 hc' hr' hl1 g1 g2 g3
            obtain ⟨now, hnow⟩ : ∃ now, loadL mm = now := ⟨_, rfl⟩
            rw [hnow] at g1 g2 g3
            obtain ⟨av, hav⟩ : ∃ av, alvL now 16 later = av := ⟨_, rfl⟩
            rw [hav] at g2 g3
            have HR' := Lib.hid hr'
            have HL1 := Lib.hid hl1
            have HNW := Lib.hid hnow
            have HAV := Lib.hid hav
            have HG1 := Lib.hid g1
            have HG2 := Lib.hid g2
            have HG3 : Hid (∀ c, c < 16 → bf.getD c 0 ≤ av.getD c 0 ∧ (k = K → av.getD c 0 = max (bf.getD c 0) (on.getD c 0))) := fun c hc => ⟨(g3 c hc).1, fun e => (g3 c hc).2 (by rw [HN.out, e])⟩
            have hnl : now.length ≤ 64 := by rw [← hnow]; exact load_len64 mm
            have k1 : (0 : Int) ≤ (k : Int) := by omega
            have k2 : (k : Int) < (K : Int) + 1 := by omega
            clear hmm hr' hl1 hnow hkl hav g1 g2 g3
            go_wp2_with fail
            refine (Load_lit now 0 mm A' c' _ HNW.out HL1.out (HR'.out.next (al1 _ _)) hc' (F_W.out.next (bt (al1 _ _) HR.out))).mono ?_
            rintro e X1 ⟨A6, c6, rfl, hc6, r6, hb⟩
            have HX1 := Lib.hid (bt hb (bt (al1 wr _) HR.out))
            have F_6 := Lib.hid r6
            clear hb r6 z0 z1
            go_wp2_with fail
            refine (Alive_n av now later A6 now.length c6 _ rfl HAV.out HG1.out HG2.out F_6.out (by omega)).mono ?_
            rintro e X2 ⟨A7, c7, rfl, hc7, r7, hb⟩
            have HX2 := Lib.hid (bt hb HX1.out)
            have F_7 := Lib.hid r7
            have F_3x := Lib.hid (F_3.out.next HX2.out)
            have F_4x := Lib.hid (F_4.out.next HX2.out)
            clear hb r7
            go_wp2
            go_loopw [127] (fun i wq => ∃ j n : Nat, i = .int .i64 (j : Int) ∧ j ≤ 16 ∧ wq = X2.drewN n) (fun i _ => 16 - (intOf i).toNat)
            case atStart => exact ⟨0, 0, rfl, Nat.zero_le _, rfl⟩
            case round =>
              obtain ⟨j, nn, rfl, hj, rfl⟩ := hrel
              by_cases hlj : j < 16
              · obtain ⟨a1, o1', rfl, ha1, x1⟩ := F_7.out.at_ (k := j) (by rw [HG2.out]; exact hlj)
                obtain ⟨a2, o2, rfl, ha2, x2⟩ := F_3x.out.at_ (k := j) (by omega)
                obtain ⟨a3, o3, rfl, ha3, x3⟩ := F_4x.out.at_ (k := j) (by omega)
                rw [ints_at'] at x1 x2 x3
                obtain ⟨m1, m2⟩ := HG3.out j hlj
                obtain ⟨va, h1⟩ : ∃ v, v = av.getD j 0 := ⟨_, rfl⟩
                obtain ⟨vb, h2⟩ : ∃ v, v = bf.getD j 0 := ⟨_, rfl⟩
                obtain ⟨vo, h3⟩ : ∃ v, v = on.getD j 0 := ⟨_, rfl⟩
                rw [← h1] at x1 m1 m2
                rw [← h2] at x2 m1 m2
                rw [← h3] at x3 m2
                have j1 : (0 : Int) ≤ (j : Int) := by omega
                have j2 : (j : Int) < 16 := by omega
                have d1 : decide (va < vb) = false := by simp; omega
                have w1 : IntKind.i64.wrap ((K : Int) + 1 - 1) = (K : Int) := by rw [IntWalk.i64_in _ (by omega)]; omega
                clear h1 h2 h3
                by_cases hkK : k = K
                · have d2 : ((k : Int) == (K : Int)) = true := by rw [beq_iff_eq]; omega
                  have hm := m2 hkK
                  have d3 : (va != max vb vo) = false := by simp [hm]
                  have HM := Lib.hid hm
                  clear m2 hm
                  go_wp2
                  go_quiet (fail)
                  go_wp2
                  go_roundw
                  case rel => exact ⟨j + 1, _, by go_num, by omega, rfl⟩
                  case measure => simp [intOf]; omega
                · have d2 : ((k : Int) == (K : Int)) = false := by rw [beq_eq_false_iff_ne]; omega
                  clear m2
                  go_wp2
                  go_quiet (fail)
                  go_wp2
                  go_roundw
                  case rel => exact ⟨j + 1, _, by go_num, by omega, rfl⟩
                  case measure => simp [intOf]; omega
              · obtain rfl : j = 16 := by omega
                rw [show ((16 : Nat) : Int) = 16 from rfl]
                go_wp2
                go_roundw
                case rel => exact ⟨k + 1, by go_num, by omega, belowDrew HX2.out _⟩
                case measure => simp [intOf]; omega
          · obtain rfl : k = K + 1 := by omega
            have hx : (((K + 1 : Nat)) : Int) = (K : Int) + 1 := by omega
            rw [hx]
            go_wp2
            go_ret
            exact ⟨rfl, bt HR.out HB.out⟩
  · obtain ⟨E, hE⟩ : ∃ E, loadE m = E := ⟨_, rfl⟩
    obtain ⟨G, hG⟩ : ∃ G, stoE m x tick = G := ⟨_, rfl⟩
    have HN : Hid ((stoM m x tick).length = 0) := by show _ = _; rw [sto_bad h0]; rfl
    have HE := Lib.hid hE
    have HG := Lib.hid hG
    have q0 : (G != 0) = true := by rw [← hG]; simpa using h0
    clear hE hG h0
    by_cases hE0 : E = 0
    · subst hE0
      go_enter Tryd.func7, Tryd.ntmps7
      go_wp2_with fail
      refine (head_any _ (F_W.out.next (al2 _ _ _))).mono ?_
      rintro e V1 ⟨rfl, hb⟩
      have hB := bt hb (al2 w _ _)
      have K_f : Hid (Bk V1 (w.heap.size) 24 #[.int .i64 m.1, .slice A m.2.length c]) := Bk.next (by first | exact Bk.new _ _ _ | exact (Bk.new _ _ _).alloc _ | exact ((Bk.new _ _ _).alloc _).alloc _ | exact bkOf (by simp [at?_alloc])) hb
      have K_x : Hid (Bk V1 (w.heap.size + 1) 26 #[.int .i64 x.n, .int .i64 x.c, .int .i64 x.a, .int .i64 x.f, .int .i64 x.t]) := Bk.next (by first | exact Bk.new _ _ _ | exact (Bk.new _ _ _).alloc _ | exact ((Bk.new _ _ _).alloc _).alloc _ | exact bkOf (by simp [at?_alloc])) hb
      replace F_W := Lib.hid (F_W.out.next hB)
      replace F_m := Lib.hid (F_m.out.next hB)
      replace HB := Lib.hid (bt hB HB.out)
      clear hb hB
      obtain ⟨c_f0, c_f1⟩ := box2 K_f.out
      have l_f := K_f.out.lt
      obtain ⟨c_x0, c_x1, c_x2, c_x3, c_x4⟩ := box5 K_x.out
      have l_x := K_x.out.lt
      go_wp2_with fail
      clear c_f0 c_f1 l_f
      clear c_x0 c_x1 c_x2 c_x3 c_x4 l_x
      refine (Load_lit old 0 m A c _ HO.out.symm HE.out F_m.out hc F_W.out).mono ?_
      rintro e V2 ⟨A1, c1, rfl, hc1, r1, hb⟩
      have hB := hb
      replace F_W := Lib.hid (F_W.out.next hB)
      replace F_m := Lib.hid (F_m.out.next hB)
      replace K_f := Lib.hid (K_f.out.next hB)
      replace K_x := Lib.hid (K_x.out.next hB)
      replace HB := Lib.hid (bt hB HB.out)
      clear hb hB
      have F_1 := Lib.hid (r1)
      clear r1
      obtain ⟨c_f0, c_f1⟩ := box2 K_f.out
      have l_f := K_f.out.lt
      obtain ⟨c_x0, c_x1, c_x2, c_x3, c_x4⟩ := box5 K_x.out
      have l_x := K_x.out.lt
      go_wp2_with fail
      clear c_f0 c_f1 l_f
      clear c_x0 c_x1 c_x2 c_x3 c_x4 l_x
      refine (Store_lit 0 G m x tick A c _ HN.out HG.out F_m.out hc F_W.out).mono ?_
      rintro e V3 ⟨A2, c2, rfl, hc2, r2, hb⟩
      have hB := hb
      replace F_W := Lib.hid (F_W.out.next hB)
      replace F_m := Lib.hid (F_m.out.next hB)
      replace F_1 := Lib.hid (F_1.out.next hB)
      replace K_f := Lib.hid (K_f.out.next hB)
      replace K_x := Lib.hid (K_x.out.next hB)
      replace HB := Lib.hid (bt hB HB.out)
      clear hb hB
      have F_2 := Lib.hid (r2)
      clear r2
      go_wp2
      go_ret
      exact ⟨rfl, HB.out⟩
    · have q1 : (E != 0) = true := by simpa using hE0
      clear hE0
      go_enter Tryd.func7, Tryd.ntmps7
      go_wp2_with fail
      refine (head_any _ (F_W.out.next (al2 _ _ _))).mono ?_
      rintro e V1 ⟨rfl, hb⟩
      have hB := bt hb (al2 w _ _)
      have K_f : Hid (Bk V1 (w.heap.size) 24 #[.int .i64 m.1, .slice A m.2.length c]) := Bk.next (by first | exact Bk.new _ _ _ | exact (Bk.new _ _ _).alloc _ | exact ((Bk.new _ _ _).alloc _).alloc _ | exact bkOf (by simp [at?_alloc])) hb
      have K_x : Hid (Bk V1 (w.heap.size + 1) 26 #[.int .i64 x.n, .int .i64 x.c, .int .i64 x.a, .int .i64 x.f, .int .i64 x.t]) := Bk.next (by first | exact Bk.new _ _ _ | exact (Bk.new _ _ _).alloc _ | exact ((Bk.new _ _ _).alloc _).alloc _ | exact bkOf (by simp [at?_alloc])) hb
      replace F_W := Lib.hid (F_W.out.next hB)
      replace F_m := Lib.hid (F_m.out.next hB)
      replace HB := Lib.hid (bt hB HB.out)
      clear hb hB
      obtain ⟨c_f0, c_f1⟩ := box2 K_f.out
      have l_f := K_f.out.lt
      obtain ⟨c_x0, c_x1, c_x2, c_x3, c_x4⟩ := box5 K_x.out
      have l_x := K_x.out.lt
      go_wp2_with fail
      clear c_f0 c_f1 l_f
      clear c_x0 c_x1 c_x2 c_x3 c_x4 l_x
      refine (Load_lit old E m A c _ HO.out.symm HE.out F_m.out hc F_W.out).mono ?_
      rintro e V2 ⟨A1, c1, rfl, hc1, r1, hb⟩
      have hB := hb
      replace F_W := Lib.hid (F_W.out.next hB)
      replace F_m := Lib.hid (F_m.out.next hB)
      replace K_f := Lib.hid (K_f.out.next hB)
      replace K_x := Lib.hid (K_x.out.next hB)
      replace HB := Lib.hid (bt hB HB.out)
      clear hb hB
      have F_1 := Lib.hid (r1)
      clear r1
      obtain ⟨c_f0, c_f1⟩ := box2 K_f.out
      have l_f := K_f.out.lt
      obtain ⟨c_x0, c_x1, c_x2, c_x3, c_x4⟩ := box5 K_x.out
      have l_x := K_x.out.lt
      go_wp2_with fail
      clear c_f0 c_f1 l_f
      clear c_x0 c_x1 c_x2 c_x3 c_x4 l_x
      refine (Store_lit 0 G m x tick A c _ HN.out HG.out F_m.out hc F_W.out).mono ?_
      rintro e V3 ⟨A2, c2, rfl, hc2, r2, hb⟩
      have hB := hb
      replace F_W := Lib.hid (F_W.out.next hB)
      replace F_m := Lib.hid (F_m.out.next hB)
      replace F_1 := Lib.hid (F_1.out.next hB)
      replace K_f := Lib.hid (K_f.out.next hB)
      replace K_x := Lib.hid (K_x.out.next hB)
      replace HB := Lib.hid (bt hB HB.out)
      clear hb hB
      have F_2 := Lib.hid (r2)
      clear r2
      go_wp2
      go_ret
      exact ⟨rfl, HB.out⟩
end Go.Proofs.YtcnhmgcingmphaaDoor
