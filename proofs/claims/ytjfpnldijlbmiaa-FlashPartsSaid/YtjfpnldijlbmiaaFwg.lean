/- The walk of the law FlashParts. -/
import Derived.Test.YtjfpnldijlbmiaaFp
set_option linter.unusedVariables false
set_option linter.unusedSimpArgs false
namespace Go.Proofs.Ytjfpnldijlbmiaa
open Go.RowKit Go.Sort

theorem ListPost.open_ {w : World} {l : List Mem} {er : Int} {len : Nat} (hl : l.length = len) {e : Ending} {w' : World} (h : ListPost w l er e w') : ∃ A c, e = .returned (.tuple #[.slice A len c, .int .i64 er]) ∧ len ≤ c ∧ RdFs w' w'.heap.size A l ∧ Below w.heap.size w w' := hl ▸ h
theorem Program_at (L : List Mem) (E : Int) (m : Mem) (p : Int) (ds : List UInt8) (A Ad : Option Addr) (c len cd n : Nat) (w : World) (hlen : ds.length = len) (hn' : L.length = n) (hL : progL m p ds = L) (hE : progE m p ds = E) (hA : RdB w w.heap.size A m.2) (hAd : RdB w w.heap.size Ad ds) (hn : m.2.length ≤ 1000000000) (hd : ds.length ≤ 1000000000) (hp0 : -9223372036854775808 ≤ p) (hp1 : p ≤ 9223372036854775807) :
    Calls Try.prog 14 #[.agg #[.int .i64 m.1, .slice A m.2.length c], .int .i64 p, .slice Ad len cd] w fun e w' => ∃ A c, e = .returned (.tuple #[.slice A n c, .int .i64 E]) ∧ n ≤ c ∧ RdFs w' w'.heap.size A L ∧ Below w.heap.size w w' := by
  rw [← hlen]
  exact (Program_lit L E m p ds A Ad c cd w hL hE hA hAd hn hd hp0 hp1).mono fun _ _ h => ListPost.open_ hn' h
theorem last_at (M : Mem) (b : Bool) (ms : List Mem) (er many : Int) (A : Option Addr) (n c : Nat) (w : World) (hn : ms.length = n) (hM : lastM ms er many = M) (hb : lastB ms er many = b) (h : RdFs w w.heap.size A ms) (hl : ms.length ≤ 1000000000) (hm0 : -9223372036854775807 ≤ many) (hm1 : many ≤ 9223372036854775807) :
    Calls Try.prog 23 #[.slice A n c, .int .i64 er, .int .i64 many] w (MemPost w M (.bool b)) := by rw [← hn]; exact last_lit M b ms er many A c w hM hb h hl hm0 hm1
theorem SameList_at (l : List Mem) (A1 A2 : Option Addr) (n1 n2 c1 c2 : Nat) (w : World) (e1 : l.length = n1) (e2 : l.length = n2) (h1 : RdFs w w.heap.size A1 l) (h2 : RdFs w w.heap.size A2 l) (hn : l.length ≤ 1000000000) (k1 : ∀ m ∈ l, m.2.length ≤ 1000000000) :
    Calls Try.prog 20 #[.slice A1 n1 c1, .slice A2 n2 c2] w fun e w' => e = .returned (.bool true) ∧ Below w.heap.size w w' := by
  have := SameList_same l A1 A2 c1 c2 w h1 h2 hn k1
  rw [e1] at this
  rw [e1] at e2
  rw [← e2]; exact this
theorem RdB.take {w : World} {B : Nat} {A : Option Addr} {bs : List UInt8} (h : RdB w B A bs) {k : Nat} (hk : k ≤ bs.length) : RdB w B A (bs.take k) := by
  have := RdS.head_ h hk
  unfold RdB u8s at *
  rw [Nat.mul_one, ← List.map_take] at this
  rwa [List.length_take, Nat.min_eq_left hk]
theorem RdB.drop {w : World} {B : Nat} {A : Option Addr} {bs : List UInt8} (h : RdB w B A bs) {k c : Nat} (hk : k ≤ bs.length) (hc : bs.length ≤ c) : RdB w B (if c = k then A else A.map (·.add (k * 1))) (bs.drop k) := by
  have := RdS.cut h hk hc
  unfold RdB u8s at *
  rw [Nat.mul_one, ← List.map_drop] at this
  rw [List.length_drop, Nat.mul_one]; exact this

set_option maxRecDepth 100000 in
set_option maxHeartbeats 4000000 in
theorem FlashParts_walk (m : Mem) (A Ad : Option Addr) (c cd : Nat) (p st : Int) (ds : List UInt8) (w : World) (hA : RdB w w.heap.size A m.2) (hD : RdB w w.heap.size Ad ds)
    (p0 : -9223372036854775808 ≤ p) (p1 : p ≤ 9223372036854775807) (s0 : 0 ≤ st) (s1 : st ≤ 65535) (hmx : m.2.length ≤ maxLen) (hcd : ds.length ≤ cd) (hdx : cd ≤ maxLen) :
    Calls Try.prog 9 #[.agg #[.int .i64 m.1, .slice A m.2.length c], .int .i64 p, .slice Ad ds.length cd, .int .u16 st] w fun e w' => e = .returned (.bool true) ∧ Below w.heap.size w w' := by
  unfold maxLen at hmx hdx
  by_cases g1 : m.2.length ≤ 300
  · have u1 : (m.2.length : Int) ≤ 300 := by omega
    by_cases g2 : ds.length ≤ 300
    · have u2 : (ds.length : Int) ≤ 300 := by omega
      by_cases h1 : progE m p ds = 0
      · have HB := Lib.hid (Below.refl w.heap.size w)
        have F_f := Lib.hid hA
        have F_d := Lib.hid hD
        clear hA hD
        go_enter Try.func9, Try.ntmps9
        go_wp2_with fail
        refine (head_any _).mono ?_
        rintro e V1 ⟨rfl, hb⟩
        have hB := bt hb (al1 w _)
        have K_f : Hid (Bk V1 (w.heap.size) 24 #[.int .i64 m.1, .slice A m.2.length c]) := Bk.next (by first | exact Bk.new _ _ _ | exact (Bk.new _ _ _).alloc _ | exact bkOf (by simp [at?_alloc])) hb
        replace F_f := Lib.hid (F_f.out.next hB)
        replace F_d := Lib.hid (F_d.out.next hB)
        replace HB := Lib.hid (bt hB HB.out)
        clear hb hB
        obtain ⟨pv, pp0, pp1⟩ := prog0 h1
        obtain ⟨q, hq⟩ : ∃ q : Nat, st % ((ds.length : Int) + 1) = (q : Int) := ⟨(st % ((ds.length : Int) + 1)).toNat, (Int.toNat_of_nonneg (Int.emod_nonneg _ (by omega))).symm⟩
        have hql : q ≤ ds.length := by have := Int.emod_lt_of_pos st (b := (ds.length : Int) + 1) (by omega); omega
        obtain ⟨e1, e2, e3, e4, e5, e6, e7⟩ := parts_prog h1 hql
        have e8 := progL_len h1
        have E0 := Lib.hid h1
        have E1 := Lib.hid e1
        have E2 := Lib.hid e2
        have E3 := Lib.hid e3
        have E4 := Lib.hid e4
        have E5 := Lib.hid e5
        obtain ⟨n0, hn0⟩ : ∃ n, n = (progL m p ds).length := ⟨_, rfl⟩
        obtain ⟨n1, hn1⟩ : ∃ n, n = q + 1 := ⟨_, rfl⟩
        obtain ⟨n2, hn2⟩ : ∃ n, n = ds.length - q + 1 := ⟨_, rfl⟩
        rw [← hn0] at e8
        rw [← hn1] at e6
        rw [← hn2] at e7
        have N0 := Lib.hid hn0.symm
        have N1 := Lib.hid e6
        have N2 := Lib.hid e7
        have NN : Hid (n0 = ds.length + 1 ∧ n1 = q + 1 ∧ n2 = ds.length - q + 1) := ⟨e8, hn1, hn2⟩
        have d0 : ((n0 : Int) != (ds.length : Int) + 1) = false := by simp; omega
        have d1 : ((n2 : Int) != (ds.length : Int) - (q : Int) + 1) = false := by simp; omega
        have b0 : n0 ≤ 301 := by omega
        have b1 : n1 ≤ 301 := by omega
        have b2 : n2 ≤ 301 := by omega
        have b3 : 1 ≤ n2 := by omega
        have p300 : p ≤ 300 := by omega
        have q0' : (0 : Int) ≤ (q : Int) := by omega
        have q1' : (q : Int) ≤ (ds.length : Int) := by omega
        have q2' : (q : Int) ≤ (cd : Int) := by omega
        have q3' : (ds.length : Int) ≤ (cd : Int) := by omega
        clear h1 e1 e2 e3 e4 e5 e6 e7 e8 hn0 hn1 hn2
        obtain ⟨c_f0, c_f1⟩ := box2 K_f.out
        have l_f := K_f.out.lt
        go_wp2_with fail
        clear c_f0 c_f1 l_f
        refine ((Program_lit (progL m p ds) 0 m p ds A Ad c cd _ rfl E0.out F_f.out F_d.out (by omega) (by omega) p0 p1).mono fun _ _ h => ListPost.open_ N0.out h).mono ?_
        rintro e V2 ⟨A1, c1, rfl, hc1, r1, hb⟩
        have hB := hb
        replace F_f := Lib.hid (F_f.out.next hB)
        replace F_d := Lib.hid (F_d.out.next hB)
        replace K_f := Lib.hid (K_f.out.next hB)
        replace HB := Lib.hid (bt hB HB.out)
        clear hb hB
        have F_l := Lib.hid (r1)
        clear r1
        obtain ⟨c_f0, c_f1⟩ := box2 K_f.out
        have l_f := K_f.out.lt
        go_wp2
        go_region_held3 (fun w' => w'.cell? ⟨w.heap.size, 0, none⟩ = some (.int .i64 m.1) ∧ w'.cell? ⟨w.heap.size, 1, none⟩ = some (.slice A m.2.length c)) (first | exact ⟨c_f0, c_f1⟩ | exact box2 (Bk.next (Bk.drew K_f.out) hb) | fail) ((go_at_call 14; refine (Program_at (progL m p (ds.take q)) 0 m p (ds.take q) A Ad c q cd n1 _ (by rw [List.length_take]; omega) N1.out rfl E1.out (by exact F_f.out) (by exact RdB.take F_d.out hql) (by omega) (by rw [List.length_take]; omega) p0 p1).mono ?_; rintro e D1 ⟨A2, c2, rfl, hc2, r2, hb⟩))
        clear c_f0 c_f1 l_f
        have hB := bt hb ((Below.refl _ _).drew : Below V2.heap.size V2 V2.drew)
        replace F_f := Lib.hid (F_f.out.next hB)
        replace F_d := Lib.hid (F_d.out.next hB)
        replace F_l := Lib.hid (F_l.out.next hB)
        replace K_f := Lib.hid (K_f.out.next hB)
        replace HB := Lib.hid (bt hB HB.out)
        clear hb hB
        have F_a := Lib.hid (r2)
        clear r2 hq
        obtain ⟨c_f0, c_f1⟩ := box2 K_f.out
        have l_f := K_f.out.lt
        go_wp2_with fail
        clear c_f0 c_f1 l_f
        refine (last_at (m.1, memo (andF (ds.take q)) m.2 p.toNat q) true (progL m p (ds.take q)) 0 ((q : Int) + 1) A2 n1 c2 _ N1.out E2.out E3.out F_a.out (by rw [N1.out]; omega) (by omega) (by omega)).mono ?_
        rintro e V3 ⟨A3, c3, rfl, hc3, r3, hb⟩
        have hB := hb
        replace F_f := Lib.hid (F_f.out.next hB)
        replace F_d := Lib.hid (F_d.out.next hB)
        replace F_l := Lib.hid (F_l.out.next hB)
        replace F_a := Lib.hid (F_a.out.next hB)
        replace K_f := Lib.hid (K_f.out.next hB)
        replace HB := Lib.hid (bt hB HB.out)
        clear hb hB
        have F_m := Lib.hid (r3)
        clear r3
        have ml : (memo (andF (ds.take q)) m.2 p.toNat q).length = m.2.length := memo_length _ _ _ _
        obtain ⟨mb, hmb⟩ : ∃ mb, mb = memo (andF (ds.take q)) m.2 p.toNat q := ⟨_, rfl⟩
        rw [← hmb] at ml E2 E4 E5 N2 F_m hc3 ⊢
        have ML : mb.length ≤ 300 := by omega
        have zw : IntKind.i64.wrap (p + (q : Int)) = p + (q : Int) := IntWalk.i64_in _ (by omega)
        clear ml hmb
        by_cases hcq : cd = q
        · subst hcq
          have rd0 : Hid (RdB V3 V3.heap.size Ad (ds.drop cd)) := by
            have := RdB.drop F_d.out hql hcd
            rwa [if_pos rfl] at this
          have F_z := rd0
          clear rd0
          obtain ⟨c_f0, c_f1⟩ := box2 K_f.out
          have l_f := K_f.out.lt
          go_wp2
          clear c_f0 c_f1 l_f
          obtain ⟨D2, hD2⟩ : ∃ U, U = V3.alloc (.cells #[.int .i64 m.1, .slice A3 mb.length c3] 24) := ⟨_, rfl⟩
          have hbD : Below V3.heap.size V3 D2 := by rw [hD2]; exact al1 _ _
          have kD : Bk D2 V3.heap.size 24 #[.int .i64 m.1, .slice A3 mb.length c3] := by rw [hD2]; exact Bk.new _ _ _
          rw [← hD2]
          clear hD2
          replace F_f := Lib.hid (F_f.out.next hbD)
          replace F_d := Lib.hid (F_d.out.next hbD)
          replace F_l := Lib.hid (F_l.out.next hbD)
          replace F_a := Lib.hid (F_a.out.next hbD)
          replace F_m := Lib.hid (F_m.out.next hbD)
          replace F_z := Lib.hid (F_z.out.next hbD)
          replace K_f := Lib.hid (K_f.out.next hbD)
          replace HB := Lib.hid (bt hbD HB.out)
          have K_m := Lib.hid kD
          clear kD hbD
          obtain ⟨c_f0, c_f1⟩ := box2 K_f.out
          have l_f := K_f.out.lt
          obtain ⟨c_m0, c_m1⟩ := box2 K_m.out
          have l_m := K_m.out.lt
          go_region_held3 (fun w' => w'.cell? ⟨V3.heap.size, 0, none⟩ = some (.int .i64 m.1) ∧ w'.cell? ⟨V3.heap.size, 1, none⟩ = some (.slice A3 mb.length c3)) (first | exact ⟨c_m0, c_m1⟩ | exact box2 (Bk.next (Bk.drew K_m.out) hb) | fail) ((go_at_call 14; refine (Program_at (progL (m.1, mb) (p + (cd : Int)) (ds.drop cd)) 0 (m.1, mb) (p + (cd : Int)) (ds.drop cd) A3 _ c3 0 0 n2 _ (by rw [List.length_drop]; omega) N2.out rfl E4.out (by exact F_m.out) (by exact F_z.out) (by show mb.length ≤ _; omega) (by rw [List.length_drop]; omega) (by omega) (by omega)).mono ?_; rintro e D3 ⟨A4, c4, rfl, hc4, r4, hb⟩))
          clear c_f0 c_f1 l_f
          clear c_m0 c_m1 l_m
          have hB := bt hb ((Below.refl _ _).drew : Below D2.heap.size D2 D2.drew)
          replace F_f := Lib.hid (F_f.out.next hB)
          replace F_d := Lib.hid (F_d.out.next hB)
          replace F_l := Lib.hid (F_l.out.next hB)
          replace F_a := Lib.hid (F_a.out.next hB)
          replace F_m := Lib.hid (F_m.out.next hB)
          replace F_z := Lib.hid (F_z.out.next hB)
          replace K_f := Lib.hid (K_f.out.next hB)
          replace K_m := Lib.hid (K_m.out.next hB)
          replace HB := Lib.hid (bt hB HB.out)
          clear hb hB
          have F_b := Lib.hid (r4)
          clear r4
          obtain ⟨xa, ra1, ra2, ra3⟩ := rdFs_cells F_a.out
          obtain ⟨xb, rb1, rb2, rb3⟩ := rdFs_cells F_b.out
          rw [N1.out] at ra1
          rw [N2.out] at rb1
          by_cases hc41 : c4 = 1
          · have rb4 := rb1.cut (k := 1) (cap := c4) (by omega) hc4
            subst hc41
            rw [if_pos rfl] at rb4
            have RA := Lib.hid ra1
            have RA2 := Lib.hid ra2
            have RA3 := Lib.hid ra3
            have RB := Lib.hid rb4
            have RB2 := Lib.hid rb2.tail
            have RB3 : Hid (∀ u ∈ xb.drop (1 * 2), u.oneCell' = true) := fun u hu => rb3 u (List.mem_of_mem_drop hu)
            have XL : Hid (xa.length = n1 * 2) := ra1.1
            clear ra1 ra2 ra3 rb1 rb2 rb3 rb4
            obtain ⟨i0, hi, hz0, hz1, hz2⟩ := info_parts info_flash
            have y1 : (1 : Int) ≤ (n2 : Int) := by omega
            obtain ⟨c_f0, c_f1⟩ := box2 K_f.out
            have l_f := K_f.out.lt
            obtain ⟨c_m0, c_m1⟩ := box2 K_m.out
            have l_m := K_m.out.lt
            go_wp2
            go_region_held3 (fun _ => True) (trivial) (first | (refine step_append_on _ (by first | rfl | simp [Region.wanted, yielded]) (.tmp 105) (.tmp 106) _ (by rfl) D3.heap.size 24 i0 _ 2 32 Try.underlying30 hi hz0 hz1 hz2 rfl (by omega) (.slice (some ⟨D3.heap.size, 0, none⟩) 0 0) 0 [] (by rfl) (own_empty2 (by simp [at?_alloc, at?_drew]) (Nat.le_refl _)) D3.heap.size A2 n1 c2 xa (by rfl) (RdS.alloc RA.out (Nat.le_refl _) _) RA3.out (by simp only [maxLen]; omega) (by omega) (by simp) ?_; intro v1 w1 hown1 hg1 hat1; have B1 : Below D3.heap.size D3 w1 := ((Below.refl _ D3).alloc (Nat.le_refl _) _).drew.grown hg1 (by show _ ≤ (D3.alloc _).heap.size; simp) (by simp [Value.ownBlock])) | (refine step_append_on _ (by first | rfl | simp [Region.wanted, yielded]) (.tmp 107) (.tmp 109) _ (by rfl) D3.heap.size 24 i0 _ 2 32 Try.underlying30 hi hz0 hz1 hz2 rfl (by omega) v1 (0 + n1) ([] ++ xa) (by rfl) hown1 D3.heap.size A4 0 0 (xb.drop (1 * 2)) (by rfl) (by first | exact RdS.below RB.out B1 | exact (show 0 = n2 - 1 by omega) ▸ RdS.below RB.out B1) RB3.out (by simp only [maxLen]; omega) (by omega) B1.size ?_; intro v2 w2 hown2 hg2 hat2; have B2 : Below D3.heap.size D3 w2 := B1.grown hg2 B1.size (fun k hk => (hown1.lt k hk).1); obtain ⟨A9, c9, rfl, hc9, hr9⟩ := own_read hown2; have R9 : RdFs w2 w2.heap.size A9 (progL m p ds) := (by rw [← E5.out]; exact rdFs_of hr9 (by rw [List.length_append, List.length_drop, N1.out, N2.out]; omega) (FsOk.append ((RA2.out.below B2).more B2.size) ((RB2.out.below B2).more B2.size) (by rw [N1.out]; exact XL.out))); have L9 := F_l.out.next B2) | (go_at_call 20; refine (SameList_at (progL m p ds) A1 A9 n0 _ c1 c9 _ N0.out (by rw [N0.out]; have := NN.out; omega) (by exact L9) (by exact R9) (by rw [N0.out]; omega) (fun x hx => by rw [(progL_bytes m p ds x hx).2]; omega)).mono ?_; rintro e w3 ⟨rfl, hb3⟩))
            all_goals
              go_wp2
              go_ret
              exact ⟨rfl, (bt hb3 (bt B2 HB.out))⟩
          · have rb4 := rb1.cut (k := 1) (cap := c4) (by omega) hc4
            rw [if_neg hc41] at rb4
            simp only [Nat.one_mul] at rb4
            have RA := Lib.hid ra1
            have RA2 := Lib.hid ra2
            have RA3 := Lib.hid ra3
            have RB := Lib.hid rb4
            have RB2 := Lib.hid rb2.tail
            have RB3 : Hid (∀ u ∈ xb.drop (1 * 2), u.oneCell' = true) := fun u hu => rb3 u (List.mem_of_mem_drop hu)
            have XL : Hid (xa.length = n1 * 2) := ra1.1
            clear ra1 ra2 ra3 rb1 rb2 rb3 rb4
            obtain ⟨i0, hi, hz0, hz1, hz2⟩ := info_parts info_flash
            have y1 : (1 : Int) ≤ (n2 : Int) := by omega
            have y2 : (1 : Int) ≤ (c4 : Int) := by omega
            have y3 : (n2 : Int) ≤ (c4 : Int) := by omega
            obtain ⟨c_f0, c_f1⟩ := box2 K_f.out
            have l_f := K_f.out.lt
            obtain ⟨c_m0, c_m1⟩ := box2 K_m.out
            have l_m := K_m.out.lt
            go_wp2
            go_region_held3 (fun _ => True) (trivial) (first | (refine step_append_on _ (by first | rfl | simp [Region.wanted, yielded]) (.tmp 105) (.tmp 106) _ (by rfl) D3.heap.size 24 i0 _ 2 32 Try.underlying30 hi hz0 hz1 hz2 rfl (by omega) (.slice (some ⟨D3.heap.size, 0, none⟩) 0 0) 0 [] (by rfl) (own_empty2 (by simp [at?_alloc, at?_drew]) (Nat.le_refl _)) D3.heap.size A2 n1 c2 xa (by rfl) (RdS.alloc RA.out (Nat.le_refl _) _) RA3.out (by simp only [maxLen]; omega) (by omega) (by simp) ?_; intro v1 w1 hown1 hg1 hat1; have B1 : Below D3.heap.size D3 w1 := ((Below.refl _ D3).alloc (Nat.le_refl _) _).drew.grown hg1 (by show _ ≤ (D3.alloc _).heap.size; simp) (by simp [Value.ownBlock])) | (refine step_append_on _ (by first | rfl | simp [Region.wanted, yielded]) (.tmp 107) (.tmp 109) _ (by rfl) D3.heap.size 24 i0 _ 2 32 Try.underlying30 hi hz0 hz1 hz2 rfl (by omega) v1 (0 + n1) ([] ++ xa) (by rfl) hown1 D3.heap.size (A4.map (fun x => x.add 2)) (n2 - 1) (c4 - 1) (xb.drop (1 * 2)) (by rfl) (by first | exact RdS.below RB.out B1 | exact (show 0 = n2 - 1 by omega) ▸ RdS.below RB.out B1) RB3.out (by simp only [maxLen]; omega) (by omega) B1.size ?_; intro v2 w2 hown2 hg2 hat2; have B2 : Below D3.heap.size D3 w2 := B1.grown hg2 B1.size (fun k hk => (hown1.lt k hk).1); obtain ⟨A9, c9, rfl, hc9, hr9⟩ := own_read hown2; have R9 : RdFs w2 w2.heap.size A9 (progL m p ds) := (by rw [← E5.out]; exact rdFs_of hr9 (by rw [List.length_append, List.length_drop, N1.out, N2.out]; omega) (FsOk.append ((RA2.out.below B2).more B2.size) ((RB2.out.below B2).more B2.size) (by rw [N1.out]; exact XL.out))); have L9 := F_l.out.next B2) | (go_at_call 20; refine (SameList_at (progL m p ds) A1 A9 n0 _ c1 c9 _ N0.out (by rw [N0.out]; have := NN.out; omega) (by exact L9) (by exact R9) (by rw [N0.out]; omega) (fun x hx => by rw [(progL_bytes m p ds x hx).2]; omega)).mono ?_; rintro e w3 ⟨rfl, hb3⟩))
            all_goals
              go_wp2
              go_ret
              exact ⟨rfl, (bt hb3 (bt B2 HB.out))⟩
        · have rd0 : Hid (RdB V3 V3.heap.size (Ad.map (fun x => x.add q)) (ds.drop q)) := by
            have := RdB.drop F_d.out hql hcd
            rw [if_neg hcq, Nat.mul_one] at this; exact this
          have F_z := rd0
          clear rd0
          obtain ⟨c_f0, c_f1⟩ := box2 K_f.out
          have l_f := K_f.out.lt
          go_wp2
          clear c_f0 c_f1 l_f
          obtain ⟨D2, hD2⟩ : ∃ U, U = V3.alloc (.cells #[.int .i64 m.1, .slice A3 mb.length c3] 24) := ⟨_, rfl⟩
          have hbD : Below V3.heap.size V3 D2 := by rw [hD2]; exact al1 _ _
          have kD : Bk D2 V3.heap.size 24 #[.int .i64 m.1, .slice A3 mb.length c3] := by rw [hD2]; exact Bk.new _ _ _
          rw [← hD2]
          clear hD2
          replace F_f := Lib.hid (F_f.out.next hbD)
          replace F_d := Lib.hid (F_d.out.next hbD)
          replace F_l := Lib.hid (F_l.out.next hbD)
          replace F_a := Lib.hid (F_a.out.next hbD)
          replace F_m := Lib.hid (F_m.out.next hbD)
          replace F_z := Lib.hid (F_z.out.next hbD)
          replace K_f := Lib.hid (K_f.out.next hbD)
          replace HB := Lib.hid (bt hbD HB.out)
          have K_m := Lib.hid kD
          clear kD hbD
          obtain ⟨c_f0, c_f1⟩ := box2 K_f.out
          have l_f := K_f.out.lt
          obtain ⟨c_m0, c_m1⟩ := box2 K_m.out
          have l_m := K_m.out.lt
          go_region_held3 (fun w' => w'.cell? ⟨V3.heap.size, 0, none⟩ = some (.int .i64 m.1) ∧ w'.cell? ⟨V3.heap.size, 1, none⟩ = some (.slice A3 mb.length c3)) (first | exact ⟨c_m0, c_m1⟩ | exact box2 (Bk.next (Bk.drew K_m.out) hb) | fail) ((go_at_call 14; refine (Program_at (progL (m.1, mb) (p + (q : Int)) (ds.drop q)) 0 (m.1, mb) (p + (q : Int)) (ds.drop q) A3 _ c3 (ds.length - q) (cd - q) n2 _ (by rw [List.length_drop]) N2.out rfl E4.out (by exact F_m.out) (by exact F_z.out) (by show mb.length ≤ _; omega) (by rw [List.length_drop]; omega) (by omega) (by omega)).mono ?_; rintro e D3 ⟨A4, c4, rfl, hc4, r4, hb⟩))
          clear c_f0 c_f1 l_f
          clear c_m0 c_m1 l_m
          have hB := bt hb ((Below.refl _ _).drew : Below D2.heap.size D2 D2.drew)
          replace F_f := Lib.hid (F_f.out.next hB)
          replace F_d := Lib.hid (F_d.out.next hB)
          replace F_l := Lib.hid (F_l.out.next hB)
          replace F_a := Lib.hid (F_a.out.next hB)
          replace F_m := Lib.hid (F_m.out.next hB)
          replace F_z := Lib.hid (F_z.out.next hB)
          replace K_f := Lib.hid (K_f.out.next hB)
          replace K_m := Lib.hid (K_m.out.next hB)
          replace HB := Lib.hid (bt hB HB.out)
          clear hb hB
          have F_b := Lib.hid (r4)
          clear r4
          obtain ⟨xa, ra1, ra2, ra3⟩ := rdFs_cells F_a.out
          obtain ⟨xb, rb1, rb2, rb3⟩ := rdFs_cells F_b.out
          rw [N1.out] at ra1
          rw [N2.out] at rb1
          by_cases hc41 : c4 = 1
          · have rb4 := rb1.cut (k := 1) (cap := c4) (by omega) hc4
            subst hc41
            rw [if_pos rfl] at rb4
            have RA := Lib.hid ra1
            have RA2 := Lib.hid ra2
            have RA3 := Lib.hid ra3
            have RB := Lib.hid rb4
            have RB2 := Lib.hid rb2.tail
            have RB3 : Hid (∀ u ∈ xb.drop (1 * 2), u.oneCell' = true) := fun u hu => rb3 u (List.mem_of_mem_drop hu)
            have XL : Hid (xa.length = n1 * 2) := ra1.1
            clear ra1 ra2 ra3 rb1 rb2 rb3 rb4
            obtain ⟨i0, hi, hz0, hz1, hz2⟩ := info_parts info_flash
            have y1 : (1 : Int) ≤ (n2 : Int) := by omega
            obtain ⟨c_f0, c_f1⟩ := box2 K_f.out
            have l_f := K_f.out.lt
            obtain ⟨c_m0, c_m1⟩ := box2 K_m.out
            have l_m := K_m.out.lt
            go_wp2
            go_region_held3 (fun _ => True) (trivial) (first | (refine step_append_on _ (by first | rfl | simp [Region.wanted, yielded]) (.tmp 105) (.tmp 106) _ (by rfl) D3.heap.size 24 i0 _ 2 32 Try.underlying30 hi hz0 hz1 hz2 rfl (by omega) (.slice (some ⟨D3.heap.size, 0, none⟩) 0 0) 0 [] (by rfl) (own_empty2 (by simp [at?_alloc, at?_drew]) (Nat.le_refl _)) D3.heap.size A2 n1 c2 xa (by rfl) (RdS.alloc RA.out (Nat.le_refl _) _) RA3.out (by simp only [maxLen]; omega) (by omega) (by simp) ?_; intro v1 w1 hown1 hg1 hat1; have B1 : Below D3.heap.size D3 w1 := ((Below.refl _ D3).alloc (Nat.le_refl _) _).drew.grown hg1 (by show _ ≤ (D3.alloc _).heap.size; simp) (by simp [Value.ownBlock])) | (refine step_append_on _ (by first | rfl | simp [Region.wanted, yielded]) (.tmp 107) (.tmp 109) _ (by rfl) D3.heap.size 24 i0 _ 2 32 Try.underlying30 hi hz0 hz1 hz2 rfl (by omega) v1 (0 + n1) ([] ++ xa) (by rfl) hown1 D3.heap.size A4 0 0 (xb.drop (1 * 2)) (by rfl) (by first | exact RdS.below RB.out B1 | exact (show 0 = n2 - 1 by omega) ▸ RdS.below RB.out B1) RB3.out (by simp only [maxLen]; omega) (by omega) B1.size ?_; intro v2 w2 hown2 hg2 hat2; have B2 : Below D3.heap.size D3 w2 := B1.grown hg2 B1.size (fun k hk => (hown1.lt k hk).1); obtain ⟨A9, c9, rfl, hc9, hr9⟩ := own_read hown2; have R9 : RdFs w2 w2.heap.size A9 (progL m p ds) := (by rw [← E5.out]; exact rdFs_of hr9 (by rw [List.length_append, List.length_drop, N1.out, N2.out]; omega) (FsOk.append ((RA2.out.below B2).more B2.size) ((RB2.out.below B2).more B2.size) (by rw [N1.out]; exact XL.out))); have L9 := F_l.out.next B2) | (go_at_call 20; refine (SameList_at (progL m p ds) A1 A9 n0 _ c1 c9 _ N0.out (by rw [N0.out]; have := NN.out; omega) (by exact L9) (by exact R9) (by rw [N0.out]; omega) (fun x hx => by rw [(progL_bytes m p ds x hx).2]; omega)).mono ?_; rintro e w3 ⟨rfl, hb3⟩))
            all_goals
              go_wp2
              go_ret
              exact ⟨rfl, (bt hb3 (bt B2 HB.out))⟩
          · have rb4 := rb1.cut (k := 1) (cap := c4) (by omega) hc4
            rw [if_neg hc41] at rb4
            simp only [Nat.one_mul] at rb4
            have RA := Lib.hid ra1
            have RA2 := Lib.hid ra2
            have RA3 := Lib.hid ra3
            have RB := Lib.hid rb4
            have RB2 := Lib.hid rb2.tail
            have RB3 : Hid (∀ u ∈ xb.drop (1 * 2), u.oneCell' = true) := fun u hu => rb3 u (List.mem_of_mem_drop hu)
            have XL : Hid (xa.length = n1 * 2) := ra1.1
            clear ra1 ra2 ra3 rb1 rb2 rb3 rb4
            obtain ⟨i0, hi, hz0, hz1, hz2⟩ := info_parts info_flash
            have y1 : (1 : Int) ≤ (n2 : Int) := by omega
            have y2 : (1 : Int) ≤ (c4 : Int) := by omega
            have y3 : (n2 : Int) ≤ (c4 : Int) := by omega
            obtain ⟨c_f0, c_f1⟩ := box2 K_f.out
            have l_f := K_f.out.lt
            obtain ⟨c_m0, c_m1⟩ := box2 K_m.out
            have l_m := K_m.out.lt
            go_wp2
            go_region_held3 (fun _ => True) (trivial) (first | (refine step_append_on _ (by first | rfl | simp [Region.wanted, yielded]) (.tmp 105) (.tmp 106) _ (by rfl) D3.heap.size 24 i0 _ 2 32 Try.underlying30 hi hz0 hz1 hz2 rfl (by omega) (.slice (some ⟨D3.heap.size, 0, none⟩) 0 0) 0 [] (by rfl) (own_empty2 (by simp [at?_alloc, at?_drew]) (Nat.le_refl _)) D3.heap.size A2 n1 c2 xa (by rfl) (RdS.alloc RA.out (Nat.le_refl _) _) RA3.out (by simp only [maxLen]; omega) (by omega) (by simp) ?_; intro v1 w1 hown1 hg1 hat1; have B1 : Below D3.heap.size D3 w1 := ((Below.refl _ D3).alloc (Nat.le_refl _) _).drew.grown hg1 (by show _ ≤ (D3.alloc _).heap.size; simp) (by simp [Value.ownBlock])) | (refine step_append_on _ (by first | rfl | simp [Region.wanted, yielded]) (.tmp 107) (.tmp 109) _ (by rfl) D3.heap.size 24 i0 _ 2 32 Try.underlying30 hi hz0 hz1 hz2 rfl (by omega) v1 (0 + n1) ([] ++ xa) (by rfl) hown1 D3.heap.size (A4.map (fun x => x.add 2)) (n2 - 1) (c4 - 1) (xb.drop (1 * 2)) (by rfl) (by first | exact RdS.below RB.out B1 | exact (show 0 = n2 - 1 by omega) ▸ RdS.below RB.out B1) RB3.out (by simp only [maxLen]; omega) (by omega) B1.size ?_; intro v2 w2 hown2 hg2 hat2; have B2 : Below D3.heap.size D3 w2 := B1.grown hg2 B1.size (fun k hk => (hown1.lt k hk).1); obtain ⟨A9, c9, rfl, hc9, hr9⟩ := own_read hown2; have R9 : RdFs w2 w2.heap.size A9 (progL m p ds) := (by rw [← E5.out]; exact rdFs_of hr9 (by rw [List.length_append, List.length_drop, N1.out, N2.out]; omega) (FsOk.append ((RA2.out.below B2).more B2.size) ((RB2.out.below B2).more B2.size) (by rw [N1.out]; exact XL.out))); have L9 := F_l.out.next B2) | (go_at_call 20; refine (SameList_at (progL m p ds) A1 A9 n0 _ c1 c9 _ N0.out (by rw [N0.out]; have := NN.out; omega) (by exact L9) (by exact R9) (by rw [N0.out]; omega) (fun x hx => by rw [(progL_bytes m p ds x hx).2]; omega)).mono ?_; rintro e w3 ⟨rfl, hb3⟩))
            all_goals
              go_wp2
              go_ret
              exact ⟨rfl, (bt hb3 (bt B2 HB.out))⟩
      · have z1 : (progE m p ds != 0) = true := by simp [h1]
        clear h1
        have HB := Lib.hid (Below.refl w.heap.size w)
        have F_f := Lib.hid hA
        have F_d := Lib.hid hD
        clear hA hD
        go_enter Try.func9, Try.ntmps9
        go_wp2_with fail
        refine (head_any _).mono ?_
        rintro e V1 ⟨rfl, hb⟩
        have hB := bt hb (al1 w _)
        have K_f : Hid (Bk V1 (w.heap.size) 24 #[.int .i64 m.1, .slice A m.2.length c]) := Bk.next (by first | exact Bk.new _ _ _ | exact (Bk.new _ _ _).alloc _ | exact bkOf (by simp [at?_alloc])) hb
        replace F_f := Lib.hid (F_f.out.next hB)
        replace F_d := Lib.hid (F_d.out.next hB)
        replace HB := Lib.hid (bt hB HB.out)
        clear hb hB
        obtain ⟨c_f0, c_f1⟩ := box2 K_f.out
        have l_f := K_f.out.lt
        go_wp2_with fail
        clear c_f0 c_f1 l_f
        refine (Program_any m p ds A Ad c cd _ F_f.out F_d.out (by omega) (by omega) p0 p1).mono ?_
        rintro e V2 ⟨A1, c1, rfl, hc1, r1, hb⟩
        have hB := hb
        replace F_f := Lib.hid (F_f.out.next hB)
        replace F_d := Lib.hid (F_d.out.next hB)
        replace K_f := Lib.hid (K_f.out.next hB)
        replace HB := Lib.hid (bt hB HB.out)
        clear hb hB
        clear r1
        obtain ⟨c_f0, c_f1⟩ := box2 K_f.out
        have l_f := K_f.out.lt
        go_wp2
        go_ret
        exact ⟨rfl, HB.out⟩
    · have u2 : 300 < (ds.length : Int) := by omega
      have HB := Lib.hid (Below.refl w.heap.size w)
      have F_f := Lib.hid hA
      have F_d := Lib.hid hD
      clear hA hD
      go_enter Try.func9, Try.ntmps9
      go_wp2_with fail
      refine (head_any _).mono ?_
      rintro e V1 ⟨rfl, hb⟩
      have hB := bt hb (al1 w _)
      have K_f : Hid (Bk V1 (w.heap.size) 24 #[.int .i64 m.1, .slice A m.2.length c]) := Bk.next (by first | exact Bk.new _ _ _ | exact (Bk.new _ _ _).alloc _ | exact bkOf (by simp [at?_alloc])) hb
      replace F_f := Lib.hid (F_f.out.next hB)
      replace F_d := Lib.hid (F_d.out.next hB)
      replace HB := Lib.hid (bt hB HB.out)
      clear hb hB
      obtain ⟨c_f0, c_f1⟩ := box2 K_f.out
      have l_f := K_f.out.lt
      go_wp2
      go_ret
      exact ⟨rfl, HB.out⟩
  · have u1 : 300 < (m.2.length : Int) := by omega
    have HB := Lib.hid (Below.refl w.heap.size w)
    have F_f := Lib.hid hA
    have F_d := Lib.hid hD
    clear hA hD
    go_enter Try.func9, Try.ntmps9
    go_wp2_with fail
    refine (head_any _).mono ?_
    rintro e V1 ⟨rfl, hb⟩
    have hB := bt hb (al1 w _)
    have K_f : Hid (Bk V1 (w.heap.size) 24 #[.int .i64 m.1, .slice A m.2.length c]) := Bk.next (by first | exact Bk.new _ _ _ | exact (Bk.new _ _ _).alloc _ | exact bkOf (by simp [at?_alloc])) hb
    replace F_f := Lib.hid (F_f.out.next hB)
    replace F_d := Lib.hid (F_d.out.next hB)
    replace HB := Lib.hid (bt hB HB.out)
    clear hb hB
    obtain ⟨c_f0, c_f1⟩ := box2 K_f.out
    have l_f := K_f.out.lt
    go_wp2
    go_ret
    exact ⟨rfl, HB.out⟩
end Go.Proofs.Ytjfpnldijlbmiaa
