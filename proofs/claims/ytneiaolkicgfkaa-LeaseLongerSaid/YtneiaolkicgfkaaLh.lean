/- The laws' helper head: fixed examples. -/
import Derived.Test.YtneiaolkicgfkaaLg
set_option linter.unusedVariables false
set_option linter.unusedSimpArgs false
namespace Go.Proofs.Ytneiaolkicgfkaa
open Go.RowKit Go.Sort

theorem Grant_lit (L : List Lea) (E : Int) (l : List Lea) (x : Lea) (A : Option Addr) (c : Nat) (w : World) (hL : graL l x = L) (hE : graE l x = E) (hA : RdL w w.heap.size A l) (hn : l.length ≤ 9223372036854775807) :
    Calls Try.prog 11 #[.slice A l.length c, .agg #[.int .i64 x.n, .int .i64 x.c, .int .i64 x.a, .int .i64 x.f, .int .i64 x.t]] w (LPost w L E) := by rw [← hL, ← hE]; exact Grant_any l x A c w hA hn
theorem Expire_lit (L : List Lea) (E : Int) (l : List Lea) (tick : Int) (A : Option Addr) (c : Nat) (w : World) (hL : expL l tick = L) (hE : expE l tick = E) (hA : RdL w w.heap.size A l) (hn : l.length ≤ 9223372036854775807) :
    Calls Try.prog 15 #[.slice A l.length c, .int .i64 tick] w (LPost w L E) := by rw [← hL, ← hE]; exact Expire_any l A c tick w hA hn
theorem Alive_lit (L : List Int) (E : Int) (l : List Lea) (n tick : Int) (A : Option Addr) (c : Nat) (w : World) (hL : alvL l n tick = L) (hE : alvE l n tick = E) (hA : RdL w w.heap.size A l) (hn : l.length ≤ 9223372036854775807) :
    Calls Try.prog 13 #[.slice A l.length c, .int .i64 n, .int .i64 tick] w (IPost w L E) := by rw [← hL, ← hE]; exact Alive_any l A c n tick w hA hn
theorem litI {W : World} {g : Nat} {zs : List Int} (h : at? W g = some (.cells (i64s zs).toArray 3 (0, 0))) : RdI W W.heap.size (some ⟨g, 0, none⟩) zs := RdI.of_bk (bkOf h) (bkOf h).lt

set_option maxRecDepth 100000 in
set_option maxHeartbeats 4000000 in
theorem head_any (w : World) : Calls Try.prog 10 #[] w fun e w' => e = .returned (.bool true) ∧ Below w.heap.size w w' := by
  have HB := Lib.hid (Below.refl w.heap.size w)
  go_enter Try.func10, Try.ntmps10
  go_wp2_with fail
  refine (Grant_lit [⟨1, 0, 16, 100, 12⟩] 0 [] ⟨1, 0, 16, 100, 12⟩ none 0 _ (by rfl) (by rfl) RdL.nil (by simp)).mono ?_
  rintro e V1 ⟨Al, cl, rfl, hcl, rl, hb⟩
  have hB := bt hb (al1 w _)
  have K_x : Hid (Bk V1 (w.heap.size) 24 #[.int .i64 1, .int .i64 0, .int .i64 16, .int .i64 100, .int .i64 12]) := Bk.next (by first | exact Bk.new _ _ _ | exact (Bk.new _ _ _).alloc _ | exact bkOf (by simp [at?_alloc])) hb
  replace HB := Lib.hid (bt hB HB.out)
  clear hb hB
  have F_l := Lib.hid (rl)
  clear rl
  obtain ⟨c_x0, c_x1, c_x2, c_x3, c_x4⟩ := box5 K_x.out
  have l_x := K_x.out.lt
  go_wp2_with fail
  clear c_x0 c_x1 c_x2 c_x3 c_x4 l_x
  refine (Alive_lit [16, 0] 0 [⟨1, 0, 16, 100, 12⟩] 2 100 Al cl _ (by rfl) (by rfl) F_l.out (by simp)).mono ?_
  rintro e V2 ⟨Aa, ca, rfl, hca, ra, hb⟩
  have hB := hb
  replace F_l := Lib.hid (F_l.out.next hB)
  replace K_x := Lib.hid (K_x.out.next hB)
  replace HB := Lib.hid (bt hB HB.out)
  clear hb hB
  have F_a := Lib.hid (ra)
  clear ra
  obtain ⟨c_x0, c_x1, c_x2, c_x3, c_x4⟩ := box5 K_x.out
  have l_x := K_x.out.lt
  go_wp2_with fail
  clear c_x0 c_x1 c_x2 c_x3 c_x4 l_x
  refine (Alive_lit [16, 0] 0 [⟨1, 0, 16, 100, 12⟩] 2 122 Al cl _ (by rfl) (by rfl) F_l.out (by simp)).mono ?_
  rintro e V3 ⟨Ab, cb, rfl, hcb, rb, hb⟩
  have hB := hb
  replace F_l := Lib.hid (F_l.out.next hB)
  replace F_a := Lib.hid (F_a.out.next hB)
  replace K_x := Lib.hid (K_x.out.next hB)
  replace HB := Lib.hid (bt hB HB.out)
  clear hb hB
  have F_b := Lib.hid (rb)
  clear rb
  obtain ⟨c_x0, c_x1, c_x2, c_x3, c_x4⟩ := box5 K_x.out
  have l_x := K_x.out.lt
  go_wp2_with fail
  clear c_x0 c_x1 c_x2 c_x3 c_x4 l_x
  refine (Alive_lit [0, 0] 0 [⟨1, 0, 16, 100, 12⟩] 2 123 Al cl _ (by rfl) (by rfl) F_l.out (by simp)).mono ?_
  rintro e V4 ⟨Ac, cc, rfl, hcc, rc, hb⟩
  have hB := hb
  replace F_l := Lib.hid (F_l.out.next hB)
  replace F_a := Lib.hid (F_a.out.next hB)
  replace F_b := Lib.hid (F_b.out.next hB)
  replace K_x := Lib.hid (K_x.out.next hB)
  replace HB := Lib.hid (bt hB HB.out)
  clear hb hB
  have F_c := Lib.hid (rc)
  clear rc
  obtain ⟨c_x0, c_x1, c_x2, c_x3, c_x4⟩ := box5 K_x.out
  have l_x := K_x.out.lt
  go_wp2_with fail
  clear c_x0 c_x1 c_x2 c_x3 c_x4 l_x
  refine (Alive_lit [0, 0] 0 [⟨1, 0, 16, 100, 12⟩] 2 99 Al cl _ (by rfl) (by rfl) F_l.out (by simp)).mono ?_
  rintro e V5 ⟨Ad, cd, rfl, hcd, rd, hb⟩
  have hB := hb
  replace F_l := Lib.hid (F_l.out.next hB)
  replace F_a := Lib.hid (F_a.out.next hB)
  replace F_b := Lib.hid (F_b.out.next hB)
  replace F_c := Lib.hid (F_c.out.next hB)
  replace K_x := Lib.hid (K_x.out.next hB)
  replace HB := Lib.hid (bt hB HB.out)
  clear hb hB
  have F_d := Lib.hid (rd)
  clear rd
  obtain ⟨c_x0, c_x1, c_x2, c_x3, c_x4⟩ := box5 K_x.out
  have l_x := K_x.out.lt
  go_wp2_with fail
  clear c_x0 c_x1 c_x2 c_x3 c_x4 l_x
  refine (Expire_lit [⟨1, 0, 16, 100, 12⟩] 0 [⟨1, 0, 16, 100, 12⟩] 122 Al cl _ (by rfl) (by rfl) F_l.out (by simp)).mono ?_
  rintro e V6 ⟨Am, cm, rfl, hcm, rm, hb⟩
  have hB := hb
  replace F_l := Lib.hid (F_l.out.next hB)
  replace F_a := Lib.hid (F_a.out.next hB)
  replace F_b := Lib.hid (F_b.out.next hB)
  replace F_c := Lib.hid (F_c.out.next hB)
  replace F_d := Lib.hid (F_d.out.next hB)
  replace K_x := Lib.hid (K_x.out.next hB)
  replace HB := Lib.hid (bt hB HB.out)
  clear hb hB
  clear rm
  obtain ⟨c_x0, c_x1, c_x2, c_x3, c_x4⟩ := box5 K_x.out
  have l_x := K_x.out.lt
  go_wp2_with fail
  clear c_x0 c_x1 c_x2 c_x3 c_x4 l_x
  refine (Expire_lit [] 0 [⟨1, 0, 16, 100, 12⟩] 123 Al cl _ (by rfl) (by rfl) F_l.out (by simp)).mono ?_
  rintro e V7 ⟨An, cn, rfl, hcn, rn, hb⟩
  have hB := hb
  replace F_l := Lib.hid (F_l.out.next hB)
  replace F_a := Lib.hid (F_a.out.next hB)
  replace F_b := Lib.hid (F_b.out.next hB)
  replace F_c := Lib.hid (F_c.out.next hB)
  replace F_d := Lib.hid (F_d.out.next hB)
  replace K_x := Lib.hid (K_x.out.next hB)
  replace HB := Lib.hid (bt hB HB.out)
  clear hb hB
  clear rn
  obtain ⟨c_x0, c_x1, c_x2, c_x3, c_x4⟩ := box5 K_x.out
  have l_x := K_x.out.lt
  go_wp2_with fail
  clear c_x0 c_x1 c_x2 c_x3 c_x4 l_x
  refine (Grant_lit [] 12 [⟨1, 0, 16, 100, 12⟩] ⟨1, 0, 16, 100, 12⟩ Al cl _ (by rfl) (by rfl) F_l.out (by simp)).mono ?_
  rintro e V8 ⟨Ap, cp, rfl, hcp, rp, hb⟩
  have hB := hb
  replace F_l := Lib.hid (F_l.out.next hB)
  replace F_a := Lib.hid (F_a.out.next hB)
  replace F_b := Lib.hid (F_b.out.next hB)
  replace F_c := Lib.hid (F_c.out.next hB)
  replace F_d := Lib.hid (F_d.out.next hB)
  replace K_x := Lib.hid (K_x.out.next hB)
  replace HB := Lib.hid (bt hB HB.out)
  clear hb hB
  clear rp
  obtain ⟨c_x0, c_x1, c_x2, c_x3, c_x4⟩ := box5 K_x.out
  have l_x := K_x.out.lt
  go_wp2_with fail
  clear c_x0 c_x1 c_x2 c_x3 c_x4 l_x
  refine (Alive_lit [] 1 [⟨1, 0, 16, 100, 12⟩] 0 100 Al cl _ (by rfl) (by rfl) F_l.out (by simp)).mono ?_
  rintro e V9 ⟨Aq, cq, rfl, hcq, rq, hb⟩
  have hB := hb
  replace F_l := Lib.hid (F_l.out.next hB)
  replace F_a := Lib.hid (F_a.out.next hB)
  replace F_b := Lib.hid (F_b.out.next hB)
  replace F_c := Lib.hid (F_c.out.next hB)
  replace F_d := Lib.hid (F_d.out.next hB)
  replace K_x := Lib.hid (K_x.out.next hB)
  replace HB := Lib.hid (bt hB HB.out)
  clear hb hB
  clear rq
  obtain ⟨c_x0, c_x1, c_x2, c_x3, c_x4⟩ := box5 K_x.out
  have l_x := K_x.out.lt
  go_wp2_with fail
  clear c_x0 c_x1 c_x2 c_x3 c_x4 l_x
  refine (Grant_lit [] 1 [⟨1, 0, 16, 100, 12⟩] ⟨2, 16, 0, 100, 1⟩ Al cl _ (by rfl) (by rfl) F_l.out (by simp)).mono ?_
  rintro e V10 ⟨Ar, cr, rfl, hcr, rr, hb⟩
  have hB := hb
  replace F_l := Lib.hid (F_l.out.next hB)
  replace F_a := Lib.hid (F_a.out.next hB)
  replace F_b := Lib.hid (F_b.out.next hB)
  replace F_c := Lib.hid (F_c.out.next hB)
  replace F_d := Lib.hid (F_d.out.next hB)
  replace K_x := Lib.hid (K_x.out.next hB)
  replace HB := Lib.hid (bt hB HB.out)
  clear hb hB
  clear rr
  obtain ⟨c_x0, c_x1, c_x2, c_x3, c_x4⟩ := box5 K_x.out
  have l_x := K_x.out.lt
  go_wp2_with fail
  clear c_x0 c_x1 c_x2 c_x3 c_x4 l_x
  refine (rInts_eq [16, 0] [16, 0] Aa _ ca 2 _ rfl (F_a.out.next (al1 _ _)) (litI (by simp [at?_alloc, i64s])) (by simp)).mono ?_
  rintro e V11 ⟨rfl, hb⟩
  have hB := bt hb (al1 V10 _)
  replace F_l := Lib.hid (F_l.out.next hB)
  replace F_a := Lib.hid (F_a.out.next hB)
  replace F_b := Lib.hid (F_b.out.next hB)
  replace F_c := Lib.hid (F_c.out.next hB)
  replace F_d := Lib.hid (F_d.out.next hB)
  replace K_x := Lib.hid (K_x.out.next hB)
  replace HB := Lib.hid (bt hB HB.out)
  clear hb hB
  obtain ⟨c_x0, c_x1, c_x2, c_x3, c_x4⟩ := box5 K_x.out
  have l_x := K_x.out.lt
  go_wp2_with fail
  clear c_x0 c_x1 c_x2 c_x3 c_x4 l_x
  refine (rInts_eq [16, 0] [16, 0] Ab _ cb 2 _ rfl (F_b.out.next (al1 _ _)) (litI (by simp [at?_alloc, i64s])) (by simp)).mono ?_
  rintro e V12 ⟨rfl, hb⟩
  have hB := bt hb (al1 V11 _)
  replace F_l := Lib.hid (F_l.out.next hB)
  replace F_a := Lib.hid (F_a.out.next hB)
  replace F_b := Lib.hid (F_b.out.next hB)
  replace F_c := Lib.hid (F_c.out.next hB)
  replace F_d := Lib.hid (F_d.out.next hB)
  replace K_x := Lib.hid (K_x.out.next hB)
  replace HB := Lib.hid (bt hB HB.out)
  clear hb hB
  obtain ⟨c_x0, c_x1, c_x2, c_x3, c_x4⟩ := box5 K_x.out
  have l_x := K_x.out.lt
  go_wp2_with fail
  clear c_x0 c_x1 c_x2 c_x3 c_x4 l_x
  refine (rInts_eq [0, 0] [0, 0] Ac _ cc 2 _ rfl (F_c.out.next (al1 _ _)) (litI (by simp [at?_alloc, i64s])) (by simp)).mono ?_
  rintro e V13 ⟨rfl, hb⟩
  have hB := bt hb (al1 V12 _)
  replace F_l := Lib.hid (F_l.out.next hB)
  replace F_a := Lib.hid (F_a.out.next hB)
  replace F_b := Lib.hid (F_b.out.next hB)
  replace F_c := Lib.hid (F_c.out.next hB)
  replace F_d := Lib.hid (F_d.out.next hB)
  replace K_x := Lib.hid (K_x.out.next hB)
  replace HB := Lib.hid (bt hB HB.out)
  clear hb hB
  obtain ⟨c_x0, c_x1, c_x2, c_x3, c_x4⟩ := box5 K_x.out
  have l_x := K_x.out.lt
  go_wp2_with fail
  clear c_x0 c_x1 c_x2 c_x3 c_x4 l_x
  refine (rInts_eq [0, 0] [0, 0] Ad _ cd 2 _ rfl (F_d.out.next (al1 _ _)) (litI (by simp [at?_alloc, i64s])) (by simp)).mono ?_
  rintro e V14 ⟨rfl, hb⟩
  have hB := bt hb (al1 V13 _)
  replace F_l := Lib.hid (F_l.out.next hB)
  replace F_a := Lib.hid (F_a.out.next hB)
  replace F_b := Lib.hid (F_b.out.next hB)
  replace F_c := Lib.hid (F_c.out.next hB)
  replace F_d := Lib.hid (F_d.out.next hB)
  replace K_x := Lib.hid (K_x.out.next hB)
  replace HB := Lib.hid (bt hB HB.out)
  clear hb hB
  obtain ⟨c_x0, c_x1, c_x2, c_x3, c_x4⟩ := box5 K_x.out
  have l_x := K_x.out.lt
  go_wp2_with fail
  clear c_x0 c_x1 c_x2 c_x3 c_x4 l_x
  refine (Valid_lit true [⟨1, 0, 16, 100, 12⟩] Al cl _ (by rfl) F_l.out (by simp)).mono ?_
  rintro e V15 ⟨rfl, hb⟩
  have hB := hb
  replace F_l := Lib.hid (F_l.out.next hB)
  replace F_a := Lib.hid (F_a.out.next hB)
  replace F_b := Lib.hid (F_b.out.next hB)
  replace F_c := Lib.hid (F_c.out.next hB)
  replace F_d := Lib.hid (F_d.out.next hB)
  replace K_x := Lib.hid (K_x.out.next hB)
  replace HB := Lib.hid (bt hB HB.out)
  clear hb hB
  go_wp2
  go_ret
  exact ⟨rfl, HB.out⟩
end Go.Proofs.Ytneiaolkicgfkaa
