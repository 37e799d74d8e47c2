/- The laws' last; contracts at literals; plain facts on the examples of head. -/
import Derived.Test.YthebojaminploaaGreatDoorKVf
import Derived.Test.YthebojaminploaaGreatDoorKJN
import Derived.Test.YthebojaminploaaGreatDoorKLZ
set_option maxRecDepth 100000
set_option linter.unusedVariables false
set_option linter.unusedSimpArgs false
namespace Go.Proofs.YthebojaminploaaGreatDoor
open Go.RowKit Go.Sort Go.Shelf

set_option maxHeartbeats 1000000 in
theorem last_l (f : Mem) (l : List Mem) (e : Int) (A Al : Option Addr) (c cl : Nat) (w : World) (hA : RdB w w.heap.size A f.2) (hc : f.2.length ≤ c) (hl : RdFs w w.heap.size Al l) (hll : l.length ≤ 1000000) :
    Calls Tryz.prog 16 #[.agg #[.int .i64 f.1, .slice A f.2.length c], .slice Al l.length cl, .int .i64 e] w (flashPost (lastM f l e) w) := by
  have HA := Lib.hid hA
  have HL := Lib.hid hl
  clear hA hl
  by_cases h0 : e = 0
  · by_cases hn : l.length = 0
    · have hE : lastM f l e = f := by
        rw [List.length_eq_zero_iff.1 hn]; unfold lastM; split <;> rfl
      have HE := Lib.hid hE
      have e0 : (e != 0) = false := by simp [h0]
      have e1 : ((l.length : Int) == 0) = true := by simp [hn]
      subst h0
      clear hE
      go_enter Tryz.func16, Tryz.ntmps16
      go_wp2
      obtain ⟨X, hX⟩ : ∃ Zz, Zz = ((w.alloc (.cells #[.int .i64 f.1, .slice A f.2.length c] 24)).alloc (.cells #[.int .i64 f.1, .slice A f.2.length c] 24)) := ⟨_, rfl⟩
      have kX : Bk X (w.heap.size + 1) 24 #[.int .i64 f.1, .slice A f.2.length c] := by rw [hX]; exact bkOf (by simp [at?_alloc])
      have hbX : Below w.heap.size w X := by rw [hX]; exact al2 _ _ _
      rw [← hX]
      obtain ⟨u0, u1⟩ := box2 kX
      clear hX
      refine bodyPost_ret (v := .agg #[.int .i64 f.1, .slice A f.2.length c]) (by simp [results, Tryz.results16, go_sem, u0, u1]) rfl ?_
      rw [HE.out]
      exact ⟨A, c, rfl, hc, HA.out.next hbX, hbX⟩
    · obtain ⟨k, hk⟩ : ∃ k, l.length = k + 1 := ⟨l.length - 1, by omega⟩
      obtain ⟨b1, o1, A', c', rfl, hb1, z0, z1, hc', hr'⟩ := HL.out.at_ (by omega : k < l.length)
      obtain ⟨x, hx⟩ : ∃ x, x = l[k]'(by omega) := ⟨_, rfl⟩
      rw [← hx] at z0 z1 hc' hr'
      have hE : lastM f l e = x := by
        unfold lastM
        have hk' : l.length - 1 = k := by omega
        rw [if_pos h0, List.getLastD_eq_getLast?, List.getLast?_eq_getElem?, hk', List.getElem?_eq_getElem (by omega : k < l.length), hx]
        rfl
      have HE := Lib.hid hE
      have e0 : (e != 0) = false := by simp [h0]
      subst h0
      rw [hk]
      have e1 : (((k : Int) + 1) == 0) = false := by rw [beq_eq_false_iff_ne]; omega
      have i1 : (0 : Int) ≤ (k : Int) := by omega
      have i2 : (k : Int) < (k : Int) + 1 := by omega
      have HR := Lib.hid hr'
      have hkl : k ≤ 1000000 := by omega
      clear hE hx hk hr'
      go_enter Tryz.func16, Tryz.ntmps16
      go_wp2
      obtain ⟨X, hX⟩ : ∃ Zz, Zz = ((w.alloc (.cells #[.int .i64 f.1, .slice A f.2.length c] 24)).alloc (.cells #[.int .i64 x.1, .slice A' x.2.length c'] 24)) := ⟨_, rfl⟩
      have kX : Bk X (w.heap.size + 1) 24 #[.int .i64 x.1, .slice A' x.2.length c'] := by rw [hX]; exact bkOf (by simp [at?_alloc])
      have hbX : Below w.heap.size w X := by rw [hX]; exact al2 _ _ _
      rw [← hX]
      obtain ⟨u0, u1⟩ := box2 kX
      clear hX
      refine bodyPost_ret (v := .agg #[.int .i64 x.1, .slice A' x.2.length c']) (by simp [results, Tryz.results16, go_sem, u0, u1]) rfl ?_
      rw [HE.out]
      exact ⟨A', c', rfl, hc', HR.out.next hbX, hbX⟩
  · have hE : lastM f l e = f := by unfold lastM; rw [if_neg h0]
    have HE := Lib.hid hE
    have e0 : (e != 0) = true := by simp [h0]
    clear hE
    go_enter Tryz.func16, Tryz.ntmps16
    go_wp2
    obtain ⟨X, hX⟩ : ∃ Zz, Zz = ((w.alloc (.cells #[.int .i64 f.1, .slice A f.2.length c] 24)).alloc (.cells #[.int .i64 f.1, .slice A f.2.length c] 24)) := ⟨_, rfl⟩
    have kX : Bk X (w.heap.size + 1) 24 #[.int .i64 f.1, .slice A f.2.length c] := by rw [hX]; exact bkOf (by simp [at?_alloc])
    have hbX : Below w.heap.size w X := by rw [hX]; exact al2 _ _ _
    rw [← hX]
    obtain ⟨u0, u1⟩ := box2 kX
    clear hX
    refine bodyPost_ret (v := .agg #[.int .i64 f.1, .slice A f.2.length c]) (by simp [results, Tryz.results16, go_sem, u0, u1]) rfl ?_
    rw [HE.out]
    exact ⟨A, c, rfl, hc, HA.out.next hbX, hbX⟩
theorem last_lit (M : Mem) (n : Nat) (f : Mem) (l : List Mem) (e : Int) (A Al : Option Addr) (c cl : Nat) (w : World) (hM : lastM f l e = M) (hn : l.length = n) (hA : RdB w w.heap.size A f.2) (hc : f.2.length ≤ c) (hl : RdFs w w.heap.size Al l) (hll : l.length ≤ 1000000) :
    Calls Tryz.prog 16 #[.agg #[.int .i64 f.1, .slice A f.2.length c], .slice Al n cl, .int .i64 e] w (flashPost M w) := by subst hM; subst hn; exact last_l f l e A Al c cl w hA hc hl hll
theorem vFormat_lit (M : Mem) (E : Int) (w : World) (hM : fmtM 512 4 = M) (hE : fmtE 512 4 = E) :
    Calls Tryz.prog 11 #[] w fun e w' => ∃ A c, e = .returned (.tuple #[.agg #[.int .i64 M.1, .slice A M.2.length c], .int .i64 E]) ∧ M.2.length ≤ c ∧ RdB w' w'.heap.size A M.2 ∧ Below w.heap.size w w' := by
  subst hM; subst hE; exact vFormat_any w
theorem Store_lit (N : Nat) (E : Int) (m : Mem) (x : Lea) (tick : Int) (A : Option Addr) (c : Nat) (w : World) (hN : (stoM m x tick).length = N) (hE : stoE m x tick = E) (hA : RdB w w.heap.size A m.2) (hc : m.2.length ≤ c) (hW : Wd w) :
    Calls Tryz.prog 5 #[.agg #[.int .i64 m.1, .slice A m.2.length c], .agg #[.int .i64 x.n, .int .i64 x.c, .int .i64 x.a, .int .i64 x.f, .int .i64 x.t], .int .i64 tick] w fun e w' => ∃ A c, e = .returned (.tuple #[.slice A N c, .int .i64 E]) ∧ N ≤ c ∧ RdFs w' w'.heap.size A (stoM m x tick) ∧ Below w.heap.size w w' := by
  subst hN; subst hE; exact vStore_any m x tick A c w hA hc hW
theorem Next_lit (N E : Int) (m : Mem) (A : Option Addr) (c : Nat) (w : World) (hN : nextN m = N) (hE : nextE m = E) (hA : RdB w w.heap.size A m.2) (hc : m.2.length ≤ c) (hW : Wd w) :
    Calls Tryz.prog 9 #[.agg #[.int .i64 m.1, .slice A m.2.length c]] w fun e w' => e = .returned (.tuple #[.int .i64 N, .int .i64 E]) ∧ Below w.heap.size w w' := by
  subst hN; subst hE; exact Next_any m A c w hA hc hW
theorem Load_n (n : Nat) (s : Int) (N : Nat) (L : List Lea) (E : Int) (m : Mem) (A : Option Addr) (c : Nat) (w : World) (hs : m.1 = s) (hn : m.2.length = n) (hN : L.length = N) (hL : loadL m = L) (hE : loadE m = E) (hA : RdB w w.heap.size A m.2) (hc : m.2.length ≤ c) (hW : Wd w) :
    Calls Tryz.prog 7 #[.agg #[.int .i64 s, .slice A n c]] w fun e w' => ∃ A c, e = .returned (.tuple #[.slice A N c, .int .i64 E]) ∧ N ≤ c ∧ RdL w' w'.heap.size A L ∧ Below w.heap.size w w' := by
  subst hs; subst hn; subst hN; exact Load_lit L E m A c w hL hE hA hc hW
theorem Same_lit (n1 n2 : Nat) (l1 l2 : List Lea) (A1 A2 : Option Addr) (c1 c2 : Nat) (w : World) (h : l1 = l2) (e1 : l1.length = n1) (e2 : l2.length = n2) (h1 : RdL w w.heap.size A1 l1) (h2 : RdL w w.heap.size A2 l2) (hn : l1.length ≤ 1000000000) :
    Calls Tryz.prog 14 #[.slice A1 n1 c1, .slice A2 n2 c2] w fun e w' => e = .returned (.bool true) ∧ Below w.heap.size w w' := by
  subst e1; subst e2; exact Ls.rSame_eq l1 l2 A1 A2 c1 c2 w h h1 h2 hn

/-- storing into a clean journal with room -/
theorem fresh {m : Mem} {l : List Lea} {x : Lea} {tick : Int} (hC : Cj m (l.map packL)) (hL : loadE m = 0) (hl : loadL m = l) (ha : argB x tick = true) (ho : oldB l x = false) (hr : 24 + 19 * l.length ≤ 1024) :
    stoE m x tick = 0 ∧ ∃ (F : List (List UInt8)) (z : List UInt8), stoM m x tick = (F.map (mk m)) ++ [mk m z] ∧ F.length = 19 ∧ Cj (mk m z) ((l ++ [x]).map packL) ∧ (loadE (mk m z) = 0 ∧ loadL (mk m z) = l ++ [x]) ∧ ∀ y ∈ F, loadE (mk m y) = 0 ∧ loadL (mk m y) = l := by
  obtain ⟨m1, m2, m3, m4, m5⟩ := load_ok hL
  rw [hl] at m4 m5
  have hH := load_vm hL
  have hp := packL_length x
  obtain ⟨h0, _⟩ := cj_fits hC (packL x) (by omega) (by rw [room_pack, hp]; omega)
  obtain ⟨e1, e2⟩ := sto_app hL ha (by rw [hl]; exact ho) (by rw [h0]; decide)
  obtain ⟨F, z, hS⟩ := app_steps m3 _ h0
  have hF : F.length = 19 := by
    obtain ⟨a, l', e, hJ⟩ := Jr.of m3
    have hcl := hC.2.2.2
    have hfin := hC.2.2.1
    rw [hJ.look.2] at hcl hfin
    simp only at hcl hfin
    obtain ⟨F', z', h1, _, h3, _⟩ := app_list hJ hcl (packL x) (by omega) (by rw [hfin, room_pack, hp]; omega)
    have h4 : appL m (packL x) = F' ++ [z'] := by unfold appL; rw [if_pos h0, if_pos hC.2.2.2, h1]
    have h5 := congrArg List.length (hS.split.symm.trans h4)
    simp at h5
    omega
  have hrr : (lookC m).recs ++ [packL x] = (l ++ [x]).map packL := by rw [m4]; simp
  rw [hrr] at hS
  have hvv : vlB (l ++ [x]) = true := follow_snoc (k := 0) m5 (sto_arg ha).1 ho (by omega)
  refine ⟨by rw [e1, h0], F, z, ?_, hF, ⟨hS.zok, hS.zrecs, hS.zfin, hS.zclean⟩, load_of m1 (by rw [show (mk m z).2 = z from rfl, hS.zlen, m2]) hS.zok hS.zrecs hvv, fun y hy => ?_⟩
  · rw [e2]; unfold appM; rw [hS.split, List.map_append]; rfl
  · obtain ⟨k1, k2, k3, k4, k5⟩ := hS.mid y hy
    exact load_of m1 (by rw [show (mk m y).2 = y from rfl, k1, m2]) k2 (by rw [k3, m4]) m5
def hx0 : Lea := ⟨4, 1, 16, 100, 12⟩
def hy0 : Lea := ⟨9, 2, 32, 105, 12⟩
def hv0 : Mem := fmtM 512 4
def hv1 : Mem := lastM hv0 (stoM hv0 hx0 100) 0
def hv2 : Mem := lastM hv1 (stoM hv1 hy0 105) 0
theorem hh1 : stoE hv0 hx0 100 = 0 ∧ (stoM hv0 hx0 100).length = 20 ∧ Cj hv1 ([hx0].map packL) ∧ loadE hv1 = 0 ∧ loadL hv1 = [hx0] := by
  obtain ⟨_, f2, f3, f4⟩ := fmt_vault
  obtain ⟨h1, F, z, h2, h3, h4, h5, h6⟩ := fresh (m := hv0) (l := []) (x := hx0) (tick := 100) f4 f2 f3 (by decide) (by decide) (by decide)
  have e : hv1 = mk hv0 z := by unfold hv1 lastM; rw [if_pos rfl, h2]; simp
  rw [e]
  exact ⟨h1, by rw [h2]; simp [h3], h4, h5.1, h5.2⟩
theorem hh2 : stoE hv1 hy0 105 = 0 ∧ (stoM hv1 hy0 105).length = 20 ∧ (stoM hv1 hy0 105)[19]? = some hv2 ∧ (∃ t, (stoM hv1 hy0 105)[7]? = some t ∧ loadE t = 0 ∧ loadL t = [hx0]) ∧ loadE hv2 = 0 ∧ loadL hv2 = [hx0, hy0] := by
  obtain ⟨_, _, f4, f2, f3⟩ := hh1
  obtain ⟨h1, F, z, h2, h3, h4, h5, h6⟩ := fresh (m := hv1) (l := [hx0]) (x := hy0) (tick := 105) f4 f2 f3 (by decide) (by decide) (by decide)
  have e : hv2 = mk hv1 z := by
    have h9 : lastM hv1 (stoM hv1 hy0 105) 0 = mk hv1 z := by unfold lastM; rw [if_pos rfl, h2]; simp
    exact h9
  rw [e]
  refine ⟨h1, by rw [h2]; simp [h3], by rw [h2, List.getElem?_append_right (by simp [h3])]; simp [h3], ⟨mk hv1 (F[7]'(by omega)), ?_, h6 _ (List.getElem_mem _)⟩, h5.1, h5.2⟩
  rw [h2, List.getElem?_append_left (by simp [h3]), List.getElem?_map, List.getElem?_eq_getElem (by omega)]
  rfl
theorem hh3 : nextE hv2 = 0 ∧ nextN hv2 = 10 ∧ nextE hv0 = 0 ∧ nextN hv0 = 1 ∧ stoE hv2 hy0 105 = 12 ∧ (stoM hv2 hy0 105).length = 0 := by
  obtain ⟨_, _, _, _, a1, a2⟩ := hh2
  obtain ⟨_, b1, b2, _⟩ := fmt_vault
  have e1 : oldB (loadL hv2) hy0 = true := by rw [a2]; decide
  obtain ⟨c1, c2⟩ := sto_old (tick := 105) a1 (by decide) e1
  refine ⟨?_, ?_, ?_, ?_, c1, by rw [c2]; rfl⟩
  · unfold nextE; rw [a1, a2]; decide
  · unfold nextN; rw [a1, a2]; decide
  · show nextE (fmtM 512 4) = 0; unfold nextE; rw [b1, b2]; decide
  · show nextN (fmtM 512 4) = 1; unfold nextN; rw [b1, b2]; decide
theorem hh4 : loadE (512, List.replicate 1024 0) = 1 ∧ loadL (512, List.replicate 1024 0) = [] := load_far (by simp [vmB])
theorem hh5 : hv2.1 = 512 ∧ hv2.2.length = 2048 ∧ hv1.1 = 512 ∧ hv1.2.length = 2048 ∧ hv0.1 = 512 ∧ hv0.2.length = 2048 :=
  ⟨(load_ok hh2.2.2.2.2.1).1, (load_ok hh2.2.2.2.2.1).2.1, (load_ok hh1.2.2.2.1).1, (load_ok hh1.2.2.2.1).2.1, (load_ok fmt_vault.2.1).1, (load_ok fmt_vault.2.1).2.1⟩
end Go.Proofs.YthebojaminploaaGreatDoor
