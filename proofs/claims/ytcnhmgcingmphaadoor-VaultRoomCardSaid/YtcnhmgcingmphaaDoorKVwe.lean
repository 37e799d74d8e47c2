/- The law VaultSequence, walked. -/
import Derived.Test.YtcnhmgcingmphaaDoorKVh
import Derived.Test.YtcnhmgcingmphaaDoorKVwa
import Derived.Test.YtcnhmgcingmphaaDoorKVwb
import Derived.Test.YtcnhmgcingmphaaDoorKVs
import Derived.Test.YtcnhmgcingmphaaDoorKRoundV
import Derived.Test.YtcnhmgcingmphaaDoorKLY
import Derived.BigQuiet
set_option maxRecDepth 100000
set_option linter.unusedVariables false
set_option linter.unusedSimpArgs false
namespace Go.Proofs.YtcnhmgcingmphaaDoor
open Go.RowKit Go.Sort Go.Shelf

/-- the law's last, of memories of the call's own -/
theorem last_ms (base : Nat) (f1 s : Int) (n : Nat) (pre : List Itm) (x : Itm) (v : Value) (A : Option Addr) (c : Nat) (w : World) (hm : Ms base s (pre ++ [x]) v w) (hl : pre.length ≤ 1000000) :
    Calls Tryd.prog 15 #[.agg #[.int .i64 f1, .slice A n c], v, .int .i64 0] w fun e w' => e = .returned (.agg #[.int .i64 s, .slice x.1 x.2.2.length x.2.1]) ∧ Below w.heap.size w w' := by
  obtain ⟨g, cap, rfl⟩ : ∃ g cap, v = .slice (some ⟨g, 0, none⟩) (pre.length + 1) cap := by
    obtain ⟨g, cap, hv⟩ := ownsRow_succ (k := pre.length) (by simpa using hm.1)
    exact ⟨g, cap, hv⟩
  obtain ⟨q1, q2⟩ := cellsE_get s (pre ++ [x]) pre.length x (by simp)
  have hr := RdS.of_own (A := some ⟨g, 0, none⟩) (n := pre.length + 1) (by simpa using hm.1)
  obtain ⟨b, o, e, _, hc⟩ := hr.2 (by omega)
  obtain ⟨rfl, rfl⟩ : g = b ∧ 0 = o := by simpa using e
  have z0 := hc _ _ q1
  have z1 := hc _ _ q2
  rw [Nat.zero_add] at z0 z1
  have lg : g < w.heap.size := (own_lt hm.1 rfl).2
  have e0 : ((0 : Int) != 0) = false := rfl
  have e1 : (((pre.length : Int) + 1) == 0) = false := by rw [beq_eq_false_iff_ne]; omega
  have i1 : (0 : Int) ≤ (pre.length : Int) := by omega
  have i2 : (pre.length : Int) < (pre.length : Int) + 1 := by omega
  clear e hc hr q1 q2 hm
  go_enter Tryd.func15, Tryd.ntmps15
  go_wp2
  obtain ⟨X, hX⟩ : ∃ Zz, Zz = ((w.alloc (.cells #[.int .i64 f1, .slice A n c] 24)).alloc (.cells #[.int .i64 s, .slice x.1 x.2.2.length x.2.1] 24)) := ⟨_, rfl⟩
  have kX : Bk X (w.heap.size + 1) 24 #[.int .i64 s, .slice x.1 x.2.2.length x.2.1] := by rw [hX]; exact bkOf (by simp [at?_alloc])
  have hbX : Below w.heap.size w X := by rw [hX]; exact al2 _ _ _
  rw [← hX]
  obtain ⟨u0, u1⟩ := box2 kX
  clear hX
  exact bodyPost_ret (v := .agg #[.int .i64 s, .slice x.1 x.2.2.length x.2.1]) (by simp [results, Tryd.results15, go_sem, u0, u1]) rfl ⟨rfl, hbX⟩

/-- between two rounds -/
structure Rd (w : World) (Bf : Nat) (fm : Mem) (al : List Lea) (A : Option Addr) (c : Nat) (v : Value) (wr : World) : Prop where
  intro ::
  sq : Sq fm al
  box : Bk wr Bf 24 #[.int .i64 fm.1, .slice A fm.2.length c]
  rd : RdB wr wr.heap.size A fm.2
  cap : fm.2.length ≤ c
  own : wr.ownsRow w.heap.size 26 5 v al.length (lsc al)
  sep : ∀ g, v.ownBlock = some g → ∀ b o, A = some ⟨b, o, none⟩ → b ≠ g
  below : Below w.heap.size w wr
theorem Rd.next {w : World} {Bf : Nat} {fm : Mem} {al : List Lea} {A : Option Addr} {c : Nat} {v : Value} {wr w' : World} (h : Rd w Bf fm al A c v wr) (hb : Below wr.heap.size wr w') : Rd w Bf fm al A c v w' :=
  ⟨h.sq, h.box.next hb, h.rd.next hb, h.cap, own_on h.own hb, h.sep, bt hb h.below⟩
/-- inside a round, behind Store: the variable f, the lease, all of them, the last memory -/
structure Rg (w : World) (Bf Bx : Nat) (b0 b1 : Value) (al : List Lea) (v : Value) (x : Lea) (y : Itm) (W : World) : Prop where
  intro ::
  yr : W.ownsRow 0 5 1 (cellB y) y.2.2.length (u8s y.2.2)
  own : W.ownsRow w.heap.size 26 5 v al.length (lsc al)
  box : Bk W Bf 24 #[b0, b1]
  xb : Bk W Bx 26 #[.int .i64 x.n, .int .i64 x.c, .int .i64 x.a, .int .i64 x.f, .int .i64 x.t]
  xn : v.ownBlock ≠ some Bx
  below : Below w.heap.size w W
section
variable {w : World} {Bf Bx Bn : Nat} {b0 b1 u0 u1 : Value} {al : List Lea} {v v' v1 : Value} {x : Lea} {y : Itm} {s : Int} {its : List Itm} {W W' : World}
theorem Rg.next (h : Rg w Bf Bx b0 b1 al v x y W) (hb : Below W.heap.size W W') : Rg w Bf Bx b0 b1 al v x y W' :=
  ⟨own_on h.yr hb, own_on h.own hb, h.box.next hb, h.xb.next hb, h.xn, bt hb h.below⟩
theorem Rg.grow (h : Rg w Bf Bx b0 b1 al v x y W) (ho : W'.ownsRow w.heap.size 26 5 v' (al.length + 1) (lsc al ++ [.int .i64 x.n, .int .i64 x.c, .int .i64 x.a, .int .i64 x.f, .int .i64 x.t])) (hg : W.grownBy W' v.ownBlock) (hat : v'.ownBlock = v.ownBlock ∨ v'.ownBlock = some W.heap.size) : Rg w Bf Bx b0 b1 (al ++ [x]) v' x y W' := by
  refine ⟨own_keep h.yr (fun g hgg => hg.block g (own_lt h.yr hgg).2 (fun e => own_apart h.yr h.own (by decide) hgg e.symm)), by rw [List.length_append, lsc_snoc]; exact ho, Bk.grown h.box hg (own_ne h.own h.box (by decide)), Bk.grown h.xb hg (fun e => h.xn e.symm), ?_, h.below.grown hg h.below.size (fun k hk => (own_lt h.own hk).1)⟩
  rcases hat with e | e
  · rw [e]; exact h.xn
  · rw [e]; intro h9; injection h9 with h9; have := h.xb.lt; omega
theorem Rg.msgrow (h : Rg w Bf Bx b0 b1 al v x y W) (hm : Ms 0 s its v1 W) (hg : W.grownBy W' v.ownBlock) : Ms 0 s its v1 W' :=
  hm.keep (fun g hgg => hg.block g (own_lt hm.1 hgg).2 (fun e => own_apart hm.1 h.own (by decide) hgg e.symm)) (fun y hy g hgg => hg.block g (own_lt (hm.2 y hy) hgg).2 (fun e => own_apart (hm.2 y hy) h.own (by decide) hgg e.symm))
theorem Rg.put (h : Rg w Bf Bx b0 b1 al v x y W) (hw : w.heap.size ≤ Bf) (u0 u1 : Value) : Rg w Bf Bx u0 u1 al v x y ((W.setCell ⟨Bf, 0, none⟩ u0).setCell ⟨Bf, 1, none⟩ u1) := by
  have kk : ∀ g, g ≠ Bf → ((W.setCell ⟨Bf, 0, none⟩ u0).setCell ⟨Bf, 1, none⟩ u1).heap[g]? = W.heap[g]? := fun g hg =>
    (Below.heap_setCell _ ⟨Bf, 1, none⟩ _ g hg).trans (Below.heap_setCell _ ⟨Bf, 0, none⟩ _ g hg)
  exact ⟨own_keep h.yr (fun g hg => kk g (fun e => by subst e; exact own_ne h.yr h.box (by decide) hg.symm)), own_keep h.own (fun g hg => kk g (fun e => by subst e; exact own_ne h.own h.box (by decide) hg.symm)), by simpa using (h.box.set 0 u0).set 1 u1, (kk Bx (Bk.ne h.xb h.box (by decide))).trans h.xb, h.xn, (h.below.setCell (p := ⟨Bf, 0, none⟩) hw _).setCell (p := ⟨Bf, 1, none⟩) hw _⟩
theorem Rg.far (h : Rg w Bf Bx b0 b1 al v x y W) (hk : Bk W Bn 26 #[.int .i64 x.n, .int .i64 x.c, .int .i64 x.a, .int .i64 x.f, .int .i64 x.t]) (u0 u1 : Value) : Bk ((W.setCell ⟨Bf, 0, none⟩ u0).setCell ⟨Bf, 1, none⟩ u1) Bn 26 #[.int .i64 x.n, .int .i64 x.c, .int .i64 x.a, .int .i64 x.f, .int .i64 x.t] :=
  ((Below.heap_setCell _ ⟨Bf, 1, none⟩ _ Bn (Bk.ne hk h.box (by decide))).trans (Below.heap_setCell _ ⟨Bf, 0, none⟩ _ Bn (Bk.ne hk h.box (by decide)))).trans hk
theorem Rg.fin {fm : Mem} (h : Rg w Bf Bx (.int .i64 fm.1) (.slice y.1 y.2.2.length y.2.1) al v x y W) (hq : Sq (fm.1, y.2.2) al) : Rd w Bf (fm.1, y.2.2) al y.1 y.2.1 v W := by
  obtain ⟨A', c', e', hc', hr'⟩ := own_read h.yr
  have ea : y.1 = A' ∧ y.2.1 = c' := by simpa [cellB] using e'
  rw [← ea.1] at hr'
  refine ⟨hq, h.box, hr', by rw [ea.2]; exact hc', h.own, fun g hg b o e9 e10 => ?_, h.below⟩
  subst e10
  have hb0 : (cellB y).ownBlock = some b := by rw [cellB, e9]; rfl
  exact own_apart h.yr h.own (by decide) hb0 hg
end
/-- what Store did, for the round -/
theorem seq_walk {m : Mem} {x : Lea} {al : List Lea} {its : List Itm} (h : stoE m x x.f = 0) (hq : Sq m al) (hl : al.length < 64) (hm : (its.map fun i => ((m.1, i.2.2) : Mem)) = stoM m x x.f) : ∃ pr y, its = pr ++ [y] ∧ pr.length ≤ 1000000 ∧ Sq (m.1, y.2.2) (al ++ [x]) := by
  obtain ⟨L, F, z, af, hs⟩ := sto_of h
  obtain ⟨e, h1, h2⟩ := hs.ok
  rw [e] at hm
  have hne : its ≠ [] := by intro e'; rw [e'] at hm; simp at hm
  refine ⟨its.dropLast, its.getLast hne, (List.dropLast_concat_getLast hne).symm, ?_, ?_⟩
  · have h9 := congrArg List.length hm
    simp at h9 ⊢
    omega
  · have h9 := hm
    rw [← List.dropLast_concat_getLast hne, List.map_append] at h9
    have h8 := List.append_inj_right' h9 (by simp)
    simp only [List.map_cons, List.map_nil, List.cons.injEq, and_true] at h8
    rw [h8]
    exact hq.step (Int.le_refl _) hs hl
theorem Ints_lit (l1 l2 : List Int) (A1 A2 : Option Addr) (c1 c2 : Nat) (w : World) (h : l1 = l2) (e1 : l1.length = 16) (h1 : RdI w w.heap.size A1 l1) (h2 : RdI w w.heap.size A2 l2) :
    Calls Tryd.prog 21 #[.slice A1 16 c1, .slice A2 16 c2] w fun e w' => e = .returned (.bool true) ∧ Below w.heap.size w w' := by
  have e2 : l2.length = 16 := by rw [← h]; exact e1
  have := Ls.rInts_eq l1 l2 A1 A2 c1 c2 w h h1 h2 (by omega)
  rwa [e1, e2] at this
set_option maxHeartbeats 8000000 in
theorem VaultSequence_walk (l : List Lea) (later : Int) (Al : Option Addr) (cl : Nat) (w : World) (hln : l.length ≤ 9223372036854775807) (hW : Wd w) (hl : RdL w w.heap.size Al l) :
    Calls Tryd.prog 8 #[.slice Al l.length cl, .int .i64 later] w fun e w' => e = .returned (.bool true) ∧ Below w.heap.size w w' := by
  have F_W := Lib.hid hW
  have F_l := Lib.hid hl
  have HB := Lib.hid (Below.refl w.heap.size w)
  clear hW hl
  by_cases h60 : 60 < l.length
  · have z1 : (60 : Int) < (l.length : Int) := by omega
    go_enter Tryd.func8, Tryd.ntmps8
    go_wp2_with fail
    refine (head_any _ F_W.out).mono ?_
    rintro e V1 ⟨rfl, hb⟩
    have hB := hb
    replace F_W := Lib.hid (F_W.out.next hB)
    replace F_l := Lib.hid (F_l.out.next hB)
    replace HB := Lib.hid (bt hB HB.out)
    clear hb hB
    go_wp2_with fail
    refine (vFormat_lit hv0 0 _ rfl fmt_vault.1).mono ?_
    rintro e V2 ⟨Af, cf, rfl, hcf, rf, hb⟩
    have hB := hb
    replace F_W := Lib.hid (F_W.out.next hB)
    replace F_l := Lib.hid (F_l.out.next hB)
    replace HB := Lib.hid (bt hB HB.out)
    clear hb hB
    have F_f := Lib.hid (rf)
    clear rf
    go_wp2
    go_ret
    exact ⟨rfl, bt (al1 _ _) HB.out⟩
  · by_cases hl0 : later < 0
    · have z1 : ¬ (60 : Int) < (l.length : Int) := by omega
      have z2 : later < 0 := hl0
      go_enter Tryd.func8, Tryd.ntmps8
      go_wp2_with fail
      refine (head_any _ F_W.out).mono ?_
      rintro e V1 ⟨rfl, hb⟩
      have hB := hb
      replace F_W := Lib.hid (F_W.out.next hB)
      replace F_l := Lib.hid (F_l.out.next hB)
      replace HB := Lib.hid (bt hB HB.out)
      clear hb hB
      go_wp2_with fail
      refine (vFormat_lit hv0 0 _ rfl fmt_vault.1).mono ?_
      rintro e V2 ⟨Af, cf, rfl, hcf, rf, hb⟩
      have hB := hb
      replace F_W := Lib.hid (F_W.out.next hB)
      replace F_l := Lib.hid (F_l.out.next hB)
      replace HB := Lib.hid (bt hB HB.out)
      clear hb hB
      have F_f := Lib.hid (rf)
      clear rf
      go_wp2
      go_ret
      exact ⟨rfl, bt (al1 _ _) HB.out⟩
    · by_cases hl1 : 1100000 < later
      · have z1 : ¬ (60 : Int) < (l.length : Int) := by omega
        have z2 : ¬ later < 0 := hl0
        have z3 : 1100000 < later := hl1
        go_enter Tryd.func8, Tryd.ntmps8
        go_wp2_with fail
        refine (head_any _ F_W.out).mono ?_
        rintro e V1 ⟨rfl, hb⟩
        have hB := hb
        replace F_W := Lib.hid (F_W.out.next hB)
        replace F_l := Lib.hid (F_l.out.next hB)
        replace HB := Lib.hid (bt hB HB.out)
        clear hb hB
        go_wp2_with fail
        refine (vFormat_lit hv0 0 _ rfl fmt_vault.1).mono ?_
        rintro e V2 ⟨Af, cf, rfl, hcf, rf, hb⟩
        have hB := hb
        replace F_W := Lib.hid (F_W.out.next hB)
        replace F_l := Lib.hid (F_l.out.next hB)
        replace HB := Lib.hid (bt hB HB.out)
        clear hb hB
        have F_f := Lib.hid (rf)
        clear rf
        go_wp2
        go_ret
        exact ⟨rfl, bt (al1 _ _) HB.out⟩
      · have z1 : ¬ (60 : Int) < (l.length : Int) := by omega
        have z2 : ¬ later < 0 := hl0
        have z3 : ¬ 1100000 < later := hl1
        have F_W0 := F_W
        have F_l0 := F_l
        obtain ⟨i0, hi, hz0, hz1, hz2⟩ := info_parts Ls.info_lease
        go_enter Tryd.func8, Tryd.ntmps8
        go_wp2_with fail
        refine (head_any _ F_W.out).mono ?_
        rintro e V1 ⟨rfl, hb⟩
        have hB := hb
        replace F_W := Lib.hid (F_W.out.next hB)
        replace F_l := Lib.hid (F_l.out.next hB)
        replace HB := Lib.hid (bt hB HB.out)
        clear hb hB
        go_wp2_with fail
        refine (vFormat_lit hv0 0 _ rfl fmt_vault.1).mono ?_
        rintro e V2 ⟨Af, cf, rfl, hcf, rf, hb⟩
        have hB := hb
        replace F_W := Lib.hid (F_W.out.next hB)
        replace F_l := Lib.hid (F_l.out.next hB)
        replace HB := Lib.hid (bt hB HB.out)
        clear hb hB
        have F_f := Lib.hid (rf)
        clear rf

        go_wp2
        obtain ⟨Bf, hBf⟩ : ∃ Bf, Bf = V2.heap.size := ⟨_, rfl⟩
        obtain ⟨U3, hU3⟩ : ∃ Zz, Zz = V2.alloc (.cells #[.int .i64 hv0.1, .slice Af hv0.2.length cf] 24) := ⟨_, rfl⟩
        have k3 : Bk U3 Bf 24 #[.int .i64 hv0.1, .slice Af hv0.2.length cf] := by rw [hU3, hBf]; exact Bk.new _ _ _
        have hb3 : Below V2.heap.size V2 U3 := by rw [hU3]; exact al1 _ _
        have hwB : w.heap.size ≤ Bf := by rw [hBf]; exact HB.out.size
        rw [← hU3, ← hBf]
        have RD0 : Hid (Rd w Bf hv0 [] Af cf (.slice none 0 0) U3) := ⟨Sq.begin fmt_vault.2.1 fmt_vault.2.2.1, k3, F_f.out.next hb3, hcf, World.ownsRow_nil _ _ _ _, by intro g hg; simp [Value.ownBlock] at hg, bt hb3 HB.out⟩
        clear hU3 hBf k3 hb3 F_f
        go_loopw [8, 46] (fun v i wr => ∃ (k : Nat) (fm : Mem) (al : List Lea) (A : Option Addr) (c : Nat), i = .int .i64 (k : Int) ∧ k ≤ l.length ∧ al.length ≤ k ∧ Rd w Bf fm al A c v wr) (fun _ i _ => l.length - (intOf i).toNat)
        case atStart => exact ⟨0, hv0, [], Af, cf, rfl, Nat.zero_le _, Nat.zero_le _, RD0.out⟩
        case round =>
          obtain ⟨k, fm, al, A, c, rfl, hk, hak, rd⟩ := hrel
          have RD := Lib.hid rd
          obtain ⟨c60, c61⟩ := box2 rd.box
          have lBf := rd.box.lt
          have lwr := rd.below.size
          obtain ⟨Av, cv, rfl, hcv, hrv⟩ := own_read rd.own
          have HRV := Lib.hid hrv
          clear rd hrv
          by_cases hlt : k < l.length
          · obtain ⟨b1, o1, e1, hb1, y0, y1, y2, y3, y4⟩ := ((show RdL w w.heap.size Al l from F_l0.out).next RD.out.below).at_ hlt
            subst e1
            obtain ⟨x, hx⟩ : ∃ x, x = l[k] := ⟨_, rfl⟩
            rw [← hx] at y0 y1 y2 y3 y4
            have k1 : (0 : Int) ≤ (k : Int) := by omega
            have k2 : (k : Int) < (l.length : Int) := by omega
            clear hx
            by_cases h0 : stoE fm x x.f = 0
            · have H0 := Lib.hid h0
              have HG := Lib.hid h0
              clear h0
              go_wp2_with fail
              have HST := vStore_m fm x x.f A c (wr.alloc (.cells #[.int .i64 x.n, .int .i64 x.c, .int .i64 x.a, .int .i64 x.f, .int .i64 x.t] 26)) (RD.out.rd.next (al1 _ _)) RD.out.cap (F_W0.out.next (bt (al1 _ _) RD.out.below))
              rw [HG.out] at HST
              refine HST.mono ?_
              rintro e X1 ⟨v1, its, rfl, hms, hmap, hb⟩
              obtain ⟨A1, c1, rfl, hc1, _⟩ := own_read hms.1
              have kx : Bk X1 wr.heap.size 26 #[.int .i64 x.n, .int .i64 x.c, .int .i64 x.a, .int .i64 x.f, .int .i64 x.t] := (Bk.new _ _ _).next hb
              have hB := bt hb (al1 wr (.cells #[.int .i64 x.n, .int .i64 x.c, .int .i64 x.a, .int .i64 x.f, .int .i64 x.t] 26))
              have RD1 := Lib.hid (RD.out.next hB)
              have HMS := Lib.hid hms
              have HMP := Lib.hid hmap
              clear y0 y1 y2 y3 y4 c60 c61 lBf hb HST hms hmap
              obtain ⟨pr, y, rfl, hpr, hsq⟩ := seq_walk H0.out RD.out.sq (by omega) HMP.out
              have hlen : (pr ++ [y]).length = pr.length + 1 := by simp
              rw [hlen] at HMS ⊢
              have hal1 : (al ++ [x]).length = al.length + 1 := by simp
              have HSQ := Lib.hid hsq
              have RGX : Hid (Rg w Bf wr.heap.size (.int .i64 fm.1) (.slice A fm.2.length c) al (.slice Av al.length cv) x y X1) := ⟨HMS.out.2 y (by simp), RD1.out.own, RD1.out.box, kx, fun e => by have := (own_lt RD.out.own e).2; omega, RD1.out.below⟩
              have c60 := (box2 RD1.out.box).1
              have c61 := (box2 RD1.out.box).2
              obtain ⟨x0, x1, x2, x3, x4⟩ := Ls.box5 kx
              have lBf := RD1.out.box.lt
              clear hsq hlen HMP
              go_wp2
              refine region_V (fun w' => w'.cell? ⟨Bf, 0, none⟩ = some (.int .i64 fm.1) ∧ w'.cell? ⟨Bf, 1, none⟩ = some (.slice A fm.2.length c)) (fun w' => w'.cell? ⟨wr.heap.size, 0, none⟩ = some (.int .i64 x.n) ∧ w'.cell? ⟨wr.heap.size, 1, none⟩ = some (.int .i64 x.c) ∧ w'.cell? ⟨wr.heap.size, 2, none⟩ = some (.int .i64 x.a) ∧ w'.cell? ⟨wr.heap.size, 3, none⟩ = some (.int .i64 x.f) ∧ w'.cell? ⟨wr.heap.size, 4, none⟩ = some (.int .i64 x.t)) 8 (by kernel_rfl) ?_
              obtain ⟨W0, hW0⟩ : ∃ Zz, Zz = X1.drew := ⟨_, rfl⟩
              have hb0 : Below X1.heap.size X1 W0 := by rw [hW0]; exact (Below.refl _ X1).drew
              rw [← hW0]
              clear hW0
              have RG0 := Lib.hid (RGX.out.next hb0)
              have MS0 := Lib.hid (HMS.out.next hb0)
              have HS0 := box2 RG0.out.box
              have HSX := Ls.box5 RG0.out.xb
              clear hb0 c60 c61 x0 x1 x2 x3 x4 lBf
              refine anyV_take (i := 0) rfl (by kernel_rfl) (by kernel_rfl) (by kernel_rfl) (by kernel_rfl) (by kernel_rfl) (fun _ _ _ h => h) (Or.inl ⟨by rfl, fun w' hS' => (by obtain ⟨s1, s2⟩ := hS'; go_simp; try with_reducible rfl)⟩) HS0 HSX ?_
              refine anyV_take (i := 1) rfl (by kernel_rfl) (by kernel_rfl) (by kernel_rfl) (by kernel_rfl) (by kernel_rfl) (fun _ _ _ h => h) (Or.inl ⟨by rfl, fun w' hS' => (by obtain ⟨s1, s2⟩ := hS'; go_simp; try with_reducible rfl)⟩) HS0 HSX ?_
              refine anyV_take (i := 2) rfl (by kernel_rfl) (by kernel_rfl) (by kernel_rfl) (by kernel_rfl) (by kernel_rfl) (fun _ _ _ h => h) (Or.inl ⟨by rfl, fun w' hS' => (by obtain ⟨s1, s2⟩ := hS'; go_simp; try with_reducible rfl)⟩) HS0 HSX ?_
              refine anyV_take2 (i := 4) rfl (by decide) (by kernel_rfl) (by kernel_rfl) (by kernel_rfl) (fun _ _ _ h => h) (Or.inl ⟨by rfl, fun w' hS' => (by obtain ⟨s1, s2, s3, s4, s5⟩ := hS'; go_simp; try with_reducible rfl)⟩) HS0 HSX ?_
              refine anyV_take2 (i := 5) rfl (by decide) (by kernel_rfl) (by kernel_rfl) (by kernel_rfl) (fun _ _ _ h => h) (Or.inl ⟨by rfl, fun w' hS' => (by obtain ⟨s1, s2, s3, s4, s5⟩ := hS'; go_simp; try with_reducible rfl)⟩) HS0 HSX ?_
              clear HS0 HSX
              refine anyV_two (i := 3) (j := 6) (by kernel_rfl) rfl rfl rfl rfl (fun K hK => ?_) (fun K hK => ?_)
              · have HLC := Lib.hid (last_ms 0 fm.1 fm.1 fm.2.length pr y (.slice A1 (pr.length + 1) c1) A c W0 MS0.out hpr)
                go_simp
                refine HLC.out.mono ?_
                rintro e W1 ⟨rfl, hb⟩
                have RG1 := Lib.hid (RG0.out.next hb)
                go_simp
                clear HLC hb
                refine hK _ _ (fun _ => box2 RG1.out.box) (Ls.box5 RG1.out.xb) ?_
                clear hK K
                refine anyV_one (i := 6) (by kernel_rfl) rfl rfl (fun K hK => ?_)
                go_simp
                obtain ⟨W2, hW2⟩ : ∃ Zz, Zz = W1.alloc (.cells #[.int .i64 x.n, .int .i64 x.c, .int .i64 x.a, .int .i64 x.f, .int .i64 x.t] 26) := ⟨_, rfl⟩
                have hb : Below W1.heap.size W1 W2 := by rw [hW2]; exact al1 _ _
                have kn : Bk W2 W1.heap.size 26 #[.int .i64 x.n, .int .i64 x.c, .int .i64 x.a, .int .i64 x.f, .int .i64 x.t] := by rw [hW2]; exact Bk.new _ _ _
                rw [← hW2]
                clear hW2
                have RG2 := Lib.hid (RG1.out.next hb)
                obtain ⟨Bn, hBn⟩ : ∃ Bn, Bn = W1.heap.size := ⟨_, rfl⟩
                rw [← hBn] at kn ⊢
                have KN2 := Lib.hid kn
                clear hb kn hBn
                refine hK _ _ (fun _ => box2 RG2.out.box) (Ls.box5 RG2.out.xb) ?_
                clear hK K
                refine anyV_one (i := 7) (by kernel_rfl) rfl rfl (fun K hK => ?_)
                refine wp_append_rd _ (.tmp 64) (.tmp 66) _ (by rfl) w.heap.size 26 i0 _ 5 40 Tryd.underlying28 hi hz0 hz1 hz2 rfl (by omega) (.slice Av al.length cv) al.length (lsc al) (by rfl) RG2.out.own W2.heap.size (some ⟨Bn, 0, none⟩) 1 1 [.int .i64 x.n, .int .i64 x.c, .int .i64 x.a, .int .i64 x.f, .int .i64 x.t] (by rfl) (Ls.rd_bk5 KN2.out KN2.out.lt) (by simp [Value.oneCell']) (by simp only [maxLen]; omega) (by omega) RG2.out.below.size ?_
                intro v3 W3 hown3 hg3 hat3
                have RG3 := Lib.hid (RG2.out.grow hown3 hg3 hat3)
                obtain ⟨A7, c7, rfl, _, _⟩ := own_read RG3.out.own
                rw [hal1] at RG3 ⊢
                clear hown3 hg3 hat3
                refine hK _ _ (fun _ => box2 RG3.out.box) (Ls.box5 RG3.out.xb) ?_
                clear hK K
                refine anyV_one (i := 8) (by kernel_rfl) rfl rfl (fun K hK => ?_)
                have f60 := RG3.out.box.frozen 0
                have f61 := RG3.out.box.frozen 1
                have c60 := (box2 RG3.out.box).1
                have c61 := (box2 RG3.out.box).2
                have lBf := RG3.out.box.lt
                go_simp
                clear c60 c61 f60 f61 lBf
                have RG4 := Lib.hid (RG3.out.put hwB (.int .i64 fm.1) (.slice y.1 y.2.2.length y.2.1))
                obtain ⟨W4, hXX⟩ : ∃ Zz, Zz = ((W3.setCell ⟨Bf, 0, none⟩ (.int .i64 fm.1)).setCell ⟨Bf, 1, none⟩ (.slice y.1 y.2.2.length y.2.1)) := ⟨_, rfl⟩
                rw [← hXX] at RG4 ⊢
                clear hXX
                refine hK _ _ (fun h => absurd h (by decide)) (Ls.box5 RG4.out.xb) ?_
                clear hK K
                refine anyV_one (i := 9) (by kernel_rfl) rfl rfl (fun K hK => ?_)
                go_simp
                refine hK _ _ (fun h => absurd h (by decide)) (Ls.box5 RG4.out.xb) ?_
                clear hK K
                refine anyV_done (by kernel_rfl) ?_ _
                simp only [normPost]
                have RD9 := Lib.hid (RG4.out.fin HSQ.out)
                go_wp2
                go_roundw
                case rel => exact ⟨k + 1, (fm.1, y.2.2), al ++ [x], y.1, y.2.1, by go_num, by omega, by simp; omega, RD9.out⟩
                case measure => simp [intOf]; omega
              · go_simp
                obtain ⟨W1, hW1⟩ : ∃ Zz, Zz = W0.alloc (.cells #[.int .i64 x.n, .int .i64 x.c, .int .i64 x.a, .int .i64 x.f, .int .i64 x.t] 26) := ⟨_, rfl⟩
                have hb : Below W0.heap.size W0 W1 := by rw [hW1]; exact al1 _ _
                have kn : Bk W1 W0.heap.size 26 #[.int .i64 x.n, .int .i64 x.c, .int .i64 x.a, .int .i64 x.f, .int .i64 x.t] := by rw [hW1]; exact Bk.new _ _ _
                rw [← hW1]
                clear hW1
                have RG1 := Lib.hid (RG0.out.next hb)
                have MS1 := Lib.hid (MS0.out.next hb)
                obtain ⟨Bn, hBn⟩ : ∃ Bn, Bn = W0.heap.size := ⟨_, rfl⟩
                rw [← hBn] at kn ⊢
                have KN1 := Lib.hid kn
                clear hb kn hBn
                refine hK _ _ (fun _ => box2 RG1.out.box) (Ls.box5 RG1.out.xb) ?_
                clear hK K
                refine anyV_one (i := 3) (by kernel_rfl) rfl rfl (fun K hK => ?_)
                have HLC := Lib.hid (last_ms 0 fm.1 fm.1 fm.2.length pr y (.slice A1 (pr.length + 1) c1) A c W1 MS1.out hpr)
                go_simp
                refine HLC.out.mono ?_
                rintro e W2 ⟨rfl, hb⟩
                have RG2 := Lib.hid (RG1.out.next hb)
                have KN2 := Lib.hid (KN1.out.next hb)
                go_simp
                clear HLC hb
                refine hK _ _ (fun _ => box2 RG2.out.box) (Ls.box5 RG2.out.xb) ?_
                clear hK K
                refine anyV_one (i := 7) (by kernel_rfl) rfl rfl (fun K hK => ?_)
                refine wp_append_rd _ (.tmp 64) (.tmp 66) _ (by rfl) w.heap.size 26 i0 _ 5 40 Tryd.underlying28 hi hz0 hz1 hz2 rfl (by omega) (.slice Av al.length cv) al.length (lsc al) (by rfl) RG2.out.own W2.heap.size (some ⟨Bn, 0, none⟩) 1 1 [.int .i64 x.n, .int .i64 x.c, .int .i64 x.a, .int .i64 x.f, .int .i64 x.t] (by rfl) (Ls.rd_bk5 KN2.out KN2.out.lt) (by simp [Value.oneCell']) (by simp only [maxLen]; omega) (by omega) RG2.out.below.size ?_
                intro v3 W3 hown3 hg3 hat3
                have RG3 := Lib.hid (RG2.out.grow hown3 hg3 hat3)
                obtain ⟨A7, c7, rfl, _, _⟩ := own_read RG3.out.own
                rw [hal1] at RG3 ⊢
                clear hown3 hg3 hat3
                refine hK _ _ (fun _ => box2 RG3.out.box) (Ls.box5 RG3.out.xb) ?_
                clear hK K
                refine anyV_one (i := 8) (by kernel_rfl) rfl rfl (fun K hK => ?_)
                have f60 := RG3.out.box.frozen 0
                have f61 := RG3.out.box.frozen 1
                have c60 := (box2 RG3.out.box).1
                have c61 := (box2 RG3.out.box).2
                have lBf := RG3.out.box.lt
                go_simp
                clear c60 c61 f60 f61 lBf
                have RG4 := Lib.hid (RG3.out.put hwB (.int .i64 fm.1) (.slice y.1 y.2.2.length y.2.1))
                obtain ⟨W4, hXX⟩ : ∃ Zz, Zz = ((W3.setCell ⟨Bf, 0, none⟩ (.int .i64 fm.1)).setCell ⟨Bf, 1, none⟩ (.slice y.1 y.2.2.length y.2.1)) := ⟨_, rfl⟩
                rw [← hXX] at RG4 ⊢
                clear hXX
                refine hK _ _ (fun h => absurd h (by decide)) (Ls.box5 RG4.out.xb) ?_
                clear hK K
                refine anyV_one (i := 9) (by kernel_rfl) rfl rfl (fun K hK => ?_)
                go_simp
                refine hK _ _ (fun h => absurd h (by decide)) (Ls.box5 RG4.out.xb) ?_
                clear hK K
                refine anyV_done (by kernel_rfl) ?_ _
                simp only [normPost]
                have RD9 := Lib.hid (RG4.out.fin HSQ.out)
                go_wp2
                go_roundw
                case rel => exact ⟨k + 1, (fm.1, y.2.2), al ++ [x], y.1, y.2.1, by go_num, by omega, by simp; omega, RD9.out⟩
                case measure => simp [intOf]; omega
            · obtain ⟨G, hG⟩ : ∃ G, stoE fm x x.f = G := ⟨_, rfl⟩
              have HG := Lib.hid hG
              have q0 : (G != 0) = true := by rw [← hG]; simpa using h0
              clear hG h0
              go_wp2_with fail
              have HST := vStore_m fm x x.f A c (wr.alloc (.cells #[.int .i64 x.n, .int .i64 x.c, .int .i64 x.a, .int .i64 x.f, .int .i64 x.t] 26)) (RD.out.rd.next (al1 _ _)) RD.out.cap (F_W0.out.next (bt (al1 _ _) RD.out.below))
              rw [HG.out] at HST
              refine HST.mono ?_
              rintro e X1 ⟨v1, its, rfl, hms, hmap, hb⟩
              obtain ⟨A1, c1, rfl, hc1, _⟩ := own_read hms.1
              have kx : Bk X1 wr.heap.size 26 #[.int .i64 x.n, .int .i64 x.c, .int .i64 x.a, .int .i64 x.f, .int .i64 x.t] := (Bk.new _ _ _).next hb
              have hB := bt hb (al1 wr (.cells #[.int .i64 x.n, .int .i64 x.c, .int .i64 x.a, .int .i64 x.f, .int .i64 x.t] 26))
              have RD1 := Lib.hid (RD.out.next hB)
              have HMS := Lib.hid hms
              have HMP := Lib.hid hmap
              clear y0 y1 y2 y3 y4 c60 c61 lBf hb HST hms hmap
              clear kx HMS HMP hc1 hB
              go_wp2
              go_roundw
              case rel => exact ⟨k + 1, fm, al, A, c, by go_num, by omega, by omega, RD1.out⟩
              case measure => simp [intOf]; omega
          · obtain rfl : k = l.length := by omega
            have HRL : Hid (RdL wr wr.heap.size Av al) := HRV.out
            by_cases ha : 0 < al.length
            · have j4 : decide ((0 : Int) < (al.length : Int)) = true := by simp; omega
              have j6 : decide (0 < al.length) = true := by simp; omega
              have j8 : (0 : Int) < (al.length : Int) := by omega
              obtain ⟨bkk, okk, hAv, hbz, z0, z1, z2, z3, z4⟩ := HRL.out.at_ (i := al.length - 1) (by omega)
              obtain ⟨y, hy⟩ : ∃ y, y = lastL al := ⟨_, rfl⟩
              rw [← getD_of (by omega : al.length - 1 < al.length), show al.getD (al.length - 1) l0 = y from hy.symm] at z0 z1 z2 z3 z4
              obtain ⟨kk, hkk⟩ : ∃ k, k = al.length - 1 := ⟨_, rfl⟩
              rw [← hkk] at z0 z1 z2 z3 z4
              have j0kk : (al.length : Int) - 1 = (kk : Int) := by omega
              have j1kk : (0 : Int) ≤ (kk : Int) := by omega
              have j2kk : (kk : Int) < (al.length : Int) := by omega
              have j3kk : IntKind.i64.wrap ((al.length : Int) - 1) = (kk : Int) := by rw [IntWalk.i64_in _ (by omega)]; omega
              have Hy := Lib.hid hy
              clear hkk hy
              subst hAv
              by_cases hq : later < y.f
              · have j7 : decide (later < y.f) = true := by simpa using hq
                go_wp2
                go_ret
                exact ⟨rfl, RD.out.below⟩
              · have j7 : decide (later < y.f) = false := by simpa using hq
                obtain ⟨a1, a2, a3⟩ := RD.out.sq.law (by omega) (by omega : 0 ≤ later) (by omega) (fun _ => by rw [← Hy.out]; omega)
                obtain ⟨b1, b2, b3⟩ := alive_get (load_ok RD.out.sq.load).2.2.2.2 (by omega : 0 ≤ later) (by omega)
                obtain ⟨now, hnow⟩ : ∃ now, loadL fm = now := ⟨_, rfl⟩
                rw [hnow] at a1 a3 b2
                obtain ⟨zs, hzs⟩ : ∃ zs, alvL now 16 later = zs := ⟨_, rfl⟩
                rw [hzs] at a3 b2
                have hnl : now.length ≤ 64 := by rw [← hnow]; exact load_len64 fm
                have HNW := Lib.hid hnow
                have HZS := Lib.hid hzs
                have HE1 := Lib.hid a1
                have HE2 := Lib.hid a2
                have HE3 := Lib.hid a3
                have HZL := Lib.hid b2
                have HL0 := Lib.hid RD.out.sq.load
                clear a1 a2 a3 b1 b2 b3 hnow hzs
                go_wp2_with fail
                refine (Load_lit now 0 fm A c _ HNW.out HL0.out RD.out.rd RD.out.cap (F_W0.out.next RD.out.below)).mono ?_
                rintro e X1 ⟨A5, c5, rfl, hc5, r5, hb⟩
                have HX1 := Lib.hid (bt hb RD.out.below)
                have F_5 := Lib.hid r5
                have F_v := Lib.hid (HRL.out.next hb)
                clear hb r5 c60 c61
                go_wp2_with fail
                refine (Alive_n zs now later A5 now.length c5 _ rfl HZS.out HE1.out HZL.out F_5.out (by omega)).mono ?_
                rintro e X2 ⟨A6, c6, rfl, hc6, r6, hb⟩
                have HX2 := Lib.hid (bt hb HX1.out)
                have F_6 := Lib.hid r6
                replace F_v := Lib.hid (F_v.out.next hb)
                clear hb r6
                go_wp2_with fail
                refine (Alive_n zs al later _ al.length cv _ rfl HE3.out.symm HE2.out HZL.out F_v.out (by omega)).mono ?_
                rintro e X3 ⟨A7, c7, rfl, hc7, r7, hb⟩
                have HX3 := Lib.hid (bt hb HX2.out)
                have F_7 := Lib.hid r7
                replace F_6 := Lib.hid (F_6.out.next hb)
                clear hb r7
                go_wp2_with fail
                refine (Ints_lit zs zs A6 A7 c6 c7 _ rfl HZL.out F_6.out F_7.out).mono ?_
                rintro e X4 ⟨rfl, hb⟩
                have HX4 := Lib.hid (bt hb HX3.out)
                clear hb
                go_wp2
                go_ret
                exact ⟨rfl, HX4.out⟩
            · have j4 : decide ((0 : Int) < (al.length : Int)) = false := decide_eq_false (by omega)
              have j6 : decide (0 < al.length) = false := decide_eq_false ha
              have j8 : ¬ (0 : Int) < (al.length : Int) := by omega
              obtain ⟨a1, a2, a3⟩ := RD.out.sq.law (by omega) (by omega : 0 ≤ later) (by omega) (fun h => absurd (List.length_pos_iff.2 h) ha)
              obtain ⟨b1, b2, b3⟩ := alive_get (load_ok RD.out.sq.load).2.2.2.2 (by omega : 0 ≤ later) (by omega)
              obtain ⟨now, hnow⟩ : ∃ now, loadL fm = now := ⟨_, rfl⟩
              rw [hnow] at a1 a3 b2
              obtain ⟨zs, hzs⟩ : ∃ zs, alvL now 16 later = zs := ⟨_, rfl⟩
              rw [hzs] at a3 b2
              have hnl : now.length ≤ 64 := by rw [← hnow]; exact load_len64 fm
              have HNW := Lib.hid hnow
              have HZS := Lib.hid hzs
              have HE1 := Lib.hid a1
              have HE2 := Lib.hid a2
              have HE3 := Lib.hid a3
              have HZL := Lib.hid b2
              have HL0 := Lib.hid RD.out.sq.load
              clear a1 a2 a3 b1 b2 b3 hnow hzs
              go_wp2_with fail
              refine (Load_lit now 0 fm A c _ HNW.out HL0.out RD.out.rd RD.out.cap (F_W0.out.next RD.out.below)).mono ?_
              rintro e X1 ⟨A5, c5, rfl, hc5, r5, hb⟩
              have HX1 := Lib.hid (bt hb RD.out.below)
              have F_5 := Lib.hid r5
              have F_v := Lib.hid (HRL.out.next hb)
              clear hb r5 c60 c61
              go_wp2_with fail
              refine (Alive_n zs now later A5 now.length c5 _ rfl HZS.out HE1.out HZL.out F_5.out (by omega)).mono ?_
              rintro e X2 ⟨A6, c6, rfl, hc6, r6, hb⟩
              have HX2 := Lib.hid (bt hb HX1.out)
              have F_6 := Lib.hid r6
              replace F_v := Lib.hid (F_v.out.next hb)
              clear hb r6
              go_wp2_with fail
              refine (Alive_n zs al later _ al.length cv _ rfl HE3.out.symm HE2.out HZL.out F_v.out (by omega)).mono ?_
              rintro e X3 ⟨A7, c7, rfl, hc7, r7, hb⟩
              have HX3 := Lib.hid (bt hb HX2.out)
              have F_7 := Lib.hid r7
              replace F_6 := Lib.hid (F_6.out.next hb)
              clear hb r7
              go_wp2_with fail
              refine (Ints_lit zs zs A6 A7 c6 c7 _ rfl HZL.out F_6.out F_7.out).mono ?_
              rintro e X4 ⟨rfl, hb⟩
              have HX4 := Lib.hid (bt hb HX3.out)
              clear hb
              go_wp2
              go_ret
              exact ⟨rfl, HX4.out⟩
end Go.Proofs.YtcnhmgcingmphaaDoor
