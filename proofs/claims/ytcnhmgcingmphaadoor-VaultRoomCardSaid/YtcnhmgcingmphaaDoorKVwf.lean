/- The law VaultRoom, walked. -/
import Derived.Test.YtcnhmgcingmphaaDoorKVwe
import Derived.Test.YtcnhmgcingmphaaDoorKVq
import Derived.BigQuiet
set_option maxRecDepth 100000
set_option linter.unusedVariables false
set_option linter.unusedSimpArgs false
namespace Go.Proofs.YtcnhmgcingmphaaDoor
open Go.RowKit Go.Sort Go.Shelf

/-- what Store did, for the round, with the generation -/
theorem room_walk {m : Mem} {x : Lea} {al : List Lea} {its : List Itm} (h : stoE m x x.f = 0) (hq : Sq m al) (hl : al.length < 64) (hm : (its.map fun i => ((m.1, i.2.2) : Mem)) = stoM m x x.f) : ∃ pr y, its = pr ++ [y] ∧ pr.length ≤ 1000000 ∧ Sq (m.1, y.2.2) (al ++ [x]) ∧ (lookC (m.1, y.2.2)).gen ≤ (lookC m).gen + 1 := by
  obtain ⟨pr, y, rfl, h1, h2⟩ := seq_walk h hq hl hm
  obtain ⟨F, z, h3, h4⟩ := sto_gen h
  rw [h3, List.map_append] at hm
  obtain rfl := last_eq (z := ((m.1, y.2.2) : Mem)) hm
  exact ⟨pr, y, rfl, h1, h2, h4⟩
theorem vmin2 {P : Program} (w : World) (ts : Array TypeId) (t : TypeId) (k k' : IntKind) (x y : Int) : (Builtin.min_ ts t #[.int k x, .int k' y]).run P w = .ok (.int k (min x y)) w := by
  have e : (if y < x then y else x) = min x y := by split <;> omega
  rw [← e]
  simp [Builtin.min_, Builtin.min2]
theorem vmax2 {P : Program} (w : World) (ts : Array TypeId) (t : TypeId) (k k' : IntKind) (x y : Int) : (Builtin.max_ ts t #[.int k x, .int k' y]).run P w = .ok (.int k (max x y)) w := by
  have e : (if y > x then y else x) = max x y := by split <;> omega
  rw [← e]
  simp [Builtin.max_, Builtin.max2]
theorem sto_one {m : Mem} {x : Lea} {al : List Lea} {tick : Int} (h : stoE m x tick = 0) (hq : Sq m al) : oneB x = true ∧ oldB al x = false := by
  obtain ⟨L, F, z, af, hs⟩ := sto_of h
  exact ⟨(sto_arg hs.arg).1, by rw [← old_same hq]; exact hs.old⟩
set_option maxHeartbeats 12000000 in
theorem VaultRoom_walk (l : List Lea) (Al : Option Addr) (cl : Nat) (w : World) (hln : l.length ≤ 9223372036854775807) (hW : Wd w) (hl : RdL w w.heap.size Al l) :
    Calls Tryd.prog 6 #[.slice Al l.length cl] w fun e w' => e = .returned (.bool true) ∧ Below w.heap.size w w' := by
  have F_W := Lib.hid hW
  have F_l := Lib.hid hl
  have HB := Lib.hid (Below.refl w.heap.size w)
  clear hW hl
  by_cases h60 : 60 < l.length
  · have z1 : (60 : Int) < (l.length : Int) := by omega
    go_enter Tryd.func6, Tryd.ntmps6
    go_wp2_with fail
    refine (head_any _ F_W.out).mono ?_
    rintro e V1 ⟨rfl, hb⟩
    have hB := hb
    replace F_W := Lib.hid (F_W.out.next hB)
    replace F_l := Lib.hid (F_l.out.next hB)
    replace HB := Lib.hid (bt hB HB.out)
    clear hb hB
    go_wp2_with fail
    refine (vFormat_lit hv0 0 _ rfl fmt_vault.1).mono ?_
    rintro e V2 ⟨Af, cf, rfl, hcf, rf, hb⟩
    have hB := hb
    replace F_W := Lib.hid (F_W.out.next hB)
    replace F_l := Lib.hid (F_l.out.next hB)
    replace HB := Lib.hid (bt hB HB.out)
    clear hb hB
    have F_f := Lib.hid (rf)
    clear rf
    go_wp2
    go_ret
    exact ⟨rfl, bt (al1 _ _) HB.out⟩
  · have z1 : ¬ (60 : Int) < (l.length : Int) := by omega
    have F_W0 := F_W
    have F_l0 := F_l
    obtain ⟨i0, hi, hz0, hz1, hz2⟩ := info_parts Ls.info_lease
    go_enter Tryd.func6, Tryd.ntmps6
    go_wp2_with fail
    refine (head_any _ F_W.out).mono ?_
    rintro e V1 ⟨rfl, hb⟩
    have hB := hb
    replace F_W := Lib.hid (F_W.out.next hB)
    replace F_l := Lib.hid (F_l.out.next hB)
    replace HB := Lib.hid (bt hB HB.out)
    clear hb hB
    go_wp2_with fail
    refine (vFormat_lit hv0 0 _ rfl fmt_vault.1).mono ?_
    rintro e V2 ⟨Af, cf, rfl, hcf, rf, hb⟩
    have hB := hb
    replace F_W := Lib.hid (F_W.out.next hB)
    replace F_l := Lib.hid (F_l.out.next hB)
    replace HB := Lib.hid (bt hB HB.out)
    clear hb hB
    have F_f := Lib.hid (rf)
    clear rf
    go_wp2
    obtain ⟨Bf, hBf⟩ : ∃ Bf, Bf = V2.heap.size := ⟨_, rfl⟩
    obtain ⟨U3, hU3⟩ : ∃ Zz, Zz = V2.alloc (.cells #[.int .i64 hv0.1, .slice Af hv0.2.length cf] 24) := ⟨_, rfl⟩
    have k3 : Bk U3 Bf 24 #[.int .i64 hv0.1, .slice Af hv0.2.length cf] := by rw [hU3, hBf]; exact Bk.new _ _ _
    have hb3 : Below V2.heap.size V2 U3 := by rw [hU3]; exact al1 _ _
    have hwB : w.heap.size ≤ Bf := by rw [hBf]; exact HB.out.size
    rw [← hU3, ← hBf]
    have RD0 : Hid (Rd w Bf hv0 [] Af cf (.slice none 0 0) U3) := ⟨Sq.begin fmt_vault.2.1 fmt_vault.2.2.1, k3, F_f.out.next hb3, hcf, World.ownsRow_nil _ _ _ _, by intro g hg; simp [Value.ownBlock] at hg, bt hb3 HB.out⟩
    clear hU3 hBf k3 hb3 F_f
    go_loopw [6, 34] (fun v i wr => ∃ (k : Nat) (fm : Mem) (al : List Lea) (A : Option Addr) (c : Nat), i = .int .i64 (k : Int) ∧ k ≤ l.length ∧ al.length ≤ k ∧ (lookC fm).gen ≤ al.length ∧ Rd w Bf fm al A c v wr) (fun _ i _ => l.length - (intOf i).toNat)
    case atStart => exact ⟨0, hv0, [], Af, cf, rfl, Nat.zero_le _, Nat.zero_le _, Nat.le_of_eq fmt_gen, RD0.out⟩
    case round =>
      obtain ⟨k, fm, al, A, c, rfl, hk, hak, hgen, rd⟩ := hrel
      have RD := Lib.hid rd
      obtain ⟨c60, c61⟩ := box2 rd.box
      have lBf := rd.box.lt
      have lwr := rd.below.size
      obtain ⟨Av, cv, rfl, hcv, hrv⟩ := own_read rd.own
      have HRV := Lib.hid hrv
      have HGEN := Lib.hid hgen
      have hg60 : (lookC fm).gen ≤ 60 := by omega
      have HG60 := Lib.hid hg60
      clear rd hrv hgen hg60
      by_cases hlt : k < l.length
      · obtain ⟨b1, o1, e1, hb1, y0, y1, y2, y3, y4⟩ := ((show RdL w w.heap.size Al l from F_l0.out).next RD.out.below).at_ hlt
        subst e1
        obtain ⟨x, hx⟩ : ∃ x, x = l[k] := ⟨_, rfl⟩
        rw [← hx] at y0 y1 y2 y3 y4
        have k1 : (0 : Int) ≤ (k : Int) := by omega
        have k2 : (k : Int) < (l.length : Int) := by omega
        clear hx
        by_cases h0 : stoE fm x x.f = 0
        · have H0 := Lib.hid h0
          have HG := Lib.hid h0
          obtain ⟨h1, h2⟩ := sto_one h0 RD.out.sq
          have HOB := Lib.hid h1
          have HOL := Lib.hid h2
          clear h0 h1 h2
          go_wp2_with fail
          have HST := vStore_m fm x x.f A c (wr.alloc (.cells #[.int .i64 x.n, .int .i64 x.c, .int .i64 x.a, .int .i64 x.f, .int .i64 x.t] 26)) (RD.out.rd.next (al1 _ _)) RD.out.cap (F_W0.out.next (bt (al1 _ _) RD.out.below))
          rw [HG.out] at HST
          refine HST.mono ?_
          rintro e X1 ⟨v1, its, rfl, hms, hmap, hb⟩
          obtain ⟨A1, c1, rfl, hc1, _⟩ := own_read hms.1
          have kx : Bk X1 wr.heap.size 26 #[.int .i64 x.n, .int .i64 x.c, .int .i64 x.a, .int .i64 x.f, .int .i64 x.t] := (Bk.new _ _ _).next hb
          have hB := bt hb (al1 wr (.cells #[.int .i64 x.n, .int .i64 x.c, .int .i64 x.a, .int .i64 x.f, .int .i64 x.t] 26))
          have RD1 := Lib.hid (RD.out.next hB)
          have HMS := Lib.hid hms
          have HMP := Lib.hid hmap
          clear y0 y1 y2 y3 y4 c60 c61 lBf hb HST hms hmap
          by_cases ha : al.length = 0
          · have ha1 : al.length ≤ 0 := by omega
            clear ha
            obtain ⟨x0, x1, x2, x3, x4⟩ := Ls.box5 kx
            have lx := kx.lt
            have n0 : ((al.length : Int) == 0) = true := by rw [beq_iff_eq]; omega
            go_wp2
            have Rx0 := cell_regrown x0
            have Rx1 := cell_regrown x1
            have Rx2 := cell_regrown x2
            have Rx3 := cell_regrown x3
            have Rx4 := cell_regrown x4
            have CO := fun (d : Nat) (os : Array Obj) => Calls.regrown_of (Ls.rOne_lit true x (grow (redrawn X1 d) os) HOB.out)
            refine wp_region_quiet_below (by kernel_rfl) (by kernel_rfl) ?_
            repeat (first | go_big_quiet_step (first | (with_reducible exact CO _ _)) | quiet_step (first | (with_reducible exact CO _ _)))
            refine wpQuiet_nil ?_
            intro _ hw'
            obtain ⟨⟨dq, osq⟩, hw''⟩ := hw'
            subst hw''
            obtain ⟨U2, hU2⟩ : ∃ V, V = grow (redrawn X1 dq) osq := ⟨_, rfl⟩
            have hbU2 : Below X1.heap.size X1 U2 := by rw [hU2]; exact below_regrown _ _ _
            rw [← hU2]
            clear hU2
            clear Rx0
            clear Rx1
            clear Rx2
            clear Rx3
            clear Rx4
            clear CO
            clear x0 x1 x2 x3 x4 lx
            replace RD1 := Lib.hid (RD1.out.next hbU2)
            replace kx := kx.next hbU2
            replace HMS := Lib.hid (HMS.out.next hbU2)
            replace hB := bt hbU2 hB
            clear hbU2
            obtain ⟨pr, y, rfl, hpr, hsq, hge⟩ := room_walk H0.out RD.out.sq (by omega) HMP.out
            have hlen : (pr ++ [y]).length = pr.length + 1 := by simp
            rw [hlen] at HMS ⊢
            have hal1 : (al ++ [x]).length = al.length + 1 := by simp
            have HSQ := Lib.hid hsq
            have HGE : Hid ((lookC (fm.1, y.2.2)).gen ≤ (al ++ [x]).length) := by show _ ≤ _; have := HGEN.out; rw [hal1]; omega
            have RGX : Hid (Rg w Bf wr.heap.size (.int .i64 fm.1) (.slice A fm.2.length c) al (.slice Av al.length cv) x y U2) := ⟨HMS.out.2 y (by simp), RD1.out.own, RD1.out.box, kx, fun e => by have := (own_lt RD.out.own e).2; omega, RD1.out.below⟩
            have c60 := (box2 RD1.out.box).1
            have c61 := (box2 RD1.out.box).2
            obtain ⟨x0, x1, x2, x3, x4⟩ := Ls.box5 kx
            have lBf := RD1.out.box.lt
            clear hsq hlen HMP hge
            go_wp2
            refine region_V (fun w' => w'.cell? ⟨Bf, 0, none⟩ = some (.int .i64 fm.1) ∧ w'.cell? ⟨Bf, 1, none⟩ = some (.slice A fm.2.length c)) (fun w' => w'.cell? ⟨wr.heap.size, 0, none⟩ = some (.int .i64 x.n) ∧ w'.cell? ⟨wr.heap.size, 1, none⟩ = some (.int .i64 x.c) ∧ w'.cell? ⟨wr.heap.size, 2, none⟩ = some (.int .i64 x.a) ∧ w'.cell? ⟨wr.heap.size, 3, none⟩ = some (.int .i64 x.f) ∧ w'.cell? ⟨wr.heap.size, 4, none⟩ = some (.int .i64 x.t)) 8 (by kernel_rfl) ?_
            obtain ⟨W0, hW0⟩ : ∃ Zz, Zz = U2.drew := ⟨_, rfl⟩
            have hb0 : Below U2.heap.size U2 W0 := by rw [hW0]; exact (Below.refl _ U2).drew
            rw [← hW0]
            clear hW0
            have RG0 := Lib.hid (RGX.out.next hb0)
            have MS0 := Lib.hid (HMS.out.next hb0)
            have HS0 := box2 RG0.out.box
            have HSX := Ls.box5 RG0.out.xb
            clear hb0 c60 c61 x0 x1 x2 x3 x4 lBf
            refine anyV_take (i := 0) rfl (by kernel_rfl) (by kernel_rfl) (by kernel_rfl) (by kernel_rfl) (by kernel_rfl) (fun _ _ _ h => h) (Or.inl ⟨by rfl, fun w' hS' => (by obtain ⟨s1, s2⟩ := hS'; go_simp; try with_reducible rfl)⟩) HS0 HSX ?_
            refine anyV_take (i := 1) rfl (by kernel_rfl) (by kernel_rfl) (by kernel_rfl) (by kernel_rfl) (by kernel_rfl) (fun _ _ _ h => h) (Or.inl ⟨by rfl, fun w' hS' => (by obtain ⟨s1, s2⟩ := hS'; go_simp; try with_reducible rfl)⟩) HS0 HSX ?_
            refine anyV_take (i := 2) rfl (by kernel_rfl) (by kernel_rfl) (by kernel_rfl) (by kernel_rfl) (by kernel_rfl) (fun _ _ _ h => h) (Or.inl ⟨by rfl, fun w' hS' => (by obtain ⟨s1, s2⟩ := hS'; go_simp; try with_reducible rfl)⟩) HS0 HSX ?_
            refine anyV_take2 (i := 4) rfl (by decide) (by kernel_rfl) (by kernel_rfl) (by kernel_rfl) (fun _ _ _ h => h) (Or.inl ⟨by rfl, fun w' hS' => (by obtain ⟨s1, s2, s3, s4, s5⟩ := hS'; go_simp; try with_reducible rfl)⟩) HS0 HSX ?_
            refine anyV_take2 (i := 5) rfl (by decide) (by kernel_rfl) (by kernel_rfl) (by kernel_rfl) (fun _ _ _ h => h) (Or.inl ⟨by rfl, fun w' hS' => (by obtain ⟨s1, s2, s3, s4, s5⟩ := hS'; go_simp; try with_reducible rfl)⟩) HS0 HSX ?_
            clear HS0 HSX
            refine anyV_two (i := 3) (j := 6) (by kernel_rfl) rfl rfl rfl rfl (fun K hK => ?_) (fun K hK => ?_)
            · have HLC := Lib.hid (last_ms 0 fm.1 fm.1 fm.2.length pr y (.slice A1 (pr.length + 1) c1) A c W0 MS0.out hpr)
              go_simp
              refine HLC.out.mono ?_
              rintro e W1 ⟨rfl, hb⟩
              have RG1 := Lib.hid (RG0.out.next hb)
              go_simp
              clear HLC hb
              refine hK _ _ (fun _ => box2 RG1.out.box) (Ls.box5 RG1.out.xb) ?_
              clear hK K
              refine anyV_one (i := 6) (by kernel_rfl) rfl rfl (fun K hK => ?_)
              go_simp
              obtain ⟨W2, hW2⟩ : ∃ Zz, Zz = W1.alloc (.cells #[.int .i64 x.n, .int .i64 x.c, .int .i64 x.a, .int .i64 x.f, .int .i64 x.t] 26) := ⟨_, rfl⟩
              have hb : Below W1.heap.size W1 W2 := by rw [hW2]; exact al1 _ _
              have kn : Bk W2 W1.heap.size 26 #[.int .i64 x.n, .int .i64 x.c, .int .i64 x.a, .int .i64 x.f, .int .i64 x.t] := by rw [hW2]; exact Bk.new _ _ _
              rw [← hW2]
              clear hW2
              have RG2 := Lib.hid (RG1.out.next hb)
              obtain ⟨Bn, hBn⟩ : ∃ Bn, Bn = W1.heap.size := ⟨_, rfl⟩
              rw [← hBn] at kn ⊢
              have KN2 := Lib.hid kn
              clear hb kn hBn
              refine hK _ _ (fun _ => box2 RG2.out.box) (Ls.box5 RG2.out.xb) ?_
              clear hK K
              refine anyV_one (i := 7) (by kernel_rfl) rfl rfl (fun K hK => ?_)
              refine wp_append_rd _ (.tmp 82) (.tmp 84) _ (by rfl) w.heap.size 26 i0 _ 5 40 Tryd.underlying28 hi hz0 hz1 hz2 rfl (by omega) (.slice Av al.length cv) al.length (lsc al) (by rfl) RG2.out.own W2.heap.size (some ⟨Bn, 0, none⟩) 1 1 [.int .i64 x.n, .int .i64 x.c, .int .i64 x.a, .int .i64 x.f, .int .i64 x.t] (by rfl) (Ls.rd_bk5 KN2.out KN2.out.lt) (by simp [Value.oneCell']) (by simp only [maxLen]; omega) (by omega) RG2.out.below.size ?_
              intro v3 W3 hown3 hg3 hat3
              have RG3 := Lib.hid (RG2.out.grow hown3 hg3 hat3)
              obtain ⟨A7, c7, rfl, _, _⟩ := own_read RG3.out.own
              rw [hal1] at RG3 ⊢
              clear hown3 hg3 hat3
              refine hK _ _ (fun _ => box2 RG3.out.box) (Ls.box5 RG3.out.xb) ?_
              clear hK K
              refine anyV_one (i := 8) (by kernel_rfl) rfl rfl (fun K hK => ?_)
              have f60 := RG3.out.box.frozen 0
              have f61 := RG3.out.box.frozen 1
              have c60 := (box2 RG3.out.box).1
              have c61 := (box2 RG3.out.box).2
              have lBf := RG3.out.box.lt
              go_simp
              clear c60 c61 f60 f61 lBf
              have RG4 := Lib.hid (RG3.out.put hwB (.int .i64 fm.1) (.slice y.1 y.2.2.length y.2.1))
              obtain ⟨W4, hXX⟩ : ∃ Zz, Zz = ((W3.setCell ⟨Bf, 0, none⟩ (.int .i64 fm.1)).setCell ⟨Bf, 1, none⟩ (.slice y.1 y.2.2.length y.2.1)) := ⟨_, rfl⟩
              rw [← hXX] at RG4 ⊢
              clear hXX
              refine hK _ _ (fun h => absurd h (by decide)) (Ls.box5 RG4.out.xb) ?_
              clear hK K
              refine anyV_one (i := 9) (by kernel_rfl) rfl rfl (fun K hK => ?_)
              go_simp
              refine hK _ _ (fun h => absurd h (by decide)) (Ls.box5 RG4.out.xb) ?_
              clear hK K
              refine anyV_done (by kernel_rfl) ?_ _
              simp only [normPost]
              have RD9 := Lib.hid (RG4.out.fin HSQ.out)
              go_wp2
              go_roundw
              case rel => exact ⟨k + 1, (fm.1, y.2.2), al ++ [x], y.1, y.2.1, by go_num, by omega, by simp; omega, HGE.out, RD9.out⟩
              case measure => simp [intOf]; omega
            · go_simp
              obtain ⟨W1, hW1⟩ : ∃ Zz, Zz = W0.alloc (.cells #[.int .i64 x.n, .int .i64 x.c, .int .i64 x.a, .int .i64 x.f, .int .i64 x.t] 26) := ⟨_, rfl⟩
              have hb : Below W0.heap.size W0 W1 := by rw [hW1]; exact al1 _ _
              have kn : Bk W1 W0.heap.size 26 #[.int .i64 x.n, .int .i64 x.c, .int .i64 x.a, .int .i64 x.f, .int .i64 x.t] := by rw [hW1]; exact Bk.new _ _ _
              rw [← hW1]
              clear hW1
              have RG1 := Lib.hid (RG0.out.next hb)
              have MS1 := Lib.hid (MS0.out.next hb)
              obtain ⟨Bn, hBn⟩ : ∃ Bn, Bn = W0.heap.size := ⟨_, rfl⟩
              rw [← hBn] at kn ⊢
              have KN1 := Lib.hid kn
              clear hb kn hBn
              refine hK _ _ (fun _ => box2 RG1.out.box) (Ls.box5 RG1.out.xb) ?_
              clear hK K
              refine anyV_one (i := 3) (by kernel_rfl) rfl rfl (fun K hK => ?_)
              have HLC := Lib.hid (last_ms 0 fm.1 fm.1 fm.2.length pr y (.slice A1 (pr.length + 1) c1) A c W1 MS1.out hpr)
              go_simp
              refine HLC.out.mono ?_
              rintro e W2 ⟨rfl, hb⟩
              have RG2 := Lib.hid (RG1.out.next hb)
              have KN2 := Lib.hid (KN1.out.next hb)
              go_simp
              clear HLC hb
              refine hK _ _ (fun _ => box2 RG2.out.box) (Ls.box5 RG2.out.xb) ?_
              clear hK K
              refine anyV_one (i := 7) (by kernel_rfl) rfl rfl (fun K hK => ?_)
              refine wp_append_rd _ (.tmp 82) (.tmp 84) _ (by rfl) w.heap.size 26 i0 _ 5 40 Tryd.underlying28 hi hz0 hz1 hz2 rfl (by omega) (.slice Av al.length cv) al.length (lsc al) (by rfl) RG2.out.own W2.heap.size (some ⟨Bn, 0, none⟩) 1 1 [.int .i64 x.n, .int .i64 x.c, .int .i64 x.a, .int .i64 x.f, .int .i64 x.t] (by rfl) (Ls.rd_bk5 KN2.out KN2.out.lt) (by simp [Value.oneCell']) (by simp only [maxLen]; omega) (by omega) RG2.out.below.size ?_
              intro v3 W3 hown3 hg3 hat3
              have RG3 := Lib.hid (RG2.out.grow hown3 hg3 hat3)
              obtain ⟨A7, c7, rfl, _, _⟩ := own_read RG3.out.own
              rw [hal1] at RG3 ⊢
              clear hown3 hg3 hat3
              refine hK _ _ (fun _ => box2 RG3.out.box) (Ls.box5 RG3.out.xb) ?_
              clear hK K
              refine anyV_one (i := 8) (by kernel_rfl) rfl rfl (fun K hK => ?_)
              have f60 := RG3.out.box.frozen 0
              have f61 := RG3.out.box.frozen 1
              have c60 := (box2 RG3.out.box).1
              have c61 := (box2 RG3.out.box).2
              have lBf := RG3.out.box.lt
              go_simp
              clear c60 c61 f60 f61 lBf
              have RG4 := Lib.hid (RG3.out.put hwB (.int .i64 fm.1) (.slice y.1 y.2.2.length y.2.1))
              obtain ⟨W4, hXX⟩ : ∃ Zz, Zz = ((W3.setCell ⟨Bf, 0, none⟩ (.int .i64 fm.1)).setCell ⟨Bf, 1, none⟩ (.slice y.1 y.2.2.length y.2.1)) := ⟨_, rfl⟩
              rw [← hXX] at RG4 ⊢
              clear hXX
              refine hK _ _ (fun h => absurd h (by decide)) (Ls.box5 RG4.out.xb) ?_
              clear hK K
              refine anyV_one (i := 9) (by kernel_rfl) rfl rfl (fun K hK => ?_)
              go_simp
              refine hK _ _ (fun h => absurd h (by decide)) (Ls.box5 RG4.out.xb) ?_
              clear hK K
              refine anyV_done (by kernel_rfl) ?_ _
              simp only [normPost]
              have RD9 := Lib.hid (RG4.out.fin HSQ.out)
              go_wp2
              go_roundw
              case rel => exact ⟨k + 1, (fm.1, y.2.2), al ++ [x], y.1, y.2.1, by go_num, by omega, by simp; omega, HGE.out, RD9.out⟩
              case measure => simp [intOf]; omega
          · obtain ⟨x0, x1, x2, x3, x4⟩ := Ls.box5 kx
            have lx := kx.lt
            have HRX : Hid (RdL X1 X1.heap.size Av al) := RdL.next (show RdL wr wr.heap.size Av al from HRV.out) hB
            obtain ⟨bkk, okk, rfl, _, u0, u1, u2, u3, u4⟩ := HRX.out.at_ (i := al.length - 1) (by omega)
            obtain ⟨yl, hyl⟩ : ∃ y, y = lastL al := ⟨_, rfl⟩
            rw [← getD_of (by omega : al.length - 1 < al.length), show al.getD (al.length - 1) l0 = yl from hyl.symm] at u0 u1 u2 u3 u4
            obtain ⟨kk, hkk⟩ : ∃ k, k = al.length - 1 := ⟨_, rfl⟩
            rw [← hkk] at u0 u1 u2 u3 u4
            have j0kk : (al.length : Int) - 1 = (kk : Int) := by omega
            have j1kk : (0 : Int) ≤ (kk : Int) := by omega
            have j2kk : (kk : Int) < (al.length : Int) := by omega
            have j3kk : IntKind.i64.wrap ((al.length : Int) - 1) = (kk : Int) := by rw [IntWalk.i64_in _ (by omega)]; omega
            have Hyl := Lib.hid hyl
            clear hkk hyl
            have n0 : ((al.length : Int) == 0) = false := by rw [beq_eq_false_iff_ne]; omega
            have hdec : yl.n < x.n ∧ yl.f ≤ x.f := by
              have h9 := HOL.out
              rw [oldB, decide_eq_true (by omega : 0 < al.length), Bool.true_and, ← Hyl.out] at h9
              simpa [folB] using h9
            have d1 : decide (yl.n < x.n) = true := by simp; omega
            have d2 : decide (yl.f ≤ x.f) = true := by simp; omega
            clear hdec
            go_wp2
            have Rx0 := cell_regrown x0
            have Rx1 := cell_regrown x1
            have Rx2 := cell_regrown x2
            have Rx3 := cell_regrown x3
            have Rx4 := cell_regrown x4
            have Ru0 := cell_regrown u0
            have Ru3 := cell_regrown u3
            have CO := fun (d : Nat) (os : Array Obj) => Calls.regrown_of (Ls.rOne_lit true x (grow (redrawn X1 d) os) HOB.out)
            refine wp_region_quiet_below (by kernel_rfl) (by kernel_rfl) ?_
            repeat (first | go_big_quiet_step (first | (with_reducible exact CO _ _)) | quiet_step (first | (with_reducible exact CO _ _)))
            refine wpQuiet_nil ?_
            intro _ hw'
            obtain ⟨⟨dq, osq⟩, hw''⟩ := hw'
            subst hw''
            obtain ⟨U2, hU2⟩ : ∃ V, V = grow (redrawn X1 dq) osq := ⟨_, rfl⟩
            have hbU2 : Below X1.heap.size X1 U2 := by rw [hU2]; exact below_regrown _ _ _
            rw [← hU2]
            clear hU2
            clear Rx0
            clear Rx1
            clear Rx2
            clear Rx3
            clear Rx4
            clear Ru0
            clear Ru3
            clear CO
            clear x0 x1 x2 x3 x4 lx
            clear u0 u1 u2 u3 u4 HRX
            replace RD1 := Lib.hid (RD1.out.next hbU2)
            replace kx := kx.next hbU2
            replace HMS := Lib.hid (HMS.out.next hbU2)
            replace hB := bt hbU2 hB
            clear hbU2
            obtain ⟨pr, y, rfl, hpr, hsq, hge⟩ := room_walk H0.out RD.out.sq (by omega) HMP.out
            have hlen : (pr ++ [y]).length = pr.length + 1 := by simp
            rw [hlen] at HMS ⊢
            have hal1 : (al ++ [x]).length = al.length + 1 := by simp
            have HSQ := Lib.hid hsq
            have HGE : Hid ((lookC (fm.1, y.2.2)).gen ≤ (al ++ [x]).length) := by show _ ≤ _; have := HGEN.out; rw [hal1]; omega
            have RGX : Hid (Rg w Bf wr.heap.size (.int .i64 fm.1) (.slice A fm.2.length c) al (.slice (some ⟨bkk, okk, none⟩) al.length cv) x y U2) := ⟨HMS.out.2 y (by simp), RD1.out.own, RD1.out.box, kx, fun e => by have := (own_lt RD.out.own e).2; omega, RD1.out.below⟩
            have c60 := (box2 RD1.out.box).1
            have c61 := (box2 RD1.out.box).2
            obtain ⟨x0, x1, x2, x3, x4⟩ := Ls.box5 kx
            have lBf := RD1.out.box.lt
            clear hsq hlen HMP hge
            go_wp2
            refine region_V (fun w' => w'.cell? ⟨Bf, 0, none⟩ = some (.int .i64 fm.1) ∧ w'.cell? ⟨Bf, 1, none⟩ = some (.slice A fm.2.length c)) (fun w' => w'.cell? ⟨wr.heap.size, 0, none⟩ = some (.int .i64 x.n) ∧ w'.cell? ⟨wr.heap.size, 1, none⟩ = some (.int .i64 x.c) ∧ w'.cell? ⟨wr.heap.size, 2, none⟩ = some (.int .i64 x.a) ∧ w'.cell? ⟨wr.heap.size, 3, none⟩ = some (.int .i64 x.f) ∧ w'.cell? ⟨wr.heap.size, 4, none⟩ = some (.int .i64 x.t)) 8 (by kernel_rfl) ?_
            obtain ⟨W0, hW0⟩ : ∃ Zz, Zz = U2.drew := ⟨_, rfl⟩
            have hb0 : Below U2.heap.size U2 W0 := by rw [hW0]; exact (Below.refl _ U2).drew
            rw [← hW0]
            clear hW0
            have RG0 := Lib.hid (RGX.out.next hb0)
            have MS0 := Lib.hid (HMS.out.next hb0)
            have HS0 := box2 RG0.out.box
            have HSX := Ls.box5 RG0.out.xb
            clear hb0 c60 c61 x0 x1 x2 x3 x4 lBf
            refine anyV_take (i := 0) rfl (by kernel_rfl) (by kernel_rfl) (by kernel_rfl) (by kernel_rfl) (by kernel_rfl) (fun _ _ _ h => h) (Or.inl ⟨by rfl, fun w' hS' => (by obtain ⟨s1, s2⟩ := hS'; go_simp; try with_reducible rfl)⟩) HS0 HSX ?_
            refine anyV_take (i := 1) rfl (by kernel_rfl) (by kernel_rfl) (by kernel_rfl) (by kernel_rfl) (by kernel_rfl) (fun _ _ _ h => h) (Or.inl ⟨by rfl, fun w' hS' => (by obtain ⟨s1, s2⟩ := hS'; go_simp; try with_reducible rfl)⟩) HS0 HSX ?_
            refine anyV_take (i := 2) rfl (by kernel_rfl) (by kernel_rfl) (by kernel_rfl) (by kernel_rfl) (by kernel_rfl) (fun _ _ _ h => h) (Or.inl ⟨by rfl, fun w' hS' => (by obtain ⟨s1, s2⟩ := hS'; go_simp; try with_reducible rfl)⟩) HS0 HSX ?_
            refine anyV_take2 (i := 4) rfl (by decide) (by kernel_rfl) (by kernel_rfl) (by kernel_rfl) (fun _ _ _ h => h) (Or.inl ⟨by rfl, fun w' hS' => (by obtain ⟨s1, s2, s3, s4, s5⟩ := hS'; go_simp; try with_reducible rfl)⟩) HS0 HSX ?_
            refine anyV_take2 (i := 5) rfl (by decide) (by kernel_rfl) (by kernel_rfl) (by kernel_rfl) (fun _ _ _ h => h) (Or.inl ⟨by rfl, fun w' hS' => (by obtain ⟨s1, s2, s3, s4, s5⟩ := hS'; go_simp; try with_reducible rfl)⟩) HS0 HSX ?_
            clear HS0 HSX
            refine anyV_two (i := 3) (j := 6) (by kernel_rfl) rfl rfl rfl rfl (fun K hK => ?_) (fun K hK => ?_)
            · have HLC := Lib.hid (last_ms 0 fm.1 fm.1 fm.2.length pr y (.slice A1 (pr.length + 1) c1) A c W0 MS0.out hpr)
              go_simp
              refine HLC.out.mono ?_
              rintro e W1 ⟨rfl, hb⟩
              have RG1 := Lib.hid (RG0.out.next hb)
              go_simp
              clear HLC hb
              refine hK _ _ (fun _ => box2 RG1.out.box) (Ls.box5 RG1.out.xb) ?_
              clear hK K
              refine anyV_one (i := 6) (by kernel_rfl) rfl rfl (fun K hK => ?_)
              go_simp
              obtain ⟨W2, hW2⟩ : ∃ Zz, Zz = W1.alloc (.cells #[.int .i64 x.n, .int .i64 x.c, .int .i64 x.a, .int .i64 x.f, .int .i64 x.t] 26) := ⟨_, rfl⟩
              have hb : Below W1.heap.size W1 W2 := by rw [hW2]; exact al1 _ _
              have kn : Bk W2 W1.heap.size 26 #[.int .i64 x.n, .int .i64 x.c, .int .i64 x.a, .int .i64 x.f, .int .i64 x.t] := by rw [hW2]; exact Bk.new _ _ _
              rw [← hW2]
              clear hW2
              have RG2 := Lib.hid (RG1.out.next hb)
              obtain ⟨Bn, hBn⟩ : ∃ Bn, Bn = W1.heap.size := ⟨_, rfl⟩
              rw [← hBn] at kn ⊢
              have KN2 := Lib.hid kn
              clear hb kn hBn
              refine hK _ _ (fun _ => box2 RG2.out.box) (Ls.box5 RG2.out.xb) ?_
              clear hK K
              refine anyV_one (i := 7) (by kernel_rfl) rfl rfl (fun K hK => ?_)
              refine wp_append_rd _ (.tmp 82) (.tmp 84) _ (by rfl) w.heap.size 26 i0 _ 5 40 Tryd.underlying28 hi hz0 hz1 hz2 rfl (by omega) (.slice (some ⟨bkk, okk, none⟩) al.length cv) al.length (lsc al) (by rfl) RG2.out.own W2.heap.size (some ⟨Bn, 0, none⟩) 1 1 [.int .i64 x.n, .int .i64 x.c, .int .i64 x.a, .int .i64 x.f, .int .i64 x.t] (by rfl) (Ls.rd_bk5 KN2.out KN2.out.lt) (by simp [Value.oneCell']) (by simp only [maxLen]; omega) (by omega) RG2.out.below.size ?_
              intro v3 W3 hown3 hg3 hat3
              have RG3 := Lib.hid (RG2.out.grow hown3 hg3 hat3)
              obtain ⟨A7, c7, rfl, _, _⟩ := own_read RG3.out.own
              rw [hal1] at RG3 ⊢
              clear hown3 hg3 hat3
              refine hK _ _ (fun _ => box2 RG3.out.box) (Ls.box5 RG3.out.xb) ?_
              clear hK K
              refine anyV_one (i := 8) (by kernel_rfl) rfl rfl (fun K hK => ?_)
              have f60 := RG3.out.box.frozen 0
              have f61 := RG3.out.box.frozen 1
              have c60 := (box2 RG3.out.box).1
              have c61 := (box2 RG3.out.box).2
              have lBf := RG3.out.box.lt
              go_simp
              clear c60 c61 f60 f61 lBf
              have RG4 := Lib.hid (RG3.out.put hwB (.int .i64 fm.1) (.slice y.1 y.2.2.length y.2.1))
              obtain ⟨W4, hXX⟩ : ∃ Zz, Zz = ((W3.setCell ⟨Bf, 0, none⟩ (.int .i64 fm.1)).setCell ⟨Bf, 1, none⟩ (.slice y.1 y.2.2.length y.2.1)) := ⟨_, rfl⟩
              rw [← hXX] at RG4 ⊢
              clear hXX
              refine hK _ _ (fun h => absurd h (by decide)) (Ls.box5 RG4.out.xb) ?_
              clear hK K
              refine anyV_one (i := 9) (by kernel_rfl) rfl rfl (fun K hK => ?_)
              go_simp
              refine hK _ _ (fun h => absurd h (by decide)) (Ls.box5 RG4.out.xb) ?_
              clear hK K
              refine anyV_done (by kernel_rfl) ?_ _
              simp only [normPost]
              have RD9 := Lib.hid (RG4.out.fin HSQ.out)
              go_wp2
              go_roundw
              case rel => exact ⟨k + 1, (fm.1, y.2.2), al ++ [x], y.1, y.2.1, by go_num, by omega, by simp; omega, HGE.out, RD9.out⟩
              case measure => simp [intOf]; omega
            · go_simp
              obtain ⟨W1, hW1⟩ : ∃ Zz, Zz = W0.alloc (.cells #[.int .i64 x.n, .int .i64 x.c, .int .i64 x.a, .int .i64 x.f, .int .i64 x.t] 26) := ⟨_, rfl⟩
              have hb : Below W0.heap.size W0 W1 := by rw [hW1]; exact al1 _ _
              have kn : Bk W1 W0.heap.size 26 #[.int .i64 x.n, .int .i64 x.c, .int .i64 x.a, .int .i64 x.f, .int .i64 x.t] := by rw [hW1]; exact Bk.new _ _ _
              rw [← hW1]
              clear hW1
              have RG1 := Lib.hid (RG0.out.next hb)
              have MS1 := Lib.hid (MS0.out.next hb)
              obtain ⟨Bn, hBn⟩ : ∃ Bn, Bn = W0.heap.size := ⟨_, rfl⟩
              rw [← hBn] at kn ⊢
              have KN1 := Lib.hid kn
              clear hb kn hBn
              refine hK _ _ (fun _ => box2 RG1.out.box) (Ls.box5 RG1.out.xb) ?_
              clear hK K
              refine anyV_one (i := 3) (by kernel_rfl) rfl rfl (fun K hK => ?_)
              have HLC := Lib.hid (last_ms 0 fm.1 fm.1 fm.2.length pr y (.slice A1 (pr.length + 1) c1) A c W1 MS1.out hpr)
              go_simp
              refine HLC.out.mono ?_
              rintro e W2 ⟨rfl, hb⟩
              have RG2 := Lib.hid (RG1.out.next hb)
              have KN2 := Lib.hid (KN1.out.next hb)
              go_simp
              clear HLC hb
              refine hK _ _ (fun _ => box2 RG2.out.box) (Ls.box5 RG2.out.xb) ?_
              clear hK K
              refine anyV_one (i := 7) (by kernel_rfl) rfl rfl (fun K hK => ?_)
              refine wp_append_rd _ (.tmp 82) (.tmp 84) _ (by rfl) w.heap.size 26 i0 _ 5 40 Tryd.underlying28 hi hz0 hz1 hz2 rfl (by omega) (.slice (some ⟨bkk, okk, none⟩) al.length cv) al.length (lsc al) (by rfl) RG2.out.own W2.heap.size (some ⟨Bn, 0, none⟩) 1 1 [.int .i64 x.n, .int .i64 x.c, .int .i64 x.a, .int .i64 x.f, .int .i64 x.t] (by rfl) (Ls.rd_bk5 KN2.out KN2.out.lt) (by simp [Value.oneCell']) (by simp only [maxLen]; omega) (by omega) RG2.out.below.size ?_
              intro v3 W3 hown3 hg3 hat3
              have RG3 := Lib.hid (RG2.out.grow hown3 hg3 hat3)
              obtain ⟨A7, c7, rfl, _, _⟩ := own_read RG3.out.own
              rw [hal1] at RG3 ⊢
              clear hown3 hg3 hat3
              refine hK _ _ (fun _ => box2 RG3.out.box) (Ls.box5 RG3.out.xb) ?_
              clear hK K
              refine anyV_one (i := 8) (by kernel_rfl) rfl rfl (fun K hK => ?_)
              have f60 := RG3.out.box.frozen 0
              have f61 := RG3.out.box.frozen 1
              have c60 := (box2 RG3.out.box).1
              have c61 := (box2 RG3.out.box).2
              have lBf := RG3.out.box.lt
              go_simp
              clear c60 c61 f60 f61 lBf
              have RG4 := Lib.hid (RG3.out.put hwB (.int .i64 fm.1) (.slice y.1 y.2.2.length y.2.1))
              obtain ⟨W4, hXX⟩ : ∃ Zz, Zz = ((W3.setCell ⟨Bf, 0, none⟩ (.int .i64 fm.1)).setCell ⟨Bf, 1, none⟩ (.slice y.1 y.2.2.length y.2.1)) := ⟨_, rfl⟩
              rw [← hXX] at RG4 ⊢
              clear hXX
              refine hK _ _ (fun h => absurd h (by decide)) (Ls.box5 RG4.out.xb) ?_
              clear hK K
              refine anyV_one (i := 9) (by kernel_rfl) rfl rfl (fun K hK => ?_)
              go_simp
              refine hK _ _ (fun h => absurd h (by decide)) (Ls.box5 RG4.out.xb) ?_
              clear hK K
              refine anyV_done (by kernel_rfl) ?_ _
              simp only [normPost]
              have RD9 := Lib.hid (RG4.out.fin HSQ.out)
              go_wp2
              go_roundw
              case rel => exact ⟨k + 1, (fm.1, y.2.2), al ++ [x], y.1, y.2.1, by go_num, by omega, by simp; omega, HGE.out, RD9.out⟩
              case measure => simp [intOf]; omega
        · by_cases ho : oneB x = true
          · by_cases hol : oldB al x = false
            · obtain ⟨r1, r2⟩ := room_law RD.out.sq HG60.out ho hol h0
              have HG := Lib.hid r1
              have HRM := Lib.hid r2
              have HOB := Lib.hid ho
              have HOL := Lib.hid hol
              obtain ⟨_, _, _, _, _, _, xf0, xf1, _⟩ := (oneB_iff x).1 ho
              have q0 : ((10 : Int) == 0) = false := rfl
              clear r1 r2 ho hol h0
              go_wp2_with fail
              have HST := vStore_m fm x x.f A c (wr.alloc (.cells #[.int .i64 x.n, .int .i64 x.c, .int .i64 x.a, .int .i64 x.f, .int .i64 x.t] 26)) (RD.out.rd.next (al1 _ _)) RD.out.cap (F_W0.out.next (bt (al1 _ _) RD.out.below))
              rw [HG.out] at HST
              refine HST.mono ?_
              rintro e X1 ⟨v1, its, rfl, hms, hmap, hb⟩
              obtain ⟨A1, c1, rfl, hc1, _⟩ := own_read hms.1
              have kx : Bk X1 wr.heap.size 26 #[.int .i64 x.n, .int .i64 x.c, .int .i64 x.a, .int .i64 x.f, .int .i64 x.t] := (Bk.new _ _ _).next hb
              have hB := bt hb (al1 wr (.cells #[.int .i64 x.n, .int .i64 x.c, .int .i64 x.a, .int .i64 x.f, .int .i64 x.t] 26))
              have RD1 := Lib.hid (RD.out.next hB)
              have HMS := Lib.hid hms
              have HMP := Lib.hid hmap
              clear y0 y1 y2 y3 y4 c60 c61 lBf hb HST hms hmap
              by_cases ha : al.length = 0
              · exfalso
                have h9 := HRM.out
                have h8 := List.length_filter_le (lftB x.f) al
                omega
              · obtain ⟨x0, x1, x2, x3, x4⟩ := Ls.box5 kx
                have lx := kx.lt
                have HRX : Hid (RdL X1 X1.heap.size Av al) := RdL.next (show RdL wr wr.heap.size Av al from HRV.out) hB
                obtain ⟨bkk, okk, rfl, _, u0, u1, u2, u3, u4⟩ := HRX.out.at_ (i := al.length - 1) (by omega)
                obtain ⟨yl, hyl⟩ : ∃ y, y = lastL al := ⟨_, rfl⟩
                rw [← getD_of (by omega : al.length - 1 < al.length), show al.getD (al.length - 1) l0 = yl from hyl.symm] at u0 u1 u2 u3 u4
                obtain ⟨kk, hkk⟩ : ∃ k, k = al.length - 1 := ⟨_, rfl⟩
                rw [← hkk] at u0 u1 u2 u3 u4
                have j0kk : (al.length : Int) - 1 = (kk : Int) := by omega
                have j1kk : (0 : Int) ≤ (kk : Int) := by omega
                have j2kk : (kk : Int) < (al.length : Int) := by omega
                have j3kk : IntKind.i64.wrap ((al.length : Int) - 1) = (kk : Int) := by rw [IntWalk.i64_in _ (by omega)]; omega
                have Hyl := Lib.hid hyl
                clear hkk hyl
                have n0 : ((al.length : Int) == 0) = false := by rw [beq_eq_false_iff_ne]; omega
                have hdec : yl.n < x.n ∧ yl.f ≤ x.f := by
                  have h9 := HOL.out
                  rw [oldB, decide_eq_true (by omega : 0 < al.length), Bool.true_and, ← Hyl.out] at h9
                  simpa [folB] using h9
                have d1 : decide (yl.n < x.n) = true := by simp; omega
                have d2 : decide (yl.f ≤ x.f) = true := by simp; omega
                clear hdec
                go_wp2
                have Rx0 := cell_regrown x0
                have Rx1 := cell_regrown x1
                have Rx2 := cell_regrown x2
                have Rx3 := cell_regrown x3
                have Rx4 := cell_regrown x4
                have Ru0 := cell_regrown u0
                have Ru3 := cell_regrown u3
                have CO := fun (d : Nat) (os : Array Obj) => Calls.regrown_of (Ls.rOne_lit true x (grow (redrawn X1 d) os) HOB.out)
                refine wp_region_quiet_below (by kernel_rfl) (by kernel_rfl) ?_
                repeat (first | go_big_quiet_step (first | (with_reducible exact CO _ _)) | quiet_step (first | (with_reducible exact CO _ _)))
                refine wpQuiet_nil ?_
                intro _ hw'
                obtain ⟨⟨dq, osq⟩, hw''⟩ := hw'
                subst hw''
                obtain ⟨U2, hU2⟩ : ∃ V, V = grow (redrawn X1 dq) osq := ⟨_, rfl⟩
                have hbU2 : Below X1.heap.size X1 U2 := by rw [hU2]; exact below_regrown _ _ _
                rw [← hU2]
                clear hU2
                clear Rx0
                clear Rx1
                clear Rx2
                clear Rx3
                clear Rx4
                clear Ru0
                clear Ru3
                clear CO
                clear x0 x1 x2 x3 x4 lx
                clear u0 u1 u2 u3 u4 HRX
                replace RD1 := Lib.hid (RD1.out.next hbU2)
                replace kx := kx.next hbU2
                replace HMS := Lib.hid (HMS.out.next hbU2)
                replace hB := bt hbU2 hB
                clear hbU2
                obtain ⟨x0, x1, x2, x3, x4⟩ := Ls.box5 kx
                have lx := kx.lt
                obtain ⟨Lf, hLf⟩ : ∃ Lf, leftL al (x.f) = Lf := ⟨_, rfl⟩
                have HLF := Lib.hid hLf
                have hLl : Lf.length ≤ al.length := by rw [← hLf]; exact left_len _ _
                have h52 : 52 ≤ Lf.length := by rw [← hLf]; exact HRM.out
                have d9 : decide ((Lf.length : Int) < 52) = false := by simp; omega
                have d8 : ¬ ((Lf.length : Int) < 52) := by omega
                clear hLf
                have HVA : Hid (vlB al = true) := RD.out.sq.valid al.length (Nat.le_refl _) (by omega)
                have HRA : Hid (RdL U2 U2.heap.size (some ⟨bkk, okk, none⟩) al) := RdL.next (show RdL wr wr.heap.size (some ⟨bkk, okk, none⟩) al from HRV.out) hB
                have hf0 : ¬ x.f < 0 := by omega
                have hf1 : ¬ 1100000 < x.f := by omega
                have hm1 : ∀ (W : World) (ts : Array TypeId) (t : TypeId), (Builtin.min_ ts t #[.int .i64 x.f, .int .i64 1100000]).run Tryd.prog W = .ok (.int .i64 x.f) W := fun W ts t => by rw [vmin2, show min x.f 1100000 = x.f by omega]
                have hm2 : ∀ (W : World) (ts : Array TypeId) (t : TypeId), (Builtin.max_ ts t #[.int .i64 0, .int .i64 x.f]).run Tryd.prog W = .ok (.int .i64 x.f) W := fun W ts t => by rw [vmax2, show max 0 x.f = (x.f : Int) by omega]
                go_wp2_with fail
                refine (Expire_lit Lf al _ cv (x.f) _ HVA.out (by omega) (by omega) HLF.out HRA.out (by omega)).mono ?_
                rintro e X3 ⟨A8, c8, rfl, hc8, r8, hb⟩
                clear x0 x1 x2 x3 x4 lx r8
                have RD3 := Lib.hid (RD1.out.next hb)
                clear hb
                go_wp2
                go_roundw
                case rel => exact ⟨k + 1, fm, al, A, c, by go_num, by omega, by omega, HGEN.out, RD3.out⟩
                case measure => simp [intOf]; omega
            · obtain ⟨G, hG⟩ : ∃ G, stoE fm x x.f = G := ⟨_, rfl⟩
              have HG := Lib.hid hG
              have q0 : (G == 0) = false := by rw [← hG]; simpa using h0
              have HOB := Lib.hid ho
              have HOL : Hid (oldB al x = true) := by show _ = _; simpa using hol
              have ha : 0 < al.length := by
                rcases Nat.eq_zero_or_pos al.length with h9 | h9
                · have h8 := HOL.out; rw [oldB, h9] at h8; simp at h8
                · exact h9
              clear hG h0 ho hol
              go_wp2_with fail
              have HST := vStore_m fm x x.f A c (wr.alloc (.cells #[.int .i64 x.n, .int .i64 x.c, .int .i64 x.a, .int .i64 x.f, .int .i64 x.t] 26)) (RD.out.rd.next (al1 _ _)) RD.out.cap (F_W0.out.next (bt (al1 _ _) RD.out.below))
              rw [HG.out] at HST
              refine HST.mono ?_
              rintro e X1 ⟨v1, its, rfl, hms, hmap, hb⟩
              obtain ⟨A1, c1, rfl, hc1, _⟩ := own_read hms.1
              have kx : Bk X1 wr.heap.size 26 #[.int .i64 x.n, .int .i64 x.c, .int .i64 x.a, .int .i64 x.f, .int .i64 x.t] := (Bk.new _ _ _).next hb
              have hB := bt hb (al1 wr (.cells #[.int .i64 x.n, .int .i64 x.c, .int .i64 x.a, .int .i64 x.f, .int .i64 x.t] 26))
              have RD1 := Lib.hid (RD.out.next hB)
              have HMS := Lib.hid hms
              have HMP := Lib.hid hmap
              clear y0 y1 y2 y3 y4 c60 c61 lBf hb HST hms hmap
              have HRX0 : Hid (RdL X1 X1.heap.size Av al) := RdL.next (show RdL wr wr.heap.size Av al from HRV.out) hB
              have hdec : ¬ ((lastL al).n < x.n ∧ (lastL al).f ≤ x.f) := by
                intro h8
                have h9 := HOL.out
                rw [oldB, decide_eq_true ha, Bool.true_and, (folB_iff _ _).2 h8] at h9
                cases h9
              by_cases hq : (lastL al).n < x.n
              · have hq2 : ¬ (lastL al).f ≤ x.f := fun h9 => hdec ⟨hq, h9⟩
                have HQ := Lib.hid hq
                have HQ2 := Lib.hid hq2
                clear hdec hq hq2 HRX0
                by_cases hf0 : x.f < 0
                · obtain ⟨x0, x1, x2, x3, x4⟩ := Ls.box5 kx
                  have lx := kx.lt
                  have HRX : Hid (RdL X1 X1.heap.size Av al) := RdL.next (show RdL wr wr.heap.size Av al from HRV.out) hB
                  obtain ⟨bkk, okk, rfl, _, u0, u1, u2, u3, u4⟩ := HRX.out.at_ (i := al.length - 1) (by omega)
                  obtain ⟨yl, hyl⟩ : ∃ y, y = lastL al := ⟨_, rfl⟩
                  rw [← getD_of (by omega : al.length - 1 < al.length), show al.getD (al.length - 1) l0 = yl from hyl.symm] at u0 u1 u2 u3 u4
                  obtain ⟨kk, hkk⟩ : ∃ k, k = al.length - 1 := ⟨_, rfl⟩
                  rw [← hkk] at u0 u1 u2 u3 u4
                  have j0kk : (al.length : Int) - 1 = (kk : Int) := by omega
                  have j1kk : (0 : Int) ≤ (kk : Int) := by omega
                  have j2kk : (kk : Int) < (al.length : Int) := by omega
                  have j3kk : IntKind.i64.wrap ((al.length : Int) - 1) = (kk : Int) := by rw [IntWalk.i64_in _ (by omega)]; omega
                  have Hyl := Lib.hid hyl
                  clear hkk hyl
                  have n0 : ((al.length : Int) == 0) = false := by rw [beq_eq_false_iff_ne]; omega
                  have d1 : decide (yl.n < x.n) = true := by rw [Hyl.out]; simpa using HQ.out
                  have d2 : decide (yl.f ≤ x.f) = false := by rw [Hyl.out]; simpa using HQ2.out
                  go_wp2
                  have Rx0 := cell_regrown x0
                  have Rx1 := cell_regrown x1
                  have Rx2 := cell_regrown x2
                  have Rx3 := cell_regrown x3
                  have Rx4 := cell_regrown x4
                  have Ru0 := cell_regrown u0
                  have Ru3 := cell_regrown u3
                  have CO := fun (d : Nat) (os : Array Obj) => Calls.regrown_of (Ls.rOne_lit true x (grow (redrawn X1 d) os) HOB.out)
                  refine wp_region_quiet_below (by kernel_rfl) (by kernel_rfl) ?_
                  repeat (first | go_big_quiet_step (first | (with_reducible exact CO _ _)) | quiet_step (first | (with_reducible exact CO _ _)))
                  refine wpQuiet_nil ?_
                  intro _ hw'
                  obtain ⟨⟨dq, osq⟩, hw''⟩ := hw'
                  subst hw''
                  obtain ⟨U2, hU2⟩ : ∃ V, V = grow (redrawn X1 dq) osq := ⟨_, rfl⟩
                  have hbU2 : Below X1.heap.size X1 U2 := by rw [hU2]; exact below_regrown _ _ _
                  rw [← hU2]
                  clear hU2
                  clear Rx0
                  clear Rx1
                  clear Rx2
                  clear Rx3
                  clear Rx4
                  clear Ru0
                  clear Ru3
                  clear CO
                  clear x0 x1 x2 x3 x4 lx
                  clear u0 u1 u2 u3 u4 HRX
                  replace RD1 := Lib.hid (RD1.out.next hbU2)
                  replace kx := kx.next hbU2
                  replace HMS := Lib.hid (HMS.out.next hbU2)
                  replace hB := bt hbU2 hB
                  clear hbU2
                  obtain ⟨x0, x1, x2, x3, x4⟩ := Ls.box5 kx
                  have lx := kx.lt
                  obtain ⟨Lf, hLf⟩ : ∃ Lf, leftL al (0) = Lf := ⟨_, rfl⟩
                  have HLF := Lib.hid hLf
                  have hLl : Lf.length ≤ al.length := by rw [← hLf]; exact left_len _ _
                  clear hLf
                  have HVA : Hid (vlB al = true) := RD.out.sq.valid al.length (Nat.le_refl _) (by omega)
                  have HRA : Hid (RdL U2 U2.heap.size (some ⟨bkk, okk, none⟩) al) := RdL.next (show RdL wr wr.heap.size (some ⟨bkk, okk, none⟩) al from HRV.out) hB
                  have hm1 : ∀ (W : World) (ts : Array TypeId) (t : TypeId), (Builtin.min_ ts t #[.int .i64 x.f, .int .i64 1100000]).run Tryd.prog W = .ok (.int .i64 x.f) W := fun W ts t => by rw [vmin2, show min x.f 1100000 = x.f by omega]
                  have hm2 : ∀ (W : World) (ts : Array TypeId) (t : TypeId), (Builtin.max_ ts t #[.int .i64 0, .int .i64 x.f]).run Tryd.prog W = .ok (.int .i64 0) W := fun W ts t => by rw [vmax2, show max 0 x.f = (0 : Int) by omega]
                  go_wp2_with fail
                  refine (Expire_lit Lf al _ cv (0) _ HVA.out (by omega) (by omega) HLF.out HRA.out (by omega)).mono ?_
                  rintro e X3 ⟨A8, c8, rfl, hc8, r8, hb⟩
                  clear x0 x1 x2 x3 x4 lx r8
                  have RD3 := Lib.hid (RD1.out.next hb)
                  clear hb
                  go_wp2
                  go_roundw
                  case rel => exact ⟨k + 1, fm, al, A, c, by go_num, by omega, by omega, HGEN.out, RD3.out⟩
                  case measure => simp [intOf]; omega
                · by_cases hf1 : 1100000 < x.f
                  · obtain ⟨x0, x1, x2, x3, x4⟩ := Ls.box5 kx
                    have lx := kx.lt
                    have HRX : Hid (RdL X1 X1.heap.size Av al) := RdL.next (show RdL wr wr.heap.size Av al from HRV.out) hB
                    obtain ⟨bkk, okk, rfl, _, u0, u1, u2, u3, u4⟩ := HRX.out.at_ (i := al.length - 1) (by omega)
                    obtain ⟨yl, hyl⟩ : ∃ y, y = lastL al := ⟨_, rfl⟩
                    rw [← getD_of (by omega : al.length - 1 < al.length), show al.getD (al.length - 1) l0 = yl from hyl.symm] at u0 u1 u2 u3 u4
                    obtain ⟨kk, hkk⟩ : ∃ k, k = al.length - 1 := ⟨_, rfl⟩
                    rw [← hkk] at u0 u1 u2 u3 u4
                    have j0kk : (al.length : Int) - 1 = (kk : Int) := by omega
                    have j1kk : (0 : Int) ≤ (kk : Int) := by omega
                    have j2kk : (kk : Int) < (al.length : Int) := by omega
                    have j3kk : IntKind.i64.wrap ((al.length : Int) - 1) = (kk : Int) := by rw [IntWalk.i64_in _ (by omega)]; omega
                    have Hyl := Lib.hid hyl
                    clear hkk hyl
                    have n0 : ((al.length : Int) == 0) = false := by rw [beq_eq_false_iff_ne]; omega
                    have d1 : decide (yl.n < x.n) = true := by rw [Hyl.out]; simpa using HQ.out
                    have d2 : decide (yl.f ≤ x.f) = false := by rw [Hyl.out]; simpa using HQ2.out
                    go_wp2
                    have Rx0 := cell_regrown x0
                    have Rx1 := cell_regrown x1
                    have Rx2 := cell_regrown x2
                    have Rx3 := cell_regrown x3
                    have Rx4 := cell_regrown x4
                    have Ru0 := cell_regrown u0
                    have Ru3 := cell_regrown u3
                    have CO := fun (d : Nat) (os : Array Obj) => Calls.regrown_of (Ls.rOne_lit true x (grow (redrawn X1 d) os) HOB.out)
                    refine wp_region_quiet_below (by kernel_rfl) (by kernel_rfl) ?_
                    repeat (first | go_big_quiet_step (first | (with_reducible exact CO _ _)) | quiet_step (first | (with_reducible exact CO _ _)))
                    refine wpQuiet_nil ?_
                    intro _ hw'
                    obtain ⟨⟨dq, osq⟩, hw''⟩ := hw'
                    subst hw''
                    obtain ⟨U2, hU2⟩ : ∃ V, V = grow (redrawn X1 dq) osq := ⟨_, rfl⟩
                    have hbU2 : Below X1.heap.size X1 U2 := by rw [hU2]; exact below_regrown _ _ _
                    rw [← hU2]
                    clear hU2
                    clear Rx0
                    clear Rx1
                    clear Rx2
                    clear Rx3
                    clear Rx4
                    clear Ru0
                    clear Ru3
                    clear CO
                    clear x0 x1 x2 x3 x4 lx
                    clear u0 u1 u2 u3 u4 HRX
                    replace RD1 := Lib.hid (RD1.out.next hbU2)
                    replace kx := kx.next hbU2
                    replace HMS := Lib.hid (HMS.out.next hbU2)
                    replace hB := bt hbU2 hB
                    clear hbU2
                    obtain ⟨x0, x1, x2, x3, x4⟩ := Ls.box5 kx
                    have lx := kx.lt
                    obtain ⟨Lf, hLf⟩ : ∃ Lf, leftL al (1100000) = Lf := ⟨_, rfl⟩
                    have HLF := Lib.hid hLf
                    have hLl : Lf.length ≤ al.length := by rw [← hLf]; exact left_len _ _
                    clear hLf
                    have HVA : Hid (vlB al = true) := RD.out.sq.valid al.length (Nat.le_refl _) (by omega)
                    have HRA : Hid (RdL U2 U2.heap.size (some ⟨bkk, okk, none⟩) al) := RdL.next (show RdL wr wr.heap.size (some ⟨bkk, okk, none⟩) al from HRV.out) hB
                    have hm1 : ∀ (W : World) (ts : Array TypeId) (t : TypeId), (Builtin.min_ ts t #[.int .i64 x.f, .int .i64 1100000]).run Tryd.prog W = .ok (.int .i64 1100000) W := fun W ts t => by rw [vmin2, show min x.f 1100000 = 1100000 by omega]
                    have hm2 : ∀ (W : World) (ts : Array TypeId) (t : TypeId), (Builtin.max_ ts t #[.int .i64 0, .int .i64 1100000]).run Tryd.prog W = .ok (.int .i64 1100000) W := fun W ts t => by rw [vmax2, show max 0 1100000 = (1100000 : Int) by omega]
                    go_wp2_with fail
                    refine (Expire_lit Lf al _ cv (1100000) _ HVA.out (by omega) (by omega) HLF.out HRA.out (by omega)).mono ?_
                    rintro e X3 ⟨A8, c8, rfl, hc8, r8, hb⟩
                    clear x0 x1 x2 x3 x4 lx r8
                    have RD3 := Lib.hid (RD1.out.next hb)
                    clear hb
                    go_wp2
                    go_roundw
                    case rel => exact ⟨k + 1, fm, al, A, c, by go_num, by omega, by omega, HGEN.out, RD3.out⟩
                    case measure => simp [intOf]; omega
                  · obtain ⟨x0, x1, x2, x3, x4⟩ := Ls.box5 kx
                    have lx := kx.lt
                    have HRX : Hid (RdL X1 X1.heap.size Av al) := RdL.next (show RdL wr wr.heap.size Av al from HRV.out) hB
                    obtain ⟨bkk, okk, rfl, _, u0, u1, u2, u3, u4⟩ := HRX.out.at_ (i := al.length - 1) (by omega)
                    obtain ⟨yl, hyl⟩ : ∃ y, y = lastL al := ⟨_, rfl⟩
                    rw [← getD_of (by omega : al.length - 1 < al.length), show al.getD (al.length - 1) l0 = yl from hyl.symm] at u0 u1 u2 u3 u4
                    obtain ⟨kk, hkk⟩ : ∃ k, k = al.length - 1 := ⟨_, rfl⟩
                    rw [← hkk] at u0 u1 u2 u3 u4
                    have j0kk : (al.length : Int) - 1 = (kk : Int) := by omega
                    have j1kk : (0 : Int) ≤ (kk : Int) := by omega
                    have j2kk : (kk : Int) < (al.length : Int) := by omega
                    have j3kk : IntKind.i64.wrap ((al.length : Int) - 1) = (kk : Int) := by rw [IntWalk.i64_in _ (by omega)]; omega
                    have Hyl := Lib.hid hyl
                    clear hkk hyl
                    have n0 : ((al.length : Int) == 0) = false := by rw [beq_eq_false_iff_ne]; omega
                    have d1 : decide (yl.n < x.n) = true := by rw [Hyl.out]; simpa using HQ.out
                    have d2 : decide (yl.f ≤ x.f) = false := by rw [Hyl.out]; simpa using HQ2.out
                    go_wp2
                    have Rx0 := cell_regrown x0
                    have Rx1 := cell_regrown x1
                    have Rx2 := cell_regrown x2
                    have Rx3 := cell_regrown x3
                    have Rx4 := cell_regrown x4
                    have Ru0 := cell_regrown u0
                    have Ru3 := cell_regrown u3
                    have CO := fun (d : Nat) (os : Array Obj) => Calls.regrown_of (Ls.rOne_lit true x (grow (redrawn X1 d) os) HOB.out)
                    refine wp_region_quiet_below (by kernel_rfl) (by kernel_rfl) ?_
                    repeat (first | go_big_quiet_step (first | (with_reducible exact CO _ _)) | quiet_step (first | (with_reducible exact CO _ _)))
                    refine wpQuiet_nil ?_
                    intro _ hw'
                    obtain ⟨⟨dq, osq⟩, hw''⟩ := hw'
                    subst hw''
                    obtain ⟨U2, hU2⟩ : ∃ V, V = grow (redrawn X1 dq) osq := ⟨_, rfl⟩
                    have hbU2 : Below X1.heap.size X1 U2 := by rw [hU2]; exact below_regrown _ _ _
                    rw [← hU2]
                    clear hU2
                    clear Rx0
                    clear Rx1
                    clear Rx2
                    clear Rx3
                    clear Rx4
                    clear Ru0
                    clear Ru3
                    clear CO
                    clear x0 x1 x2 x3 x4 lx
                    clear u0 u1 u2 u3 u4 HRX
                    replace RD1 := Lib.hid (RD1.out.next hbU2)
                    replace kx := kx.next hbU2
                    replace HMS := Lib.hid (HMS.out.next hbU2)
                    replace hB := bt hbU2 hB
                    clear hbU2
                    obtain ⟨x0, x1, x2, x3, x4⟩ := Ls.box5 kx
                    have lx := kx.lt
                    obtain ⟨Lf, hLf⟩ : ∃ Lf, leftL al (x.f) = Lf := ⟨_, rfl⟩
                    have HLF := Lib.hid hLf
                    have hLl : Lf.length ≤ al.length := by rw [← hLf]; exact left_len _ _
                    clear hLf
                    have HVA : Hid (vlB al = true) := RD.out.sq.valid al.length (Nat.le_refl _) (by omega)
                    have HRA : Hid (RdL U2 U2.heap.size (some ⟨bkk, okk, none⟩) al) := RdL.next (show RdL wr wr.heap.size (some ⟨bkk, okk, none⟩) al from HRV.out) hB
                    have hm1 : ∀ (W : World) (ts : Array TypeId) (t : TypeId), (Builtin.min_ ts t #[.int .i64 x.f, .int .i64 1100000]).run Tryd.prog W = .ok (.int .i64 x.f) W := fun W ts t => by rw [vmin2, show min x.f 1100000 = x.f by omega]
                    have hm2 : ∀ (W : World) (ts : Array TypeId) (t : TypeId), (Builtin.max_ ts t #[.int .i64 0, .int .i64 x.f]).run Tryd.prog W = .ok (.int .i64 x.f) W := fun W ts t => by rw [vmax2, show max 0 x.f = (x.f : Int) by omega]
                    go_wp2_with fail
                    refine (Expire_lit Lf al _ cv (x.f) _ HVA.out (by omega) (by omega) HLF.out HRA.out (by omega)).mono ?_
                    rintro e X3 ⟨A8, c8, rfl, hc8, r8, hb⟩
                    clear x0 x1 x2 x3 x4 lx r8
                    have RD3 := Lib.hid (RD1.out.next hb)
                    clear hb
                    go_wp2
                    go_roundw
                    case rel => exact ⟨k + 1, fm, al, A, c, by go_num, by omega, by omega, HGEN.out, RD3.out⟩
                    case measure => simp [intOf]; omega
              · have HQ := Lib.hid hq
                clear hdec hq HRX0
                by_cases hf0 : x.f < 0
                · obtain ⟨x0, x1, x2, x3, x4⟩ := Ls.box5 kx
                  have lx := kx.lt
                  have HRX : Hid (RdL X1 X1.heap.size Av al) := RdL.next (show RdL wr wr.heap.size Av al from HRV.out) hB
                  obtain ⟨bkk, okk, rfl, _, u0, u1, u2, u3, u4⟩ := HRX.out.at_ (i := al.length - 1) (by omega)
                  obtain ⟨yl, hyl⟩ : ∃ y, y = lastL al := ⟨_, rfl⟩
                  rw [← getD_of (by omega : al.length - 1 < al.length), show al.getD (al.length - 1) l0 = yl from hyl.symm] at u0 u1 u2 u3 u4
                  obtain ⟨kk, hkk⟩ : ∃ k, k = al.length - 1 := ⟨_, rfl⟩
                  rw [← hkk] at u0 u1 u2 u3 u4
                  have j0kk : (al.length : Int) - 1 = (kk : Int) := by omega
                  have j1kk : (0 : Int) ≤ (kk : Int) := by omega
                  have j2kk : (kk : Int) < (al.length : Int) := by omega
                  have j3kk : IntKind.i64.wrap ((al.length : Int) - 1) = (kk : Int) := by rw [IntWalk.i64_in _ (by omega)]; omega
                  have Hyl := Lib.hid hyl
                  clear hkk hyl
                  have n0 : ((al.length : Int) == 0) = false := by rw [beq_eq_false_iff_ne]; omega
                  have d1 : decide (yl.n < x.n) = false := by rw [Hyl.out]; simpa using HQ.out
                  go_wp2
                  have Rx0 := cell_regrown x0
                  have Rx1 := cell_regrown x1
                  have Rx2 := cell_regrown x2
                  have Rx3 := cell_regrown x3
                  have Rx4 := cell_regrown x4
                  have Ru0 := cell_regrown u0
                  have Ru3 := cell_regrown u3
                  have CO := fun (d : Nat) (os : Array Obj) => Calls.regrown_of (Ls.rOne_lit true x (grow (redrawn X1 d) os) HOB.out)
                  refine wp_region_quiet_below (by kernel_rfl) (by kernel_rfl) ?_
                  repeat (first | go_big_quiet_step (first | (with_reducible exact CO _ _)) | quiet_step (first | (with_reducible exact CO _ _)))
                  refine wpQuiet_nil ?_
                  intro _ hw'
                  obtain ⟨⟨dq, osq⟩, hw''⟩ := hw'
                  subst hw''
                  obtain ⟨U2, hU2⟩ : ∃ V, V = grow (redrawn X1 dq) osq := ⟨_, rfl⟩
                  have hbU2 : Below X1.heap.size X1 U2 := by rw [hU2]; exact below_regrown _ _ _
                  rw [← hU2]
                  clear hU2
                  clear Rx0
                  clear Rx1
                  clear Rx2
                  clear Rx3
                  clear Rx4
                  clear Ru0
                  clear Ru3
                  clear CO
                  clear x0 x1 x2 x3 x4 lx
                  clear u0 u1 u2 u3 u4 HRX
                  replace RD1 := Lib.hid (RD1.out.next hbU2)
                  replace kx := kx.next hbU2
                  replace HMS := Lib.hid (HMS.out.next hbU2)
                  replace hB := bt hbU2 hB
                  clear hbU2
                  obtain ⟨x0, x1, x2, x3, x4⟩ := Ls.box5 kx
                  have lx := kx.lt
                  obtain ⟨Lf, hLf⟩ : ∃ Lf, leftL al (0) = Lf := ⟨_, rfl⟩
                  have HLF := Lib.hid hLf
                  have hLl : Lf.length ≤ al.length := by rw [← hLf]; exact left_len _ _
                  clear hLf
                  have HVA : Hid (vlB al = true) := RD.out.sq.valid al.length (Nat.le_refl _) (by omega)
                  have HRA : Hid (RdL U2 U2.heap.size (some ⟨bkk, okk, none⟩) al) := RdL.next (show RdL wr wr.heap.size (some ⟨bkk, okk, none⟩) al from HRV.out) hB
                  have hm1 : ∀ (W : World) (ts : Array TypeId) (t : TypeId), (Builtin.min_ ts t #[.int .i64 x.f, .int .i64 1100000]).run Tryd.prog W = .ok (.int .i64 x.f) W := fun W ts t => by rw [vmin2, show min x.f 1100000 = x.f by omega]
                  have hm2 : ∀ (W : World) (ts : Array TypeId) (t : TypeId), (Builtin.max_ ts t #[.int .i64 0, .int .i64 x.f]).run Tryd.prog W = .ok (.int .i64 0) W := fun W ts t => by rw [vmax2, show max 0 x.f = (0 : Int) by omega]
                  go_wp2_with fail
                  refine (Expire_lit Lf al _ cv (0) _ HVA.out (by omega) (by omega) HLF.out HRA.out (by omega)).mono ?_
                  rintro e X3 ⟨A8, c8, rfl, hc8, r8, hb⟩
                  clear x0 x1 x2 x3 x4 lx r8
                  have RD3 := Lib.hid (RD1.out.next hb)
                  clear hb
                  go_wp2
                  go_roundw
                  case rel => exact ⟨k + 1, fm, al, A, c, by go_num, by omega, by omega, HGEN.out, RD3.out⟩
                  case measure => simp [intOf]; omega
                · by_cases hf1 : 1100000 < x.f
                  · obtain ⟨x0, x1, x2, x3, x4⟩ := Ls.box5 kx
                    have lx := kx.lt
                    have HRX : Hid (RdL X1 X1.heap.size Av al) := RdL.next (show RdL wr wr.heap.size Av al from HRV.out) hB
                    obtain ⟨bkk, okk, rfl, _, u0, u1, u2, u3, u4⟩ := HRX.out.at_ (i := al.length - 1) (by omega)
                    obtain ⟨yl, hyl⟩ : ∃ y, y = lastL al := ⟨_, rfl⟩
                    rw [← getD_of (by omega : al.length - 1 < al.length), show al.getD (al.length - 1) l0 = yl from hyl.symm] at u0 u1 u2 u3 u4
                    obtain ⟨kk, hkk⟩ : ∃ k, k = al.length - 1 := ⟨_, rfl⟩
                    rw [← hkk] at u0 u1 u2 u3 u4
                    have j0kk : (al.length : Int) - 1 = (kk : Int) := by omega
                    have j1kk : (0 : Int) ≤ (kk : Int) := by omega
                    have j2kk : (kk : Int) < (al.length : Int) := by omega
                    have j3kk : IntKind.i64.wrap ((al.length : Int) - 1) = (kk : Int) := by rw [IntWalk.i64_in _ (by omega)]; omega
                    have Hyl := Lib.hid hyl
                    clear hkk hyl
                    have n0 : ((al.length : Int) == 0) = false := by rw [beq_eq_false_iff_ne]; omega
                    have d1 : decide (yl.n < x.n) = false := by rw [Hyl.out]; simpa using HQ.out
                    go_wp2
                    have Rx0 := cell_regrown x0
                    have Rx1 := cell_regrown x1
                    have Rx2 := cell_regrown x2
                    have Rx3 := cell_regrown x3
                    have Rx4 := cell_regrown x4
                    have Ru0 := cell_regrown u0
                    have Ru3 := cell_regrown u3
                    have CO := fun (d : Nat) (os : Array Obj) => Calls.regrown_of (Ls.rOne_lit true x (grow (redrawn X1 d) os) HOB.out)
                    refine wp_region_quiet_below (by kernel_rfl) (by kernel_rfl) ?_
                    repeat (first | go_big_quiet_step (first | (with_reducible exact CO _ _)) | quiet_step (first | (with_reducible exact CO _ _)))
                    refine wpQuiet_nil ?_
                    intro _ hw'
                    obtain ⟨⟨dq, osq⟩, hw''⟩ := hw'
                    subst hw''
                    obtain ⟨U2, hU2⟩ : ∃ V, V = grow (redrawn X1 dq) osq := ⟨_, rfl⟩
                    have hbU2 : Below X1.heap.size X1 U2 := by rw [hU2]; exact below_regrown _ _ _
                    rw [← hU2]
                    clear hU2
                    clear Rx0
                    clear Rx1
                    clear Rx2
                    clear Rx3
                    clear Rx4
                    clear Ru0
                    clear Ru3
                    clear CO
                    clear x0 x1 x2 x3 x4 lx
                    clear u0 u1 u2 u3 u4 HRX
                    replace RD1 := Lib.hid (RD1.out.next hbU2)
                    replace kx := kx.next hbU2
                    replace HMS := Lib.hid (HMS.out.next hbU2)
                    replace hB := bt hbU2 hB
                    clear hbU2
                    obtain ⟨x0, x1, x2, x3, x4⟩ := Ls.box5 kx
                    have lx := kx.lt
                    obtain ⟨Lf, hLf⟩ : ∃ Lf, leftL al (1100000) = Lf := ⟨_, rfl⟩
                    have HLF := Lib.hid hLf
                    have hLl : Lf.length ≤ al.length := by rw [← hLf]; exact left_len _ _
                    clear hLf
                    have HVA : Hid (vlB al = true) := RD.out.sq.valid al.length (Nat.le_refl _) (by omega)
                    have HRA : Hid (RdL U2 U2.heap.size (some ⟨bkk, okk, none⟩) al) := RdL.next (show RdL wr wr.heap.size (some ⟨bkk, okk, none⟩) al from HRV.out) hB
                    have hm1 : ∀ (W : World) (ts : Array TypeId) (t : TypeId), (Builtin.min_ ts t #[.int .i64 x.f, .int .i64 1100000]).run Tryd.prog W = .ok (.int .i64 1100000) W := fun W ts t => by rw [vmin2, show min x.f 1100000 = 1100000 by omega]
                    have hm2 : ∀ (W : World) (ts : Array TypeId) (t : TypeId), (Builtin.max_ ts t #[.int .i64 0, .int .i64 1100000]).run Tryd.prog W = .ok (.int .i64 1100000) W := fun W ts t => by rw [vmax2, show max 0 1100000 = (1100000 : Int) by omega]
                    go_wp2_with fail
                    refine (Expire_lit Lf al _ cv (1100000) _ HVA.out (by omega) (by omega) HLF.out HRA.out (by omega)).mono ?_
                    rintro e X3 ⟨A8, c8, rfl, hc8, r8, hb⟩
                    clear x0 x1 x2 x3 x4 lx r8
                    have RD3 := Lib.hid (RD1.out.next hb)
                    clear hb
                    go_wp2
                    go_roundw
                    case rel => exact ⟨k + 1, fm, al, A, c, by go_num, by omega, by omega, HGEN.out, RD3.out⟩
                    case measure => simp [intOf]; omega
                  · obtain ⟨x0, x1, x2, x3, x4⟩ := Ls.box5 kx
                    have lx := kx.lt
                    have HRX : Hid (RdL X1 X1.heap.size Av al) := RdL.next (show RdL wr wr.heap.size Av al from HRV.out) hB
                    obtain ⟨bkk, okk, rfl, _, u0, u1, u2, u3, u4⟩ := HRX.out.at_ (i := al.length - 1) (by omega)
                    obtain ⟨yl, hyl⟩ : ∃ y, y = lastL al := ⟨_, rfl⟩
                    rw [← getD_of (by omega : al.length - 1 < al.length), show al.getD (al.length - 1) l0 = yl from hyl.symm] at u0 u1 u2 u3 u4
                    obtain ⟨kk, hkk⟩ : ∃ k, k = al.length - 1 := ⟨_, rfl⟩
                    rw [← hkk] at u0 u1 u2 u3 u4
                    have j0kk : (al.length : Int) - 1 = (kk : Int) := by omega
                    have j1kk : (0 : Int) ≤ (kk : Int) := by omega
                    have j2kk : (kk : Int) < (al.length : Int) := by omega
                    have j3kk : IntKind.i64.wrap ((al.length : Int) - 1) = (kk : Int) := by rw [IntWalk.i64_in _ (by omega)]; omega
                    have Hyl := Lib.hid hyl
                    clear hkk hyl
                    have n0 : ((al.length : Int) == 0) = false := by rw [beq_eq_false_iff_ne]; omega
                    have d1 : decide (yl.n < x.n) = false := by rw [Hyl.out]; simpa using HQ.out
                    go_wp2
                    have Rx0 := cell_regrown x0
                    have Rx1 := cell_regrown x1
                    have Rx2 := cell_regrown x2
                    have Rx3 := cell_regrown x3
                    have Rx4 := cell_regrown x4
                    have Ru0 := cell_regrown u0
                    have Ru3 := cell_regrown u3
                    have CO := fun (d : Nat) (os : Array Obj) => Calls.regrown_of (Ls.rOne_lit true x (grow (redrawn X1 d) os) HOB.out)
                    refine wp_region_quiet_below (by kernel_rfl) (by kernel_rfl) ?_
                    repeat (first | go_big_quiet_step (first | (with_reducible exact CO _ _)) | quiet_step (first | (with_reducible exact CO _ _)))
                    refine wpQuiet_nil ?_
                    intro _ hw'
                    obtain ⟨⟨dq, osq⟩, hw''⟩ := hw'
                    subst hw''
                    obtain ⟨U2, hU2⟩ : ∃ V, V = grow (redrawn X1 dq) osq := ⟨_, rfl⟩
                    have hbU2 : Below X1.heap.size X1 U2 := by rw [hU2]; exact below_regrown _ _ _
                    rw [← hU2]
                    clear hU2
                    clear Rx0
                    clear Rx1
                    clear Rx2
                    clear Rx3
                    clear Rx4
                    clear Ru0
                    clear Ru3
                    clear CO
                    clear x0 x1 x2 x3 x4 lx
                    clear u0 u1 u2 u3 u4 HRX
                    replace RD1 := Lib.hid (RD1.out.next hbU2)
                    replace kx := kx.next hbU2
                    replace HMS := Lib.hid (HMS.out.next hbU2)
                    replace hB := bt hbU2 hB
                    clear hbU2
                    obtain ⟨x0, x1, x2, x3, x4⟩ := Ls.box5 kx
                    have lx := kx.lt
                    obtain ⟨Lf, hLf⟩ : ∃ Lf, leftL al (x.f) = Lf := ⟨_, rfl⟩
                    have HLF := Lib.hid hLf
                    have hLl : Lf.length ≤ al.length := by rw [← hLf]; exact left_len _ _
                    clear hLf
                    have HVA : Hid (vlB al = true) := RD.out.sq.valid al.length (Nat.le_refl _) (by omega)
                    have HRA : Hid (RdL U2 U2.heap.size (some ⟨bkk, okk, none⟩) al) := RdL.next (show RdL wr wr.heap.size (some ⟨bkk, okk, none⟩) al from HRV.out) hB
                    have hm1 : ∀ (W : World) (ts : Array TypeId) (t : TypeId), (Builtin.min_ ts t #[.int .i64 x.f, .int .i64 1100000]).run Tryd.prog W = .ok (.int .i64 x.f) W := fun W ts t => by rw [vmin2, show min x.f 1100000 = x.f by omega]
                    have hm2 : ∀ (W : World) (ts : Array TypeId) (t : TypeId), (Builtin.max_ ts t #[.int .i64 0, .int .i64 x.f]).run Tryd.prog W = .ok (.int .i64 x.f) W := fun W ts t => by rw [vmax2, show max 0 x.f = (x.f : Int) by omega]
                    go_wp2_with fail
                    refine (Expire_lit Lf al _ cv (x.f) _ HVA.out (by omega) (by omega) HLF.out HRA.out (by omega)).mono ?_
                    rintro e X3 ⟨A8, c8, rfl, hc8, r8, hb⟩
                    clear x0 x1 x2 x3 x4 lx r8
                    have RD3 := Lib.hid (RD1.out.next hb)
                    clear hb
                    go_wp2
                    go_roundw
                    case rel => exact ⟨k + 1, fm, al, A, c, by go_num, by omega, by omega, HGEN.out, RD3.out⟩
                    case measure => simp [intOf]; omega
          · obtain ⟨G, hG⟩ : ∃ G, stoE fm x x.f = G := ⟨_, rfl⟩
            have HG := Lib.hid hG
            have q0 : (G == 0) = false := by rw [← hG]; simpa using h0
            have HOB : Hid (oneB x = false) := by show _ = _; simpa using ho
            clear hG h0 ho
            go_wp2_with fail
            have HST := vStore_m fm x x.f A c (wr.alloc (.cells #[.int .i64 x.n, .int .i64 x.c, .int .i64 x.a, .int .i64 x.f, .int .i64 x.t] 26)) (RD.out.rd.next (al1 _ _)) RD.out.cap (F_W0.out.next (bt (al1 _ _) RD.out.below))
            rw [HG.out] at HST
            refine HST.mono ?_
            rintro e X1 ⟨v1, its, rfl, hms, hmap, hb⟩
            obtain ⟨A1, c1, rfl, hc1, _⟩ := own_read hms.1
            have kx : Bk X1 wr.heap.size 26 #[.int .i64 x.n, .int .i64 x.c, .int .i64 x.a, .int .i64 x.f, .int .i64 x.t] := (Bk.new _ _ _).next hb
            have hB := bt hb (al1 wr (.cells #[.int .i64 x.n, .int .i64 x.c, .int .i64 x.a, .int .i64 x.f, .int .i64 x.t] 26))
            have RD1 := Lib.hid (RD.out.next hB)
            have HMS := Lib.hid hms
            have HMP := Lib.hid hmap
            clear y0 y1 y2 y3 y4 c60 c61 lBf hb HST hms hmap
            by_cases hf0 : x.f < 0
            · obtain ⟨x0, x1, x2, x3, x4⟩ := Ls.box5 kx
              have lx := kx.lt
              go_wp2
              have Rx0 := cell_regrown x0
              have Rx1 := cell_regrown x1
              have Rx2 := cell_regrown x2
              have Rx3 := cell_regrown x3
              have Rx4 := cell_regrown x4
              have CO := fun (d : Nat) (os : Array Obj) => Calls.regrown_of (Ls.rOne_lit false x (grow (redrawn X1 d) os) HOB.out)
              refine wp_region_quiet_below (by kernel_rfl) (by kernel_rfl) ?_
              repeat (first | go_big_quiet_step (first | (with_reducible exact CO _ _)) | quiet_step (first | (with_reducible exact CO _ _)))
              refine wpQuiet_nil ?_
              intro _ hw'
              obtain ⟨⟨dq, osq⟩, hw''⟩ := hw'
              subst hw''
              obtain ⟨U2, hU2⟩ : ∃ V, V = grow (redrawn X1 dq) osq := ⟨_, rfl⟩
              have hbU2 : Below X1.heap.size X1 U2 := by rw [hU2]; exact below_regrown _ _ _
              rw [← hU2]
              clear hU2
              clear Rx0
              clear Rx1
              clear Rx2
              clear Rx3
              clear Rx4
              clear CO
              clear x0 x1 x2 x3 x4 lx
              replace RD1 := Lib.hid (RD1.out.next hbU2)
              replace kx := kx.next hbU2
              replace HMS := Lib.hid (HMS.out.next hbU2)
              replace hB := bt hbU2 hB
              clear hbU2
              obtain ⟨x0, x1, x2, x3, x4⟩ := Ls.box5 kx
              have lx := kx.lt
              obtain ⟨Lf, hLf⟩ : ∃ Lf, leftL al (0) = Lf := ⟨_, rfl⟩
              have HLF := Lib.hid hLf
              have hLl : Lf.length ≤ al.length := by rw [← hLf]; exact left_len _ _
              clear hLf
              have HVA : Hid (vlB al = true) := RD.out.sq.valid al.length (Nat.le_refl _) (by omega)
              have HRA : Hid (RdL U2 U2.heap.size Av al) := RdL.next (show RdL wr wr.heap.size Av al from HRV.out) hB
              have hm1 : ∀ (W : World) (ts : Array TypeId) (t : TypeId), (Builtin.min_ ts t #[.int .i64 x.f, .int .i64 1100000]).run Tryd.prog W = .ok (.int .i64 x.f) W := fun W ts t => by rw [vmin2, show min x.f 1100000 = x.f by omega]
              have hm2 : ∀ (W : World) (ts : Array TypeId) (t : TypeId), (Builtin.max_ ts t #[.int .i64 0, .int .i64 x.f]).run Tryd.prog W = .ok (.int .i64 0) W := fun W ts t => by rw [vmax2, show max 0 x.f = (0 : Int) by omega]
              go_wp2_with fail
              refine (Expire_lit Lf al _ cv (0) _ HVA.out (by omega) (by omega) HLF.out HRA.out (by omega)).mono ?_
              rintro e X3 ⟨A8, c8, rfl, hc8, r8, hb⟩
              clear x0 x1 x2 x3 x4 lx r8
              have RD3 := Lib.hid (RD1.out.next hb)
              clear hb
              go_wp2
              go_roundw
              case rel => exact ⟨k + 1, fm, al, A, c, by go_num, by omega, by omega, HGEN.out, RD3.out⟩
              case measure => simp [intOf]; omega
            · by_cases hf1 : 1100000 < x.f
              · obtain ⟨x0, x1, x2, x3, x4⟩ := Ls.box5 kx
                have lx := kx.lt
                go_wp2
                have Rx0 := cell_regrown x0
                have Rx1 := cell_regrown x1
                have Rx2 := cell_regrown x2
                have Rx3 := cell_regrown x3
                have Rx4 := cell_regrown x4
                have CO := fun (d : Nat) (os : Array Obj) => Calls.regrown_of (Ls.rOne_lit false x (grow (redrawn X1 d) os) HOB.out)
                refine wp_region_quiet_below (by kernel_rfl) (by kernel_rfl) ?_
                repeat (first | go_big_quiet_step (first | (with_reducible exact CO _ _)) | quiet_step (first | (with_reducible exact CO _ _)))
                refine wpQuiet_nil ?_
                intro _ hw'
                obtain ⟨⟨dq, osq⟩, hw''⟩ := hw'
                subst hw''
                obtain ⟨U2, hU2⟩ : ∃ V, V = grow (redrawn X1 dq) osq := ⟨_, rfl⟩
                have hbU2 : Below X1.heap.size X1 U2 := by rw [hU2]; exact below_regrown _ _ _
                rw [← hU2]
                clear hU2
                clear Rx0
                clear Rx1
                clear Rx2
                clear Rx3
                clear Rx4
                clear CO
                clear x0 x1 x2 x3 x4 lx
                replace RD1 := Lib.hid (RD1.out.next hbU2)
                replace kx := kx.next hbU2
                replace HMS := Lib.hid (HMS.out.next hbU2)
                replace hB := bt hbU2 hB
                clear hbU2
                obtain ⟨x0, x1, x2, x3, x4⟩ := Ls.box5 kx
                have lx := kx.lt
                obtain ⟨Lf, hLf⟩ : ∃ Lf, leftL al (1100000) = Lf := ⟨_, rfl⟩
                have HLF := Lib.hid hLf
                have hLl : Lf.length ≤ al.length := by rw [← hLf]; exact left_len _ _
                clear hLf
                have HVA : Hid (vlB al = true) := RD.out.sq.valid al.length (Nat.le_refl _) (by omega)
                have HRA : Hid (RdL U2 U2.heap.size Av al) := RdL.next (show RdL wr wr.heap.size Av al from HRV.out) hB
                have hm1 : ∀ (W : World) (ts : Array TypeId) (t : TypeId), (Builtin.min_ ts t #[.int .i64 x.f, .int .i64 1100000]).run Tryd.prog W = .ok (.int .i64 1100000) W := fun W ts t => by rw [vmin2, show min x.f 1100000 = 1100000 by omega]
                have hm2 : ∀ (W : World) (ts : Array TypeId) (t : TypeId), (Builtin.max_ ts t #[.int .i64 0, .int .i64 1100000]).run Tryd.prog W = .ok (.int .i64 1100000) W := fun W ts t => by rw [vmax2, show max 0 1100000 = (1100000 : Int) by omega]
                go_wp2_with fail
                refine (Expire_lit Lf al _ cv (1100000) _ HVA.out (by omega) (by omega) HLF.out HRA.out (by omega)).mono ?_
                rintro e X3 ⟨A8, c8, rfl, hc8, r8, hb⟩
                clear x0 x1 x2 x3 x4 lx r8
                have RD3 := Lib.hid (RD1.out.next hb)
                clear hb
                go_wp2
                go_roundw
                case rel => exact ⟨k + 1, fm, al, A, c, by go_num, by omega, by omega, HGEN.out, RD3.out⟩
                case measure => simp [intOf]; omega
              · obtain ⟨x0, x1, x2, x3, x4⟩ := Ls.box5 kx
                have lx := kx.lt
                go_wp2
                have Rx0 := cell_regrown x0
                have Rx1 := cell_regrown x1
                have Rx2 := cell_regrown x2
                have Rx3 := cell_regrown x3
                have Rx4 := cell_regrown x4
                have CO := fun (d : Nat) (os : Array Obj) => Calls.regrown_of (Ls.rOne_lit false x (grow (redrawn X1 d) os) HOB.out)
                refine wp_region_quiet_below (by kernel_rfl) (by kernel_rfl) ?_
                repeat (first | go_big_quiet_step (first | (with_reducible exact CO _ _)) | quiet_step (first | (with_reducible exact CO _ _)))
                refine wpQuiet_nil ?_
                intro _ hw'
                obtain ⟨⟨dq, osq⟩, hw''⟩ := hw'
                subst hw''
                obtain ⟨U2, hU2⟩ : ∃ V, V = grow (redrawn X1 dq) osq := ⟨_, rfl⟩
                have hbU2 : Below X1.heap.size X1 U2 := by rw [hU2]; exact below_regrown _ _ _
                rw [← hU2]
                clear hU2
                clear Rx0
                clear Rx1
                clear Rx2
                clear Rx3
                clear Rx4
                clear CO
                clear x0 x1 x2 x3 x4 lx
                replace RD1 := Lib.hid (RD1.out.next hbU2)
                replace kx := kx.next hbU2
                replace HMS := Lib.hid (HMS.out.next hbU2)
                replace hB := bt hbU2 hB
                clear hbU2
                obtain ⟨x0, x1, x2, x3, x4⟩ := Ls.box5 kx
                have lx := kx.lt
                obtain ⟨Lf, hLf⟩ : ∃ Lf, leftL al (x.f) = Lf := ⟨_, rfl⟩
                have HLF := Lib.hid hLf
                have hLl : Lf.length ≤ al.length := by rw [← hLf]; exact left_len _ _
                clear hLf
                have HVA : Hid (vlB al = true) := RD.out.sq.valid al.length (Nat.le_refl _) (by omega)
                have HRA : Hid (RdL U2 U2.heap.size Av al) := RdL.next (show RdL wr wr.heap.size Av al from HRV.out) hB
                have hm1 : ∀ (W : World) (ts : Array TypeId) (t : TypeId), (Builtin.min_ ts t #[.int .i64 x.f, .int .i64 1100000]).run Tryd.prog W = .ok (.int .i64 x.f) W := fun W ts t => by rw [vmin2, show min x.f 1100000 = x.f by omega]
                have hm2 : ∀ (W : World) (ts : Array TypeId) (t : TypeId), (Builtin.max_ ts t #[.int .i64 0, .int .i64 x.f]).run Tryd.prog W = .ok (.int .i64 x.f) W := fun W ts t => by rw [vmax2, show max 0 x.f = (x.f : Int) by omega]
                go_wp2_with fail
                refine (Expire_lit Lf al _ cv (x.f) _ HVA.out (by omega) (by omega) HLF.out HRA.out (by omega)).mono ?_
                rintro e X3 ⟨A8, c8, rfl, hc8, r8, hb⟩
                clear x0 x1 x2 x3 x4 lx r8
                have RD3 := Lib.hid (RD1.out.next hb)
                clear hb
                go_wp2
                go_roundw
                case rel => exact ⟨k + 1, fm, al, A, c, by go_num, by omega, by omega, HGEN.out, RD3.out⟩
                case measure => simp [intOf]; omega
      · obtain rfl : k = l.length := by omega
        go_wp2
        go_ret
        exact ⟨rfl, RD.out.below⟩
end Go.Proofs.YtcnhmgcingmphaaDoor
