/- journal: the steps (begin, last, add, program, erase, result). -/
import Derived.Test.YthebojaminploaaGreatDoorKJd
import Derived.Test.YthebojaminploaaGreatDoorKJe
import Derived.Test.YthebojaminploaaGreatDoorKJi
set_option maxRecDepth 100000
set_option linter.unusedVariables false
set_option linter.unusedSimpArgs false
namespace Go.Proofs.YthebojaminploaaGreatDoor
open Go.RowKit Go.Sort Go.Shelf

/-- the steps at sp hold these memories -/
def St (base sp : Nat) (s : Int) (its : List Itm) (W : World) : Prop := ∃ v, Bk W sp 95 #[v, .int .i64 0] ∧ Ms base s its v W

theorem St.start {X : World} {base : Nat} {s : Int} {x : Itm} (hb : base ≤ X.heap.size) (hx : X.ownsRow 0 5 1 (cellB x) x.2.2.length (u8s x.2.2)) :
    St base (X.heap.size + 1) s [x] ((X.alloc (.cells #[.int .i64 s, .slice x.1 x.2.2.length x.2.1] 24)).alloc (.cells #[.slice (some ⟨X.heap.size, 0, none⟩) 1 1, .int .i64 0] 95)) :=
  ⟨.slice (some ⟨X.heap.size, 0, none⟩) 1 1, bkOf (by simp [at?_alloc]), ⟨rfl, .inr ⟨X.heap.size, 1, _, rfl, hb, (Bk.new _ _ _).alloc _, Nat.le_refl _, by simp [maxLen], rfl, rfl⟩⟩, fun y hy => by
    obtain rfl : y = x := by simpa using hy
    exact own_on hx (al2 _ _ _)⟩
set_option maxHeartbeats 1500000 in
theorem begin_any (s : Int) (bs : List UInt8) (A : Option Addr) (c : Nat) (w : World) (hA : RdB w w.heap.size A bs) (hn : bs.length ≤ 1000000) :
    Calls Tryz.prog 37 #[.agg #[.int .i64 s, .slice A bs.length c]] w fun e w' => ∃ sp x, e = .returned (.pointer (some ⟨sp, 0, none⟩)) ∧ w.heap.size ≤ sp ∧ St w.heap.size sp s [x] w' ∧ x.2.2 = bs ∧ Below w.heap.size w w' := by
  obtain ⟨i0, hi, hz0, hz1, hz2⟩ := info_parts info_u8
  have HA := Lib.hid hA
  clear hA
  go_enter Tryz.func37, Tryz.ntmps37
  go_wp2
  obtain ⟨U, hU⟩ : ∃ Zz, Zz = w.alloc (.cells #[.int .i64 s, .slice A bs.length c] 24) := ⟨_, rfl⟩
  have hbU : Below w.heap.size w U := by rw [hU]; exact al1 _ _
  have k1 : Bk U w.heap.size 24 #[.int .i64 s, .slice A bs.length c] := by rw [hU]; exact Bk.new _ _ _
  rw [← hU]
  clear hU
  have hus : w.heap.size < U.heap.size := k1.lt
  have HAU := Lib.hid (HA.out.next hbU)
  have HBU := Lib.hid hbU
  clear hbU
  obtain ⟨c0, c1⟩ := box2 k1
  have HS : Hid (∀ W, Below U.heap.size U W → W.cell? ⟨w.heap.size, 0, none⟩ = some (.int .i64 s) ∧ W.cell? ⟨w.heap.size, 1, none⟩ = some (.slice A bs.length c)) := fun W hW => box2 (k1.next hW)
  have HRD : Hid (∀ W, Below U.heap.size U W → RdS W W.heap.size 1 A bs.length (u8s bs)) := fun W hW => RdS.next HAU.out hW
  clear k1
  refine region_S (fun w' => w'.cell? ⟨w.heap.size, 0, none⟩ = some (.int .i64 s) ∧ w'.cell? ⟨w.heap.size, 1, none⟩ = some (.slice A bs.length c)) 8 (by kernel_rfl) ?_
  obtain ⟨U0, hU0⟩ : ∃ Zz, Zz = U.drew := ⟨_, rfl⟩
  have hb0 : Below U.heap.size U U0 := by rw [hU0]; exact (Below.refl _ U).drew
  rw [← hU0]
  clear hU0
  have HS0 := HS.out _ hb0
  refine anyS_take (i := 0) rfl (by kernel_rfl) (by kernel_rfl) (by kernel_rfl) (by kernel_rfl) (fun _ _ _ h => h) (Or.inl ⟨by rfl, fun w' hS' => (by obtain ⟨s1, s2⟩ := hS'; go_simp; try with_reducible rfl)⟩) HS0 ?_
  refine anyS_take (i := 1) rfl (by kernel_rfl) (by kernel_rfl) (by kernel_rfl) (by kernel_rfl) (fun _ _ _ h => h) (Or.inl ⟨by rfl, fun w' hS' => (by obtain ⟨s1, s2⟩ := hS'; go_simp; try with_reducible rfl)⟩) HS0 ?_
  refine anyS_take (i := 3) rfl (by kernel_rfl) (by kernel_rfl) (by kernel_rfl) (by kernel_rfl) (fun _ _ _ h => h) (Or.inl ⟨by rfl, fun w' hS' => (by obtain ⟨s1, s2⟩ := hS'; go_simp; try with_reducible rfl)⟩) HS0 ?_
  refine anyS_take (i := 4) rfl (by kernel_rfl) (by kernel_rfl) (by kernel_rfl) (by kernel_rfl) (fun _ _ _ h => h) (Or.inl ⟨by rfl, fun w' hS' => (by obtain ⟨s1, s2⟩ := hS'; go_simp; try with_reducible rfl)⟩) HS0 ?_
  refine anyS_two (i := 2) (j := 7) (by kernel_rfl) rfl rfl rfl rfl (fun K hK => ?_) (fun K hK => ?_)
  · go_simp
    obtain ⟨U1, hU1⟩ : ∃ Zz, Zz = U0.alloc (.cells #[] 5) := ⟨_, rfl⟩
    have hx : Below U0.heap.size U0 U1 := by rw [hU1]; exact al1 _ _
    have k6 : Bk U1 U0.heap.size 5 #[] := by rw [hU1]; exact Bk.new _ _ _
    rw [← hU1]
    clear hU1
    have hb1 := bt hx hb0
    clear hx
    have l6 := hb0.size
    have lk6 := k6.lt
    refine hK _ _ (fun _ => HS.out _ hb1) ?_
    clear hK K
    refine anyS_two (i := 5) (j := 7) (by kernel_rfl) rfl rfl rfl rfl (fun K hK => ?_) (fun K hK => ?_)
    · refine wp_append_rd _ (.tmp 6) (.tmp 8) _ (by rfl) U.heap.size 5 i0 _ 1 1 Tryz.underlying22 hi hz0 hz1 hz2 rfl (by omega) (.slice (some ⟨U0.heap.size, 0, none⟩) 0 0) 0 [] (by rfl) (own_block k6 l6 (by simp)) _ A bs.length c (u8s bs) (by rfl) (HRD.out _ hb1) (u8s_one _) (by simp only [maxLen]; omega) (by omega) hb1.size ?_
      intro v1 U2 hown1 hg1 hat1
      have hb2 : Below U.heap.size U U2 := hb1.grown hg1 hb1.size (by intro k hk; simp [Value.ownBlock] at hk; omega)
      have ho1 : U2.ownsRow U.heap.size 5 1 v1 bs.length (u8s bs) := by simpa using hown1
      obtain ⟨A1, q1, rfl, hq1, _⟩ := own_read ho1
      have HO1 := Lib.hid ho1

      clear hown1 hat1 ho1 k6
      refine hK _ _ (fun _ => HS.out _ hb2) ?_
      clear hK K
      refine anyS_take (i := 6) rfl (by kernel_rfl) (by kernel_rfl) (by kernel_rfl) (by kernel_rfl) (fun _ _ _ h => h) (Or.inl ⟨by rfl, fun w' hS' => (by obtain ⟨s1, s2⟩ := hS'; go_simp; try with_reducible rfl)⟩) (HS.out _ hb2) ?_
      refine anyS_one (i := 7) (by kernel_rfl) rfl rfl (fun K hK => ?_)
      go_simp
      obtain ⟨U3, hU3⟩ : ∃ Zz, Zz = U2.alloc (.cells #[.int .i64 0, .slice none 0 0] 24) := ⟨_, rfl⟩
      have hx : Below U2.heap.size U2 U3 := by rw [hU3]; exact al1 _ _
      have k3 : Bk U3 U2.heap.size 24 #[.int .i64 0, .slice none 0 0] := by rw [hU3]; exact Bk.new _ _ _
      rw [← hU3]
      clear hU3
      have hb3 := bt hx hb2
      replace HO1 := Lib.hid (own_on HO1.out hx)
      clear hx
      have l3 := hb2.size
      have lk3 := k3.lt
      refine hK _ _ (fun _ => HS.out _ hb3) ?_
      clear hK K
      refine anyS_one (i := 8) (by kernel_rfl) rfl rfl (fun K hK => ?_)
      obtain ⟨e0, e1⟩ := box2 k3
      have g0 := k3.frozen 0
      have g1 := k3.frozen 1
      go_simp
      refine hK _ _ (fun h => absurd rfl h) ?_
      clear hK K
      refine anyS_done (by kernel_rfl) ?_ _
      simp only [normPost]
      obtain ⟨X, hX⟩ : ∃ Zz, Zz = (U3.setCell ⟨U2.heap.size, 0, none⟩ (.int .i64 s)).setCell ⟨U2.heap.size, 1, none⟩ (.slice A1 bs.length q1) := ⟨_, rfl⟩
      have kX : Bk X U2.heap.size 24 #[.int .i64 s, .slice A1 bs.length q1] := by rw [hX]; simpa using (k3.set 0 (.int .i64 s)).set 1 (.slice A1 bs.length q1)
      have hbX : Below U.heap.size U X := by rw [hX]; exact (hb3.setCell (p := ⟨U2.heap.size, 0, none⟩) l3 _).setCell (p := ⟨U2.heap.size, 1, none⟩) l3 _
      have hOX : X.ownsRow U.heap.size 5 1 (.slice A1 bs.length q1) bs.length (u8s bs) := by
        rw [hX]
        exact own_set_far (own_set_far HO1.out (p := ⟨U2.heap.size, 0, none⟩) (own_ne HO1.out k3 (by decide)) _) (p := ⟨U2.heap.size, 1, none⟩) (by
          have := own_set_far HO1.out (p := ⟨U2.heap.size, 0, none⟩) (own_ne HO1.out k3 (by decide)) (.int .i64 s)
          exact own_ne this (k3.set 0 (.int .i64 s)) (by decide)) _
      rw [← hX]
      clear hX e0 e1 g0 g1 HO1 HS0 k3
      obtain ⟨e0, e1⟩ := box2 kX
      have lX := hbX.size
      go_wp2
      go_ret
      exact ⟨X.heap.size + 1, (A1, q1, bs), rfl, by omega, St.start (by omega) (own_mono hOX (Nat.zero_le _)), rfl, bt (bt (al2 _ _ _) (hbX.mono (Nat.le_refl _))) HBU.out⟩
    · go_simp
      obtain ⟨U2, hU2⟩ : ∃ Zz, Zz = U1.alloc (.cells #[.int .i64 0, .slice none 0 0] 24) := ⟨_, rfl⟩
      have hx : Below U1.heap.size U1 U2 := by rw [hU2]; exact al1 _ _
      have k3 : Bk U2 U1.heap.size 24 #[.int .i64 0, .slice none 0 0] := by rw [hU2]; exact Bk.new _ _ _
      rw [← hU2]
      clear hU2
      have hb2 := bt hx hb1
      replace k6 := k6.next hx
      clear hx
      have l3 := hb1.size
      have lk3 := k3.lt
      refine hK _ _ (fun _ => HS.out _ hb2) ?_
      clear hK K
      refine anyS_one (i := 5) (by kernel_rfl) rfl rfl (fun K hK => ?_)
      refine wp_append_rd _ (.tmp 6) (.tmp 8) _ (by rfl) U.heap.size 5 i0 _ 1 1 Tryz.underlying22 hi hz0 hz1 hz2 rfl (by omega) (.slice (some ⟨U0.heap.size, 0, none⟩) 0 0) 0 [] (by rfl) (own_block k6 l6 (by simp)) _ A bs.length c (u8s bs) (by rfl) (HRD.out _ hb2) (u8s_one _) (by simp only [maxLen]; omega) (by omega) hb2.size ?_
      intro v1 U3 hown1 hg1 hat1
      have hb3 : Below U.heap.size U U3 := hb2.grown hg1 hb2.size (by intro k hk; simp [Value.ownBlock] at hk; omega)
      have ho1 : U3.ownsRow U.heap.size 5 1 v1 bs.length (u8s bs) := by simpa using hown1
      obtain ⟨A1, q1, rfl, hq1, _⟩ := own_read ho1
      have HO1 := Lib.hid ho1
      replace k3 := Bk.grown k3 hg1 (by simp [Value.ownBlock]; omega)
      clear hown1 hat1 ho1 k6
      refine hK _ _ (fun _ => HS.out _ hb3) ?_
      clear hK K
      refine anyS_take (i := 6) rfl (by kernel_rfl) (by kernel_rfl) (by kernel_rfl) (by kernel_rfl) (fun _ _ _ h => h) (Or.inl ⟨by rfl, fun w' hS' => (by obtain ⟨s1, s2⟩ := hS'; go_simp; try with_reducible rfl)⟩) (HS.out _ hb3) ?_
      refine anyS_one (i := 8) (by kernel_rfl) rfl rfl (fun K hK => ?_)
      obtain ⟨e0, e1⟩ := box2 k3
      have g0 := k3.frozen 0
      have g1 := k3.frozen 1
      go_simp
      refine hK _ _ (fun h => absurd rfl h) ?_
      clear hK K
      refine anyS_done (by kernel_rfl) ?_ _
      simp only [normPost]
      obtain ⟨X, hX⟩ : ∃ Zz, Zz = (U3.setCell ⟨U1.heap.size, 0, none⟩ (.int .i64 s)).setCell ⟨U1.heap.size, 1, none⟩ (.slice A1 bs.length q1) := ⟨_, rfl⟩
      have kX : Bk X U1.heap.size 24 #[.int .i64 s, .slice A1 bs.length q1] := by rw [hX]; simpa using (k3.set 0 (.int .i64 s)).set 1 (.slice A1 bs.length q1)
      have hbX : Below U.heap.size U X := by rw [hX]; exact (hb3.setCell (p := ⟨U1.heap.size, 0, none⟩) l3 _).setCell (p := ⟨U1.heap.size, 1, none⟩) l3 _
      have hOX : X.ownsRow U.heap.size 5 1 (.slice A1 bs.length q1) bs.length (u8s bs) := by
        rw [hX]
        exact own_set_far (own_set_far HO1.out (p := ⟨U1.heap.size, 0, none⟩) (own_ne HO1.out k3 (by decide)) _) (p := ⟨U1.heap.size, 1, none⟩) (by
          have := own_set_far HO1.out (p := ⟨U1.heap.size, 0, none⟩) (own_ne HO1.out k3 (by decide)) (.int .i64 s)
          exact own_ne this (k3.set 0 (.int .i64 s)) (by decide)) _
      rw [← hX]
      clear hX e0 e1 g0 g1 HO1 HS0 k3
      obtain ⟨e0, e1⟩ := box2 kX
      have lX := hbX.size
      go_wp2
      go_ret
      exact ⟨X.heap.size + 1, (A1, q1, bs), rfl, by omega, St.start (by omega) (own_mono hOX (Nat.zero_le _)), rfl, bt (bt (al2 _ _ _) (hbX.mono (Nat.le_refl _))) HBU.out⟩
  · go_simp
    obtain ⟨U1, hU1⟩ : ∃ Zz, Zz = U0.alloc (.cells #[.int .i64 0, .slice none 0 0] 24) := ⟨_, rfl⟩
    have hx : Below U0.heap.size U0 U1 := by rw [hU1]; exact al1 _ _
    have k3 : Bk U1 U0.heap.size 24 #[.int .i64 0, .slice none 0 0] := by rw [hU1]; exact Bk.new _ _ _
    rw [← hU1]
    clear hU1
    have hb1 := bt hx hb0

    clear hx
    have l3 := hb0.size
    have lk3 := k3.lt
    refine hK _ _ (fun _ => HS.out _ hb1) ?_
    clear hK K
    refine anyS_one (i := 2) (by kernel_rfl) rfl rfl (fun K hK => ?_)
    go_simp
    obtain ⟨U2, hU2⟩ : ∃ Zz, Zz = U1.alloc (.cells #[] 5) := ⟨_, rfl⟩
    have hx : Below U1.heap.size U1 U2 := by rw [hU2]; exact al1 _ _
    have k6 : Bk U2 U1.heap.size 5 #[] := by rw [hU2]; exact Bk.new _ _ _
    rw [← hU2]
    clear hU2
    have hb2 := bt hx hb1
    replace k3 := k3.next hx
    clear hx
    have l6 := hb1.size
    have lk6 := k6.lt
    refine hK _ _ (fun _ => HS.out _ hb2) ?_
    clear hK K
    refine anyS_one (i := 5) (by kernel_rfl) rfl rfl (fun K hK => ?_)
    refine wp_append_rd _ (.tmp 6) (.tmp 8) _ (by rfl) U.heap.size 5 i0 _ 1 1 Tryz.underlying22 hi hz0 hz1 hz2 rfl (by omega) (.slice (some ⟨U1.heap.size, 0, none⟩) 0 0) 0 [] (by rfl) (own_block k6 l6 (by simp)) _ A bs.length c (u8s bs) (by rfl) (HRD.out _ hb2) (u8s_one _) (by simp only [maxLen]; omega) (by omega) hb2.size ?_
    intro v1 U3 hown1 hg1 hat1
    have hb3 : Below U.heap.size U U3 := hb2.grown hg1 hb2.size (by intro k hk; simp [Value.ownBlock] at hk; omega)
    have ho1 : U3.ownsRow U.heap.size 5 1 v1 bs.length (u8s bs) := by simpa using hown1
    obtain ⟨A1, q1, rfl, hq1, _⟩ := own_read ho1
    have HO1 := Lib.hid ho1
    replace k3 := Bk.grown k3 hg1 (by simp [Value.ownBlock]; omega)
    clear hown1 hat1 ho1 k6
    refine hK _ _ (fun _ => HS.out _ hb3) ?_
    clear hK K
    refine anyS_take (i := 6) rfl (by kernel_rfl) (by kernel_rfl) (by kernel_rfl) (by kernel_rfl) (fun _ _ _ h => h) (Or.inl ⟨by rfl, fun w' hS' => (by obtain ⟨s1, s2⟩ := hS'; go_simp; try with_reducible rfl)⟩) (HS.out _ hb3) ?_
    refine anyS_one (i := 8) (by kernel_rfl) rfl rfl (fun K hK => ?_)
    obtain ⟨e0, e1⟩ := box2 k3
    have g0 := k3.frozen 0
    have g1 := k3.frozen 1
    go_simp
    refine hK _ _ (fun h => absurd rfl h) ?_
    clear hK K
    refine anyS_done (by kernel_rfl) ?_ _
    simp only [normPost]
    obtain ⟨X, hX⟩ : ∃ Zz, Zz = (U3.setCell ⟨U0.heap.size, 0, none⟩ (.int .i64 s)).setCell ⟨U0.heap.size, 1, none⟩ (.slice A1 bs.length q1) := ⟨_, rfl⟩
    have kX : Bk X U0.heap.size 24 #[.int .i64 s, .slice A1 bs.length q1] := by rw [hX]; simpa using (k3.set 0 (.int .i64 s)).set 1 (.slice A1 bs.length q1)
    have hbX : Below U.heap.size U X := by rw [hX]; exact (hb3.setCell (p := ⟨U0.heap.size, 0, none⟩) l3 _).setCell (p := ⟨U0.heap.size, 1, none⟩) l3 _
    have hOX : X.ownsRow U.heap.size 5 1 (.slice A1 bs.length q1) bs.length (u8s bs) := by
      rw [hX]
      exact own_set_far (own_set_far HO1.out (p := ⟨U0.heap.size, 0, none⟩) (own_ne HO1.out k3 (by decide)) _) (p := ⟨U0.heap.size, 1, none⟩) (by
        have := own_set_far HO1.out (p := ⟨U0.heap.size, 0, none⟩) (own_ne HO1.out k3 (by decide)) (.int .i64 s)
        exact own_ne this (k3.set 0 (.int .i64 s)) (by decide)) _
    rw [← hX]
    clear hX e0 e1 g0 g1 HO1 HS0 k3
    obtain ⟨e0, e1⟩ := box2 kX
    have lX := hbX.size
    go_wp2
    go_ret
    exact ⟨X.heap.size + 1, (A1, q1, bs), rfl, by omega, St.start (by omega) (own_mono hOX (Nat.zero_le _)), rfl, bt (bt (al2 _ _ _) (hbX.mono (Nat.le_refl _))) HBU.out⟩

/-- only the steps' own blocks turn -/
def Turn (base sp : Nat) (W W' : World) : Prop := SameOut (fun k => k = sp ∨ (base ≤ k ∧ ∃ cs fr, W.heap[k]? = some (.cells cs 24 fr))) W W'
theorem Turn.bk {base sp g : Nat} {t : TypeId} {cs : Array Value} {W W' : World} (h : Turn base sp W W') (hb : Bk W g t cs) (ht : t ≠ 24) (hg : g ≠ sp) : Bk W' g t cs :=
  bkS hb h (by
    rintro (e | ⟨_, cs', fr, e⟩)
    · exact hg e
    · rw [show W.heap[g]? = _ from hb] at e
      injection e with e; injection e with _ e _; exact ht e)
theorem Turn.below {base sp : Nat} {W W' : World} (h : Turn base sp W W') (hs : base ≤ sp) (hl : base ≤ W.heap.size) : Below base W W' :=
  ⟨h.os, h.tape, h.output, h.size, fun k hk => h.block k (by omega) (by rintro (e | ⟨e, _⟩) <;> omega)⟩
theorem own_form {w : World} {base n sz : Nat} {e : TypeId} {v : Value} {xs : List Value} (h : w.ownsRow base e sz v n xs) {g : Nat} (hg : v.ownBlock = some g) : ∃ cs fr, w.heap[g]? = some (.cells cs e fr) := by
  obtain ⟨hl, ⟨rfl, _⟩ | ⟨a, cap, cur, rfl, ha, hh, _⟩⟩ := h
  · cases hg
  · have : a = g := by simpa [Value.ownBlock] using hg
    exact ⟨cur, (0, 0), this ▸ hh⟩
theorem Turn.own {base sp b n sz : Nat} {e : TypeId} {v x y : Value} {xs : List Value} {W W' : World} (h : Turn base sp W W') (hk : Bk W sp 95 #[x, y]) (ho : W.ownsRow b e sz v n xs) (h1 : e ≠ 24) (h2 : e ≠ 95) : W'.ownsRow b e sz v n xs :=
  own_keep ho fun g hg => by
    obtain ⟨cs, fr, hf⟩ := own_form ho hg
    refine h.block g (own_lt ho hg).2 ?_
    rintro (rfl | ⟨_, cs', fr', e'⟩)
    · rw [show W.heap[g]? = _ from hk] at hf
      injection hf with hf; injection hf with _ hf _; exact h2 hf.symm
    · rw [hf] at e'
      injection e' with e'; injection e' with _ e' _; exact h1 e'
theorem Turn.after {base sp : Nat} {W V W' : World} (hb : Below W.heap.size W V) (h : Turn base sp V W') : Turn base sp W W' :=
  ⟨h.os.trans hb.os, h.tape.trans hb.tape, h.output.trans hb.output, Nat.le_trans hb.size h.size, fun k hk hn => (h.block k (Nat.lt_of_lt_of_le hk hb.size) (by
    rintro (e | ⟨e, cs, fr, e'⟩)
    · exact hn (.inl e)
    · exact hn (.inr ⟨e, cs, fr, (hb.block k hk).symm.trans e'⟩))).trans (hb.block k hk)⟩
theorem Turn.trans {base sp : Nat} {W V W' : World} (h1 : Turn base sp W V) (h : Turn base sp V W') : Turn base sp W W' :=
  ⟨h.os.trans h1.os, h.tape.trans h1.tape, h.output.trans h1.output, Nat.le_trans h1.size h.size, fun k hk hn => (h.block k (Nat.lt_of_lt_of_le hk h1.size) (by
    rintro (e | ⟨e, cs, fr, e'⟩)
    · exact hn (.inl e)
    · exact hn (.inr ⟨e, cs, fr, (h1.block k hk hn).symm.trans e'⟩))).trans (h1.block k hk hn)⟩
theorem St.next {base sp : Nat} {s : Int} {its : List Itm} {W W' : World} (h : St base sp s its W) (hb : Below W.heap.size W W') : St base sp s its W' := by
  obtain ⟨v, h1, h2⟩ := h
  exact ⟨v, h1.next hb, h2.next hb⟩
theorem St.lt {base sp : Nat} {s : Int} {its : List Itm} {W : World} (h : St base sp s its W) : sp < W.heap.size := by
  obtain ⟨v, h1, h2⟩ := h
  exact h1.lt
theorem cellsE_append (s : Int) (a b : List Itm) : cellsE s (a ++ b) = cellsE s a ++ cellsE s b := by simp [cellsE]
theorem cellsE_drop (s : Int) (x : Itm) (l : List Itm) : (cellsE s (x :: l)).drop 2 = cellsE s l := by simp [cellsE]
theorem cellsE_one (s : Int) (l : List Itm) : ∀ u ∈ cellsE s l, u.oneCell' = true := by
  intro u hu
  simp only [cellsE, List.mem_flatMap] at hu
  obtain ⟨x, _, hx⟩ := hu
  simp at hx
  rcases hx with rfl | rfl <;> rfl
/-- a row that was appended to -/
theorem Ms.app {base b2 : Nat} {s : Int} {its l : List Itm} {v v' v2 : Value} {W W1 : World} (h : Ms base s its v W) (h2 : ∀ x ∈ l, W.ownsRow 0 5 1 (cellB x) x.2.2.length (u8s x.2.2))
    (hown : W1.ownsRow base 24 2 v' (its.length + l.length) (cellsE s its ++ cellsE s l)) (hg : W.grownBy W1 v.ownBlock) : Ms base s (its ++ l) v' W1 := by
  have key : ∀ y : Itm, W.ownsRow 0 5 1 (cellB y) y.2.2.length (u8s y.2.2) → W1.ownsRow 0 5 1 (cellB y) y.2.2.length (u8s y.2.2) := fun y hy =>
    own_keep hy fun g hgg => hg.block g (own_lt hy hgg).2 (fun e => own_apart hy h.1 (by decide) hgg e.symm)
  refine ⟨?_, ?_⟩
  · rw [List.length_append, cellsE_append]; exact hown
  · intro y hy
    rcases List.mem_append.1 hy with hy | hy
    · exact key y (h.2 y hy)
    · exact key y (h2 y hy)

set_option maxHeartbeats 1000000 in
theorem last_any (base sp : Nat) (s : Int) (pre : List Itm) (x : Itm) (W : World) (h : St base sp s (pre ++ [x]) W) (hl : pre.length ≤ 1000000) :
    Calls Tryz.prog 70 #[.pointer (some ⟨sp, 0, none⟩)] W fun e w' => e = .returned (.agg #[.int .i64 s, .slice x.1 x.2.2.length x.2.1]) ∧ Below W.heap.size W w' := by
  obtain ⟨v, hk, hm⟩ := h
  obtain ⟨g, cap, rfl⟩ : ∃ g cap, v = .slice (some ⟨g, 0, none⟩) (pre.length + 1) cap := by
    obtain ⟨g, cap, hv⟩ := ownsRow_succ (k := pre.length) (by simpa using hm.1)
    exact ⟨g, cap, hv⟩
  obtain ⟨q1, q2⟩ := cellsE_get s (pre ++ [x]) pre.length x (by simp)
  have hr := RdS.of_own (A := some ⟨g, 0, none⟩) (n := pre.length + 1) (by simpa using hm.1)
  obtain ⟨b, o, e, _, hc⟩ := hr.2 (by omega)
  obtain ⟨rfl, rfl⟩ : g = b ∧ 0 = o := by simpa using e
  have y0 := hc _ _ q1
  have y1 := hc _ _ q2
  rw [Nat.zero_add] at y0 y1
  have lg : g < W.heap.size := (own_lt hm.1 rfl).2
  have lsp := hk.lt
  clear e hc hr q1 q2 hm
  have hU : Below W.heap.size W (W.alloc (.cells #[.int .i64 0, .slice none 0 0] 24)) := al1 _ _
  obtain ⟨c0, c1⟩ := box2 (hk.next hU)
  have z0 := (World.cell?_of_block (a := ⟨g, pre.length * 2, none⟩) (hU.block g lg)).trans y0
  have z1 := (World.cell?_of_block (a := ⟨g, pre.length * 2 + 1, none⟩) (hU.block g lg)).trans y1
  have kn : Bk (W.alloc (.cells #[.int .i64 0, .slice none 0 0] 24)) W.heap.size 24 #[.int .i64 0, .slice none 0 0] := Bk.new _ _ _
  obtain ⟨k0, k1⟩ := box2 kn
  have f0 := kn.frozen 0
  have f1 := kn.frozen 1
  have i1 : (0 : Int) ≤ (pre.length : Int) := by omega
  have i2 : (pre.length : Int) < (pre.length : Int) + 1 := by omega
  have i3 : IntKind.i64.wrap (pre.length : Int) = (pre.length : Int) := IntWalk.i64_in _ (by omega)
  clear y0 y1 hU hk
  go_enter Tryz.func70, Tryz.ntmps70
  go_wp2
  refine region_tail 12 (by kernel_rfl) (by kernel_rfl) ?_
  simp only [List.take_succ_cons, List.take_zero, List.drop_succ_cons, List.drop_zero]
  repeat still_step
  refine wpStill_nil ?_
  go_wp2
  obtain ⟨X, hX⟩ : ∃ Zz, Zz = (W.alloc (.cells #[.int .i64 s, .slice x.1 x.2.2.length x.2.1] 24)).drew := ⟨_, rfl⟩
  have kX : Bk X W.heap.size 24 #[.int .i64 s, .slice x.1 x.2.2.length x.2.1] := by rw [hX]; exact (Bk.new _ _ _).drew
  have hbX : Below W.heap.size W X := by rw [hX]; exact (al1 _ _).drew
  rw [← hX]
  obtain ⟨u0, u1⟩ := box2 kX
  clear hX
  refine bodyPost_ret (v := .agg #[.int .i64 s, .slice x.1 x.2.2.length x.2.1]) (by simp [results, Tryz.results70, go_sem, u0, u1]) rfl ⟨rfl, hbX⟩

set_option maxHeartbeats 1000000 in
theorem add_any (base sp b2 : Nat) (s : Int) (its l : List Itm) (y : Itm) (v2 : Value) (W : World) (h : St base sp s its W) (h2 : Ms b2 s (y :: l) v2 W) (h0 : 0 < l.length) (hl : its.length + l.length ≤ 1000000) (hbs : base ≤ sp) :
    Calls Tryz.prog 71 #[.pointer (some ⟨sp, 0, none⟩), v2, .int .i64 0] W fun e w' => (∃ u, e = .returned u) ∧ St base sp s (its ++ l) w' ∧ Turn base sp W w' := by
  obtain ⟨i0, hi, hz0, hz1, hz2⟩ := info_parts info_flash
  obtain ⟨v, hk, hm⟩ := h
  obtain ⟨A2, c2, rfl, hc2, hr2⟩ := own_read h2.1
  obtain ⟨g2, o2, rfl, hg2, _⟩ := hr2.2 (by simp)
  simp only [List.length_cons] at hc2 hr2 h2 ⊢
  have hcut := RdS.cut hr2 (k := 1) (cap := c2) (by omega) hc2
  have hne : ¬ c2 = 1 := by omega
  rw [if_neg hne] at hcut
  have hcut' : RdS W W.heap.size 2 (some ⟨g2, o2 + 2, none⟩) l.length (cellsE s l) := by
    have := hcut
    rw [show (1 * 2) = 2 from rfl, cellsE_drop] at this
    simpa [Addr.add] using this
  have HM := Lib.hid hm
  have H2 : Hid (∀ x ∈ l, W.ownsRow 0 5 1 (cellB x) x.2.2.length (u8s x.2.2)) := fun x hx => h2.2 x (List.mem_cons_of_mem _ hx)
  have HC := Lib.hid hcut'
  have HK := Lib.hid hk
  have lsp := hk.lt
  obtain ⟨c0, c1⟩ := box2 hk
  obtain ⟨Av, cv, rfl, hcv, _⟩ := own_read hm.1
  have j1 : (1 : Int) ≤ (l.length : Int) + 1 := by omega
  have j2 : (l.length : Int) + 1 ≤ (c2 : Int) := by omega
  have j3 : (1 : Int) ≤ (c2 : Int) := by omega
  clear hcut hcut' hr2 h2 hm hk
  go_enter Tryz.func71, Tryz.ntmps71
  go_wp2_with fail
  refine (is_ok W).mono ?_
  rintro e W0 ⟨rfl, hW⟩
  rw [hW]
  clear hW W0
  go_wp2
  have HS0 : W.drew.cell? ⟨sp, 0, none⟩ = some (.slice Av its.length cv) := c0
  refine region_S (fun w' => w'.cell? ⟨sp, 0, none⟩ = some (.slice Av its.length cv)) 10 (by kernel_rfl) ?_
  refine anyS_take (i := 0) rfl (by kernel_rfl) (by kernel_rfl) (by kernel_rfl) (by kernel_rfl) (fun _ _ _ h => h) (Or.inl ⟨by rfl, fun w' hS' => (by go_simp; try with_reducible rfl)⟩) HS0 ?_
  refine anyS_take (i := 1) rfl (by kernel_rfl) (by kernel_rfl) (by kernel_rfl) (by kernel_rfl) (fun _ _ _ h => h) (Or.inl ⟨by rfl, fun w' hS' => (by go_simp; try with_reducible rfl)⟩) HS0 ?_
  refine anyS_take (i := 2) rfl (by kernel_rfl) (by kernel_rfl) (by kernel_rfl) (by kernel_rfl) (fun _ _ _ h => h) (Or.inl ⟨by rfl, fun w' hS' => (by go_simp; try with_reducible rfl)⟩) HS0 ?_
  refine anyS_take (i := 3) rfl (by kernel_rfl) (by kernel_rfl) (by kernel_rfl) (by kernel_rfl) (fun _ _ _ h => h) (Or.inl ⟨by rfl, fun w' hS' => (by go_simp; try with_reducible rfl)⟩) HS0 ?_
  refine anyS_take (i := 4) rfl (by kernel_rfl) (by kernel_rfl) (by kernel_rfl) (by kernel_rfl) (fun _ _ _ h => h) (Or.inl ⟨by rfl, fun w' hS' => (by go_simp; try with_reducible rfl)⟩) HS0 ?_
  refine anyS_take (i := 5) rfl (by kernel_rfl) (by kernel_rfl) (by kernel_rfl) (by kernel_rfl) (fun _ _ _ h => h) (Or.inl ⟨by rfl, fun w' hS' => (by go_simp; try with_reducible rfl)⟩) HS0 ?_
  refine anyS_take (i := 6) rfl (by kernel_rfl) (by kernel_rfl) (by kernel_rfl) (by kernel_rfl) (fun _ _ _ h => h) (Or.inl ⟨by rfl, fun w' hS' => (by go_simp; try with_reducible rfl)⟩) HS0 ?_
  refine anyS_one (i := 7) (by kernel_rfl) rfl rfl (fun K hK => ?_)
  refine wp_append_rd _ (.tmp 19) (.tmp 21) _ (by rfl) base 24 i0 _ 2 32 Tryz.underlying28 hi hz0 hz1 hz2 rfl (by omega) (.slice Av its.length cv) its.length (cellsE s its) (by rfl) HM.out.1 W.heap.size (some ⟨g2, o2 + 2, none⟩) l.length (c2 - 1) (cellsE s l) (by rfl) HC.out (cellsE_one s l) (by simp only [maxLen]; omega) (by omega) (by show base ≤ W.heap.size; omega) ?_
  intro v3 w1 hown hg' hat
  have hg : W.grownBy w1 (Value.slice Av its.length cv).ownBlock := ⟨hg'.os, hg'.tape, hg'.output, hg'.size, hg'.block⟩
  clear hg'
  have hm3 : Ms base s (its ++ l) v3 w1 := Ms.app (b2 := 0) (v2 := v3) HM.out H2.out hown hg
  obtain ⟨A3, c3, rfl, hc3, _⟩ := own_read hown
  have hk3 : Bk w1 sp 95 #[.slice Av its.length cv, .int .i64 0] := Bk.grown HK.out hg (own_ne HM.out.1 HK.out (by decide))
  have ht3 : Turn base sp W w1 := ⟨hg.os, hg.tape, hg.output, hg.size, fun k hk hn => hg.block k hk (fun e => hn (.inr ⟨(own_lt HM.out.1 e.symm).1, own_form HM.out.1 e.symm⟩))⟩
  have HT := Lib.hid ht3
  have HM3 := Lib.hid hm3
  have HK3 := Lib.hid hk3
  refine hK _ _ (fun _ => (box2 hk3).1) ?_
  clear hK K hown hg hat hm3 ht3 HS0 c0 c1 HC HM H2 HK
  obtain ⟨c0, c1⟩ := box2 hk3
  have f0 := hk3.frozen 0
  clear hk3
  refine anyS_one (i := 8) (by kernel_rfl) rfl rfl (fun K hK => ?_)
  go_simp
  refine hK _ _ (fun _ => c0) ?_
  clear hK K
  refine anyS_one (i := 9) (by kernel_rfl) rfl rfl (fun K hK => ?_)
  go_simp
  refine hK _ _ (fun _ => c0) ?_
  clear hK K
  refine anyS_one (i := 10) (by kernel_rfl) rfl rfl (fun K hK => ?_)
  go_simp
  refine hK _ _ (fun h => absurd rfl h) ?_
  clear hK K
  refine anyS_done (by kernel_rfl) ?_ _
  simp only [normPost]
  obtain ⟨X, hX⟩ : ∃ Zz, Zz = w1.setCell ⟨sp, 0, none⟩ (.slice A3 (its.length + l.length) c3) := ⟨_, rfl⟩
  have kX : Bk X sp 95 #[.slice A3 (its.length + l.length) c3, .int .i64 0] := by rw [hX]; simpa using HK3.out.set 0 (.slice A3 (its.length + l.length) c3)
  have eX : ∀ g, g ≠ sp → X.heap[g]? = w1.heap[g]? := fun g hg => by rw [hX]; exact Below.heap_setCell _ ⟨sp, 0, none⟩ _ g hg
  have tX : Turn base sp w1 X := by rw [hX]; exact SameOut.setCell _ (a := ⟨sp, 0, none⟩) (.inl rfl) _
  have mX : Ms base s (its ++ l) (.slice A3 (its.length + l.length) c3) X := HM3.out.keep (fun g hg => eX g (fun e => own_ne HM3.out.1 HK3.out (by decide) (by rw [hg, e]))) (fun z hz g hg => eX g (fun e => own_ne (HM3.out.2 z hz) HK3.out (by decide) (by rw [hg, e])))
  have HX : Hid (St base sp s (its ++ l) X ∧ Turn base sp W X) := ⟨⟨_, kX, mX⟩, Turn.trans HT.out tX⟩
  rw [← hX]
  clear hX kX eX tX mX
  go_wp2
  go_end0
  exact ⟨⟨_, rfl⟩, HX.out⟩

set_option maxHeartbeats 1000000 in
theorem st_program (base sp : Nat) (s : Int) (pre : List Itm) (x : Itm) (q : Nat) (ds : List UInt8) (Ad : Option Addr) (cd : Nat) (W : World) (h : St base sp s (pre ++ [x]) W) (hbs : base ≤ sp) (hv : validB s x.2.2.length = true) (hAd : RdB W W.heap.size Ad ds) (hq : q + ds.length ≤ x.2.2.length) (hd : 0 < ds.length) (hl : pre.length ≤ 100000) :
    Calls Tryz.prog 39 #[.pointer (some ⟨sp, 0, none⟩), .int .i64 (q : Int), .slice Ad ds.length cd] W fun e w' => (∃ u, e = .returned u) ∧ (∃ l, l.map (·.2.2) = (memos (andF ds) x.2.2 q ds.length).drop 1 ∧ St base sp s (pre ++ [x] ++ l) w') ∧ Turn base sp W w' := by
  obtain ⟨vx1, vx2, vx3, vx4, vx5⟩ := (valid_iff s x.2.2.length).1 hv
  have H := Lib.hid h
  have HV := Lib.hid hv
  have HD := Lib.hid hAd
  clear hAd
  have RX : Hid (RdB W W.heap.size x.1 x.2.2) := by
    obtain ⟨v, _, hm⟩ := h
    obtain ⟨A', c', e', hc', hr'⟩ := own_read (hm.2 x (by simp))
    have ea : x.1 = A' ∧ x.2.1 = c' := by simpa [cellB] using e'
    show RdB _ _ _ _
    rw [ea.1]; exact hr'
  clear h hv vx5
  go_enter Tryz.func39, Tryz.ntmps39
  go_wp2_with fail
  refine (last_any base sp s pre x W H.out (by omega)).mono ?_
  rintro e V ⟨rfl, hb⟩
  have HB := Lib.hid hb
  clear hb
  go_wp2_with fail
  refine (Program_own s x.2.2 q ds x.1 Ad x.2.1 cd V (RX.out.next HB.out) (HD.out.next HB.out) HV.out hq).mono ?_
  rintro e V2 ⟨v, its, rfl, hm, hmap, hb2⟩
  obtain ⟨y, l, rfl⟩ : ∃ y l, its = y :: l := by
    cases its with
    | nil => have := congrArg List.length hmap; simp [memos_length] at this
    | cons y l => exact ⟨y, l, rfl⟩
  have hll : l.length = ds.length := by have := congrArg List.length hmap; simp [memos_length] at this; omega
  have hmap2 : l.map (·.2.2) = (memos (andF ds) x.2.2 q ds.length).drop 1 := by rw [← hmap]; simp
  have HM := Lib.hid hm
  have HB2 := Lib.hid (bt hb2 HB.out)
  have HMP := Lib.hid hmap2
  have hl0 : 0 < l.length := by omega
  have hl1 : l.length ≤ 10000 := by omega
  obtain ⟨Av, cv, rfl, _, _⟩ := own_read hm.1
  clear hm hmap hb2 hmap2 hll
  go_wp2_with fail
  refine (add_any base sp V.heap.size s (pre ++ [x]) l y _ V2 (H.out.next HB2.out) HM.out hl0 (by simp; omega) hbs).mono ?_
  rintro e V3 ⟨⟨u, rfl⟩, hs3, ht3⟩
  have H3 := Lib.hid (⟨⟨l, HMP.out, hs3⟩, ht3.after HB2.out⟩ : (∃ l, l.map (·.2.2) = (memos (andF ds) x.2.2 q ds.length).drop 1 ∧ St base sp s (pre ++ [x] ++ l) V3) ∧ Turn base sp W V3)
  clear hs3 ht3
  go_wp2
  go_end0
  exact ⟨⟨_, rfl⟩, H3.out⟩

set_option maxHeartbeats 1000000 in
theorem st_erase (base sp : Nat) (s : Int) (pre : List Itm) (x : Itm) (k : Int) (W : World) (h : St base sp s (pre ++ [x]) W) (hbs : base ≤ sp) (hv : validB s x.2.2.length = true) (h0 : 0 ≤ k) (h1 : k < (x.2.2.length : Int) / s) (hl : pre.length ≤ 100000) :
    Calls Tryz.prog 45 #[.pointer (some ⟨sp, 0, none⟩), .int .i64 k] W fun e w' => (∃ u, e = .returned u) ∧ (∃ l, l.map (·.2.2) = (memos eraF x.2.2 (k * s).toNat s.toNat).drop 1 ∧ St base sp s (pre ++ [x] ++ l) w') ∧ Turn base sp W w' := by
  obtain ⟨vx1, vx2, vx3, vx4, vx5⟩ := (valid_iff s x.2.2.length).1 hv
  have H := Lib.hid h
  have HV := Lib.hid hv
  have RX : Hid (RdB W W.heap.size x.1 x.2.2) := by
    obtain ⟨v, _, hm⟩ := h
    obtain ⟨A', c', e', hc', hr'⟩ := own_read (hm.2 x (by simp))
    have ea : x.1 = A' ∧ x.2.1 = c' := by simpa [cellB] using e'
    show RdB _ _ _ _
    rw [ea.1]; exact hr'
  clear h hv vx5
  go_enter Tryz.func45, Tryz.ntmps45
  go_wp2_with fail
  refine (last_any base sp s pre x W H.out (by omega)).mono ?_
  rintro e V ⟨rfl, hb⟩
  have HB := Lib.hid hb
  clear hb
  go_wp2_with fail
  refine (Erase_own s x.2.2 k x.1 x.2.1 V (RX.out.next HB.out) HV.out h0 h1).mono ?_
  rintro e V2 ⟨v, its, rfl, hm, hmap, hb2⟩
  obtain ⟨y, l, rfl⟩ : ∃ y l, its = y :: l := by
    cases its with
    | nil => have := congrArg List.length hmap; simp [memos_length] at this
    | cons y l => exact ⟨y, l, rfl⟩
  have hll : l.length = s.toNat := by have := congrArg List.length hmap; simp [memos_length] at this; omega
  have hmap2 : l.map (·.2.2) = (memos eraF x.2.2 (k * s).toNat s.toNat).drop 1 := by rw [← hmap]; simp
  have HM := Lib.hid hm
  have HB2 := Lib.hid (bt hb2 HB.out)
  have HMP := Lib.hid hmap2
  have hl0 : 0 < l.length := by omega
  have hl1 : l.length ≤ 10000 := by omega
  obtain ⟨Av, cv, rfl, _, _⟩ := own_read hm.1
  clear hm hmap hb2 hmap2 hll
  go_wp2_with fail
  refine (add_any base sp V.heap.size s (pre ++ [x]) l y _ V2 (H.out.next HB2.out) HM.out hl0 (by simp; omega) hbs).mono ?_
  rintro e V3 ⟨⟨u, rfl⟩, hs3, ht3⟩
  have H3 := Lib.hid (⟨⟨l, HMP.out, hs3⟩, ht3.after HB2.out⟩ : (∃ l, l.map (·.2.2) = (memos eraF x.2.2 (k * s).toNat s.toNat).drop 1 ∧ St base sp s (pre ++ [x] ++ l) V3) ∧ Turn base sp W V3)
  clear hs3 ht3
  go_wp2
  go_end0
  exact ⟨⟨_, rfl⟩, H3.out⟩

theorem result_any (base sp : Nat) (s : Int) (its : List Itm) (W : World) (h : St base sp s its W) :
    Calls Tryz.prog 40 #[.pointer (some ⟨sp, 0, none⟩)] W fun e w' => ∃ v, e = .returned (.tuple #[v, .int .i64 0]) ∧ Ms base s its v w' ∧ W = w' := by
  obtain ⟨v, hk, hm⟩ := h
  obtain ⟨Av, cv, rfl, _, _⟩ := own_read hm.1
  have HM := Lib.hid hm
  obtain ⟨c0, c1⟩ := box2 hk
  clear hk hm
  go_enter Tryz.func40, Tryz.ntmps40
  go_wp2_with fail
  refine (is_ok W).mono ?_
  rintro e W0 ⟨rfl, hW⟩
  rw [hW]
  clear hW W0
  go_wp2
  go_ret2
  exact ⟨_, rfl, HM.out, rfl⟩
end Go.Proofs.YthebojaminploaaGreatDoor
