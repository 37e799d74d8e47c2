/- The law VaultNumbers, walked. -/
import Derived.Test.YtcnhmgcingmphaaDoorKVh
import Derived.Test.YtcnhmgcingmphaaDoorKVwa
import Derived.BigQuiet
set_option maxRecDepth 100000
set_option linter.unusedVariables false
set_option linter.unusedSimpArgs false
namespace Go.Proofs.YtcnhmgcingmphaaDoor
open Go.RowKit Go.Sort Go.Shelf

/-- a slice of numbers of 16 bits -/
def RdH (w : World) (B : Nat) (A : Option Addr) (zs : List Nat) : Prop := RdS w B 1 A zs.length (zs.map fun (z : Nat) => Value.int .u16 (z : Int))
theorem RdH.next {w w' : World} {A : Option Addr} {zs : List Nat} (h : RdH w w.heap.size A zs) (hb : Below w.heap.size w w') : RdH w' w'.heap.size A zs := RdS.next h hb
theorem RdH.at_ {w : World} {B : Nat} {A : Option Addr} {zs : List Nat} (h : RdH w B A zs) {k : Nat} (hk : k < zs.length) : ∃ b o, A = some ⟨b, o, none⟩ ∧ b < B ∧ w.cell? ⟨b, o + k, none⟩ = some (.int .u16 (zs[k] : Int)) := by
  obtain ⟨b, o, e, hb, hc⟩ := h.2 (by omega)
  exact ⟨b, o, e, hb, hc k _ (by simp [hk])⟩
/-- between two rounds -/
structure Nu (w : World) (Bf : Nat) (fm : Mem) (A : Option Addr) (c : Nat) (wr : World) : Prop where
  intro ::
  load : loadE fm = 0
  box : Bk wr Bf 24 #[.int .i64 fm.1, .slice A fm.2.length c]
  rd : RdB wr wr.heap.size A fm.2
  cap : fm.2.length ≤ c
  below : Below w.heap.size w wr
theorem Nu.next {w : World} {Bf : Nat} {fm : Mem} {A : Option Addr} {c : Nat} {wr w' : World} (h : Nu w Bf fm A c wr) (hb : Below wr.heap.size wr w') : Nu w Bf fm A c w' :=
  ⟨h.load, h.box.next hb, h.rd.next hb, h.cap, bt hb h.below⟩
/-- the variable f gets another memory -/
theorem Nu.set {w : World} {Bf : Nat} {fm : Mem} {A : Option Addr} {c : Nat} {wr : World} (h : Nu w Bf fm A c wr) (hw : w.heap.size ≤ Bf) {t : Mem} {A' : Option Addr} {c' : Nat} (ht : loadE t = 0) (hr : RdB wr wr.heap.size A' t.2) (hc : t.2.length ≤ c') :
    Nu w Bf t A' c' ((wr.setCell ⟨Bf, 0, none⟩ (.int .i64 t.1)).setCell ⟨Bf, 1, none⟩ (.slice A' t.2.length c')) := by
  obtain ⟨c0, c1⟩ := box2 h.box
  refine ⟨ht, by simpa using (h.box.set 0 (.int .i64 t.1)).set 1 (.slice A' t.2.length c'), ?_, hc, (h.below.setCell (p := ⟨Bf, 0, none⟩) hw _).setCell (p := ⟨Bf, 1, none⟩) hw _⟩
  have e : ((wr.setCell ⟨Bf, 0, none⟩ (.int .i64 t.1)).setCell ⟨Bf, 1, none⟩ (.slice A' t.2.length c')).heap.size = wr.heap.size := by simp [World.setCell]
  rw [e]
  exact rdB_set (v := .slice A fm.2.length c) (rdB_set hr c0 (fun z h => by cases h)) (by rw [World.cell?_setCell_other _ _ _ _ (by simp)]; exact c1) (fun z h => by cases h)
/-- what the round does to the greatest number -/
theorem num_walk {m : Mem} {x : Lea} {tick : Int} (h : stoE m x tick = 0) : mostL (loadL m) < x.n ∧ ∀ k (hk : k < (stoM m x tick).length), loadE (stoM m x tick)[k] = 0 ∧ mostL (loadL (stoM m x tick)[k]) = if k + 1 = (stoM m x tick).length then x.n else mostL (loadL m) := by
  obtain ⟨L, F, z, af, hs⟩ := sto_of h
  have h1 : mostL (loadL m) < x.n := by
    have ho := hs.old
    have hx := (oneB_iff x).1 (sto_arg hs.arg).1
    unfold mostL
    by_cases h0 : loadL m = []
    · rw [if_pos h0]; omega
    · rw [if_neg h0]
      unfold oldB at ho
      rw [decide_eq_true (List.length_pos_iff.2 h0), Bool.true_and] at ho
      exact ((folB_iff _ _).1 (by simpa using ho)).1
  refine ⟨h1, fun k hk => ⟨(hs.at_ k hk).2.2.1, ?_⟩⟩
  rw [hs.most k hk]
  split
  · omega
  · rfl
set_option maxHeartbeats 4000000 in
theorem VaultNumbers_walk (l : List Lea) (stops : List Nat) (Al As : Option Addr) (cl cs : Nat) (w : World) (hln : l.length ≤ 9223372036854775807) (hsn : stops.length ≤ 9223372036854775807) (hsm : ∀ z ∈ stops, z ≤ 65535) (hW : Wd w) (hl : RdL w w.heap.size Al l) (hst : RdH w w.heap.size As stops) :
    Calls Tryd.prog 4 #[.slice Al l.length cl, .slice As stops.length cs] w fun e w' => e = .returned (.bool true) ∧ Below w.heap.size w w' := by
  have F_W := Lib.hid hW
  have F_l := Lib.hid hl
  have F_s := Lib.hid hst
  have HSM := Lib.hid hsm
  have HB := Lib.hid (Below.refl w.heap.size w)
  clear hW hl hst hsm
  by_cases h60 : 60 < l.length
  · have z1 : (60 : Int) < (l.length : Int) := by omega
    go_enter Tryd.func4, Tryd.ntmps4
    go_wp2_with fail
    refine (head_any _ F_W.out).mono ?_
    rintro e V1 ⟨rfl, hb⟩
    have hB := hb
    replace F_W := Lib.hid (F_W.out.next hB)
    replace F_l := Lib.hid (F_l.out.next hB)
    replace F_s := Lib.hid (F_s.out.next hB)
    replace HB := Lib.hid (bt hB HB.out)
    clear hb hB
    go_wp2_with fail
    refine (vFormat_lit hv0 0 _ rfl fmt_vault.1).mono ?_
    rintro e V2 ⟨Af, cf, rfl, hcf, rf, hb⟩
    have hB := hb
    replace F_W := Lib.hid (F_W.out.next hB)
    replace F_l := Lib.hid (F_l.out.next hB)
    replace F_s := Lib.hid (F_s.out.next hB)
    replace HB := Lib.hid (bt hB HB.out)
    clear hb hB
    have F_f := Lib.hid (rf)
    clear rf
    go_wp2
    go_ret
    exact ⟨rfl, bt (al1 _ _) HB.out⟩
  · by_cases hsl : stops.length < l.length
    · have z1 : ¬ (60 : Int) < (l.length : Int) := by omega
      have z2 : (stops.length : Int) < (l.length : Int) := by omega
      go_enter Tryd.func4, Tryd.ntmps4
      go_wp2_with fail
      refine (head_any _ F_W.out).mono ?_
      rintro e V1 ⟨rfl, hb⟩
      have hB := hb
      replace F_W := Lib.hid (F_W.out.next hB)
      replace F_l := Lib.hid (F_l.out.next hB)
      replace F_s := Lib.hid (F_s.out.next hB)
      replace HB := Lib.hid (bt hB HB.out)
      clear hb hB
      go_wp2_with fail
      refine (vFormat_lit hv0 0 _ rfl fmt_vault.1).mono ?_
      rintro e V2 ⟨Af, cf, rfl, hcf, rf, hb⟩
      have hB := hb
      replace F_W := Lib.hid (F_W.out.next hB)
      replace F_l := Lib.hid (F_l.out.next hB)
      replace F_s := Lib.hid (F_s.out.next hB)
      replace HB := Lib.hid (bt hB HB.out)
      clear hb hB
      have F_f := Lib.hid (rf)
      clear rf
      go_wp2
      go_ret
      exact ⟨rfl, bt (al1 _ _) HB.out⟩
    · have z1 : ¬ (60 : Int) < (l.length : Int) := by omega
      have z2 : ¬ (stops.length : Int) < (l.length : Int) := by omega
      have HL := F_l
      have HS := F_s
      have HWd := F_W
      go_enter Tryd.func4, Tryd.ntmps4
      go_wp2_with fail
      refine (head_any _ F_W.out).mono ?_
      rintro e V1 ⟨rfl, hb⟩
      have hB := hb
      replace F_W := Lib.hid (F_W.out.next hB)
      replace F_l := Lib.hid (F_l.out.next hB)
      replace F_s := Lib.hid (F_s.out.next hB)
      replace HB := Lib.hid (bt hB HB.out)
      clear hb hB
      go_wp2_with fail
      refine (vFormat_lit hv0 0 _ rfl fmt_vault.1).mono ?_
      rintro e V2 ⟨Af, cf, rfl, hcf, rf, hb⟩
      have hB := hb
      replace F_W := Lib.hid (F_W.out.next hB)
      replace F_l := Lib.hid (F_l.out.next hB)
      replace F_s := Lib.hid (F_s.out.next hB)
      replace HB := Lib.hid (bt hB HB.out)
      clear hb hB
      have F_f := Lib.hid (rf)
      clear rf
      go_wp2
      obtain ⟨Bf, hBf⟩ : ∃ Bf, Bf = V2.heap.size := ⟨_, rfl⟩
      obtain ⟨U3, hU3⟩ : ∃ Zz, Zz = V2.alloc (.cells #[.int .i64 hv0.1, .slice Af hv0.2.length cf] 24) := ⟨_, rfl⟩
      have k3 : Bk U3 Bf 24 #[.int .i64 hv0.1, .slice Af hv0.2.length cf] := by rw [hU3, hBf]; exact Bk.new _ _ _
      have hb3 : Below V2.heap.size V2 U3 := by rw [hU3]; exact al1 _ _
      have hwB : w.heap.size ≤ Bf := by rw [hBf]; exact HB.out.size
      rw [← hU3, ← hBf]
      have NU0 : Hid (Nu w Bf hv0 Af cf U3) := ⟨fmt_vault.2.1, k3, F_f.out.next hb3, hcf, bt hb3 HB.out⟩
      replace HB := Lib.hid (bt hb3 HB.out)
      have hm0 : mostL (loadL hv0) = 0 := by show mostL (loadL (fmtM 512 4)) = 0; rw [fmt_vault.2.2.1]; rfl
      have HM0 := Lib.hid hm0
      clear hU3 hBf k3 hb3 F_f hm0
      go_loopw [8, 42] (fun most i wr => ∃ (k : Nat) (fm : Mem) (A : Option Addr) (c : Nat), most = .int .i64 (mostL (loadL fm)) ∧ i = .int .i64 (k : Int) ∧ k ≤ l.length ∧ Nu w Bf fm A c wr) (fun _ i _ => l.length - (intOf i).toNat)
      case atStart => exact ⟨0, hv0, Af, cf, by rw [HM0.out], rfl, Nat.zero_le _, NU0.out⟩
      case round =>
        obtain ⟨k, fm, A, c, rfl, rfl, hk, nu⟩ := hrel
        have NU := Lib.hid nu
        have hmr := most_range (load_ok nu.load).2.2.2.2
        obtain ⟨c60, c61⟩ := box2 nu.box
        have lBf := nu.box.lt
        have lwr := nu.below.size
        obtain ⟨ms, hms⟩ : ∃ ms, ms = mostL (loadL fm) := ⟨_, rfl⟩
        rw [← hms] at hmr ⊢
        have HMS := Lib.hid hms
        obtain ⟨hm1, hm2⟩ := hmr
        clear nu hms
        by_cases hlt : k < l.length
        · obtain ⟨b1, o1, e1, hb1, y0, y1, y2, y3, y4⟩ := ((show RdL w w.heap.size Al l from HL.out).next NU.out.below).at_ hlt
          subst e1
          obtain ⟨x, hx⟩ : ∃ x, x = l[k] := ⟨_, rfl⟩
          rw [← hx] at y0 y1 y2 y3 y4
          have k1 : (0 : Int) ≤ (k : Int) := by omega
          have k2 : (k : Int) < (l.length : Int) := by omega
          clear hx
          by_cases h0 : stoE fm x x.f = 0
          · obtain ⟨hE, K, mz, af, hN, hK, _⟩ := sto_walk h0
            obtain ⟨hmx, hall⟩ := num_walk h0
            rw [← HMS.out] at hmx hall
            have HG := Lib.hid h0
            have HN := Lib.hid hN
            obtain ⟨a1, p1, e2, ha1, s0⟩ := ((show RdH w w.heap.size As stops from HS.out).next NU.out.below).at_ (k := k) (by omega)
            subst e2
            obtain ⟨st, hst⟩ : ∃ st, st = stops[k]'(by omega) := ⟨_, rfl⟩
            have hst2 : st ≤ 65535 := by rw [hst]; exact HSM.out _ (List.getElem_mem _)
            rw [← hst] at s0
            obtain ⟨r, hrr⟩ : ∃ r, r = st % (K + 1) := ⟨_, rfl⟩
            have hr : r < K + 1 := by rw [hrr]; exact Nat.mod_lt _ (by omega)
            have hmod : (st : Int) % ((K : Int) + 1) = (r : Int) := by rw [hrr, Int.natCast_emod, Int.natCast_add]; rfl
            have htmod : Int.tmod (st : Int) ((K : Int) + 1) = (r : Int) := by rw [Int.tmod_eq_emod_of_nonneg (by omega)]; exact hmod
            have HMOD := Lib.hid hmod
            have HTM := Lib.hid htmod
            have hrl : r < (stoM fm x x.f).length := by rw [hN]; exact hr
            obtain ⟨hl1, hl2⟩ := hall r hrl
            obtain ⟨t, ht⟩ : ∃ t, (stoM fm x x.f)[r] = t := ⟨_, rfl⟩
            rw [ht] at hl1 hl2
            rw [hN] at hl2
            have HT : Hid ((stoM fm x x.f)[r]? = some t) := by show _ = _; rw [List.getElem?_eq_getElem hrl, ht]
            have HL1 := Lib.hid hl1
            have HL2 := Lib.hid hl2
            have hx2 : -9223372036854775808 ≤ x.n ∧ x.n ≤ 1000000 := by
              obtain ⟨L', F', z', af', hs'⟩ := sto_of h0
              have := (oneB_iff x).1 (sto_arg hs'.arg).1
              omega
            obtain ⟨x6, x7⟩ := hx2
            have i1 : (0 : Int) ≤ (r : Int) := by omega
            have i2 : (r : Int) < (K : Int) + 1 := by omega
            have q2 : (((K : Int) + 1) == 0) = false := by rw [beq_eq_false_iff_ne]; omega
            have i3 : (k : Int) < (stops.length : Int) := by omega
            clear hE hN h0 hall hst hrr hmod htmod hrl ht hl1 hl2
            go_wp2_with fail
            refine (Store_lit (K + 1) 0 fm x x.f A c _ HN.out HG.out (NU.out.rd.next (al1 _ _)) NU.out.cap (HWd.out.next (bt (al1 _ _) NU.out.below))).mono ?_
            rintro e X1 ⟨A5, c5, rfl, hc5, r5, hb⟩
            have kx : Bk X1 wr.heap.size 26 #[.int .i64 x.n, .int .i64 x.c, .int .i64 x.a, .int .i64 x.f, .int .i64 x.t] := (Bk.new _ _ _).next hb
            have F_5 := Lib.hid r5
            have hB := bt hb (al1 wr (.cells #[.int .i64 x.n, .int .i64 x.c, .int .i64 x.a, .int .i64 x.f, .int .i64 x.t] 26))
            have NU1 := Lib.hid (NU.out.next hB)
            have s1 := (hB.cell (p := ⟨a1, p1 + k, none⟩) ha1).trans s0
            clear s0
            clear y0 y1 y2 y3 y4 c60 c61 lBf hb hB r5
            obtain ⟨b9, o9, rfl, hb9, hall⟩ := F_5.out (by rw [HN.out]; omega)
            obtain ⟨A3, c3, z0, z1, hc3, r3⟩ := hall r t HT.out
            have HR3 := Lib.hid r3
            have c60 := (box2 NU1.out.box).1
            have c61 := (box2 NU1.out.box).2
            have f60 := NU1.out.box.frozen 0
            have f61 := NU1.out.box.frozen 1
            have lBf := NU1.out.box.lt
            have hne : wr.heap.size ≠ Bf := Bk.ne kx NU1.out.box (by decide)
            obtain ⟨x0, x1, x2, x3, x4⟩ := Ls.box5 kx
            have hmod := HMOD.out
            have htmod := HTM.out
            have NU2 : Hid (Nu w Bf t A3 c3 ((X1.setCell ⟨Bf, 0, none⟩ (.int .i64 t.1)).setCell ⟨Bf, 1, none⟩ (.slice A3 t.2.length c3))) := NU1.out.set hwB HL1.out r3 hc3
            clear hall r3
            by_cases hrK : r = K
            · have d2 : ((r : Int) == (K : Int)) = true := by rw [beq_iff_eq]; omega
              have hrK1 : r ≤ K := by omega
              have hrK2 : K ≤ r := by omega
              clear hrK
              have w1 : (K : Int) + 1 - 1 = (K : Int) := by omega
              have hnl := next_law HL1.out
              obtain ⟨nx, hnx⟩ : ∃ nx, nextN t = nx := ⟨_, rfl⟩
              obtain ⟨ne, hne'⟩ : ∃ ne, nextE t = ne := ⟨_, rfl⟩
              rw [hnx, hne'] at hnl
              have hmt : mostL (loadL t) = x.n := by rw [HL2.out]; rw [if_pos (by omega)]
              rw [hmt] at hnl
              have HMT := Lib.hid hmt
              have HNX := Lib.hid hnx
              have HNE := Lib.hid hne'
              clear hnx hne' hmt
              rcases hnl with ⟨rfl, rfl⟩ | ⟨rfl, hmm⟩
              · have d5 : decide (x.n + 1 ≤ x.n) = false := by simp; try omega
                go_wp2_with fail
                obtain ⟨X2, hX2⟩ : ∃ Zz, Zz = ((X1.setCell ⟨Bf, 0, none⟩ (.int .i64 t.1)).setCell ⟨Bf, 1, none⟩ (.slice A3 t.2.length c3)) := ⟨_, rfl⟩
                rw [← hX2] at NU2 ⊢
                clear hX2 hmod htmod z0 z1 c60 c61 f60 f61 x0 x1 x2 x3 x4 s1
                refine (Next_lit (x.n + 1) 0 t A3 c3 _ HNX.out HNE.out NU2.out.rd NU2.out.cap (HWd.out.next NU2.out.below)).mono ?_
                rintro e X3 ⟨rfl, hb⟩
                have NU3 := Lib.hid (NU2.out.next hb)
                clear hb
                go_wp2
                go_roundw
                case rel => exact ⟨k + 1, t, A3, c3, by rw [HMT.out], by go_num, by omega, NU3.out⟩
                case measure => simp [intOf]; omega
              · have d5 : decide (x.n < 1000000) = false := by simp; omega
                have HMM := Lib.hid hmm
                clear hmm
                go_wp2_with fail
                obtain ⟨X2, hX2⟩ : ∃ Zz, Zz = ((X1.setCell ⟨Bf, 0, none⟩ (.int .i64 t.1)).setCell ⟨Bf, 1, none⟩ (.slice A3 t.2.length c3)) := ⟨_, rfl⟩
                rw [← hX2] at NU2 ⊢
                clear hX2 hmod htmod z0 z1 c60 c61 f60 f61 x0 x1 x2 x3 x4 s1
                refine (Next_lit nx 10 t A3 c3 _ HNX.out HNE.out NU2.out.rd NU2.out.cap (HWd.out.next NU2.out.below)).mono ?_
                rintro e X3 ⟨rfl, hb⟩
                have NU3 := Lib.hid (NU2.out.next hb)
                clear hb
                go_wp2
                go_roundw
                case rel => exact ⟨k + 1, t, A3, c3, by rw [HMT.out], by go_num, by omega, NU3.out⟩
                case measure => simp [intOf]; omega
            · have d2 : ((r : Int) == (K : Int)) = false := by rw [beq_eq_false_iff_ne]; omega
              have w1 : (K : Int) + 1 - 1 = (K : Int) := by omega
              have hnl := next_law HL1.out
              obtain ⟨nx, hnx⟩ : ∃ nx, nextN t = nx := ⟨_, rfl⟩
              obtain ⟨ne, hne'⟩ : ∃ ne, nextE t = ne := ⟨_, rfl⟩
              rw [hnx, hne'] at hnl
              have hmt : mostL (loadL t) = ms := by rw [HL2.out]; rw [if_neg (by omega)]
              rw [hmt] at hnl
              have HMT := Lib.hid hmt
              have HNX := Lib.hid hnx
              have HNE := Lib.hid hne'
              clear hnx hne' hmt
              rcases hnl with ⟨rfl, rfl⟩ | ⟨rfl, hmm⟩
              · have d5 : decide (ms + 1 ≤ ms) = false := by simp; try omega
                go_wp2_with fail
                obtain ⟨X2, hX2⟩ : ∃ Zz, Zz = ((X1.setCell ⟨Bf, 0, none⟩ (.int .i64 t.1)).setCell ⟨Bf, 1, none⟩ (.slice A3 t.2.length c3)) := ⟨_, rfl⟩
                rw [← hX2] at NU2 ⊢
                clear hX2 hmod htmod z0 z1 c60 c61 f60 f61 x0 x1 x2 x3 x4 s1
                refine (Next_lit (ms + 1) 0 t A3 c3 _ HNX.out HNE.out NU2.out.rd NU2.out.cap (HWd.out.next NU2.out.below)).mono ?_
                rintro e X3 ⟨rfl, hb⟩
                have NU3 := Lib.hid (NU2.out.next hb)
                clear hb
                go_wp2
                go_roundw
                case rel => exact ⟨k + 1, t, A3, c3, by rw [HMT.out], by go_num, by omega, NU3.out⟩
                case measure => simp [intOf]; omega
              · have d5 : decide (ms < 1000000) = false := by simp; omega
                have HMM := Lib.hid hmm
                clear hmm
                go_wp2_with fail
                obtain ⟨X2, hX2⟩ : ∃ Zz, Zz = ((X1.setCell ⟨Bf, 0, none⟩ (.int .i64 t.1)).setCell ⟨Bf, 1, none⟩ (.slice A3 t.2.length c3)) := ⟨_, rfl⟩
                rw [← hX2] at NU2 ⊢
                clear hX2 hmod htmod z0 z1 c60 c61 f60 f61 x0 x1 x2 x3 x4 s1
                refine (Next_lit nx 10 t A3 c3 _ HNX.out HNE.out NU2.out.rd NU2.out.cap (HWd.out.next NU2.out.below)).mono ?_
                rintro e X3 ⟨rfl, hb⟩
                have NU3 := Lib.hid (NU2.out.next hb)
                clear hb
                go_wp2
                go_roundw
                case rel => exact ⟨k + 1, t, A3, c3, by rw [HMT.out], by go_num, by omega, NU3.out⟩
                case measure => simp [intOf]; omega
          · obtain ⟨G, hG⟩ : ∃ G, stoE fm x x.f = G := ⟨_, rfl⟩
            have HN : Hid ((stoM fm x x.f).length = 0) := by show _ = _; rw [sto_bad h0]; rfl
            have HG := Lib.hid hG
            have q0 : (G != 0) = true := by rw [← hG]; simpa using h0
            clear hG h0
            go_wp2_with fail
            refine (Store_lit 0 G fm x x.f A c _ HN.out HG.out (NU.out.rd.next (al1 _ _)) NU.out.cap (HWd.out.next (bt (al1 _ _) NU.out.below))).mono ?_
            rintro e X1 ⟨A5, c5, rfl, hc5, r5, hb⟩
            have kx : Bk X1 wr.heap.size 26 #[.int .i64 x.n, .int .i64 x.c, .int .i64 x.a, .int .i64 x.f, .int .i64 x.t] := (Bk.new _ _ _).next hb
            have F_5 := Lib.hid r5
            have hB := bt hb (al1 wr (.cells #[.int .i64 x.n, .int .i64 x.c, .int .i64 x.a, .int .i64 x.f, .int .i64 x.t] 26))
            have NU1 := Lib.hid (NU.out.next hB)
            clear y0 y1 y2 y3 y4 c60 c61 lBf hb hB r5
            clear kx
            go_wp2
            go_roundw
            case rel => exact ⟨k + 1, fm, A, c, by rw [HMS.out], by go_num, by omega, NU1.out⟩
            case measure => simp [intOf]; omega
        · obtain rfl : k = l.length := by omega
          go_wp2
          go_ret
          exact ⟨rfl, NU.out.below⟩
end Go.Proofs.YtcnhmgcingmphaaDoor
