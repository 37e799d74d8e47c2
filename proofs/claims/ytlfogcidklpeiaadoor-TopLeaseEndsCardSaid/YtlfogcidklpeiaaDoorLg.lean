/- lease.Alive: what each charger may still draw. -/
import Derived.Test.YtlfogcidklpeiaaDoorLf
import Derived.Laws.EntriesVeiled
set_option linter.unusedVariables false
set_option linter.unusedSimpArgs false
namespace Go.Proofs.YtlfogcidklpeiaaDoor
open Go.RowKit Go.Sort Go.Shelf
attribute [local go_sem] Oper.semAt_some

theorem alive_any (A : Option Addr) (len c : Nat) (tick : Int) (w : World) :
    Calls Tryd.prog 14 #[.slice A len c, .int .i64 tick] w fun e w' => e = .returned (.func (.func 24) #[] #[.pointer (some ⟨w.heap.size, 0, none⟩), .pointer (some ⟨w.heap.size + 1, 0, none⟩)]) ∧
      w' = (w.alloc (.cells #[.slice A len c] 36)).alloc (.cells #[.int .i64 tick] 3) := by
  go_enter Tryd.func14, Tryd.ntmps14
  go_wp2
  go_ret
  exact ⟨rfl, rfl⟩

/-- between two rounds: the array, the variable, the closure -/
def Kee (w : World) (m g bo bk : Nat) (Pv : Nat → Prop) (pre : List Lea) (W : World) : Prop :=
  Bk W g 3 (i64s (pre.foldl stepA (zerosI m))).toArray ∧ Bk W bo 32 #[.slice (some ⟨g, 0, none⟩) m m] ∧ Bk W bk 48 #[.func (.func 13) #[] #[.pointer (some ⟨bo, 0, none⟩)]] ∧ (¬ Pv g ∧ ¬ Pv bo ∧ ¬ Pv bk) ∧ Below w.heap.size w W ∧ (∀ k, Pv k → w.heap.size ≤ k)
theorem Kee.steady (w : World) (m g bo bk : Nat) : Steady (Kee w m g bo bk) := by
  rintro Pv Pv' pre W W' ⟨h1, h2, h3, ⟨n1, n2, n3⟩, hb, hl⟩ hs hp
  have lift : ∀ k, k < W.heap.size → ¬ Pv k → ¬ Pv' k := fun k hk hn h => by
    rcases hp k h with h | h
    · exact hn h
    · omega
  refine ⟨bkS h1 hs n1, bkS h2 hs n2, bkS h3 hs n3, ⟨lift _ h1.lt n1, lift _ h2.lt n2, lift _ h3.lt n3⟩, ?_, ?_⟩
  · exact hb.trans ⟨hs.os, hs.tape, hs.output, hs.size, fun k hk => hs.block k (by have := hb.size; omega) (fun h => by have := hl _ h; omega)⟩
  · intro k h
    rcases hp k h with h | h
    · exact hl k h
    · have := hb.size; omega
/-- ahead of a round's body: the frame is known -/
def MidK (w : World) (m g bo bk : Nat) (l : List Lea) (tm : Lea → Value → Array Value) (Pv : Nat → Prop) (pre : List Lea) (x : Lea) (a : Act) (W : World) : Prop :=
  Kee w m g bo bk Pv pre W ∧ x ∈ l ∧ (∀ k, Pv k → k < W.heap.size) ∧ ∃ Bx, Bk W Bx 30 #[.int .i64 x.n, .int .i64 x.c, .int .i64 x.a, .int .i64 x.f, .int .i64 x.t] ∧ ¬ Pv Bx ∧ a = { tmps := tm x (.pointer (some ⟨Bx, 0, none⟩)), defers := [] }
theorem MidK.steady (w : World) (m g bo bk : Nat) (l : List Lea) (tm : Lea → Value → Array Value) (Pv : Nat → Prop) (pre : List Lea) (x : Lea) (a : Act) (W W' : World) (h : MidK w m g bo bk l tm Pv pre x a W) (hs : SameOut Pv W W') : MidK w m g bo bk l tm Pv pre x a W' := by
  obtain ⟨h1, h2, h3, Bx, h4, h5, h6⟩ := h
  exact ⟨Kee.steady w m g bo bk _ _ _ _ _ h1 hs (fun k h => .inl h), h2, fun k h => Nat.lt_of_lt_of_le (h3 k h) hs.size, Bx, bkS h4 hs h5, h5, h6⟩
theorem grown_out {G : Nat → Prop} {W W' : World} {g : Nat} (h : W.grownBy W' (some g)) (hg : G g) : SameOut G W W' :=
  ⟨h.os, h.tape, h.output, h.size, fun k hk hn => h.block k hk (fun e => by injection e with e; exact hn (e ▸ hg))⟩

set_option maxRecDepth 100000 in
set_option maxHeartbeats 4000000 in
theorem Alive_any (l : List Lea) (A : Option Addr) (c : Nat) (n tick : Int) (w : World) (hA : RdL w w.heap.size A l) (hn : l.length ≤ 9223372036854775807) :
    Calls Tryd.prog 6 #[.slice A l.length c, .int .i64 n, .int .i64 tick] w (IPost w (alvL l n tick) (alvE l n tick)) := by
  have HA := Lib.hid hA
  clear hA
  by_cases hv : vlB l = true
  · have HV := Lib.hid hv
    clear hv
    by_cases h1 : 0 ≤ n ∧ n ≤ 16
    · by_cases h2 : 0 ≤ tick ∧ tick ≤ 1100000
      · obtain ⟨h1a, h1b⟩ := h1
        obtain ⟨h2a, h2b⟩ := h2
        obtain ⟨m, rfl⟩ := Int.eq_ofNat_of_zero_le h1a
        have hm16 : m ≤ 16 := by omega
        have z1 : decide (0 ≤ (m : Int) ∧ (m : Int) ≤ 16) = true := decide_eq_true ⟨by omega, by omega⟩
        have z2 : decide (0 ≤ tick ∧ tick ≤ 1100000) = true := decide_eq_true ⟨by omega, by omega⟩
        have Z1 := Lib.hid z1
        have Z2 := Lib.hid z2
        clear z1 z2
        refine (callsIn_wide (n := 9)).1 ?_
        refine callsIn_of_wp_marks Tryd.func6 rfl trivial ?_ rfl
        simp only [Tryd.ntmps6, List.size_toArray, List.length_cons, List.length_nil, Nat.reduceAdd, Nat.reduceSub, Array.replicate_succ, Array.replicate_zero, List.push_toArray, List.append_toArray, List.nil_append, List.cons_append]
        gi_wp2_with fail
        refine ⟨trivial, ?_⟩
        refine (callsIn_wide.2 (Valid_lit true l A c _ HV.out HA.out hn)).mono ?_
        rintro e V ⟨rfl, hbV⟩
        have HBV := Lib.hid hbV
        clear hbV
        gi_wp2_with fail
        refine ⟨trivial, ?_⟩
        refine (callsIn_wide.2 (inside_lit true (m : Int) 0 16 _ Z1.out)).mono ?_
        rintro e V' ⟨rfl, rfl⟩
        gi_wp2_with fail
        refine ⟨trivial, ?_⟩
        refine (callsIn_wide.2 (inside_lit true tick 0 1100000 _ Z2.out)).mono ?_
        rintro e V' ⟨rfl, rfl⟩
        gi_wp2
        gi_loopw [28] (fun i wr => ∃ k : Nat, i = .int .i64 (k : Int) ∧ k ≤ l.length ∧ (∀ x ∈ l.take k, x.c < (m : Int)) ∧ Below w.heap.size w wr) (fun i _ => l.length - (intOf i).toNat)
        case atStart => exact ⟨0, rfl, Nat.zero_le _, by simp, HBV.out⟩
        case round =>
          obtain ⟨k, rfl, hk, hall, hb⟩ := hrel
          have HALL := Lib.hid hall
          have HB := Lib.hid hb
          clear hall hb
          by_cases hlt : k < l.length
          · obtain ⟨b, o, rfl, hbb, x0, x1, x2, x3, x4⟩ := (HA.out.next HB.out).at_ hlt
            obtain ⟨x, hx⟩ : ∃ y, y = l[k] := ⟨_, rfl⟩
            rw [← hx] at x0 x1 x2 x3 x4
            have HX := Lib.hid hx
            clear hx
            have k1 : (0 : Int) ≤ (k : Int) := by omega
            have k2 : (k : Int) < (l.length : Int) := by omega
            by_cases hc : (m : Int) ≤ x.c
            · have HE := Lib.hid (alv_far (tick := tick) (by rw [HX.out]; exact List.getElem_mem hlt : x ∈ l) hc)
              gi_wp2
              refine ⟨.tuple #[.slice none 0 0, .int .i64 1], by simp [results, Tryd.results6, go_sem], ?_⟩
              refine ⟨none, 0, ?_, ?_, ?_, bt (al1 _ _) HB.out⟩
              · rw [HE.out.1, HE.out.2]; rfl
              · rw [HE.out.2]; exact Nat.le_refl _
              · rw [HE.out.2]; exact ⟨RdI.nil, fun _ _ h => by cases h⟩
            · have hc' : x.c < (m : Int) := by omega
              clear hc
              gi_wp2
              go_roundw
              case rel => exact ⟨k + 1, by go_num, by omega, all_take hlt HALL.out (by rw [← HX.out]; omega), bt (al1 _ _) HB.out⟩
              case measure => simp [intOf]; omega
          · obtain rfl : k = l.length := by omega
            have hall := HALL.out
            rw [List.take_of_length_le (Nat.le_refl _)] at hall
            have HALL := Lib.hid hall
            have HE := Lib.hid (alv_ok (tick := tick) HV.out hm16 h2a h2b hall)
            clear hall
            obtain ⟨wo, rfl⟩ : ∃ wo : World, wo = wr := ⟨_, rfl⟩
            have hmk := run_make_int m (by omega)
            gi_wp2_with fail
            obtain ⟨U, hU⟩ : ∃ U, U = ((wo.alloc (.cells (i64s (zerosI m)).toArray 3)).alloc (.cells #[.slice (some ⟨wo.heap.size, 0, none⟩) m m] 32)).alloc (.cells #[.func (.func 13) #[] #[.pointer (some ⟨wo.heap.size + 1, 0, none⟩)]] 48) := ⟨_, rfl⟩
            have kg : Bk U wo.heap.size 3 (i64s (zerosI m)).toArray := by rw [hU]; exact ((Bk.new _ _ _).alloc _).alloc _
            have ko : Bk U (wo.heap.size + 1) 32 #[.slice (some ⟨wo.heap.size, 0, none⟩) m m] := by rw [hU]; exact bkOf (by simp [at?_alloc])
            have kk : Bk U (wo.heap.size + 1 + 1) 48 #[.func (.func 13) #[] #[.pointer (some ⟨wo.heap.size + 1, 0, none⟩)]] := by rw [hU]; exact bkOf (by simp [at?_alloc])
            have hbU : Below wo.heap.size wo U := by rw [hU]; exact al3 _ _ _ _
            rw [← hU]
            clear hU hmk
            refine ⟨trivial, ?_⟩
            refine (callsIn_wide.2 (alive_any A l.length c tick _)).mono ?_
            rintro e R ⟨rfl, hR⟩
            have kl : Bk R U.heap.size 36 #[.slice A l.length c] := by rw [hR]; exact (Bk.new _ _ _).alloc _
            have kt : Bk R (U.heap.size + 1) 3 #[.int .i64 tick] := by rw [hR]; exact bkOf (by simp [at?_alloc])
            have hbR : Below U.heap.size U R := by rw [hR]; exact al2 _ _ _
            have hRs : R.heap.size = U.heap.size + 2 := by rw [hR]; simp
            clear hR
            have HK0 : Hid (Bk R wo.heap.size 3 (i64s (zerosI m)).toArray ∧ Bk R (wo.heap.size + 1) 32 #[.slice (some ⟨wo.heap.size, 0, none⟩) m m] ∧ Bk R (wo.heap.size + 1 + 1) 48 #[.func (.func 13) #[] #[.pointer (some ⟨wo.heap.size + 1, 0, none⟩)]] ∧ Below w.heap.size w R) := ⟨kg.next hbR, ko.next hbR, kk.next hbR, bt hbR (bt hbU HB.out)⟩
            have hus : wo.heap.size + 1 + 1 < U.heap.size := kk.lt
            have hws : w.heap.size ≤ wo.heap.size := HB.out.size
            have HRD : Hid (RdL R w.heap.size A l) := RdL.below (RdL.below HA.out HB.out) ((bt hbR hbU).mono hws)
            have HSEQ := Lib.hid (alive_seq l tick A c U.heap.size (U.heap.size + 1) R w.heap.size (fun k => k = wo.heap.size ∨ R.heap.size ≤ k) kl kt HRD.out (by omega) (by omega) (by omega) (by intro k h; omega) HV.out)
            have HRS := Lib.hid hRs
            clear kg ko kk hbU kl kt hbR hRs
            gi_wp2
            refine wpIn_rangeFunc_G (gf := 24) (lb := #[.pointer (some ⟨U.heap.size, 0, none⟩), .pointer (some ⟨U.heap.size + 1, 0, none⟩)]) rfl (enters_of Tryd.func24 (by kernel_rfl) rfl) HSEQ.out
              (SameOut.refl _ _) (fun k h => .inr h) (fun _ => rfl) (fun _ _ _ _ h _ _ _ => h) (Kee w m wo.heap.size (wo.heap.size + 1) (wo.heap.size + 1 + 1)) (fun _ _ _ _ => False) (Kee.steady _ _ _ _ _) (fun _ _ _ _ _ _ h _ _ => h) ?h0
              (MidK w m wo.heap.size (wo.heap.size + 1) (wo.heap.size + 1 + 1) l (fun x q => #[.slice A l.length c, .int .i64 (m : Int), .int .i64 tick, undef, undef, undef, u6, u7, undef, u9, .pointer (some ⟨wo.heap.size + 1, 0, none⟩), .pointer (some ⟨wo.heap.size + 1 + 1, 0, none⟩), q, .slice A l.length c, .bool true, .bool false, .bool false, .int .i64 (m : Int), .bool true, .bool false, .bool false, .bool false, .int .i64 tick, .bool true, .bool false, .bool false, .slice A l.length c, .int .i64 (l.length : Int), .int .i64 (l.length : Int), .bool false, u30, u31, u32, u33, u34, u35, u36, .int .i64 (m : Int), .slice (some ⟨wo.heap.size, 0, none⟩) m m, .func (.func 13) #[] #[.pointer (some ⟨wo.heap.size + 1, 0, none⟩)], .slice A l.length c, .int .i64 tick, .func (.func 24) #[] #[.pointer (some ⟨U.heap.size, 0, none⟩), .pointer (some ⟨U.heap.size + 1, 0, none⟩)], .agg #[.int .i64 x.n, .int .i64 x.c, .int .i64 x.a, .int .i64 x.f, .int .i64 x.t], undef, undef, undef, undef])) (MidK.steady _ _ _ _ _ _ _) ?assign ?body ?done ?stop
            case h0 =>
              intro Pv hP
              exact ⟨HK0.out.1, HK0.out.2.1, HK0.out.2.2.1, ⟨fun h => by have := hP _ h; have := HRS.out; omega, fun h => by have := hP _ h; have := HRS.out; omega, fun h => by have := hP _ h; have := HRS.out; omega⟩, HK0.out.2.2.2, fun k h => by have := hP _ h; have := HRS.out; omega⟩
            case assign =>
              intro lp Pv pre x W hc hok hPw hlen hsz
              have HC := Lib.hid hc
              have HO := Lib.hid hok
              have HP := Lib.hid hPw
              clear hc hok hPw
              dsimp only [encL]
              gi_wp2
              exact ⟨SameIn.alloc _ _ _, SameOut.alloc _ _ _, Kee.steady _ _ _ _ _ _ _ _ _ _ HC.out (SameOut.alloc _ _ _) (fun k h => .inl h), HO.out, fun k h => by have := HP.out k h; simp; omega, W.heap.size, Bk.new _ _ _, fun h => by have := HP.out _ h; omega, rfl⟩
            case body =>
              rintro lp Pv pre x a₁ W ⟨⟨k1, k2, k3, ⟨n1, n2, n3⟩, hbw, hPl⟩, hx, hPw, Bx, kx, npx, rfl⟩ hlen hsz
              obtain ⟨zs, hzs⟩ : ∃ zs, zs = pre.foldl stepA (zerosI m) := ⟨_, rfl⟩
              have hzl : zs.length = m := by rw [hzs, foldA_length]; simp
              rw [← hzs] at k1
              have xc0 := ((oneB_iff x).1 (vlB_one HV.out hx)).2.2.1
              have xc1 := HALL.out x hx
              have hkeep := keep_any x zs (wo.heap.size + 1) wo.heap.size W (by rw [hzl]; exact k2) k1 xc0 (by rw [hzl]; exact xc1) (by omega)
              have HKE := Lib.hid hkeep
              have HZ := Lib.hid hzs
              have c0 := box1 k3
              obtain ⟨y0, y1, y2, y3, y4⟩ := box5 kx
              have e1 := Bk.ne k1 k2 (by decide)
              have e2 := Bk.ne k1 k3 (by decide)
              have HX := Lib.hid (⟨k2, k3, n1, n2, n3, hbw, hPl⟩ : _ ∧ _ ∧ _ ∧ _ ∧ _ ∧ _ ∧ _)
              clear hkeep hzs hzl hPw k1 k2 k3 kx
              gi_wp2_with fail
              refine ⟨trivial, ?_⟩
              refine (CallsIn.inRound lp (callsIn_wide.2 HKE.out)).mono ?_
              rintro e W' ⟨rfl, hg', hgr⟩
              have HG' := Lib.hid hg'
              have HGR := Lib.hid hgr
              clear hg' hgr
              gi_wp2
              obtain ⟨k2, k3, n1, n2, n3, hbw, hPl⟩ := HX.out
              refine ⟨SameIn.grown HGR.out (fun k h => by injection h with h; exact h ▸ n1), grown_out HGR.out (.inl rfl), ?_, Bk.grown k2 HGR.out (fun e => e1 (by injection e with e; exact e.symm)), Bk.grown k3 HGR.out (fun e => e2 (by injection e with e; exact e.symm)), ⟨n1, n2, n3⟩, hbw.grown HGR.out hbw.size (by simp; omega), hPl⟩
              rw [List.foldl_append, ← HZ.out]; exact HG'.out
            case done =>
              rintro D Pv xs W hD hS hPD ⟨k1, k2, k3, ⟨n1, n2, n3⟩, hbw, hPl⟩ hK
              subst hS
              have c0 := box1 k2
              obtain ⟨zs, hzs⟩ : ∃ zs, zs = (l.filter (aliB tick)).foldl stepA (zerosI m) := ⟨_, rfl⟩
              have hzl : zs.length = m := by rw [hzs, foldA_length]; simp
              rw [← hzs] at k1
              have hD1 : D ≠ wo.heap.size := fun e => by rw [e, show W.heap[wo.heap.size]? = _ from k1] at hK; cases hK
              have HZ := Lib.hid hzs
              have HZL := Lib.hid hzl
              have K1 : Hid (Bk (W.putObj D (.deferred none)) wo.heap.size 3 (i64s zs).toArray) := (World.putObj_heap_other (o := .deferred none) hD1.symm).trans k1
              have HBW : Hid (Below w.heap.size w (W.putObj D (.deferred none))) := hbw.trans (belowK_b (w := w) (Nat.le_refl _) W D _ _ (by have := HRS.out; omega) hK rfl rfl)
              clear hzs hzl k1 k2 k3 hbw
              gi_wp2
              refine ⟨by simp, .inl ⟨_, _, rfl, run_takeDeferred hK, ?_⟩⟩
              refine ⟨.tuple #[.slice (some ⟨wo.heap.size, 0, none⟩) m m, .int .i64 0], by simp [results, Tryd.results6, go_sem], ?_⟩
              refine ⟨some ⟨wo.heap.size, 0, none⟩, m, ?_, ?_, ?_, HBW.out⟩
              · rw [HE.out.1, HE.out.2, ← HZ.out, HZL.out]
              · rw [HE.out.2, ← HZ.out, HZL.out]; exact Nat.le_refl _
              · rw [HE.out.2, ← HZ.out]; exact ⟨RdI.of_bk K1.out K1.out.lt, fun b o h => by injection h with h; injection h with h _; exact h ▸ hws⟩
            case stop =>
              rintro D Pv c pre W _ _ _ h _
              exact h.elim
      · have z1 : decide (0 ≤ n ∧ n ≤ 16) = true := decide_eq_true h1
        have z2 : decide (0 ≤ tick ∧ tick ≤ 1100000) = false := decide_eq_false h2
        obtain ⟨e1, e2⟩ := alv_bad (l := l) (n := n) (tick := tick) (by first | exact .inl hv | omega)
        rw [e1, e2]
        clear e1 e2
        go_enter Tryd.func6, Tryd.ntmps6
        go_wp2_with fail
        refine (Valid_lit true l A c _ HV.out HA.out hn).mono ?_
        rintro e V ⟨rfl, hbV⟩
        have HBV := Lib.hid hbV
        clear hbV
        go_wp2_with fail
        refine (inside_lit true n 0 16 _ z1).mono ?_
        rintro e V' ⟨rfl, rfl⟩
        go_wp2_with fail
        refine (inside_lit false tick 0 1100000 _ z2).mono ?_
        rintro e V' ⟨rfl, rfl⟩
        go_wp2
        go_ret2
        exact ⟨none, 0, rfl, Nat.le_refl _, ⟨RdI.nil, fun _ _ h => by cases h⟩, HBV.out⟩
    · have z1 : decide (0 ≤ n ∧ n ≤ 16) = false := decide_eq_false h1
      obtain ⟨e1, e2⟩ := alv_bad (l := l) (n := n) (tick := tick) (by first | exact .inl hv | omega)
      rw [e1, e2]
      clear e1 e2
      go_enter Tryd.func6, Tryd.ntmps6
      go_wp2_with fail
      refine (Valid_lit true l A c _ HV.out HA.out hn).mono ?_
      rintro e V ⟨rfl, hbV⟩
      have HBV := Lib.hid hbV
      clear hbV
      go_wp2_with fail
      refine (inside_lit false n 0 16 _ z1).mono ?_
      rintro e V' ⟨rfl, rfl⟩
      go_wp2
      go_ret2
      exact ⟨none, 0, rfl, Nat.le_refl _, ⟨RdI.nil, fun _ _ h => by cases h⟩, HBV.out⟩
  · have hv : vlB l = false := by simpa using hv
    obtain ⟨e1, e2⟩ := alv_bad (l := l) (n := n) (tick := tick) (by first | exact .inl hv | omega)
    rw [e1, e2]
    clear e1 e2
    have HV := Lib.hid hv
    clear hv
    go_enter Tryd.func6, Tryd.ntmps6
    go_wp2_with fail
    refine (Valid_lit false l A c _ HV.out HA.out hn).mono ?_
    rintro e V ⟨rfl, hbV⟩
    have HBV := Lib.hid hbV
    clear hbV
    go_wp2
    go_ret2
    exact ⟨none, 0, rfl, Nat.le_refl _, ⟨RdI.nil, fun _ _ h => by cases h⟩, HBV.out⟩
end Go.Proofs.YtlfogcidklpeiaaDoor
