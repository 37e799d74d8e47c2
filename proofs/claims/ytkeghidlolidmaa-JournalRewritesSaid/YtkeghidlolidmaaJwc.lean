/- The law JournalAgain, walked. -/
import Derived.Test.YtkeghidlolidmaaJY
import Derived.Test.YtkeghidlolidmaaJr
import Derived.Test.YtkeghidlolidmaaJwa
set_option maxRecDepth 100000
set_option linter.unusedVariables false
set_option linter.unusedSimpArgs false
namespace Go.Proofs.Ytkeghidlolidmaa
open Go.RowKit Go.Sort Go.Shelf

theorem Memory_lit (b : Bool) (s : Int) (A : Option Addr) (n c : Nat) (w : World) (h : jvB s n = b) :
    Calls Try.prog 27 #[.agg #[.int .i64 s, .slice A n c]] w fun e w' => e = .returned (.bool b) ∧ Below w.heap.size w w' := by subst h; exact Memory_any s A n c w
theorem flash_at {w : World} {A : Option Addr} {ms : List Mem} (h : RdFs w w.heap.size A ms) {k : Nat} {x : Mem} (hx : ms[k]? = some x) : ∃ b o A' c', A = some ⟨b, o, none⟩ ∧ b < w.heap.size ∧ w.cell? ⟨b, o + k * 2, none⟩ = some (.int .i64 x.1) ∧ w.cell? ⟨b, o + k * 2 + 1, none⟩ = some (.slice A' x.2.length c') ∧ x.2.length ≤ c' ∧ RdB w w.heap.size A' x.2 := by
  obtain ⟨hk, rfl⟩ := List.getElem?_eq_some_iff.1 hx
  exact h.at_ hk

set_option maxHeartbeats 1000000 in
theorem JournalAgain_walk (m : Mem) (d : Rec) (keep : List Rec) (A Ad Ak : Option Addr) (c cd ck : Nat) (stop : Int) (w : World) (hA : RdB w w.heap.size A m.2) (hc : m.2.length ≤ c) (hD : RdB w w.heap.size Ad d) (hcd : d.length ≤ cd) (hK : RdBs w w.heap.size Ak keep) (hk2 : ∀ d ∈ keep, d.length ≤ 9223372036854775807) (hkl : keep.length ≤ 9223372036854775807) (hst : stop ≤ 9223372036854775807) :
    Calls Try.prog 6 #[.agg #[.int .i64 m.1, .slice A m.2.length c], .slice Ad d.length cd, .slice Ak keep.length ck, .int .i64 stop] w fun e w' => e = .returned (.bool true) ∧ Below w.heap.size w w' := by
  have HB := Lib.hid (Below.refl w.heap.size w)
  have F_m := Lib.hid hA
  have F_d := Lib.hid hD
  have F_k := Lib.hid hK
  clear hA hD hK
  go_enter Try.func6, Try.ntmps6
  go_wp2_with fail
  refine (head_any _).mono ?_
  rintro e V1 ⟨rfl, hb⟩
  have hB := bt hb (al1 w _)
  have K_f : Hid (Bk V1 (w.heap.size) 24 #[.int .i64 m.1, .slice A m.2.length c]) := Bk.next (by first | exact Bk.new _ _ _ | exact (Bk.new _ _ _).alloc _ | exact ((Bk.new _ _ _).alloc _).alloc _ | exact bkOf (by simp [at?_alloc])) hb
  replace F_m := Lib.hid (F_m.out.next hB)
  replace F_d := Lib.hid (F_d.out.next hB)
  replace F_k := Lib.hid (F_k.out.next hB)
  replace HB := Lib.hid (bt hB HB.out)
  clear hb hB
  by_cases hf : m.2.length ≤ 600 ∧ d.length ≤ 700
  · obtain ⟨c_f0, c_f1⟩ := box2 K_f.out
    have l_f := K_f.out.lt
    go_wp2_with fail
    clear c_f0 c_f1 l_f
    refine (few_lit true m d A Ad c cd _ (decide_eq_true hf)).mono ?_
    rintro e V2 ⟨rfl, hb⟩
    have hB := hb
    replace F_m := Lib.hid (F_m.out.next hB)
    replace F_d := Lib.hid (F_d.out.next hB)
    replace F_k := Lib.hid (F_k.out.next hB)
    replace K_f := Lib.hid (K_f.out.next hB)
    replace HB := Lib.hid (bt hB HB.out)
    clear hb hB
    by_cases h40 : 40 < keep.length
    · have q40 : (40 : Int) < (keep.length : Int) := by omega
      obtain ⟨c_f0, c_f1⟩ := box2 K_f.out
      have l_f := K_f.out.lt
      go_wp2
      go_ret
      exact ⟨rfl, HB.out⟩
    · have q40 : ¬ (40 : Int) < (keep.length : Int) := by omega
      obtain ⟨c_f0, c_f1⟩ := box2 K_f.out
      have l_f := K_f.out.lt
      go_wp2_with fail
      clear c_f0 c_f1 l_f
      refine (Room_b keep Ak ck _ F_k.out (by omega)).mono ?_
      rintro e V3 ⟨rr, rfl, hrr, hb⟩
      have hB := hb
      replace F_m := Lib.hid (F_m.out.next hB)
      replace F_d := Lib.hid (F_d.out.next hB)
      replace F_k := Lib.hid (F_k.out.next hB)
      replace K_f := Lib.hid (K_f.out.next hB)
      replace HB := Lib.hid (bt hB HB.out)
      clear hb hB
      by_cases hr : (1000 : Int) < rr
      · have qr : (1000 : Int) < rr := hr
        obtain ⟨c_f0, c_f1⟩ := box2 K_f.out
        have l_f := K_f.out.lt
        go_wp2
        go_ret
        exact ⟨rfl, HB.out⟩
      · by_cases hs : stop < 0
        · have qr : ¬ (1000 : Int) < rr := hr
          clear hr
          have qs : stop < 0 := hs
          obtain ⟨c_f0, c_f1⟩ := box2 K_f.out
          have l_f := K_f.out.lt
          go_wp2
          go_ret
          exact ⟨rfl, HB.out⟩
        · have qr : ¬ (1000 : Int) < rr := hr
          clear hr
          have qs : ¬ stop < 0 := hs
          obtain ⟨st, rfl⟩ := Int.eq_ofNat_of_zero_le (by omega : 0 ≤ stop)
          clear hs
          by_cases h0 : lookE m = 0
          · obtain ⟨a, l, en, hJ⟩ := Jr.of h0
            have ha := hJ.facts.1
            have h32 := jv_len hJ.1
            have h4k := jv_max hJ.1
            obtain ⟨b, o, rfl, hbb, _⟩ := F_m.out.addr (by omega)
            have HJ := Lib.hid hJ
            have hsm := recs_small h0
            have HSM := Lib.hid hsm
            obtain ⟨n0, hn0⟩ : ∃ n0, (lookC m).recs.length = n0 := ⟨_, rfl⟩
            have HN0 := Lib.hid hn0
            have hgm : (lookC m).gen = genB (areaB m a) := by rw [hJ.look.2]
            have HGM := Lib.hid hgm
            obtain ⟨gg, hgg⟩ : ∃ gg, gg = genB (areaB m a) := ⟨_, rfl⟩
            have HGG := Lib.hid hgg
            have hgl : gg < 4294967296 := by rw [hgg]; exact num4_lt _ _ _ _
            clear hJ hsm hn0 hgm hgg
            obtain ⟨c_f0, c_f1⟩ := box2 K_f.out
            have l_f := K_f.out.lt
            go_wp2_with fail
            clear c_f0 c_f1 l_f
            refine (Read_lit 0 n0 m.2.length m.1 m (some ⟨b, o, none⟩) c _ rfl h0 HN0.out rfl F_m.out hc).mono ?_
            rintro e V4 ⟨A1, c1, rfl, hc1, r1, hb⟩
            have hB := hb
            replace F_m := Lib.hid (F_m.out.next hB)
            replace F_d := Lib.hid (F_d.out.next hB)
            replace F_k := Lib.hid (F_k.out.next hB)
            replace K_f := Lib.hid (K_f.out.next hB)
            replace HB := Lib.hid (bt hB HB.out)
            clear hb hB
            have F_1 := Lib.hid (r1)
            clear r1
            obtain ⟨c_f0, c_f1⟩ := box2 K_f.out
            have l_f := K_f.out.lt
            go_wp2_with fail
            clear c_f0 c_f1 l_f
            refine (Memory_lit true m.1 (some ⟨b, o, none⟩) m.2.length c _ HJ.out.1).mono ?_
            rintro e V5 ⟨rfl, hb⟩
            have hB := hb
            replace F_m := Lib.hid (F_m.out.next hB)
            replace F_d := Lib.hid (F_d.out.next hB)
            replace F_k := Lib.hid (F_k.out.next hB)
            replace F_1 := Lib.hid (F_1.out.next hB)
            replace K_f := Lib.hid (K_f.out.next hB)
            replace HB := Lib.hid (bt hB HB.out)
            clear hb hB
            obtain ⟨c_f0, c_f1⟩ := box2 K_f.out
            have l_f := K_f.out.lt
            go_wp2
            have HCA : Hid (∀ W, Below V5.heap.size V5 W → Calls Try.prog 28 #[.agg #[.int .i64 m.1, .slice (some ⟨b, o, none⟩) m.2.length c]] W fun e w' => e = .returned (.int .i64 (a : Int)) ∧ Below W.heap.size W w') := fun W hW => by
              have h9 := Area_any m b o c W h32 h4k hc (F_m.out.next hW)
              have e9 : areaI m = (a : Int) := by unfold areaI; rw [HJ.out.2.1]
              rw [e9] at h9
              exact h9
            have HCG : Hid (∀ W, Below V5.heap.size V5 W → Calls Try.prog 29 #[.agg #[.int .i64 m.1, .slice (some ⟨b, o, none⟩) m.2.length c], .int .i64 (a : Int)] W fun e w' => e = .returned (.int .i64 (gg : Int)) ∧ Below W.heap.size W w') := fun W hW => by rw [HGG.out]; exact Generation_any m a b o c W ha h32 h4k hc (F_m.out.next hW)
            have qa : ¬ (a : Int) < 0 := by omega
            have Rc_f0 := cell_regrown c_f0
            have Rc_f1 := cell_regrown c_f1
            have CA := fun (d : Nat) (os : Array Obj) => Calls.regrown_of (HCA.out (grow (redrawn V5 d) os) (below_regrown V5 d os))
            have CG := fun (d : Nat) (os : Array Obj) => Calls.regrown_of (HCG.out (grow (redrawn V5 d) os) (below_regrown V5 d os))
            refine wp_region_quiet_below (by kernel_rfl) (by kernel_rfl) ?_
            repeat (first | go_big_quiet_step (first | (with_reducible exact CA _ _) | (with_reducible exact CG _ _)) | quiet_step (first | (with_reducible exact CA _ _) | (with_reducible exact CG _ _)))
            refine wpQuiet_nil ?_
            intro _ hw'
            obtain ⟨⟨dq, osq⟩, hw''⟩ := hw'
            subst hw''
            obtain ⟨Vz, hVz⟩ : ∃ V, V = grow (redrawn V5 dq) osq := ⟨_, rfl⟩
            have hbVz : Below V5.heap.size V5 Vz := by rw [hVz]; exact below_regrown _ _ _
            rw [← hVz]
            clear hVz
            clear Rc_f0
            clear Rc_f1
            clear CA
            clear CG
            clear HCA HCG c_f0 c_f1 l_f
            replace F_m := Lib.hid (F_m.out.next hbVz)
            replace F_d := Lib.hid (F_d.out.next hbVz)
            replace F_k := Lib.hid (F_k.out.next hbVz)
            replace F_1 := Lib.hid (F_1.out.next hbVz)
            replace K_f := Lib.hid (K_f.out.next hbVz)
            replace HB := Lib.hid (bt hbVz HB.out)
            clear hbVz
            by_cases hg : 4294967293 < gg
            · have qg : (4294967293 : Int) < (gg : Int) := by omega
              obtain ⟨c_f0, c_f1⟩ := box2 K_f.out
              have l_f := K_f.out.lt
              go_wp2
              go_ret
              exact ⟨rfl, HB.out⟩
            · have qg : ¬ (4294967293 : Int) < (gg : Int) := by omega
              have HGL : Hid ((lookC m).gen ≤ 4294967293) := by show _ ≤ _; rw [HGM.out, ← HGG.out]; omega
              obtain ⟨g1, hg1⟩ : ∃ g1, appE m d = g1 := ⟨_, rfl⟩
              have HG1 := Lib.hid hg1
              clear hg1
              by_cases h1 : g1 = 0
              · obtain ⟨F, z, hS⟩ := app_steps h0 d (by rw [HG1.out]; exact h1)
                have hsz := steps_size hS
                obtain ⟨f1, hf1⟩ : ∃ f1, F.length = f1 + 1 := ⟨F.length - 1, by have := hS.ne; have : F.length ≠ 0 := fun e => this (List.length_eq_zero_iff.1 e); omega⟩
                have hLn : (appM m d).length = f1 + 1 + 1 := by unfold appM; rw [List.length_map, hS.split, List.length_append, hf1]; rfl
                obtain ⟨kk, hkk⟩ : ∃ kk, kk = st % (f1 + 1) := ⟨_, rfl⟩
                have hkl : kk < f1 + 1 := by rw [hkk]; exact Nat.mod_lt _ (by omega)
                have hkI : (st : Int) % ((f1 : Int) + 1) = (kk : Int) := by rw [hkk]; simp
                have hkT : Int.tmod (st : Int) ((f1 : Int) + 1) = (kk : Int) := by rw [Int.tmod_eq_emod_of_nonneg (by omega)]; exact hkI
                obtain ⟨x, hx1, hx2, hx3, hx4, hx5, hx6⟩ := steps_at hS kk (by omega)
                have hf1b : f1 ≤ 100000 := by have := hS.len; omega
                have hag := again_app h0 HGL.out (m' := mk m x) hx3 hx4 hx5 hx6 (hf_mk m hx2) (by rw [HG1.out]; exact h1)
                have HLN := Lib.hid hLn
                have HX1 := Lib.hid hx1
                have HX2 := Lib.hid hx2
                have HAG := Lib.hid hag
                clear hS hsz hf1 hLn hx1 hx2 hx3 hx4 hx5 hx6 hag hkk
                subst h1
                obtain ⟨c_f0, c_f1⟩ := box2 K_f.out
                have l_f := K_f.out.lt
                go_wp2_with fail
                clear c_f0 c_f1 l_f
                refine (Append_lit (f1 + 1 + 1) 0 d.length m d (some ⟨b, o, none⟩) Ad c cd _ HLN.out HG1.out rfl F_m.out hc F_d.out hcd (by omega)).mono ?_
                rintro e V6 ⟨A2, c2, rfl, hc2, r2, hb⟩
                have hB := hb
                replace F_m := Lib.hid (F_m.out.next hB)
                replace F_d := Lib.hid (F_d.out.next hB)
                replace F_k := Lib.hid (F_k.out.next hB)
                replace F_1 := Lib.hid (F_1.out.next hB)
                replace K_f := Lib.hid (K_f.out.next hB)
                replace HB := Lib.hid (bt hB HB.out)
                clear hb hB
                have F_2 := Lib.hid (r2)
                clear r2
                obtain ⟨b9, o9, Ah, ch, rfl, hb9, y0, y1, hch, hrh⟩ := flash_at F_2.out HX1.out
                rw [show (mk m x).1 = m.1 from rfl] at y0
                rw [show (mk m x).2.length = m.2.length from HX2.out] at y1 hch
                have q1 : (1 : Int) < (f1 : Int) + 1 + 1 := by omega
                have q2 : (0 : Int) ≤ (kk : Int) := by omega
                have q3 : (kk : Int) < (f1 : Int) + 1 + 1 := by omega
                have F_h := Lib.hid (hrh)
                clear hrh
                obtain ⟨n2, hn2⟩ : ∃ n2, (appM (mk m x) d).length = n2 := ⟨_, rfl⟩
                have HN2 := Lib.hid hn2
                clear hn2
                obtain ⟨xb, hxb⟩ : ∃ xb : List UInt8, xb = x := ⟨_, rfl⟩
                have HAP2 : Hid (∀ W, RdB W W.heap.size Ah x → RdB W W.heap.size Ad d → Calls Try.prog 17 #[.agg #[.int .i64 m.1, .slice Ah m.2.length ch], .slice Ad d.length cd] W fun e w' => ∃ A c, e = .returned (.tuple #[.slice A n2 c, .int .i64 0]) ∧ n2 ≤ c ∧ RdFs w' w'.heap.size A (appM (mk m x) d) ∧ Below W.heap.size W w') := fun W hA hD => by
                  have h9 := Append_lit n2 0 d.length (mk m x) d Ah Ad ch cd W HN2.out HAG.out.1 rfl hA (by rw [show (mk m x).2.length = m.2.length from HX2.out]; exact hch) hD hcd (by omega)
                  rw [show (mk m x).2.length = m.2.length from HX2.out] at h9
                  exact h9
                clear hxb xb
                obtain ⟨c_f0, c_f1⟩ := box2 K_f.out
                have l_f := K_f.out.lt
                go_wp2_with fail
                clear c_f0 c_f1 l_f
                refine (HAP2.out _ (F_h.out.next (al1 _ _)) (F_d.out.next (al1 _ _))).mono ?_
                rintro e V7 ⟨A3, c3, rfl, hc3, r3, hb⟩
                have hB := bt hb (al1 V6 _)
                have K_t : Hid (Bk V7 (V6.heap.size) 24 #[.int .i64 m.1, .slice Ah m.2.length ch]) := Bk.next (by first | exact Bk.new _ _ _ | exact (Bk.new _ _ _).alloc _ | exact ((Bk.new _ _ _).alloc _).alloc _ | exact bkOf (by simp [at?_alloc])) hb
                replace F_m := Lib.hid (F_m.out.next hB)
                replace F_d := Lib.hid (F_d.out.next hB)
                replace F_k := Lib.hid (F_k.out.next hB)
                replace F_1 := Lib.hid (F_1.out.next hB)
                replace F_2 := Lib.hid (F_2.out.next hB)
                replace F_h := Lib.hid (F_h.out.next hB)
                replace K_f := Lib.hid (K_f.out.next hB)
                replace HB := Lib.hid (bt hB HB.out)
                clear hb hB
                have F_3 := Lib.hid (r3)
                clear r3 y0 y1 HAP2
                obtain ⟨lm, hlm⟩ : ∃ lm, lm = lastM (mk m x) (appM (mk m x) d) 0 := ⟨_, rfl⟩
                have HLM := Lib.hid hlm
                have HLC : Hid (∀ W Al cl, RdB W W.heap.size Ah x → RdFs W W.heap.size Al (appM (mk m x) d) → Calls Try.prog 25 #[.agg #[.int .i64 m.1, .slice Ah m.2.length ch], .slice Al n2 cl, .int .i64 0] W (flashPost lm W)) := fun W Al cl hA hl => by
                  have h9 := last_lit lm n2 (mk m x) (appM (mk m x) d) 0 Ah Al ch cl W hlm.symm HN2.out hA (by rw [show (mk m x).2.length = m.2.length from HX2.out]; exact hch) hl HAG.out.2.2
                  rw [show (mk m x).2.length = m.2.length from HX2.out] at h9
                  exact h9
                clear hlm
                obtain ⟨c_f0, c_f1⟩ := box2 K_f.out
                have l_f := K_f.out.lt
                obtain ⟨c_t0, c_t1⟩ := box2 K_t.out
                have l_t := K_t.out.lt
                go_wp2_with fail
                clear c_f0 c_f1 l_f
                clear c_t0 c_t1 l_t
                refine (HLC.out _ A3 c3 F_h.out F_3.out).mono ?_
                rintro e V8 ⟨A4, c4, rfl, hc4, r4, hb⟩
                have hB := hb
                replace F_m := Lib.hid (F_m.out.next hB)
                replace F_d := Lib.hid (F_d.out.next hB)
                replace F_k := Lib.hid (F_k.out.next hB)
                replace F_1 := Lib.hid (F_1.out.next hB)
                replace F_2 := Lib.hid (F_2.out.next hB)
                replace F_h := Lib.hid (F_h.out.next hB)
                replace F_3 := Lib.hid (F_3.out.next hB)
                replace K_f := Lib.hid (K_f.out.next hB)
                replace K_t := Lib.hid (K_t.out.next hB)
                replace HB := Lib.hid (bt hB HB.out)
                clear hb hB
                have F_4 := Lib.hid (r4)
                clear r4 HLC
                obtain ⟨c_f0, c_f1⟩ := box2 K_f.out
                have l_f := K_f.out.lt
                obtain ⟨c_t0, c_t1⟩ := box2 K_t.out
                have l_t := K_t.out.lt
                go_wp2_with fail
                clear c_f0 c_f1 l_f
                clear c_t0 c_t1 l_t
                refine (with_lit n0 (lookC m).recs d A1 Ad c1 cd _ HN0.out F_1.out F_d.out hcd (by have := HSM.out.1; omega)).mono ?_
                rintro e V9 ⟨A5, c5, rfl, hc5, r5, hb⟩
                have hB := hb
                replace F_m := Lib.hid (F_m.out.next hB)
                replace F_d := Lib.hid (F_d.out.next hB)
                replace F_k := Lib.hid (F_k.out.next hB)
                replace F_1 := Lib.hid (F_1.out.next hB)
                replace F_2 := Lib.hid (F_2.out.next hB)
                replace F_h := Lib.hid (F_h.out.next hB)
                replace F_3 := Lib.hid (F_3.out.next hB)
                replace F_4 := Lib.hid (F_4.out.next hB)
                replace K_f := Lib.hid (K_f.out.next hB)
                replace K_t := Lib.hid (K_t.out.next hB)
                replace HB := Lib.hid (bt hB HB.out)
                clear hb hB
                have F_5 := Lib.hid (r5)
                clear r5
                obtain ⟨c_f0, c_f1⟩ := box2 K_f.out
                have l_f := K_f.out.lt
                obtain ⟨c_t0, c_t1⟩ := box2 K_t.out
                have l_t := K_t.out.lt
                go_wp2_with fail
                clear c_f0 c_f1 l_f
                clear c_t0 c_t1 l_t
                refine (holds_lit true (n0 + 1) lm ((lookC m).recs ++ [d]) A4 A5 c4 c5 _ (by rw [HLM.out]; exact HAG.out.2.1) (by rw [List.length_append, HN0.out]; rfl) F_4.out hc4 F_5.out (by have := HSM.out.1; rw [List.length_append]; simp; omega) (by intro x hx; rcases List.mem_append.1 hx with hx | hx; (have := HSM.out.2 x hx; omega); (obtain rfl : x = d := by simpa using hx); omega)).mono ?_
                rintro e V10 ⟨rfl, hb⟩
                have hB := hb
                replace F_m := Lib.hid (F_m.out.next hB)
                replace F_d := Lib.hid (F_d.out.next hB)
                replace F_k := Lib.hid (F_k.out.next hB)
                replace F_1 := Lib.hid (F_1.out.next hB)
                replace F_2 := Lib.hid (F_2.out.next hB)
                replace F_h := Lib.hid (F_h.out.next hB)
                replace F_3 := Lib.hid (F_3.out.next hB)
                replace F_4 := Lib.hid (F_4.out.next hB)
                replace F_5 := Lib.hid (F_5.out.next hB)
                replace K_f := Lib.hid (K_f.out.next hB)
                replace K_t := Lib.hid (K_t.out.next hB)
                replace HB := Lib.hid (bt hB HB.out)
                clear hb hB
                clear hkI hkT q1 q2 q3 hkl hf1b HLN HX1 HX2 HAG HLM HN2 hc4 hc5 hc3 hch hb9
                clear F_2
                clear F_h
                clear F_3
                clear F_4
                clear F_5
                clear K_t
                skip
                obtain ⟨g2, hg2⟩ : ∃ g2, rewE m keep = g2 := ⟨_, rfl⟩
                have HG2 := Lib.hid hg2
                clear hg2
                by_cases h2 : g2 = 0
                · obtain ⟨hrf, _, F', z', hS, _⟩ := rew_steps h0 keep (by rw [HG2.out]; exact h2)
                  have hks := keep_small h0 hrf
                  clear hrf
                  obtain ⟨F, hFF⟩ : ∃ F, F = F' := ⟨_, rfl⟩
                  rw [← hFF] at hS
                  have hsz := steps_size hS
                  obtain ⟨f1, hf1⟩ : ∃ f1, F.length = f1 + 1 := ⟨F.length - 1, by have := hS.ne; have : F.length ≠ 0 := fun e => this (List.length_eq_zero_iff.1 e); omega⟩
                  have hLn : (rewM m keep).length = f1 + 1 + 1 := by unfold rewM; rw [List.length_map, hS.split, List.length_append, hf1]; rfl
                  obtain ⟨kk, hkk⟩ : ∃ kk, kk = st % (f1 + 1) := ⟨_, rfl⟩
                  have hkl : kk < f1 + 1 := by rw [hkk]; exact Nat.mod_lt _ (by omega)
                  have hkI : (st : Int) % ((f1 : Int) + 1) = (kk : Int) := by rw [hkk]; simp
                  have hkT : Int.tmod (st : Int) ((f1 : Int) + 1) = (kk : Int) := by rw [Int.tmod_eq_emod_of_nonneg (by omega)]; exact hkI
                  obtain ⟨x, hx1, hx2, hx3, hx4, hx5, hx6⟩ := steps_at hS kk (by omega)
                  have hf1b : f1 ≤ 100000 := by have := hS.len; omega
                  have hag := again_rew h0 HGL.out (m' := mk m x) hx3 hx6 (hf_mk m hx2) (by rw [HG2.out]; exact h2)
                  have HLN := Lib.hid hLn
                  have HX1 := Lib.hid hx1
                  have HX2 := Lib.hid hx2
                  have HAG := Lib.hid hag
                  clear hS hsz hf1 hLn hx1 hx2 hx3 hx4 hx5 hx6 hag hkk
                  subst h2
                  obtain ⟨c_f0, c_f1⟩ := box2 K_f.out
                  have l_f := K_f.out.lt
                  go_wp2_with fail
                  clear c_f0 c_f1 l_f
                  refine (Rewrite_lit (f1 + 1 + 1) 0 keep.length m keep (some ⟨b, o, none⟩) Ak c ck _ HLN.out HG2.out rfl F_m.out hc F_k.out (by omega) hk2).mono ?_
                  rintro e V11 ⟨A6, c6, rfl, hc6, r6, hb⟩
                  have hB := hb
                  replace F_m := Lib.hid (F_m.out.next hB)
                  replace F_d := Lib.hid (F_d.out.next hB)
                  replace F_k := Lib.hid (F_k.out.next hB)
                  replace F_1 := Lib.hid (F_1.out.next hB)
                  replace K_f := Lib.hid (K_f.out.next hB)
                  replace HB := Lib.hid (bt hB HB.out)
                  clear hb hB
                  have F_6 := Lib.hid (r6)
                  clear r6
                  obtain ⟨b9, o9, Ah, ch, rfl, hb9, y0, y1, hch, hrh⟩ := flash_at F_6.out HX1.out
                  rw [show (mk m x).1 = m.1 from rfl] at y0
                  rw [show (mk m x).2.length = m.2.length from HX2.out] at y1 hch
                  have q1 : (1 : Int) < (f1 : Int) + 1 + 1 := by omega
                  have q2 : (0 : Int) ≤ (kk : Int) := by omega
                  have q3 : (kk : Int) < (f1 : Int) + 1 + 1 := by omega
                  have F_h := Lib.hid (hrh)
                  clear hrh
                  obtain ⟨n2, hn2⟩ : ∃ n2, (rewM (mk m x) keep).length = n2 := ⟨_, rfl⟩
                  have HN2 := Lib.hid hn2
                  clear hn2
                  have HAP2 : Hid (∀ W, RdB W W.heap.size Ah x → RdBs W W.heap.size Ak keep → Calls Try.prog 19 #[.agg #[.int .i64 m.1, .slice Ah m.2.length ch], .slice Ak keep.length ck] W fun e w' => ∃ A c, e = .returned (.tuple #[.slice A n2 c, .int .i64 0]) ∧ n2 ≤ c ∧ RdFs w' w'.heap.size A (rewM (mk m x) keep) ∧ Below W.heap.size W w') := fun W hA hD => by
                    have h9 := Rewrite_lit n2 0 keep.length (mk m x) keep Ah Ak ch ck W HN2.out HAG.out.1 rfl hA (by rw [show (mk m x).2.length = m.2.length from HX2.out]; exact hch) hD (by omega) hk2
                    rw [show (mk m x).2.length = m.2.length from HX2.out] at h9
                    exact h9
                  obtain ⟨c_f0, c_f1⟩ := box2 K_f.out
                  have l_f := K_f.out.lt
                  go_wp2_with fail
                  clear c_f0 c_f1 l_f
                  refine (HAP2.out _ (F_h.out.next (al1 _ _)) (F_k.out.next (al1 _ _))).mono ?_
                  rintro e V12 ⟨A7, c7, rfl, hc7, r7, hb⟩
                  have hB := bt hb (al1 V11 _)
                  have K_u : Hid (Bk V12 (V11.heap.size) 24 #[.int .i64 m.1, .slice Ah m.2.length ch]) := Bk.next (by first | exact Bk.new _ _ _ | exact (Bk.new _ _ _).alloc _ | exact ((Bk.new _ _ _).alloc _).alloc _ | exact bkOf (by simp [at?_alloc])) hb
                  replace F_m := Lib.hid (F_m.out.next hB)
                  replace F_d := Lib.hid (F_d.out.next hB)
                  replace F_k := Lib.hid (F_k.out.next hB)
                  replace F_1 := Lib.hid (F_1.out.next hB)
                  replace F_6 := Lib.hid (F_6.out.next hB)
                  replace F_h := Lib.hid (F_h.out.next hB)
                  replace K_f := Lib.hid (K_f.out.next hB)
                  replace HB := Lib.hid (bt hB HB.out)
                  clear hb hB
                  have F_7 := Lib.hid (r7)
                  clear r7 y0 y1 HAP2
                  obtain ⟨lm, hlm⟩ : ∃ lm, lm = lastM (mk m x) (rewM (mk m x) keep) 0 := ⟨_, rfl⟩
                  have HLM := Lib.hid hlm
                  have HLC : Hid (∀ W Al cl, RdB W W.heap.size Ah x → RdFs W W.heap.size Al (rewM (mk m x) keep) → Calls Try.prog 25 #[.agg #[.int .i64 m.1, .slice Ah m.2.length ch], .slice Al n2 cl, .int .i64 0] W (flashPost lm W)) := fun W Al cl hA hl => by
                    have h9 := last_lit lm n2 (mk m x) (rewM (mk m x) keep) 0 Ah Al ch cl W hlm.symm HN2.out hA (by rw [show (mk m x).2.length = m.2.length from HX2.out]; exact hch) hl HAG.out.2.2
                    rw [show (mk m x).2.length = m.2.length from HX2.out] at h9
                    exact h9
                  clear hlm
                  obtain ⟨c_f0, c_f1⟩ := box2 K_f.out
                  have l_f := K_f.out.lt
                  obtain ⟨c_u0, c_u1⟩ := box2 K_u.out
                  have l_u := K_u.out.lt
                  go_wp2_with fail
                  clear c_f0 c_f1 l_f
                  clear c_u0 c_u1 l_u
                  refine (HLC.out _ A7 c7 F_h.out F_7.out).mono ?_
                  rintro e V13 ⟨A8, c8, rfl, hc8, r8, hb⟩
                  have hB := hb
                  replace F_m := Lib.hid (F_m.out.next hB)
                  replace F_d := Lib.hid (F_d.out.next hB)
                  replace F_k := Lib.hid (F_k.out.next hB)
                  replace F_1 := Lib.hid (F_1.out.next hB)
                  replace F_6 := Lib.hid (F_6.out.next hB)
                  replace F_h := Lib.hid (F_h.out.next hB)
                  replace F_7 := Lib.hid (F_7.out.next hB)
                  replace K_f := Lib.hid (K_f.out.next hB)
                  replace K_u := Lib.hid (K_u.out.next hB)
                  replace HB := Lib.hid (bt hB HB.out)
                  clear hb hB
                  have F_8 := Lib.hid (r8)
                  clear r8 HLC
                  obtain ⟨c_f0, c_f1⟩ := box2 K_f.out
                  have l_f := K_f.out.lt
                  obtain ⟨c_u0, c_u1⟩ := box2 K_u.out
                  have l_u := K_u.out.lt
                  go_wp2_with fail
                  clear c_f0 c_f1 l_f
                  clear c_u0 c_u1 l_u
                  refine (holds_lit true keep.length lm keep A8 Ak c8 ck _ (by rw [HLM.out]; exact HAG.out.2.1) rfl F_8.out hc8 F_k.out (by omega) (fun x hx => by have := hks.2 x hx; omega)).mono ?_
                  rintro e V14 ⟨rfl, hb⟩
                  have hB := hb
                  replace F_m := Lib.hid (F_m.out.next hB)
                  replace F_d := Lib.hid (F_d.out.next hB)
                  replace F_k := Lib.hid (F_k.out.next hB)
                  replace F_1 := Lib.hid (F_1.out.next hB)
                  replace F_6 := Lib.hid (F_6.out.next hB)
                  replace F_h := Lib.hid (F_h.out.next hB)
                  replace F_7 := Lib.hid (F_7.out.next hB)
                  replace F_8 := Lib.hid (F_8.out.next hB)
                  replace K_f := Lib.hid (K_f.out.next hB)
                  replace K_u := Lib.hid (K_u.out.next hB)
                  replace HB := Lib.hid (bt hB HB.out)
                  clear hb hB
                  obtain ⟨c_f0, c_f1⟩ := box2 K_f.out
                  have l_f := K_f.out.lt
                  obtain ⟨c_u0, c_u1⟩ := box2 K_u.out
                  have l_u := K_u.out.lt
                  go_wp2
                  go_ret
                  exact ⟨rfl, HB.out⟩
                · have hz3 : rewM m keep = [] := rewM_bad (by rw [HG2.out]; exact h2)
                  have hz4 : (rewM m keep).length = 0 := by rw [hz3]; rfl
                  have z2 : (g2 == 0) = false := by simp [h2]
                  have HZ4 := Lib.hid hz4
                  clear hz3 hz4
                  obtain ⟨c_f0, c_f1⟩ := box2 K_f.out
                  have l_f := K_f.out.lt
                  go_wp2_with fail
                  clear c_f0 c_f1 l_f
                  refine (Rewrite_lit 0 g2 keep.length m keep (some ⟨b, o, none⟩) Ak c ck _ HZ4.out HG2.out rfl F_m.out hc F_k.out (by omega) hk2).mono ?_
                  rintro e V11 ⟨A6, c6, rfl, hc6, r6, hb⟩
                  have hB := hb
                  replace F_m := Lib.hid (F_m.out.next hB)
                  replace F_d := Lib.hid (F_d.out.next hB)
                  replace F_k := Lib.hid (F_k.out.next hB)
                  replace F_1 := Lib.hid (F_1.out.next hB)
                  replace K_f := Lib.hid (K_f.out.next hB)
                  replace HB := Lib.hid (bt hB HB.out)
                  clear hb hB
                  clear r6
                  obtain ⟨c_f0, c_f1⟩ := box2 K_f.out
                  have l_f := K_f.out.lt
                  go_wp2
                  go_ret
                  exact ⟨rfl, HB.out⟩
              · have hz1 : appM m d = [] := appM_bad (by rw [HG1.out]; exact h1)
                have hz2 : (appM m d).length = 0 := by rw [hz1]; rfl
                have z1 : (g1 == 0) = false := by simp [h1]
                have HZ2 := Lib.hid hz2
                clear hz1 hz2
                obtain ⟨c_f0, c_f1⟩ := box2 K_f.out
                have l_f := K_f.out.lt
                go_wp2_with fail
                clear c_f0 c_f1 l_f
                refine (Append_lit 0 g1 d.length m d (some ⟨b, o, none⟩) Ad c cd _ HZ2.out HG1.out rfl F_m.out hc F_d.out hcd (by omega)).mono ?_
                rintro e V6 ⟨A2, c2, rfl, hc2, r2, hb⟩
                have hB := hb
                replace F_m := Lib.hid (F_m.out.next hB)
                replace F_d := Lib.hid (F_d.out.next hB)
                replace F_k := Lib.hid (F_k.out.next hB)
                replace F_1 := Lib.hid (F_1.out.next hB)
                replace K_f := Lib.hid (K_f.out.next hB)
                replace HB := Lib.hid (bt hB HB.out)
                clear hb hB
                clear r2
                obtain ⟨g2, hg2⟩ : ∃ g2, rewE m keep = g2 := ⟨_, rfl⟩
                have HG2 := Lib.hid hg2
                clear hg2
                by_cases h2 : g2 = 0
                · obtain ⟨hrf, _, F', z', hS, _⟩ := rew_steps h0 keep (by rw [HG2.out]; exact h2)
                  have hks := keep_small h0 hrf
                  clear hrf
                  obtain ⟨F, hFF⟩ : ∃ F, F = F' := ⟨_, rfl⟩
                  rw [← hFF] at hS
                  have hsz := steps_size hS
                  obtain ⟨f1, hf1⟩ : ∃ f1, F.length = f1 + 1 := ⟨F.length - 1, by have := hS.ne; have : F.length ≠ 0 := fun e => this (List.length_eq_zero_iff.1 e); omega⟩
                  have hLn : (rewM m keep).length = f1 + 1 + 1 := by unfold rewM; rw [List.length_map, hS.split, List.length_append, hf1]; rfl
                  obtain ⟨kk, hkk⟩ : ∃ kk, kk = st % (f1 + 1) := ⟨_, rfl⟩
                  have hkl : kk < f1 + 1 := by rw [hkk]; exact Nat.mod_lt _ (by omega)
                  have hkI : (st : Int) % ((f1 : Int) + 1) = (kk : Int) := by rw [hkk]; simp
                  have hkT : Int.tmod (st : Int) ((f1 : Int) + 1) = (kk : Int) := by rw [Int.tmod_eq_emod_of_nonneg (by omega)]; exact hkI
                  obtain ⟨x, hx1, hx2, hx3, hx4, hx5, hx6⟩ := steps_at hS kk (by omega)
                  have hf1b : f1 ≤ 100000 := by have := hS.len; omega
                  have hag := again_rew h0 HGL.out (m' := mk m x) hx3 hx6 (hf_mk m hx2) (by rw [HG2.out]; exact h2)
                  have HLN := Lib.hid hLn
                  have HX1 := Lib.hid hx1
                  have HX2 := Lib.hid hx2
                  have HAG := Lib.hid hag
                  clear hS hsz hf1 hLn hx1 hx2 hx3 hx4 hx5 hx6 hag hkk
                  subst h2
                  obtain ⟨c_f0, c_f1⟩ := box2 K_f.out
                  have l_f := K_f.out.lt
                  go_wp2_with fail
                  clear c_f0 c_f1 l_f
                  refine (Rewrite_lit (f1 + 1 + 1) 0 keep.length m keep (some ⟨b, o, none⟩) Ak c ck _ HLN.out HG2.out rfl F_m.out hc F_k.out (by omega) hk2).mono ?_
                  rintro e V7 ⟨A6, c6, rfl, hc6, r6, hb⟩
                  have hB := hb
                  replace F_m := Lib.hid (F_m.out.next hB)
                  replace F_d := Lib.hid (F_d.out.next hB)
                  replace F_k := Lib.hid (F_k.out.next hB)
                  replace F_1 := Lib.hid (F_1.out.next hB)
                  replace K_f := Lib.hid (K_f.out.next hB)
                  replace HB := Lib.hid (bt hB HB.out)
                  clear hb hB
                  have F_6 := Lib.hid (r6)
                  clear r6
                  obtain ⟨b9, o9, Ah, ch, rfl, hb9, y0, y1, hch, hrh⟩ := flash_at F_6.out HX1.out
                  rw [show (mk m x).1 = m.1 from rfl] at y0
                  rw [show (mk m x).2.length = m.2.length from HX2.out] at y1 hch
                  have q1 : (1 : Int) < (f1 : Int) + 1 + 1 := by omega
                  have q2 : (0 : Int) ≤ (kk : Int) := by omega
                  have q3 : (kk : Int) < (f1 : Int) + 1 + 1 := by omega
                  have F_h := Lib.hid (hrh)
                  clear hrh
                  obtain ⟨n2, hn2⟩ : ∃ n2, (rewM (mk m x) keep).length = n2 := ⟨_, rfl⟩
                  have HN2 := Lib.hid hn2
                  clear hn2
                  have HAP2 : Hid (∀ W, RdB W W.heap.size Ah x → RdBs W W.heap.size Ak keep → Calls Try.prog 19 #[.agg #[.int .i64 m.1, .slice Ah m.2.length ch], .slice Ak keep.length ck] W fun e w' => ∃ A c, e = .returned (.tuple #[.slice A n2 c, .int .i64 0]) ∧ n2 ≤ c ∧ RdFs w' w'.heap.size A (rewM (mk m x) keep) ∧ Below W.heap.size W w') := fun W hA hD => by
                    have h9 := Rewrite_lit n2 0 keep.length (mk m x) keep Ah Ak ch ck W HN2.out HAG.out.1 rfl hA (by rw [show (mk m x).2.length = m.2.length from HX2.out]; exact hch) hD (by omega) hk2
                    rw [show (mk m x).2.length = m.2.length from HX2.out] at h9
                    exact h9
                  obtain ⟨c_f0, c_f1⟩ := box2 K_f.out
                  have l_f := K_f.out.lt
                  go_wp2_with fail
                  clear c_f0 c_f1 l_f
                  refine (HAP2.out _ (F_h.out.next (al1 _ _)) (F_k.out.next (al1 _ _))).mono ?_
                  rintro e V8 ⟨A7, c7, rfl, hc7, r7, hb⟩
                  have hB := bt hb (al1 V7 _)
                  have K_u : Hid (Bk V8 (V7.heap.size) 24 #[.int .i64 m.1, .slice Ah m.2.length ch]) := Bk.next (by first | exact Bk.new _ _ _ | exact (Bk.new _ _ _).alloc _ | exact ((Bk.new _ _ _).alloc _).alloc _ | exact bkOf (by simp [at?_alloc])) hb
                  replace F_m := Lib.hid (F_m.out.next hB)
                  replace F_d := Lib.hid (F_d.out.next hB)
                  replace F_k := Lib.hid (F_k.out.next hB)
                  replace F_1 := Lib.hid (F_1.out.next hB)
                  replace F_6 := Lib.hid (F_6.out.next hB)
                  replace F_h := Lib.hid (F_h.out.next hB)
                  replace K_f := Lib.hid (K_f.out.next hB)
                  replace HB := Lib.hid (bt hB HB.out)
                  clear hb hB
                  have F_7 := Lib.hid (r7)
                  clear r7 y0 y1 HAP2
                  obtain ⟨lm, hlm⟩ : ∃ lm, lm = lastM (mk m x) (rewM (mk m x) keep) 0 := ⟨_, rfl⟩
                  have HLM := Lib.hid hlm
                  have HLC : Hid (∀ W Al cl, RdB W W.heap.size Ah x → RdFs W W.heap.size Al (rewM (mk m x) keep) → Calls Try.prog 25 #[.agg #[.int .i64 m.1, .slice Ah m.2.length ch], .slice Al n2 cl, .int .i64 0] W (flashPost lm W)) := fun W Al cl hA hl => by
                    have h9 := last_lit lm n2 (mk m x) (rewM (mk m x) keep) 0 Ah Al ch cl W hlm.symm HN2.out hA (by rw [show (mk m x).2.length = m.2.length from HX2.out]; exact hch) hl HAG.out.2.2
                    rw [show (mk m x).2.length = m.2.length from HX2.out] at h9
                    exact h9
                  clear hlm
                  obtain ⟨c_f0, c_f1⟩ := box2 K_f.out
                  have l_f := K_f.out.lt
                  obtain ⟨c_u0, c_u1⟩ := box2 K_u.out
                  have l_u := K_u.out.lt
                  go_wp2_with fail
                  clear c_f0 c_f1 l_f
                  clear c_u0 c_u1 l_u
                  refine (HLC.out _ A7 c7 F_h.out F_7.out).mono ?_
                  rintro e V9 ⟨A8, c8, rfl, hc8, r8, hb⟩
                  have hB := hb
                  replace F_m := Lib.hid (F_m.out.next hB)
                  replace F_d := Lib.hid (F_d.out.next hB)
                  replace F_k := Lib.hid (F_k.out.next hB)
                  replace F_1 := Lib.hid (F_1.out.next hB)
                  replace F_6 := Lib.hid (F_6.out.next hB)
                  replace F_h := Lib.hid (F_h.out.next hB)
                  replace F_7 := Lib.hid (F_7.out.next hB)
                  replace K_f := Lib.hid (K_f.out.next hB)
                  replace K_u := Lib.hid (K_u.out.next hB)
                  replace HB := Lib.hid (bt hB HB.out)
                  clear hb hB
                  have F_8 := Lib.hid (r8)
                  clear r8 HLC
                  obtain ⟨c_f0, c_f1⟩ := box2 K_f.out
                  have l_f := K_f.out.lt
                  obtain ⟨c_u0, c_u1⟩ := box2 K_u.out
                  have l_u := K_u.out.lt
                  go_wp2_with fail
                  clear c_f0 c_f1 l_f
                  clear c_u0 c_u1 l_u
                  refine (holds_lit true keep.length lm keep A8 Ak c8 ck _ (by rw [HLM.out]; exact HAG.out.2.1) rfl F_8.out hc8 F_k.out (by omega) (fun x hx => by have := hks.2 x hx; omega)).mono ?_
                  rintro e V10 ⟨rfl, hb⟩
                  have hB := hb
                  replace F_m := Lib.hid (F_m.out.next hB)
                  replace F_d := Lib.hid (F_d.out.next hB)
                  replace F_k := Lib.hid (F_k.out.next hB)
                  replace F_1 := Lib.hid (F_1.out.next hB)
                  replace F_6 := Lib.hid (F_6.out.next hB)
                  replace F_h := Lib.hid (F_h.out.next hB)
                  replace F_7 := Lib.hid (F_7.out.next hB)
                  replace F_8 := Lib.hid (F_8.out.next hB)
                  replace K_f := Lib.hid (K_f.out.next hB)
                  replace K_u := Lib.hid (K_u.out.next hB)
                  replace HB := Lib.hid (bt hB HB.out)
                  clear hb hB
                  obtain ⟨c_f0, c_f1⟩ := box2 K_f.out
                  have l_f := K_f.out.lt
                  obtain ⟨c_u0, c_u1⟩ := box2 K_u.out
                  have l_u := K_u.out.lt
                  go_wp2
                  go_ret
                  exact ⟨rfl, HB.out⟩
                · have hz3 : rewM m keep = [] := rewM_bad (by rw [HG2.out]; exact h2)
                  have hz4 : (rewM m keep).length = 0 := by rw [hz3]; rfl
                  have z2 : (g2 == 0) = false := by simp [h2]
                  have HZ4 := Lib.hid hz4
                  clear hz3 hz4
                  obtain ⟨c_f0, c_f1⟩ := box2 K_f.out
                  have l_f := K_f.out.lt
                  go_wp2_with fail
                  clear c_f0 c_f1 l_f
                  refine (Rewrite_lit 0 g2 keep.length m keep (some ⟨b, o, none⟩) Ak c ck _ HZ4.out HG2.out rfl F_m.out hc F_k.out (by omega) hk2).mono ?_
                  rintro e V7 ⟨A6, c6, rfl, hc6, r6, hb⟩
                  have hB := hb
                  replace F_m := Lib.hid (F_m.out.next hB)
                  replace F_d := Lib.hid (F_d.out.next hB)
                  replace F_k := Lib.hid (F_k.out.next hB)
                  replace F_1 := Lib.hid (F_1.out.next hB)
                  replace K_f := Lib.hid (K_f.out.next hB)
                  replace HB := Lib.hid (bt hB HB.out)
                  clear hb hB
                  clear r6
                  obtain ⟨c_f0, c_f1⟩ := box2 K_f.out
                  have l_f := K_f.out.lt
                  go_wp2
                  go_ret
                  exact ⟨rfl, HB.out⟩
          · obtain ⟨er, her⟩ : ∃ er, er = lookE m := ⟨_, rfl⟩
            have z0 : (er != 0) = true := by rw [her]; simp [h0]
            have HER : Hid (lookE m = er) := her.symm
            have hN : (lookC m).recs.length = 0 := by rw [lookC_bad h0]; rfl
            obtain ⟨mb, hmb⟩ : ∃ mb, jvB m.1 m.2.length = mb := ⟨_, rfl⟩
            clear her
            obtain ⟨c_f0, c_f1⟩ := box2 K_f.out
            have l_f := K_f.out.lt
            go_wp2_with fail
            clear c_f0 c_f1 l_f
            refine (Read_lit er 0 m.2.length m.1 m A c _ rfl HER.out hN rfl F_m.out hc).mono ?_
            rintro e V4 ⟨A1, c1, rfl, hc1, r1, hb⟩
            have hB := hb
            replace F_m := Lib.hid (F_m.out.next hB)
            replace F_d := Lib.hid (F_d.out.next hB)
            replace F_k := Lib.hid (F_k.out.next hB)
            replace K_f := Lib.hid (K_f.out.next hB)
            replace HB := Lib.hid (bt hB HB.out)
            clear hb hB
            clear r1
            obtain ⟨c_f0, c_f1⟩ := box2 K_f.out
            have l_f := K_f.out.lt
            go_wp2_with fail
            clear c_f0 c_f1 l_f
            refine (Memory_lit mb m.1 A m.2.length c _ hmb).mono ?_
            rintro e V5 ⟨rfl, hb⟩
            have hB := hb
            replace F_m := Lib.hid (F_m.out.next hB)
            replace F_d := Lib.hid (F_d.out.next hB)
            replace F_k := Lib.hid (F_k.out.next hB)
            replace K_f := Lib.hid (K_f.out.next hB)
            replace HB := Lib.hid (bt hB HB.out)
            clear hb hB
            obtain ⟨c_f0, c_f1⟩ := box2 K_f.out
            have l_f := K_f.out.lt
            go_wp2
            have Rc_f0 := cell_regrown c_f0
            have Rc_f1 := cell_regrown c_f1
            refine wp_region_quiet_below (by kernel_rfl) (by kernel_rfl) ?_
            repeat (first | go_big_quiet_step (fail) | quiet_step (fail))
            refine wpQuiet_nil ?_
            intro _ hw'
            obtain ⟨⟨dq, osq⟩, hw''⟩ := hw'
            subst hw''
            obtain ⟨Vz, hVz⟩ : ∃ V, V = grow (redrawn V5 dq) osq := ⟨_, rfl⟩
            have hbVz : Below V5.heap.size V5 Vz := by rw [hVz]; exact below_regrown _ _ _
            rw [← hVz]
            clear hVz
            clear Rc_f0
            clear Rc_f1
            have HBZ := Lib.hid (bt hbVz HB.out)
            clear hbVz c_f0 c_f1
            go_wp2
            go_ret
            exact ⟨rfl, HBZ.out⟩
  · obtain ⟨c_f0, c_f1⟩ := box2 K_f.out
    have l_f := K_f.out.lt
    go_wp2_with fail
    clear c_f0 c_f1 l_f
    refine (few_lit false m d A Ad c cd _ (decide_eq_false hf)).mono ?_
    rintro e V2 ⟨rfl, hb⟩
    have hB := hb
    replace F_m := Lib.hid (F_m.out.next hB)
    replace F_d := Lib.hid (F_d.out.next hB)
    replace F_k := Lib.hid (F_k.out.next hB)
    replace K_f := Lib.hid (K_f.out.next hB)
    replace HB := Lib.hid (bt hB HB.out)
    clear hb hB
    obtain ⟨c_f0, c_f1⟩ := box2 K_f.out
    have l_f := K_f.out.lt
    go_wp2
    go_ret
    exact ⟨rfl, HB.out⟩
end Go.Proofs.Ytkeghidlolidmaa
