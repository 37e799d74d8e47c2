/- The law TopMisreads, walked. -/
import Derived.Test.YthmipmdpdfdlaaaDoorTj
import Derived.Test.YthmipmdpdfdlaaaDoorTq
import Derived.BigQuiet
set_option maxRecDepth 100000
set_option linter.unusedVariables false
set_option linter.unusedSimpArgs false
namespace Go.Proofs.YthmipmdpdfdlaaaDoor
open Go.RowKit
theorem info_str : (Tryd.prog.info? 9).map (fun i => (i.zero, i.size, i.bytes)) = some (some (.string ByteArray.empty), 1, 16) := by kernel_rfl
def plF (x : Car) : Value := .string x.p
theorem Apart_cars (l : List Car) (least : Int) (A : Option Addr) (c : Nat) (w : World) (hA : RdS w w.heap.size 1 A l.length (l.map plF)) (hS : ∀ x ∈ l, x.p.size ≤ 9223372036854775807) (hn : l.length ≤ 8) (hC : Cf w) :
    Calls Tryd.prog 9 #[.slice A l.length c, .int .i64 least] w fun e w' => e = .returned (.bool (apB (l.map Car.p) least)) ∧ Below w.heap.size w w' := by
  have h := r7Apart_any (l.map Car.p) least A c w (by
    show RdS _ _ _ _ _ _
    rw [List.length_map, List.map_map]; exact hA) (fun s hs => by obtain ⟨x, hx, rfl⟩ := List.mem_map.1 hs; exact hS x hx) (by rw [List.length_map]; omega) hC
  rw [List.length_map] at h
  exact h
theorem apart_cars {l : List Car} {least : Int} (h : apB (l.map Car.p) least = true) : ∀ i, i < l.length → ∀ k, k < i → least ≤ dsV (l.getD i car0).p (l.getD k car0).p := by
  intro i hi k hk
  have := ((ap_iff _ _).1 h i (by simpa using hi) k hk).2
  simpa [List.getD_eq_getElem?_getD, List.getElem?_eq_getElem hi, List.getElem?_eq_getElem (show k < l.length by omega)] using this
theorem wrK_bd {l : List Car} : ∀ k, (∀ i, i < k → dsV (l.getD i car0).p (l.getD i car0).r ≤ 1) → 0 ≤ wrK l k ∧ wrK l k ≤ k
  | 0, _ => ⟨Int.le_refl _, Int.le_refl _⟩
  | k + 1, h => by
    have ih := wrK_bd k fun i hi => h i (by omega)
    have h1 := h k (by omega)
    have h2 := (dsV_bd (l.getD k car0).p (l.getD k car0).r).1
    rw [wrK]; push_cast; omega
theorem Match_mis (l : List Car) (hok : CarsOk l l.length) (hn : l.length ≤ 8) (h1 : ∀ i, i < l.length → dsV (l.getD i car0).p (l.getD i car0).r ≤ 1) (h3 : ∀ i, i < l.length → ∀ k, k < i → 3 ≤ dsV (l.getD i car0).p (l.getD k car0).p)
    (A6 A7 : Option Addr) (c6 c7 : Nat) (w : World) (h6 : RdS w w.heap.size 2 A6 l.length (cl2 paF paG (esK l l.length))) (h7 : RdS w w.heap.size 2 A7 l.length (cl2 paF paG (xsK l l.length))) (hC : Cf w) :
    Calls Tryd.prog 10 #[.slice A6 l.length c6, .slice A7 l.length c7] w fun e w' => ∃ A c, e = .returned (.tuple #[.slice A l.length c, .int .i64 (wrK l l.length), .int .i64 0]) ∧ RdQ w' w'.heap.size A (tg (fun i => some (exK l l.length i)) l.length 0) ∧ Below w.heap.size w w' := by
  have h := Match_yes (esK l l.length) (xsK l l.length) A6 A7 c6 c7 w (esK_valid hok hn) (xsK_valid hok hn)
    (fun p hp => by simp only [esK, List.mem_map, List.mem_range] at hp; obtain ⟨i, hi, rfl⟩ := hp; exact pl_sz (hok i hi).1)
    (fun p hp => by simp only [xsK, List.mem_map] at hp; obtain ⟨i, hi, rfl⟩ := hp; exact pl_sz (hok i ((cI_mem l _ i).1 hi)).2)
    (by show RdS _ _ _ _ _ _; rw [esK_length]; exact h6) (by show RdS _ _ _ _ _ _; rw [xsK_length]; exact h7) hC
  rw [esK_length, xsK_length] at h
  refine h.mono ?_
  rintro e w' ⟨A, c, q, m, rfl, hc, hr, hbp, hb⟩
  obtain ⟨rfl, rfl⟩ := misreads_best hok h1 h3 hbp
  rw [(tg_all _ _ _).1]
  exact ⟨A, c, rfl, hr, hb⟩
set_option maxHeartbeats 4000000 in
theorem TopMisreads_walk (l : List Car) (Al : Option Addr) (cl : Nat) (w : World) (hn : l.length ≤ 3600000000000) (hS : ∀ x ∈ l, x.p.size ≤ 9223372036854775807 ∧ x.r.size ≤ 9223372036854775807) (hC : Cf w) (hl : RdC w w.heap.size Al l) :
    Calls Tryd.prog 3 #[.slice Al l.length cl] w fun e w' => e = .returned (.bool true) ∧ Below w.heap.size w w' := by
  go_enter Tryd.func3, Tryd.ntmps3
  go_wp2_with fail
  refine (r7Plates_any _ hC).mono ?_
  rintro e W1 ⟨rfl, hb1⟩
  have HS := Lib.hid hS
  have HC := Lib.hid hC
  have HL0 := Lib.hid hl
  clear hS hC hl
  go_wp2_with fail
  refine (r7Cars_any l Al cl W1 hn HS.out (HL0.out.next hb1)).mono ?_
  have HL := Lib.hid (HL0.out)
  rintro e W2 h2
  rcases h2 with ⟨A4, c4, A5, c5, A6, c6, rfl, hok, r4, r5, r6, hb2⟩ | ⟨rfl, hb2⟩
  · have HB2 : Hid (Below w.heap.size w W2) := bt hb2 hb1
    have HOK := Lib.hid hok
    have HR4 := Lib.hid r4
    have HR5 := Lib.hid r5
    have HR6 := Lib.hid r6
    have HC2 := Lib.hid (HC.out.next HB2.out)
    clear hb1 hb2 hok r4 r5 r6
    by_cases h8 : 8 < l.length
    · have h8' : (8 : Int) < (l.length : Int) := by omega
      clear h8
      go_wp2
      go_ret
      exact ⟨rfl, HB2.out⟩
    · have h8' : ¬ (8 : Int) < (l.length : Int) := by omega
      obtain ⟨B, hB⟩ : ∃ B, B = W2.heap.size := ⟨_, rfl⟩
      have HBS := Lib.hid hB
      have hB1 : W2.heap.size ≤ B := Nat.le_of_eq hB.symm
      obtain ⟨i0, hi, hz0, hz1, hz2⟩ := info_parts info_str
      clear hB
      go_wp2_with fail
      go_loopw [8, 9, 37] (fun v8 v9 i wr => ∃ k : Nat, i = .int .i64 (k : Int) ∧ k ≤ l.length ∧ v9 = .int .i64 (wrK l k) ∧ wr.ownsRow B 9 1 v8 k ((l.take k).map plF) ∧ (∀ i, i < k → dsV (l.getD i car0).p (l.getD i car0).r ≤ 1) ∧ B ≤ wr.heap.size ∧ Below W2.heap.size W2 wr) (fun _ _ i _ => l.length - (intOf i).toNat)
      case atStart => exact ⟨0, rfl, Nat.zero_le _, rfl, ⟨rfl, .inl ⟨rfl, rfl⟩⟩, fun i h => absurd h (Nat.not_lt_zero _), Nat.le_of_eq HBS.out, Below.refl _ _⟩
      case round =>
        obtain ⟨k, rfl, hk, rfl, o8, hle, hBw, hbw⟩ := hrel
        have HO8 := Lib.hid o8
        have HLE := Lib.hid hle
        have HBW := Lib.hid hbw
        have hsz := hbw.size
        clear o8 hle hbw
        by_cases hlt : k < l.length
        · obtain ⟨x, hx⟩ : ∃ x, x = l[k] := ⟨_, rfl⟩
          obtain ⟨b, o, rfl, hbb, c0, c1, c2, c3⟩ := (RdC.below HL.out (bt HBW.out HB2.out)).at_ hlt
          rw [← hx] at c0 c1 c2 c3
          have hxg : l.getD k car0 = x := by rw [hx, List.getD_eq_getElem?_getD, List.getElem?_eq_getElem hlt]; rfl
          have hS := HS.out x (by rw [hx]; exact List.getElem_mem _)
          obtain ⟨hp1, hr1⟩ := hS
          obtain ⟨xa, hxa⟩ : ∃ xa : Int, xa = (x.wt.toNat : Int) := ⟨_, rfl⟩
          obtain ⟨xb, hxb⟩ : ∃ xb : Int, xb = (x.st.toNat : Int) := ⟨_, rfl⟩
          rw [← hxa] at c2
          rw [← hxb] at c3
          obtain ⟨D, hD⟩ : ∃ D, D = dsV x.p x.r := ⟨_, rfl⟩
          have hD0 : 0 ≤ D := by rw [hD]; exact (dsV_bd _ _).1
          have hE : dsE x.p x.r = 0 := by
            have := HOK.out k hlt
            rw [hxg] at this
            rw [dsE, if_pos this]
          obtain ⟨m0, hm0⟩ : ∃ m0 : Int, m0 = wrK l k := ⟨_, rfl⟩
          have hmb := wrK_bd k HLE.out
          rw [← hm0] at hmb ⊢
          have hm1 := hmb.1
          have hm2 := hmb.2
          have HD := Lib.hid hD
          have HE := Lib.hid hE
          have HXG := Lib.hid hxg
          have HM : Hid (m0 + D = wrK l (k + 1)) := by show _ = _; rw [wrK, hm0, hxg, hD]
          have HTK : Hid ((l.take (k + 1)).map plF = (l.take k).map plF ++ [.string x.p]) := by
            show _ = _
            rw [List.take_succ_eq_append_getElem hlt, List.map_append, hx]; rfl
          have hbb2 : b < wr.heap.size := by have := HB2.out.size; omega
          have k1 : (0 : Int) ≤ (k : Int) := by omega
          have k2 : (k : Int) < (l.length : Int) := by omega
          clear hx hxg hD hE hm0 hmb hxa hxb
          go_wp2_with (first
            | (at_builtin; refine wpList_append_rd _ rfl _ _ _ rfl B 9 i0 _ 1 16 Tryd.underlying28 hi hz0 hz1 hz2 rfl (by omega) u8 k ((l.take k).map plF) (by rfl) ((HO8.out.alloc (.cells #[.string x.p, .string x.r, .int .u8 xa, .int .u8 xb] 30)).alloc (.cells #[.string x.p] 9)) (wr.heap.size + 1 + 1) (some ⟨wr.heap.size + 1, 0, none⟩) 1 1 [.string x.p] (by rfl) (rd_bk (bkOf (by simp [at?_alloc]; try rfl)) rfl (by omega)) (by simp [Value.oneCell']) (by simp only [maxLen]; omega) (by omega) (by simp; omega) ?_; intro v8' W4 hown8 hg8 hat8; have kb := ((Bk.new wr 30 #[.string x.p, .string x.r, .int .u8 xa, .int .u8 xb]).alloc (.cells #[.string x.p] 9)).grown hg8 (fun e => by have := (HO8.out.lt _ e.symm).2; omega); obtain ⟨z0, z1, z2, z3⟩ := box4 kb; have hs4 : wr.heap.size + 2 ≤ W4.heap.size := (by have := hg8.size; simp at this; omega); have hb4 : Below W2.heap.size W2 W4 := ((HBW.out.alloc hsz (.cells #[.string x.p, .string x.r, .int .u8 xa, .int .u8 xb] 30)).alloc (by simp <;> omega) (.cells #[.string x.p] 9)).grown hg8 (by simp <;> omega) (fun g hg => by have := (HO8.out.lt g hg).1; omega)))
          refine (Distance_lit D 0 x.p x.r _ hp1 hr1 (HC2.out.next hb4) HD.out.symm HE.out).mono ?_
          rintro e W5 ⟨rfl, hb5⟩
          have e8 := own_on hown8 hb5
          rw [← HTK.out] at e8
          have HF0 : Hid (W5.ownsRow B 9 1 v8' (k + 1) ((l.take (k + 1)).map plF) ∧ B ≤ W5.heap.size ∧ Below W2.heap.size W2 W5) := ⟨e8, by have := hb5.size; omega, bt hb5 hb4⟩
          have HBL : Hid (Below w.heap.size w W5) := bt (bt hb5 hb4) HB2.out
          clear z0 z1 z2 z3 kb hown8 hg8 hat8 e8 hb4 hs4 hb5
          by_cases hD1 : 1 < D
          · go_wp2
            go_ret
            exact ⟨rfl, HBL.out⟩
          · have HLE1 : Hid (∀ i, i < k + 1 → dsV (l.getD i car0).p (l.getD i car0).r ≤ 1) := fun i hi => by
              rcases Nat.lt_or_ge i k with h9 | h9
              · exact HLE.out i h9
              · obtain rfl : i = k := by omega
                rw [HXG.out, ← HD.out]; omega
            go_wp2
            go_roundw
            case rel => exact ⟨k + 1, by go_num, by omega, by rw [← HM.out], HF0.out.1, HLE1.out, HF0.out.2⟩
            case measure => simp [intOf]; omega
        · obtain rfl : k = l.length := by omega
          obtain ⟨A8, c8, rfl, hc8, r8⟩ := own_read HO8.out
          rw [List.take_length] at r8
          have HR8 := Lib.hid r8
          have HBL : Hid (Below w.heap.size w wr) := bt HBW.out HB2.out
          obtain ⟨Wn, hWn⟩ : ∃ Wn : Int, Wn = wrK l l.length := ⟨_, rfl⟩
          rw [← hWn]
          have HWN := Lib.hid hWn
          clear r8 HO8 hlt hk hWn
          have k2 : ¬ ((l.length : Int) < (l.length : Int)) := by omega
          go_wp2_with fail
          refine (Apart_cars l 3 A8 c8 wr HR8.out (fun x hx => (HS.out x hx).1) (by omega) (HC2.out.next HBW.out)).mono ?_
          rintro e W5 ⟨rfl, hb5⟩
          have HB5 : Hid (Below W2.heap.size W2 W5) := bt hb5 HBW.out
          clear hb5
          by_cases hap : apB (l.map Car.p) 3 = true
          · rw [hap]
            have HAP := Lib.hid (apart_cars hap)
            clear hap
            go_wp2_with fail
            refine (Match_mis l HOK.out (by omega) HLE.out HAP.out A4 A5 c4 c5 _ (HR4.out.next HB5.out) (HR5.out.next HB5.out) (HC2.out.next HB5.out)).mono ?_
            rintro e W6 ⟨A, c, rfl, hr, hb6⟩
            rw [← HWN.out]
            have HB6 : Hid (Below W2.heap.size W2 W6) := bt hb6 HB5.out
            have HBL6 : Hid (Below w.heap.size w W6) := bt HB6.out HB2.out
            have HQ := Lib.hid hr
            have hsz6 := HB6.out.size
            clear hr hb6
            go_wp2_with fail
            go_loopw [90] (fun i wq => ∃ k : Nat, i = .int .i64 (k : Int) ∧ k ≤ l.length ∧ Below W6.heap.size W6 wq) (fun i _ => l.length - (intOf i).toNat)
            case atStart => exact ⟨0, rfl, Nat.zero_le _, Below.refl _ _⟩
            case round =>
              obtain ⟨k, rfl, hk, hbq⟩ := hrel
              have HBQ := Lib.hid hbq
              have hszq := hbq.size
              clear hbq
              by_cases hlt : k < l.length
              · have hlg : k < (tg (fun i => some (exK l l.length i)) l.length 0).length := by rw [(tg_all _ _ _).1]; exact hlt
                obtain ⟨b, o, rfl, hbb, c0, c1⟩ := (Rd2.below HQ.out HBQ.out).at_ hlg
                have hg : (tg (fun i => some (exK l l.length i)) l.length 0)[k] = (k, exK l l.length k) := by
                  have := (tg_all (fun i => exK l l.length i) l.length 0).2 k hlt
                  rw [List.getElem?_eq_getElem hlg] at this
                  injection this with this
                  rw [this, Nat.zero_add]
                rw [hg] at c0 c1
                simp only [prF, prG] at c0 c1
                have hE1 := exK_lt l hlt
                have hE2 := exK_get l hlt
                obtain ⟨E, hE⟩ : ∃ E, E = exK l l.length k := ⟨_, rfl⟩
                have hEE : ((cI l l.length).map inI)[E]? = some (.int .i64 (k : Int)) := by
                  have h9 : E < (cI l l.length).length := by rw [hE, cI_length]; exact hE1
                  rw [List.getElem?_map, List.getElem?_eq_getElem h9]
                  have : (cI l l.length)[E] = k := by rw [← hE2]; congr 1
                  rw [this]; rfl
                rw [← hE] at c1 hE1
                obtain ⟨b3, o3, rfl, hb3, hc3⟩ := (RdS.below HR6.out (HB6.out.trans (HBQ.out.mono hsz6))).2 (by omega)
                have c2 := hc3 E _ hEE
                have k1 : (0 : Int) ≤ (k : Int) := by omega
                have k2 : (k : Int) < (l.length : Int) := by omega
                have k3 : (0 : Int) ≤ (E : Int) := by omega
                have k4 : (E : Int) < (l.length : Int) := by omega
                have hbb2 : b < wr.heap.size := by omega
                have hbb3 : b3 < wr.heap.size := by omega
                have HF2 : Hid (∀ o, Below W6.heap.size W6 (wr.alloc o)) := fun o => HBQ.out.alloc hszq o
                clear hg hlg hE hE2 hEE hc3
                go_wp2_with fail
                have f1 : ¬ (E : Int) < 0 := by omega
                have f2 : ¬ (l.length : Int) ≤ (E : Int) := by omega
                go_quiet (fail)
                go_wp2
                go_roundw
                case rel => exact ⟨k + 1, by go_num, by omega, by first | exact HF2.out _ | exact belowDrew (HF2.out _) _ | exact (HF2.out _).drew⟩
                case measure => simp [intOf]; omega
              · have k2 : ¬ (k : Int) < (l.length : Int) := by omega
                go_wp2
                go_ret
                exact ⟨rfl, HBL6.out.trans (HBQ.out.mono HBL6.out.size)⟩
          · have hap' : apB (l.map Car.p) 3 = false := by simpa using hap
            rw [hap']
            clear hap hap'
            go_wp2
            go_ret
            exact ⟨rfl, bt HB5.out HB2.out⟩
  · have HB2 : Hid (Below w.heap.size w W2) := bt hb2 hb1
    clear hb1 hb2
    go_wp2
    go_ret
    exact ⟨rfl, HB2.out⟩
end Go.Proofs.YthmipmdpdfdlaaaDoor
