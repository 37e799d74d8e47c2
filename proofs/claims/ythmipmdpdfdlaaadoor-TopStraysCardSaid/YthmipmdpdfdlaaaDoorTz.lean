/- The law TopStrays, walked. -/
import Derived.Test.YthmipmdpdfdlaaaDoorTu
import Derived.Test.YthmipmdpdfdlaaaDoorTya
import Derived.BigQuiet
set_option maxRecDepth 100000
set_option linter.unusedVariables false
set_option linter.unusedSimpArgs false
namespace Go.Proofs.YthmipmdpdfdlaaaDoor
open Go.RowKit
theorem mvB_sub {xs ys : List Pas} (h : mvB xs = true) (hs : ys.Sublist xs) : mvB ys = true := by
  rw [mvB, Bool.and_eq_true, decide_eq_true_iff, mvF_iff] at h
  exact mvB_mk (Nat.le_trans hs.length_le h.1) (fun p hp => h.2.1 p (hs.subset hp)) (h.2.2.sublist hs)
theorem Match_str (l : List Car) (A B : Nat → Bool) (hok : CarsOk l l.length) (hn : l.length ≤ 8) (h1 : ∀ i, i < l.length → dsV (l.getD i car0).p (l.getD i car0).r ≤ 1) (h12 : ∀ i, i < l.length → ∀ k, k < i → 12 ≤ dsV (l.getD i car0).p (l.getD k car0).p)
    (A6 A7 : Option Addr) (c6 c7 : Nat) (w : World) (h6 : RdS w w.heap.size 2 A6 (inS A l.length).length (cl2 paF paG ((inS A l.length).map (eOf l)))) (h7 : RdS w w.heap.size 2 A7 (outS l B l.length).length (cl2 paF paG ((outS l B l.length).map (xOf l)))) (hC : Cf w) :
    Calls Tryd.prog 10 #[.slice A6 (inS A l.length).length c6, .slice A7 (outS l B l.length).length c7] w fun e w' => ∃ A9 c9 q, e = .returned (.tuple #[.slice A9 (bothS A B l.length) c9, .int .i64 (wantS l A B l.length), .int .i64 0]) ∧ q.length = bothS A B l.length ∧ RdQ w' w'.heap.size A9 q ∧ (∀ p ∈ q, ∃ (h1 : p.1 < (inS A l.length).length) (h2 : p.2 < (outS l B l.length).length), (inS A l.length)[p.1] = (outS l B l.length)[p.2]) ∧ Below w.heap.size w w' := by
  have h := Match_yes ((inS A l.length).map (eOf l)) ((outS l B l.length).map (xOf l)) A6 A7 c6 c7 w (mvB_sub (esK_valid hok hn) (List.filter_sublist.map _)) (mvB_sub (xsK_valid hok hn) (List.filter_sublist.map _))
    (fun p hp => by obtain ⟨i, hi, rfl⟩ := List.mem_map.1 hp; exact pl_sz (hok i (inS_mem.1 hi).1).1)
    (fun p hp => by obtain ⟨i, hi, rfl⟩ := List.mem_map.1 hp; exact pl_sz (hok i (outS_mem.1 hi).1).2)
    (by show RdS _ _ _ _ _ _; rw [List.length_map]; exact h6) (by show RdS _ _ _ _ _ _; rw [List.length_map]; exact h7) hC
  rw [List.length_map, List.length_map] at h
  refine h.mono ?_
  rintro e w' ⟨A9, c9, q, m, rfl, hc, hr, hbp, hb⟩
  obtain ⟨rfl, e2, e3⟩ := strays_answer hok h1 h12 hbp
  rw [e2]
  exact ⟨A9, c9, q, rfl, e2, hr, e3, hb⟩
def bz (a : Int) (i : Nat) : Bool := bits BinOp.and IntKind.u8 (a / 2 ^ i) 1 == 0
theorem wantS_bd {l : List Car} (A B : Nat → Bool) : ∀ k, (∀ i, i < k → dsV (l.getD i car0).p (l.getD i car0).r ≤ 1) → 0 ≤ wantS l A B k ∧ wantS l A B k ≤ 5 * (k : Int)
  | 0, _ => ⟨Int.le_refl _, Int.le_refl _⟩
  | k + 1, h => by
    have ih := wantS_bd A B k fun i hi => h i (by omega)
    have h1 := h k (by omega)
    have h2 := (dsV_bd (l.getD k car0).p (l.getD k car0).r).1
    rw [wantS]
    split
    · push_cast; omega
    · split <;> (push_cast; omega)
theorem bothS_le (A B : Nat → Bool) : ∀ k, bothS A B k ≤ k
  | 0 => Nat.le_refl _
  | k + 1 => by
    have := bothS_le A B k
    rw [bothS]; split <;> omega
set_option maxHeartbeats 4000000 in
theorem TopStrays_walk (l : List Car) (ins un : Int) (Al : Option Addr) (cl : Nat) (w : World) (hn : l.length ≤ 3600000000000) (i0 : 0 ≤ ins) (i1 : ins ≤ 255) (n0 : 0 ≤ un) (n1 : un ≤ 255) (hS : ∀ x ∈ l, x.p.size ≤ 9223372036854775807 ∧ x.r.size ≤ 9223372036854775807) (hC : Cf w) (hl : RdC w w.heap.size Al l) :
    Calls Tryd.prog 4 #[.slice Al l.length cl, .int .u8 ins, .int .u8 un] w fun e w' => e = .returned (.bool true) ∧ Below w.heap.size w w' := by
  go_enter Tryd.func4, Tryd.ntmps4
  go_wp2_with fail
  refine (r7Plates_any _ hC).mono ?_
  rintro e W1 ⟨rfl, hb1⟩
  have HS := Lib.hid hS
  have HC := Lib.hid hC
  have HL0 := Lib.hid hl
  clear hS hC hl
  go_wp2_with fail
  refine (r7Cars_any l Al cl W1 hn HS.out (HL0.out.next hb1)).mono ?_
  have HL := Lib.hid (HL0.out)
  rintro e W2 h2
  rcases h2 with ⟨A4, c4, A5, c5, A6, c6, rfl, hok, r4, r5, r6, hb2⟩ | ⟨rfl, hb2⟩
  · have HB2 : Hid (Below w.heap.size w W2) := bt hb2 hb1
    have HOK := Lib.hid hok
    have HR4 := Lib.hid r4
    have HR5 := Lib.hid r5
    have HR6 := Lib.hid r6
    have HC2 := Lib.hid (HC.out.next HB2.out)
    clear hb1 hb2 hok r4 r5 r6
    by_cases h8 : 8 < l.length
    · have h8' : (8 : Int) < (l.length : Int) := by omega
      clear h8
      go_wp2
      go_ret
      exact ⟨rfl, HB2.out⟩
    · have h8' : ¬ (8 : Int) < (l.length : Int) := by omega
      obtain ⟨B, hB⟩ : ∃ B, B = W2.heap.size := ⟨_, rfl⟩
      have HBS := Lib.hid hB
      have hB1 : W2.heap.size ≤ B := Nat.le_of_eq hB.symm
      obtain ⟨i0, hi, hz0, hz1, hz2⟩ := info_parts info_str
      clear hB
      go_wp2_with fail
      go_loopw [12, 53] (fun v12 i wr => ∃ k : Nat, i = .int .i64 (k : Int) ∧ k ≤ l.length ∧ wr.ownsRow B 9 1 v12 k ((l.take k).map plF) ∧ B ≤ wr.heap.size ∧ Below W2.heap.size W2 wr) (fun _ i _ => l.length - (intOf i).toNat)
      case atStart => exact ⟨0, rfl, Nat.zero_le _, ⟨rfl, .inl ⟨rfl, rfl⟩⟩, Nat.le_of_eq HBS.out, Below.refl _ _⟩
      case round =>
        obtain ⟨k, rfl, hk, o12, hBw, hbw⟩ := hrel
        have HO12 := Lib.hid o12
        have HBW := Lib.hid hbw
        have hsz := hbw.size
        clear o12 hbw
        by_cases hlt : k < l.length
        · obtain ⟨x, hx⟩ : ∃ x, x = l[k] := ⟨_, rfl⟩
          obtain ⟨b, o, rfl, hbb, c0, c1, c2, c3⟩ := (RdC.below HL.out (bt HBW.out HB2.out)).at_ hlt
          rw [← hx] at c0 c1 c2 c3
          have hS := HS.out x (by rw [hx]; exact List.getElem_mem _)
          obtain ⟨xa, hxa⟩ : ∃ xa : Int, xa = (x.wt.toNat : Int) := ⟨_, rfl⟩
          obtain ⟨xb, hxb⟩ : ∃ xb : Int, xb = (x.st.toNat : Int) := ⟨_, rfl⟩
          rw [← hxa] at c2
          rw [← hxb] at c3
          have HTK : Hid ((l.take (k + 1)).map plF = (l.take k).map plF ++ [.string x.p]) := by
            show _ = _
            rw [List.take_succ_eq_append_getElem hlt, List.map_append, hx]; rfl
          have hbb2 : b < wr.heap.size := by have := HB2.out.size; omega
          have k1 : (0 : Int) ≤ (k : Int) := by omega
          have k2 : (k : Int) < (l.length : Int) := by omega
          clear hx hS hxa hxb
          go_wp2_with (first
            | (at_builtin; refine wpList_append_rd _ rfl _ _ _ rfl B 9 i0 _ 1 16 Tryd.underlying28 hi hz0 hz1 hz2 rfl (by omega) u12 k ((l.take k).map plF) (by rfl) ((HO12.out.alloc (.cells #[.string x.p, .string x.r, .int .u8 xa, .int .u8 xb] 30)).alloc (.cells #[.string x.p] 9)) (wr.heap.size + 1 + 1) (some ⟨wr.heap.size + 1, 0, none⟩) 1 1 [.string x.p] (by rfl) (rd_bk (bkOf (by simp [at?_alloc]; try rfl)) rfl (by omega)) (by simp [Value.oneCell']) (by simp only [maxLen]; omega) (by omega) (by simp; omega) ?_; intro v8' W4 hown8 hg8 hat8; have hs4 : wr.heap.size + 2 ≤ W4.heap.size := (by have := hg8.size; simp at this; omega); have hb4 : Below W2.heap.size W2 W4 := ((HBW.out.alloc hsz (.cells #[.string x.p, .string x.r, .int .u8 xa, .int .u8 xb] 30)).alloc (by simp <;> omega) (.cells #[.string x.p] 9)).grown hg8 (by simp <;> omega) (fun g hg => by have := (HO12.out.lt g hg).1; omega)))
          rw [← HTK.out] at hown8
          have HF0 : Hid (W4.ownsRow B 9 1 v8' (k + 1) ((l.take (k + 1)).map plF) ∧ B ≤ W4.heap.size ∧ Below W2.heap.size W2 W4) := ⟨hown8, by omega, hb4⟩
          clear hown8 hg8 hat8 hb4 hs4
          go_roundw
          case rel => exact ⟨k + 1, by go_num, by omega, HF0.out⟩
          case measure => simp [intOf]; omega
        · clear hi hz0 hz1 hz2
          obtain rfl : k = l.length := by omega
          obtain ⟨A12, c12, rfl, hc12, r12⟩ := own_read HO12.out
          rw [List.take_length] at r12
          have HR12 := Lib.hid r12
          clear r12 HO12 hlt hk
          have k2 : ¬ ((l.length : Int) < (l.length : Int)) := by omega
          go_wp2_with fail
          refine (Apart_cars l 12 A12 c12 wr HR12.out (fun x hx => (HS.out x hx).1) (by omega) (HC2.out.next HBW.out)).mono ?_
          rintro e W5 ⟨rfl, hb5⟩
          have HB5 : Hid (Below W2.heap.size W2 W5) := bt hb5 HBW.out
          clear hb5 HR12 HBW k2
          by_cases hap : apB (l.map Car.p) 12 = true
          · rw [hap]
            have HAP := Lib.hid (apart_cars hap)
            clear hap
            have HBV := HB5
            clear HB5
            obtain ⟨V1, hZ⟩ : ∃ Zz, Zz = W5 := ⟨_, rfl⟩
            rw [← hZ] at HBV ⊢
            clear hZ
            obtain ⟨B1, hB⟩ : ∃ B, B = V1.heap.size := ⟨_, rfl⟩
            have HB1S := Lib.hid hB
            have hB11 : V1.heap.size ≤ B1 := Nat.le_of_eq hB.symm
            clear hB
            go_wp2_with fail
            go_loopw [15, 17, 69] (fun v1 v2 i wr => ∃ k : Nat, i = .int .i64 (k : Int) ∧ k ≤ l.length ∧ wr.ownsRow B1 42 2 v1 (inS (bz un) k).length (cl2 paF paG ((inS (bz un) k).map (eOf l))) ∧ wr.ownsRow B1 3 1 v2 (inS (bz un) k).length ((inS (bz un) k).map inI) ∧ (∀ g, (v1).ownBlock = some g → (v2).ownBlock ≠ some g) ∧ B1 ≤ wr.heap.size ∧ Below V1.heap.size V1 wr) (fun _ _ i _ => l.length - (intOf i).toNat)
            case atStart => exact ⟨0, rfl, Nat.zero_le _, ⟨rfl, .inl ⟨rfl, rfl⟩⟩, ⟨rfl, .inl ⟨rfl, rfl⟩⟩, fun g h => (by cases h), Nat.le_of_eq HB1S.out, Below.refl _ _⟩
            case round =>
              obtain ⟨k, rfl, hk, o1, o2, hne, hBw, hbw⟩ := hrel
              have HO1 := Lib.hid o1
              have HO2 := Lib.hid o2
              have HNE := Lib.hid hne
              have HBW := Lib.hid hbw
              have hsz := hbw.size
              clear o1 o2 hne hbw
              by_cases hlt : k < l.length
              · have k1 : (0 : Int) ≤ (k : Int) := by omega
                have k2 : (k : Int) < (l.length : Int) := by omega
                have k3 : k < 8 := by omega
                have hln : (inS (bz un) k).length ≤ k := by unfold inS; exact Nat.le_trans (List.length_filter_le _ _) (by simp)
                by_cases hb : bz un k = true
                · have hb' : (bits BinOp.and IntKind.u8 (un / 2 ^ k) 1 == 0) = true := hb
                  have HIN : Hid (inS (bz un) (k + 1) = inS (bz un) k ++ [k]) := by show _ = _; rw [inS_succ, if_pos hb]
                  obtain ⟨pe, hpe⟩ : ∃ pe, pe = eOf l k := ⟨_, rfl⟩
                  obtain ⟨b4, o4, rfl, hb4, d0, d1⟩ := (show RdP wr _ A4 (esK l l.length) by show RdS _ _ _ _ _ _; rw [esK_length]; exact RdS.below HR4.out (bt HBW.out HBV.out)).at_ (i := k) (by rw [esK_length]; exact hlt)
                  have hg : (esK l l.length)[k]'(by rw [esK_length]; exact hlt) = pe := by
                    have := esK_getD l hlt
                    rw [List.getD_eq_getElem?_getD, List.getElem?_eq_getElem (by rw [esK_length]; exact hlt)] at this
                    rw [hpe]; exact this
                  rw [hg] at d0 d1
                  simp only [paF, paG] at d0 d1
                  have HPE : Hid (pe = eOf l k) := hpe
                  have hbb4 : b4 < wr.heap.size := by have := HBV.out.size; omega
                  clear hg hpe hb
                  obtain ⟨i0, hi, hz0, hz1, hz2⟩ := info_parts info_pass
                  obtain ⟨j0, hj, hy0, hy1, hy2⟩ := info_parts info_int
                  go_wp2_with (first
                    | (at_builtin; refine wpList_append_rd _ rfl (.tmp 77) (.tmp 82) _ rfl B1 42 i0 _ 2 24 Tryd.underlying24 hi hz0 hz1 hz2 rfl (by omega) u15 (inS (bz un) k).length (cl2 paF paG ((inS (bz un) k).map (eOf l))) (by rfl) (HO1.out.alloc _) (wr.heap.size + 1) (some ⟨wr.heap.size, 0, none⟩) 1 1 [.string pe.1, .int .i64 pe.2] (by rfl) (rd_bk (bkOf (by simp [at?_alloc]; try rfl)) rfl (by omega)) (by simp [Value.oneCell']) (by simp only [maxLen]; omega) (by omega) (by simp; omega) ?_; intro v1' W3 hown1 hg1 hat1; have o2 := (HO2.out.alloc _).kept hg1 (ne_own HNE.out); have hs3 : wr.heap.size + 1 ≤ W3.heap.size := (by have := hg1.size; simp at this; omega))
                    | (at_builtin; refine wpList_append_rd _ rfl (.tmp 84) (.tmp 86) _ rfl B1 3 j0 _ 1 8 Tryd.underlying25 hj hy0 hy1 hy2 rfl (by omega) u17 (inS (bz un) k).length ((inS (bz un) k).map inI) (by rfl) (o2.alloc _) (W3.heap.size + 1) (some ⟨W3.heap.size, 0, none⟩) 1 1 [.int .i64 (k : Int)] (by rfl) (rd_bk (bkOf (by simp [at?_alloc]; try rfl)) rfl (by omega)) (by simp [Value.oneCell']) (by simp only [maxLen]; omega) (by omega) (by simp; omega) ?_; intro v2' W4 hown2 hg2 hat2))
                  have HN12 : ∀ g, v1'.ownBlock = some g → (u17).ownBlock ≠ some g := fun g hg e => by
                    rcases hat1 with h | h
                    · exact HNE.out g (h ▸ hg) e
                    · have := (HO2.out.lt g e).2
                      rw [h] at hg
                      injection hg with hg
                      simp at hg; omega
                  have HN : ∀ g, v1'.ownBlock = some g → v2'.ownBlock ≠ some g := fun g hg => by
                    intro e
                    rcases hat2 with h | h
                    · exact HN12 g hg (h ▸ e)
                    · have := (hown1.lt g hg).2
                      rw [h] at e
                      injection e with e
                      simp at e; omega
                  have w1 := (hown1.alloc (.cells #[.int .i64 (k : Int)] 3)).kept hg2 (ne_own (u := u17) (v := v1') fun g hg e => HN12 g e hg)
                  have hsz2 := hg2.size
                  have hlw1 := fun g h => HO1.out.lt g h
                  have hlw2 := fun g h => HO2.out.lt g h
                  have hb3 : Below V1.heap.size V1 W3 := (HBW.out.alloc hsz (.cells #[.string pe.1, .int .i64 pe.2] 42)).grown hg1 (by simp; omega) (fun g hg => by have := (hlw1 g hg).1; omega)
                  have hb4 : Below V1.heap.size V1 W4 := (hb3.alloc (by omega) (.cells #[.int .i64 (k : Int)] 3)).grown hg2 (by simp; omega) (fun g hg => by have := (hlw2 g hg).1; omega)
                  have hB4 : B1 ≤ W4.heap.size := by simp at hsz2; omega
                  clear hlw1 hlw2 HN12 hown1 hg1 hg2 hat1 hat2 o2 hs3 hsz2 hb3
                  have HF : Hid (W4.ownsRow B1 42 2 v1' (inS (bz un) (k + 1)).length (cl2 paF paG ((inS (bz un) (k + 1)).map (eOf l))) ∧ W4.ownsRow B1 3 1 v2' (inS (bz un) (k + 1)).length ((inS (bz un) (k + 1)).map inI) ∧ (∀ g, (v1').ownBlock = some g → (v2').ownBlock ≠ some g) ∧ B1 ≤ W4.heap.size ∧ Below V1.heap.size V1 W4) := by
                    show _ ∧ _
                    rw [HIN.out, List.length_append, List.map_append, List.map_append, cl2_append]
                    exact ⟨by have := w1; rwa [HPE.out] at this, hown2, HN, hB4, hb4⟩
                  clear w1 HN hown2 hb4 hB4
                  go_roundw
                  case rel => exact ⟨k + 1, by go_num, by omega, HF.out⟩
                  case measure => simp [intOf]; omega
                · have hb' : (bits BinOp.and IntKind.u8 (un / 2 ^ k) 1 == 0) = false := by simpa [bz] using hb
                  have HIN : Hid (inS (bz un) (k + 1) = inS (bz un) k) := by show _ = _; rw [inS_succ, if_neg hb, List.append_nil]
                  clear hb
                  have HF : Hid (wr.ownsRow B1 42 2 u15 (inS (bz un) (k + 1)).length (cl2 paF paG ((inS (bz un) (k + 1)).map (eOf l))) ∧ wr.ownsRow B1 3 1 u17 (inS (bz un) (k + 1)).length ((inS (bz un) (k + 1)).map inI) ∧ (∀ g, (u15).ownBlock = some g → (u17).ownBlock ≠ some g) ∧ B1 ≤ wr.heap.size ∧ Below V1.heap.size V1 wr) := by
                    show _ ∧ _
                    rw [HIN.out]
                    exact ⟨HO1.out, HO2.out, HNE.out, hBw, HBW.out⟩
                  go_wp2
                  go_roundw
                  case rel => exact ⟨k + 1, by go_num, by omega, HF.out⟩
                  case measure => simp [intOf]; omega
              · obtain rfl : k = l.length := by omega
                obtain ⟨A15, c15, rfl, _, r1⟩ := own_read HO1.out
                obtain ⟨A17, c17, rfl, _, r2⟩ := own_read HO2.out
                have HRA15 := Lib.hid r1
                have HRA17 := Lib.hid r2
                clear r1 r2 HO1 HO2 HNE hlt hk hBw hsz
                have kk : ¬ ((l.length : Int) < (l.length : Int)) := by omega
                replace HBV : Hid (Below W2.heap.size W2 wr) := bt HBW.out HBV.out
                clear HBW HB1S hB11
                obtain ⟨V2, hZ⟩ : ∃ Zz, Zz = wr := ⟨_, rfl⟩
                rw [← hZ] at HRA15 HRA17 HBV ⊢
                clear hZ
                obtain ⟨B2, hB⟩ : ∃ B, B = V2.heap.size := ⟨_, rfl⟩
                have HB2S := Lib.hid hB
                have hB21 : V2.heap.size ≤ B2 := Nat.le_of_eq hB.symm
                clear hB
                go_wp2_with fail
                go_loopw [16, 18, 91] (fun v1 v2 i wr => ∃ k : Nat, i = .int .i64 (k : Int) ∧ k ≤ l.length ∧ wr.ownsRow B2 42 2 v1 (((cI l l.length).take k).filter (bz ins)).length (cl2 paF paG ((((cI l l.length).take k).filter (bz ins)).map (xOf l))) ∧ wr.ownsRow B2 3 1 v2 (((cI l l.length).take k).filter (bz ins)).length ((((cI l l.length).take k).filter (bz ins)).map inI) ∧ (∀ g, (v1).ownBlock = some g → (v2).ownBlock ≠ some g) ∧ B2 ≤ wr.heap.size ∧ Below V2.heap.size V2 wr) (fun _ _ i _ => l.length - (intOf i).toNat)
                case atStart => exact ⟨0, rfl, Nat.zero_le _, ⟨rfl, .inl ⟨rfl, rfl⟩⟩, ⟨rfl, .inl ⟨rfl, rfl⟩⟩, fun g h => (by cases h), Nat.le_of_eq HB2S.out, Below.refl _ _⟩
                case round =>
                  obtain ⟨k, rfl, hk, o1, o2, hne, hBw, hbw⟩ := hrel
                  have HO1 := Lib.hid o1
                  have HO2 := Lib.hid o2
                  have HNE := Lib.hid hne
                  have HBW := Lib.hid hbw
                  have hsz := hbw.size
                  clear o1 o2 hne hbw
                  by_cases hlt : k < l.length
                  · have k1 : (0 : Int) ≤ (k : Int) := by omega
                    have k2 : (k : Int) < (l.length : Int) := by omega
                    have hln : (((cI l l.length).take k).filter (bz ins)).length ≤ k := Nat.le_trans (List.length_filter_le _ _) (by simp; omega)
                    have hck : k < (cI l l.length).length := by rw [cI_length]; exact hlt
                    obtain ⟨q, hq⟩ : ∃ q, q = (cI l l.length)[k] := ⟨_, rfl⟩
                    have hqn : q < l.length := by rw [hq, ← cI_mem l l.length]; exact List.getElem_mem _
                    have hTK : (cI l l.length).take (k + 1) = (cI l l.length).take k ++ [q] := by rw [List.take_succ_eq_append_getElem hck, hq]
                    have hEE : ((cI l l.length).map inI)[k]? = some (.int .i64 (q : Int)) := by rw [List.getElem?_map, List.getElem?_eq_getElem hck, hq]; rfl
                    obtain ⟨b6, o6, rfl, hb6, hc6⟩ := (RdS.below HR6.out (bt HBW.out HBV.out)).2 (by omega)
                    have d6 := hc6 k _ hEE
                    have hbb6 : b6 < wr.heap.size := by have := HBV.out.size; omega
                    obtain ⟨pe, hpe⟩ : ∃ pe, pe = xOf l q := ⟨_, rfl⟩
                    have hg : (xsK l l.length)[k]'(by rw [xsK_length]; exact hlt) = pe := by
                      have := xsK_getD l hlt
                      rw [List.getD_eq_getElem?_getD, List.getElem?_eq_getElem (by rw [xsK_length]; exact hlt)] at this
                      rw [hpe, hq]; exact this
                    have HPE : Hid (pe = xOf l q) := hpe
                    have q1 : (0 : Int) ≤ (q : Int) := by omega
                    have q2 : (q : Int) < (l.length : Int) := by omega
                    have q3 : q < 8 := by omega
                    clear hEE hc6 hpe hq
                    by_cases hb : bz ins q = true
                    · have hb' : (bits BinOp.and IntKind.u8 (ins / 2 ^ q) 1 == 0) = true := hb
                      have HIN : Hid (((cI l l.length).take (k + 1)).filter (bz ins) = ((cI l l.length).take k).filter (bz ins) ++ [q]) := by show _ = _; rw [hTK, List.filter_append]; simp [hb]
                      obtain ⟨b5, o5, rfl, hb5, d0, d1⟩ := (show RdP wr _ A5 (xsK l l.length) by show RdS _ _ _ _ _ _; rw [xsK_length]; exact RdS.below HR5.out (bt HBW.out HBV.out)).at_ (i := k) (by rw [xsK_length]; exact hlt)
                      rw [hg] at d0 d1
                      simp only [paF, paG] at d0 d1
                      have hbb5 : b5 < wr.heap.size := by have := HBV.out.size; omega
                      clear hg hb hTK
                      obtain ⟨i0, hi, hz0, hz1, hz2⟩ := info_parts info_pass
                      obtain ⟨j0, hj, hy0, hy1, hy2⟩ := info_parts info_int
                      go_wp2_with (first
                        | (at_builtin; refine wpList_append_rd _ rfl (.tmp 101) (.tmp 106) _ rfl B2 42 i0 _ 2 24 Tryd.underlying24 hi hz0 hz1 hz2 rfl (by omega) u16 (((cI l l.length).take k).filter (bz ins)).length (cl2 paF paG ((((cI l l.length).take k).filter (bz ins)).map (xOf l))) (by rfl) (HO1.out.alloc _) (wr.heap.size + 1) (some ⟨wr.heap.size, 0, none⟩) 1 1 [.string pe.1, .int .i64 pe.2] (by rfl) (rd_bk (bkOf (by simp [at?_alloc]; try rfl)) rfl (by omega)) (by simp [Value.oneCell']) (by simp only [maxLen]; omega) (by omega) (by simp; omega) ?_; intro v1' W3 hown1 hg1 hat1; have o2 := (HO2.out.alloc _).kept hg1 (ne_own HNE.out); have hs3 : wr.heap.size + 1 ≤ W3.heap.size := (by have := hg1.size; simp at this; omega))
                        | (at_builtin; refine wpList_append_rd _ rfl (.tmp 108) (.tmp 110) _ rfl B2 3 j0 _ 1 8 Tryd.underlying25 hj hy0 hy1 hy2 rfl (by omega) u18 (((cI l l.length).take k).filter (bz ins)).length ((((cI l l.length).take k).filter (bz ins)).map inI) (by rfl) (o2.alloc _) (W3.heap.size + 1) (some ⟨W3.heap.size, 0, none⟩) 1 1 [.int .i64 (q : Int)] (by rfl) (rd_bk (bkOf (by simp [at?_alloc]; try rfl)) rfl (by omega)) (by simp [Value.oneCell']) (by simp only [maxLen]; omega) (by omega) (by simp; omega) ?_; intro v2' W4 hown2 hg2 hat2))
                      have HN12 : ∀ g, v1'.ownBlock = some g → (u18).ownBlock ≠ some g := fun g hg e => by
                        rcases hat1 with h | h
                        · exact HNE.out g (h ▸ hg) e
                        · have := (HO2.out.lt g e).2
                          rw [h] at hg
                          injection hg with hg
                          simp at hg; omega
                      have HN : ∀ g, v1'.ownBlock = some g → v2'.ownBlock ≠ some g := fun g hg => by
                        intro e
                        rcases hat2 with h | h
                        · exact HN12 g hg (h ▸ e)
                        · have := (hown1.lt g hg).2
                          rw [h] at e
                          injection e with e
                          simp at e; omega
                      have w1 := (hown1.alloc (.cells #[.int .i64 (q : Int)] 3)).kept hg2 (ne_own (u := u18) (v := v1') fun g hg e => HN12 g e hg)
                      have hsz2 := hg2.size
                      have hlw1 := fun g h => HO1.out.lt g h
                      have hlw2 := fun g h => HO2.out.lt g h
                      have hb3 : Below V2.heap.size V2 W3 := (HBW.out.alloc hsz (.cells #[.string pe.1, .int .i64 pe.2] 42)).grown hg1 (by simp; omega) (fun g hg => by have := (hlw1 g hg).1; omega)
                      have hb4 : Below V2.heap.size V2 W4 := (hb3.alloc (by omega) (.cells #[.int .i64 (q : Int)] 3)).grown hg2 (by simp; omega) (fun g hg => by have := (hlw2 g hg).1; omega)
                      have hB4 : B2 ≤ W4.heap.size := by simp at hsz2; omega
                      clear hlw1 hlw2 HN12 hown1 hg1 hg2 hat1 hat2 o2 hs3 hsz2 hb3
                      have HF : Hid (W4.ownsRow B2 42 2 v1' (((cI l l.length).take (k + 1)).filter (bz ins)).length (cl2 paF paG ((((cI l l.length).take (k + 1)).filter (bz ins)).map (xOf l))) ∧ W4.ownsRow B2 3 1 v2' (((cI l l.length).take (k + 1)).filter (bz ins)).length ((((cI l l.length).take (k + 1)).filter (bz ins)).map inI) ∧ (∀ g, (v1').ownBlock = some g → (v2').ownBlock ≠ some g) ∧ B2 ≤ W4.heap.size ∧ Below V2.heap.size V2 W4) := by
                        show _ ∧ _
                        rw [HIN.out, List.length_append, List.map_append, List.map_append, cl2_append]
                        exact ⟨by have := w1; rwa [HPE.out] at this, hown2, HN, hB4, hb4⟩
                      clear w1 HN hown2 hb4 hB4
                      go_roundw
                      case rel => exact ⟨k + 1, by go_num, by omega, HF.out⟩
                      case measure => simp [intOf]; omega
                    · have hb' : (bits BinOp.and IntKind.u8 (ins / 2 ^ q) 1 == 0) = false := by simpa [bz] using hb
                      have HIN : Hid (((cI l l.length).take (k + 1)).filter (bz ins) = ((cI l l.length).take k).filter (bz ins)) := by show _ = _; rw [hTK, List.filter_append]; simp [hb]
                      clear hb hg hTK
                      have HF : Hid (wr.ownsRow B2 42 2 u16 (((cI l l.length).take (k + 1)).filter (bz ins)).length (cl2 paF paG ((((cI l l.length).take (k + 1)).filter (bz ins)).map (xOf l))) ∧ wr.ownsRow B2 3 1 u18 (((cI l l.length).take (k + 1)).filter (bz ins)).length ((((cI l l.length).take (k + 1)).filter (bz ins)).map inI) ∧ (∀ g, (u16).ownBlock = some g → (u18).ownBlock ≠ some g) ∧ B2 ≤ wr.heap.size ∧ Below V2.heap.size V2 wr) := by
                        show _ ∧ _
                        rw [HIN.out]
                        exact ⟨HO1.out, HO2.out, HNE.out, hBw, HBW.out⟩
                      go_wp2
                      go_roundw
                      case rel => exact ⟨k + 1, by go_num, by omega, HF.out⟩
                      case measure => simp [intOf]; omega
                  · obtain rfl : k = l.length := by omega
                    obtain ⟨A16, c16, rfl, _, r1⟩ := own_read HO1.out
                    obtain ⟨A18, c18, rfl, _, r2⟩ := own_read HO2.out
                    have HRA16 := Lib.hid r1
                    have HRA18 := Lib.hid r2
                    clear r1 r2 HO1 HO2 HNE hlt hk hBw hsz
                    have kk : ¬ ((l.length : Int) < (l.length : Int)) := by omega
                    have ht : (cI l l.length).take l.length = cI l l.length := List.take_of_length_le (by rw [cI_length]; exact Nat.le_refl _)
                    rw [ht] at HRA16 HRA18 ⊢
                    change Hid (RdS wr wr.heap.size 2 A16 (outS l (bz ins) l.length).length (cl2 paF paG ((outS l (bz ins) l.length).map (xOf l)))) at HRA16
                    change Hid (RdS wr wr.heap.size 1 A18 (outS l (bz ins) l.length).length ((outS l (bz ins) l.length).map inI)) at HRA18
                    replace HRA15 := Lib.hid (HRA15.out.next HBW.out)
                    replace HRA17 := Lib.hid (HRA17.out.next HBW.out)
                    replace HBV : Hid (Below W2.heap.size W2 wr) := bt HBW.out HBV.out
                    clear ht HBW HB2S hB21
                    obtain ⟨V3, hZ⟩ : ∃ Zz, Zz = wr := ⟨_, rfl⟩
                    rw [← hZ] at HRA15 HRA16 HRA17 HRA18 HBV ⊢
                    clear hZ
                    go_wp2_with fail
                    go_loopw [19, 23, 115] (fun v19 v23 i wr => ∃ k : Nat, i = .int .i64 (k : Int) ∧ k ≤ l.length ∧ v19 = .int .i64 (wantS l (bz un) (bz ins) k) ∧ v23 = .int .i64 (bothS (bz un) (bz ins) k : Int) ∧ (∀ i, i < k → dsV (l.getD i car0).p (l.getD i car0).r ≤ 1) ∧ Below V3.heap.size V3 wr) (fun _ _ i _ => l.length - (intOf i).toNat)
                    case atStart => exact ⟨0, rfl, Nat.zero_le _, rfl, rfl, fun i h => absurd h (Nat.not_lt_zero _), Below.refl _ _⟩
                    case round =>
                      obtain ⟨k, rfl, hk, rfl, rfl, hle, hbw⟩ := hrel
                      have HLE := Lib.hid hle
                      have HBW := Lib.hid hbw
                      have hsz := hbw.size
                      clear hle hbw
                      by_cases hlt : k < l.length
                      · obtain ⟨x, hx⟩ : ∃ x, x = l[k] := ⟨_, rfl⟩
                        obtain ⟨b, o, rfl, hbb, c0, c1, c2, c3⟩ := (RdC.below HL.out (bt HBW.out (bt HBV.out HB2.out))).at_ hlt
                        rw [← hx] at c0 c1 c2 c3
                        have hxg : l.getD k car0 = x := by rw [hx, List.getD_eq_getElem?_getD, List.getElem?_eq_getElem hlt]; rfl
                        have hS := HS.out x (by rw [hx]; exact List.getElem_mem _)
                        obtain ⟨hp1, hr1⟩ := hS
                        obtain ⟨xa, hxa⟩ : ∃ xa : Int, xa = (x.wt.toNat : Int) := ⟨_, rfl⟩
                        obtain ⟨xb, hxb⟩ : ∃ xb : Int, xb = (x.st.toNat : Int) := ⟨_, rfl⟩
                        rw [← hxa] at c2
                        rw [← hxb] at c3
                        obtain ⟨D, hD⟩ : ∃ D, D = dsV x.p x.r := ⟨_, rfl⟩
                        have hD0 : 0 ≤ D := by rw [hD]; exact (dsV_bd _ _).1
                        have hE : dsE x.p x.r = 0 := by
                          have := HOK.out k hlt
                          rw [hxg] at this
                          rw [dsE, if_pos this]
                        have hmb := wantS_bd (bz un) (bz ins) k HLE.out
                        have hbo := bothS_le (bz un) (bz ins) k
                        obtain ⟨m0, hm0⟩ : ∃ m0 : Int, m0 = wantS l (bz un) (bz ins) k := ⟨_, rfl⟩
                        obtain ⟨m1, hm1⟩ : ∃ m1 : Nat, m1 = bothS (bz un) (bz ins) k := ⟨_, rfl⟩
                        rw [← hm0] at hmb ⊢
                        rw [← hm1] at hbo ⊢
                        have hm2 := hmb.1
                        have hm3 := hmb.2
                        have HD := Lib.hid hD
                        have HE := Lib.hid hE
                        have HXG := Lib.hid hxg
                        have HM : Hid (wantS l (bz un) (bz ins) (k + 1) = m0 + if (bz un) k && (bz ins) k then D else if (bz un) k || (bz ins) k then 5 else 0) := by show _ = _; rw [wantS, hm0, hxg, hD]
                        have HM1 : Hid (bothS (bz un) (bz ins) (k + 1) = m1 + if (bz un) k && (bz ins) k then 1 else 0) := by show _ = _; rw [bothS, hm1]
                        have hbb2 : b < wr.heap.size := by have h1 := HB2.out.size; have h2 := HBV.out.size; omega
                        have k1 : (0 : Int) ≤ (k : Int) := by omega
                        have k2 : (k : Int) < (l.length : Int) := by omega
                        have k3 : k < 8 := by omega
                        clear hx hxg hD hE hm0 hmb hxa hxb hm1
                        have hb4 : Below V3.heap.size V3 (wr.alloc (.cells #[.string x.p, .string x.r, .int .u8 xa, .int .u8 xb] 30)) := HBW.out.alloc hsz _
                        go_wp2_with fail
                        refine (Distance_lit D 0 x.p x.r _ hp1 hr1 (HC2.out.next (bt hb4 HBV.out)) HD.out.symm HE.out).mono ?_
                        rintro e W5 ⟨rfl, hb5⟩
                        have HF0 : Hid (Below V3.heap.size V3 W5) := bt hb5 hb4
                        have HBL : Hid (Below w.heap.size w W5) := bt (bt HF0.out HBV.out) HB2.out
                        clear hb4 hb5 c0 c1 c2 c3 hbb hbb2
                        by_cases hD1 : 1 < D
                        · go_wp2
                          go_ret
                          exact ⟨rfl, HBL.out⟩
                        · have HLE1 : Hid (∀ i, i < k + 1 → dsV (l.getD i car0).p (l.getD i car0).r ≤ 1) := fun i hi => by
                            rcases Nat.lt_or_ge i k with h9 | h9
                            · exact HLE.out i h9
                            · obtain rfl : i = k := by omega
                              rw [HXG.out, ← HD.out]; omega
                          cases ha : bz un k
                          · cases hb : bz ins k
                            · have ha' : (bits BinOp.and IntKind.u8 (un / 2 ^ k) 1 == 0) = false := ha
                              have hb' : (bits BinOp.and IntKind.u8 (ins / 2 ^ k) 1 == 0) = false := hb
                              have HN : Hid (wantS l (bz un) (bz ins) (k + 1) = m0 + 0) := by show _ = _; rw [HM.out, ha, hb]; rfl
                              have HN1 : Hid (bothS (bz un) (bz ins) (k + 1) = m1 + 0) := by show _ = _; rw [HM1.out, ha, hb]; rfl
                              clear ha hb
                              go_wp2_with fail
                              go_quiet (fail)
                              go_wp2
                              go_roundw
                              case rel => exact ⟨k + 1, by go_num, by omega, by rw [HN.out]; simp, by rw [HN1.out]; first | rfl | go_num | simp, HLE1.out, by first | exact HF0.out | exact belowDrew HF0.out _ | exact HF0.out.drew⟩
                              case measure => simp [intOf]; omega
                            · have ha' : (bits BinOp.and IntKind.u8 (un / 2 ^ k) 1 == 0) = false := ha
                              have hb' : (bits BinOp.and IntKind.u8 (ins / 2 ^ k) 1 == 0) = true := hb
                              have HN : Hid (wantS l (bz un) (bz ins) (k + 1) = m0 + 5) := by show _ = _; rw [HM.out, ha, hb]; rfl
                              have HN1 : Hid (bothS (bz un) (bz ins) (k + 1) = m1 + 0) := by show _ = _; rw [HM1.out, ha, hb]; rfl
                              clear ha hb
                              go_wp2_with fail
                              go_quiet (fail)
                              go_wp2
                              go_roundw
                              case rel => exact ⟨k + 1, by go_num, by omega, by rw [HN.out], by rw [HN1.out]; first | rfl | go_num | simp, HLE1.out, by first | exact HF0.out | exact belowDrew HF0.out _ | exact HF0.out.drew⟩
                              case measure => simp [intOf]; omega
                          · cases hb : bz ins k
                            · have ha' : (bits BinOp.and IntKind.u8 (un / 2 ^ k) 1 == 0) = true := ha
                              have hb' : (bits BinOp.and IntKind.u8 (ins / 2 ^ k) 1 == 0) = false := hb
                              have HN : Hid (wantS l (bz un) (bz ins) (k + 1) = m0 + 5) := by show _ = _; rw [HM.out, ha, hb]; rfl
                              have HN1 : Hid (bothS (bz un) (bz ins) (k + 1) = m1 + 0) := by show _ = _; rw [HM1.out, ha, hb]; rfl
                              clear ha hb
                              go_wp2_with fail
                              go_quiet (fail)
                              go_wp2
                              go_roundw
                              case rel => exact ⟨k + 1, by go_num, by omega, by rw [HN.out], by rw [HN1.out]; first | rfl | go_num | simp, HLE1.out, by first | exact HF0.out | exact belowDrew HF0.out _ | exact HF0.out.drew⟩
                              case measure => simp [intOf]; omega
                            · have ha' : (bits BinOp.and IntKind.u8 (un / 2 ^ k) 1 == 0) = true := ha
                              have hb' : (bits BinOp.and IntKind.u8 (ins / 2 ^ k) 1 == 0) = true := hb
                              have HN : Hid (wantS l (bz un) (bz ins) (k + 1) = m0 + D) := by show _ = _; rw [HM.out, ha, hb]; rfl
                              have HN1 : Hid (bothS (bz un) (bz ins) (k + 1) = m1 + 1) := by show _ = _; rw [HM1.out, ha, hb]; rfl
                              clear ha hb
                              go_wp2_with fail
                              go_quiet (fail)
                              go_wp2
                              go_roundw
                              case rel => exact ⟨k + 1, by go_num, by omega, by rw [HN.out], by rw [HN1.out]; first | rfl | go_num | simp, HLE1.out, by first | exact HF0.out | exact belowDrew HF0.out _ | exact HF0.out.drew⟩
                              case measure => simp [intOf]; omega
                      · obtain rfl : k = l.length := by omega
                        have kk : ¬ ((l.length : Int) < (l.length : Int)) := by omega
                        obtain ⟨m0, hm0⟩ : ∃ m0 : Int, m0 = wantS l (bz un) (bz ins) l.length := ⟨_, rfl⟩
                        obtain ⟨m1, hm1⟩ : ∃ m1 : Nat, m1 = bothS (bz un) (bz ins) l.length := ⟨_, rfl⟩
                        rw [← hm0, ← hm1]
                        have hm8 : m1 ≤ l.length := by rw [hm1]; exact bothS_le (bz un) (bz ins) _
                        have HM0 := Lib.hid hm0
                        have HM1 := Lib.hid hm1
                        clear hm0 hm1
                        go_wp2_with fail
                        refine (Match_str l (bz un) (bz ins) HOK.out (by omega) HLE.out HAP.out A15 A16 c15 c16 _ (HRA15.out.next HBW.out) (HRA16.out.next HBW.out) (HC2.out.next (bt HBW.out HBV.out))).mono ?_
                        rintro e W6 ⟨A, c, q, rfl, hql, hr, hqa, hb6⟩
                        rw [← HM0.out, ← HM1.out]
                        rw [← HM1.out] at hql
                        have HB6 : Hid (Below V3.heap.size V3 W6) := bt hb6 HBW.out
                        have HBL6 : Hid (Below w.heap.size w W6) := bt (bt HB6.out HBV.out) HB2.out
                        have HQ := Lib.hid hr
                        have HQL := Lib.hid hql
                        have HQA := Lib.hid hqa
                        have hsz6 := HB6.out.size
                        clear hr hqa hb6 hql
                        go_wp2_with fail
                        go_loopw [183] (fun i wq => ∃ k : Nat, i = .int .i64 (k : Int) ∧ k ≤ m1 ∧ Below W6.heap.size W6 wq) (fun i _ => m1 - (intOf i).toNat)
                        case atStart => exact ⟨0, rfl, Nat.zero_le _, Below.refl _ _⟩
                        case round =>
                          obtain ⟨k, rfl, hk, hbq⟩ := hrel
                          have HBQ := Lib.hid hbq
                          have hszq := hbq.size
                          clear hbq
                          by_cases hlt : k < m1
                          · have hlg : k < q.length := by rw [HQL.out]; exact hlt
                            obtain ⟨b, o, rfl, hbb, c0, c1⟩ := (Rd2.below HQ.out HBQ.out).at_ hlg
                            obtain ⟨p, hp⟩ : ∃ p, p = q[k] := ⟨_, rfl⟩
                            obtain ⟨p1, p2, p3⟩ := HQA.out p (by rw [hp]; exact List.getElem_mem _)
                            rw [← hp] at c0 c1
                            simp only [prF, prG] at c0 c1
                            obtain ⟨E, hE⟩ : ∃ E, E = p.1 := ⟨_, rfl⟩
                            obtain ⟨X, hX⟩ : ∃ X, X = p.2 := ⟨_, rfl⟩
                            obtain ⟨g, hg⟩ : ∃ g, g = (inS (bz un) l.length)[p.1] := ⟨_, rfl⟩
                            have e1 : ((inS (bz un) l.length).map inI)[E]? = some (.int .i64 (g : Int)) := by rw [hE, List.getElem?_map, List.getElem?_eq_getElem p1, hg]; rfl
                            have e2 : ((outS l (bz ins) l.length).map inI)[X]? = some (.int .i64 (g : Int)) := by rw [hX, List.getElem?_map, List.getElem?_eq_getElem p2, ← p3, hg]; rfl
                            rw [← hE] at c0 p1
                            rw [← hX] at c1 p2
                            obtain ⟨b7, o7, rfl, hb7, hc7⟩ := (RdS.below HRA17.out (HB6.out.trans (HBQ.out.mono hsz6))).2 (by omega)
                            obtain ⟨b8, o8, rfl, hb8, hc8⟩ := (RdS.below HRA18.out (HB6.out.trans (HBQ.out.mono hsz6))).2 (by omega)
                            have c2 := hc7 E _ e1
                            have c3 := hc8 X _ e2
                            have k1 : (0 : Int) ≤ (k : Int) := by omega
                            have k2 : (k : Int) < (m1 : Int) := by omega
                            have k3 : (0 : Int) ≤ (E : Int) := by omega
                            have k4 : (E : Int) < ((inS (bz un) l.length).length : Int) := by omega
                            have k5 : (0 : Int) ≤ (X : Int) := by omega
                            have k6 : (X : Int) < ((List.filter (bz ins) (cI l l.length)).length : Int) := by show (X : Int) < ((outS l (bz ins) l.length).length : Int); omega
                            have hbb1 : b < wr.heap.size := by omega
                            have hbb2 : b7 < wr.heap.size := by omega
                            have hbb3 : b8 < wr.heap.size := by omega
                            have HF2 : Hid (∀ o, Below W6.heap.size W6 (wr.alloc o)) := fun o => HBQ.out.alloc hszq o
                            clear hlg hp hE hX hg e1 e2 hc7 hc8 p3
                            go_wp2_with fail
                            have f1 : ¬ (E : Int) < 0 := by omega
                            have f2 : ¬ ((inS (bz un) l.length).length : Int) ≤ (E : Int) := by omega
                            have f3 : ¬ (X : Int) < 0 := by omega
                            have f4 : ¬ ((List.filter (bz ins) (cI l l.length)).length : Int) ≤ (X : Int) := by omega
                            go_quiet (fail)
                            go_wp2
                            go_roundw
                            case rel => exact ⟨k + 1, by go_num, by omega, by first | exact HF2.out _ | exact belowDrew (HF2.out _) _ | exact (HF2.out _).drew⟩
                            case measure => simp [intOf]; omega
                          · have k2 : ¬ (k : Int) < (m1 : Int) := by omega
                            go_wp2
                            go_ret
                            exact ⟨rfl, HBL6.out.trans (HBQ.out.mono HBL6.out.size)⟩
          · have hap' : apB (l.map Car.p) 12 = false := by simpa using hap
            rw [hap']
            clear hap hap'
            go_wp2
            go_ret
            exact ⟨rfl, bt HB5.out HB2.out⟩
  · have HB2 : Hid (Below w.heap.size w W2) := bt hb2 hb1
    clear hb1 hb2
    go_wp2
    go_ret
    exact ⟨rfl, HB2.out⟩
end Go.Proofs.YthmipmdpdfdlaaaDoor
