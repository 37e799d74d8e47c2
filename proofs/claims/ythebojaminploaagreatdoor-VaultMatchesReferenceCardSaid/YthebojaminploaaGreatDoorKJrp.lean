/- The reference's Program and Erase once more: the bytes that they make are new. -/
import Derived.Test.YthebojaminploaaGreatDoorKJX2
import Derived.Test.YthebojaminploaaGreatDoorKJe
set_option maxRecDepth 100000
set_option linter.unusedVariables false
set_option linter.unusedSimpArgs false
namespace Go.Proofs.YthebojaminploaaGreatDoor
open Go.RowKit

/-- all but the first have bytes that are new -/
def Nw (B : Nat) (its : List Elt) : Prop := ∀ i x, its[i]? = some x → 0 < i → ∀ b o, x.1 = some ⟨b, o, none⟩ → B ≤ b
theorem Nw.one (B : Nat) (x : Elt) : Nw B [x] := fun i y h h0 => by
  match i, h, h0 with
  | i + 1, h, _ => simp at h
theorem Nw.snoc {B : Nat} {its : List Elt} {x : Elt} (h : Nw B its) (hx : ∀ b o, x.1 = some ⟨b, o, none⟩ → B ≤ b) : Nw B (its ++ [x]) := fun i y hy h0 b o e => by
  rcases Nat.lt_or_ge i its.length with h9 | h9
  · rw [List.getElem?_append_left h9] at hy
    exact h i y hy h0 b o e
  · rw [List.getElem?_append_right h9] at hy
    have h8 : i - its.length = 0 := by
      rcases Nat.eq_zero_or_pos (i - its.length) with h7 | h7
      · exact h7
      · rw [List.getElem?_eq_none (by simp; omega)] at hy; cases hy
    rw [h8] at hy
    obtain rfl : x = y := by simpa using hy
    exact hx b o e
theorem Lst.mono {s : Int} {base base' : Nat} {its : List Elt} {v : Value} {W : World} (h : Lst s base its v W) (hb : base' ≤ base) : Lst s base' its v W := ⟨own_mono h.1 hb, h.2.1, h.2.2⟩
def NwPost (s : Int) (w : World) (ms : List Mem) (er : Int) (e : Ending) (w' : World) : Prop :=
  ListPost w ms er e w' ∧ (er = 0 → ∃ v its, e = .returned (.tuple #[v, .int .i64 0]) ∧ Lst s w.heap.size its v w' ∧ its.map (fun x => (s, x.2.2)) = ms ∧ Nw w.heap.size its)
set_option maxHeartbeats 4000000 in
theorem rProgram_new (m : Mem) (p : Int) (ds : List UInt8) (A Ad : Option Addr) (c cd : Nat) (w : World) (hA : RdB w w.heap.size A m.2) (hAd : RdB w w.heap.size Ad ds) (hcap : m.2.length ≤ c) (hn : m.2.length ≤ 1000000000) (hd : ds.length ≤ 1000000000) (hp0 : -9223372036854775808 ≤ p) (hp1 : p ≤ 9223372036854775807) :
    Calls Tryz.prog 76 #[.agg #[.int .i64 m.1, .slice A m.2.length c], .int .i64 p, .slice Ad ds.length cd] w (NwPost m.1 w (progL m p ds) (progE m p ds)) := by
  obtain ⟨tI, hi, hz0, hz1, hz2⟩ := info_parts info_flash
  obtain ⟨s, bs⟩ := m
  dsimp only at *
  have HA := Lib.hid hA
  have HD := Lib.hid hAd
  clear hA hAd
  have hB0 : Below w.heap.size w (w.alloc (.cells #[.int .i64 s, .slice A bs.length c] 24)) := (Below.refl _ w).alloc (Nat.le_refl _) _
  have k1 : Bk (w.alloc (.cells #[.int .i64 s, .slice A bs.length c] 24)) w.heap.size 24 #[.int .i64 s, .slice A bs.length c] := Bk.new _ _ _
  by_cases hv : validB s bs.length = true
  · have hv' := (valid_iff _ _).1 hv
    obtain ⟨v1, v2, v3, v4, v5⟩ := hv'
    by_cases h0 : 0 ≤ p
    · by_cases h1 : p ≤ (bs.length : Int) - (ds.length : Int)
      · obtain ⟨e1, e2⟩ := prog_in (m := (s, bs)) hv h0 h1
        rw [e1, e2]
        clear e1 e2 v5
        obtain ⟨q, rfl⟩ := Int.eq_ofNat_of_zero_le h0
        have h2 : (ds.length : Int) ≤ (bs.length : Int) - (q : Int) := by omega
        have z1 : decide (bs.length < q) = false := by simp; omega
        have z2 : decide ((q : Int) < 0) = false := by simp
        have z3 : decide ((bs.length : Int) - (q : Int) < (ds.length : Int)) = false := by simp; omega
        have qe : ((q : Int)).toNat = q := by omega
        rw [qe]
        clear qe
        go_enter Tryz.func76, Tryz.ntmps76
        go_wp2_with fail
        refine (rValid_any _ _ _ _ _).mono ?_
        rintro e W2 ⟨rfl, hb2⟩
        have k3 := k1.next hb2
        obtain ⟨c0, c1, _, _⟩ := boxFacts k3
        have hbb := bt hb2 hB0
        have RA := HA.out.next hbb
        clear k1 hb2 hB0 k3
        have hz := hbb.size
        go_wp2
        go_loopw [8, 9] (fun v i wr => ∃ (k : Nat) (its : List Elt), i = .int .i64 (k : Int) ∧ k ≤ ds.length ∧ its.length = k + 1 ∧ its.map (·.2.2) = memos (andF ds) bs q k ∧ Lst s w.heap.size its v wr ∧ Nw w.heap.size its ∧ Below w.heap.size w wr) (fun _ i _ => ds.length - (intOf i).toNat)
        case atStart =>
          refine ⟨0, [(A, c, bs)], rfl, Nat.zero_le _, rfl, rfl, ⟨?_, ?_, ?_⟩, Nw.one _ _, hbb.alloc hz _⟩
          · exact ⟨rfl, .inr ⟨W2.heap.size, 1, _, rfl, hz, Bk.new _ _ _, Nat.le_refl _, by simp [maxLen], rfl, rfl⟩⟩
          · intro x hx
            obtain rfl : x = (A, c, bs) := by simpa using hx
            exact ⟨RA.next ((Below.refl _ _).alloc (Nat.le_refl _) _), hcap⟩
          · intro x hx hlen b o e
            obtain rfl : x = (A, c, bs) := by simpa using hx
            obtain ⟨b', o', e', hb', _⟩ := HA.out.2 hlen
            rw [show A = some ⟨b, o, none⟩ from e] at e'
            injection e' with e'; injection e' with e'
            simp [Value.ownBlock]
            omega
        case round =>
          obtain ⟨k, its, rfl, hk, hil, him, hl, hnw, hb⟩ := hrel
          have HIM := Lib.hid him
          have HIL := Lib.hid hil
          have HNW := Lib.hid hnw
          clear hnw
          obtain ⟨g, cap, hvs⟩ := ownsRow_succ (by rw [← hil]; exact hl.1)
          rw [hvs] at hl ⊢
          have HL := Lib.hid hl
          by_cases hlt : k < ds.length
          · have hl' := hl
            rw [← hil] at hl'
            obtain ⟨A1, c1', r1, r2, r3, r4, r5⟩ := Lst.at_ hl' (k := k) (by omega)
            have hm : (its[k]'(by omega)).2.2 = memo (andF ds) bs q k := by
              have h5 := memos_get (andF ds) bs q k k (by omega)
              rw [← him] at h5
              simp only [List.getElem?_map, Option.map_eq_some_iff] at h5
              obtain ⟨y, hy, hy2⟩ := h5
              obtain ⟨hk', hy'⟩ := List.getElem?_eq_some_iff.1 hy
              rw [hy']; exact hy2
            rw [hm] at r2 r3 r4 r5
            have hml := memo_length (andF ds) bs q k
            obtain ⟨mb, hmb⟩ : ∃ mb, mb = memo (andF ds) bs q k := ⟨_, rfl⟩
            rw [← hmb] at r2 r3 r4 r5 hml
            have hqk : q + k < mb.length := by omega
            have n4 : mb.length ≤ 4096 := by omega
            have HML := Lib.hid hml
            have HMB := Lib.hid hmb
            clear hm hil him hl hl' hml hmb hvs
            have R5s := Lib.hid (r5 (by omega))
            clear r5
            go_wp2
            obtain ⟨W5, hW5⟩ : ∃ W5, wr.alloc (.cells #[.int .i64 s, .slice A1 mb.length c1'] 24) = W5 := ⟨_, rfl⟩
            rw [hW5]
            obtain ⟨nb, hnb⟩ : ∃ nb, nb = wr.heap.size := ⟨_, rfl⟩
            rw [← hnb]
            have h5 : Bk W5 nb 24 #[.int .i64 s, .slice A1 mb.length c1'] := by rw [← hW5, hnb]; exact Bk.new _ _ _
            have hb5 : Below wr.heap.size wr W5 := by rw [← hW5]; exact (Below.refl _ _).alloc (Nat.le_refl _) _
            have hbw5 : Below w.heap.size w W5 := bt hb5 hb
            have L5 := HL.out.next hb5
            have R5 := r4.next hb5
            obtain ⟨y0, y1, _, _⟩ := boxFacts h5
            obtain ⟨b2, o2, rfl, hb2', y2⟩ := R5.at_ hqk
            obtain ⟨b3, o3, rfl, hb3w, y3w⟩ := HD.out.at_ hlt
            have y3 := (hbw5.cell (p := ⟨b3, o3 + k, none⟩) hb3w).trans y3w
            have hb3' : b3 < W5.heap.size := by have := hbw5.size; omega
            clear y3w
            have hand := and_u8 mb[q + k] ds[k]
            have hmemo : memo (andF ds) bs q (k + 1) = mb.set (q + k) (mb[q + k] &&& ds[k]) := by
              simp only [memo]
              rw [← HMB.out, List.getD_eq_getElem?_getD, List.getElem?_eq_getElem hqk, Option.getD_some]
              simp [andF, hlt]
            have hwith := With_any s mb (some ⟨b2, o2, none⟩) c1' (q + k) (mb[q + k] &&& ds[k]) W5.drew R5 hqk (by omega)
            rw [Int.natCast_add] at hwith
            have HW := Lib.hid hwith
            have HMM := Lib.hid hmemo
            have HL5 := Lib.hid L5
            have hnl : nb < W5.heap.size := h5.lt
            have hgnb : g ≠ nb := by
              obtain ⟨_, _, h8, _, h9⟩ := HL.out.1.form (by have := HIL.out; omega)
              injection h8 with h8; injection h8 with h8; injection h8 with h8
              omega
            clear hW5 hnb h5 hb5 L5 R5 hwith hmemo r1 r2 r4 HL hbb RA
            have i1 : (0 : Int) ≤ (q : Int) + (k : Int) := by omega
            have i2 : (q : Int) + (k : Int) < (mb.length : Int) := by omega
            have i3 : ((q : Int) + (k : Int)).toNat = q + k := by omega
            have i0 : IntKind.i64.wrap ((q : Int) + (k : Int)) = (q : Int) + (k : Int) := IntWalk.i64_in _ (by omega)
            have hgl : g < W5.heap.size := by
              obtain ⟨_, _, h8, _, h9⟩ := HL5.out.1.form (by have := HIL.out; omega)
              injection h8 with h8; injection h8 with h8; injection h8 with h8
              omega
            have hg0 : w.heap.size ≤ g := own_ge HL5.out.1 g rfl
            have hszw := hbw5.size
            have hsb : b2 ≠ g := R5s.out b2 o2 rfl
            go_region_held3 (fun w' => w'.cell? ⟨nb, 0, none⟩ = some (.int .i64 s) ∧ w'.cell? ⟨nb, 1, none⟩ = some (.slice (some ⟨b2, o2, none⟩) mb.length c1') ∧ w'.cell? ⟨b2, o2 + (q + k), none⟩ = some (.int .u8 (mb[q + k].toNat : Int)) ∧ w'.cell? ⟨b3, o3 + k, none⟩ = some (.int .u8 (ds[k].toNat : Int)))
              (first
                | exact ⟨y0, y1, y2, y3⟩
                | exact keep4 y0 y1 y2 y3 (hb6.block nb hnl) (hb6.block b2 hb2') (hb6.block b3 hb3')
                | exact keep4 y0 y1 y2 y3 ((Below.heap_alloc W6 _ nb (by omega)).trans (hb6.block nb hnl)) ((Below.heap_alloc W6 _ b2 (by omega)).trans (hb6.block b2 hb2')) ((Below.heap_alloc W6 _ b3 (by omega)).trans (hb6.block b3 hb3'))
                | exact keep4 y0 y1 y2 y3 ((hgrow.block nb (by simp; omega) (by simp [Value.ownBlock]; omega)).trans ((Below.heap_alloc W6 _ nb (by omega)).trans (hb6.block nb hnl))) ((hgrow.block b2 (by simp; omega) (by simp [Value.ownBlock]; omega)).trans ((Below.heap_alloc W6 _ b2 (by omega)).trans (hb6.block b2 hb2'))) ((hgrow.block b3 (by simp; omega) (by simp [Value.ownBlock]; omega)).trans ((Below.heap_alloc W6 _ b3 (by omega)).trans (hb6.block b3 hb3')))
                | fail)
              (first
                | (go_at_call 79; refine HW.out.mono ?_; rintro e W6 ⟨g6, cap6, rfl, hcap6, hg6, R6, hb6⟩; have hb6 : Below W5.heap.size W5 W6 := ⟨hb6.os, hb6.tape, hb6.output, hb6.size, hb6.block⟩; have hsz6 := hb6.size; have hrow := (HL5.out.next hb6).1; rw [HIL.out] at hrow)
                | (refine step_append_lies _ (by rfl) _ _ _ (by rfl) w.heap.size 24 tI (.agg #[.int .i64 0, .slice none 0 0]) 2 32 Tryz.underlying28 hi hz0 hz1 hz2 rfl (by omega) (.slice (some ⟨g, 0, none⟩) (k + 1) cap) (k + 1) (cellsE s its) (by rfl) (hrow.alloc _) ⟨W6.heap.size, 0, none⟩ 1 1 [.int .i64 s, .slice (some ⟨g6, 0, none⟩) mb.length cap6] (by rfl) (by rfl) (news2 _ _ _ _) (by simp [Value.oneCell']) (by omega) (by simp only [maxLen]; omega) (by omega) (by simp; omega) _ rfl ?_; intro g' cap' w1 hown' hgrow hat hlt'))
            have HB6 := Lib.hid hb6
            have HL6 := Lib.hid (HL5.out.next hb6)
            have HX : Hid (EltOk W6 (some ⟨g6, 0, none⟩, cap6, mb.set (q + k) (mb[q + k] &&& ds[k]))) := ⟨R6, by simpa using hcap6⟩
            have HS6 : Hid (∀ b o, (some ⟨g6, 0, none⟩ : Option Addr) = some ⟨b, o, none⟩ → some b ≠ (Value.slice (some ⟨g, 0, none⟩) (k + 1) cap).ownBlock) := by
              intro b o e he
              injection e with e; injection e with e
              have h7 : b = g := by simpa [Value.ownBlock] using he
              have : W5.drew.heap.size = W5.heap.size := rfl
              omega
            have HG := Lib.hid hgrow
            have HO := Lib.hid hown'
            have HAT : Hid ((Value.slice (some ⟨g', 0, none⟩) (k + 1 + 1) cap').ownBlock = (Value.slice (some ⟨g, 0, none⟩) (k + 1) cap).ownBlock ∨ (Value.slice (some ⟨g', 0, none⟩) (k + 1 + 1) cap').ownBlock = some (W6.alloc (.cells #[.int .i64 s, .slice (some ⟨g6, 0, none⟩) mb.length cap6] 24)).heap.size) := by
              rcases hat with e | e
              · exact .inl e.symm
              · exact .inr (by rw [← e]; rfl)
            clear hgrow hown' hat R6 hb6 i0 i1 i2 i3 y0 y1 y2 y3 hrow
            go_wp2
            go_roundw
            case rel =>
              refine ⟨k + 1, its ++ [(some ⟨g6, 0, none⟩, cap6, mb.set (q + k) (mb[q + k] &&& ds[k]))], by go_num, by omega, by simp [HIL.out], ?_, ?_, HNW.out.snoc (fun b o e => by injection e with e; injection e with e; have h8 := hbw5.size; have h7 : W5.drew.heap.size = W5.heap.size := rfl; omega), ?_⟩
              · rw [List.map_append, HIM.out, memos_succ, HMM.out]; rfl
              · refine Lst.snoc HL6.out HX.out (fun _ => HS6.out) ?_ HG.out HAT.out
                rw [HIL.out]
                simpa using HO.out
              · exact ((bt HB6.out hbw5).alloc (by omega) _).grown HG.out (by simp; omega) (fun j hj => (by have : g = j := (by simpa [Value.ownBlock] using hj); omega))
            case measure => simp [intOf]; omega
          · obtain rfl : k = ds.length := by omega
            have HB := Lib.hid hb
            clear hil him hl
            go_wp2
            go_ret2
            refine ⟨⟨some ⟨g, 0, none⟩, cap, ?_, ?_, ?_, HB.out⟩, fun _ => ⟨_, its, rfl, by have := HL.out; exact this, by rw [← HIM.out, List.map_map]; rfl, HNW.out⟩⟩
            · simp [memos_length]
            · have := HL.out.1
              rw [HIL.out] at this
              rcases this.2 with ⟨h, _⟩ | ⟨_, _, _, h, _, _, hh, _⟩
              · cases h
              · injection h with _ _ h; simp [memos_length]; omega
            · have h9 := HL.out
              rw [← HIL.out] at h9
              have := Lst.reads h9
              rw [← HIM.out, List.map_map]
              exact this
      · obtain ⟨e1, e2⟩ := prog_far (m := (s, bs)) (ds := ds) hv h0 h1
        rw [e1, e2]
        clear e1 e2 v5
        by_cases hlt : (bs.length : Int) < p
        · obtain ⟨q, rfl⟩ := Int.eq_ofNat_of_zero_le h0
          go_enter Tryz.func76, Tryz.ntmps76
          go_wp2_with fail
          refine (rValid_any _ _ _ _ _).mono ?_
          rintro e W2 ⟨rfl, hb2⟩
          have k3 := k1.next hb2
          obtain ⟨c0, c1, _, _⟩ := boxFacts k3
          have hbb := bt hb2 hB0
          clear k1 hb2 hB0 k3
          go_wp2
          go_ret2
          exact ⟨⟨none, 0, rfl, Nat.le_refl _, RdFs.nil, hbb⟩, fun h => absurd h (by decide)⟩
        · have h2 : (bs.length : Int) - p < (ds.length : Int) := by omega
          go_enter Tryz.func76, Tryz.ntmps76
          go_wp2_with fail
          refine (rValid_any _ _ _ _ _).mono ?_
          rintro e W2 ⟨rfl, hb2⟩
          have k3 := k1.next hb2
          obtain ⟨c0, c1, _, _⟩ := boxFacts k3
          have hbb := bt hb2 hB0
          clear k1 hb2 hB0 k3
          go_wp2
          go_ret2
          exact ⟨⟨none, 0, rfl, Nat.le_refl _, RdFs.nil, hbb⟩, fun h => absurd h (by decide)⟩
    · obtain ⟨e1, e2⟩ := prog_bad (m := (s, bs)) (p := p) (ds := ds) (.inr (by omega))
      rw [e1, e2]
      clear e1 e2 v5
      go_enter Tryz.func76, Tryz.ntmps76
      go_wp2_with fail
      refine (rValid_any _ _ _ _ _).mono ?_
      rintro e W2 ⟨rfl, hb2⟩
      have k3 := k1.next hb2
      obtain ⟨c0, c1, _, _⟩ := boxFacts k3
      have hbb := bt hb2 hB0
      clear k1 hb2 hB0 k3
      go_wp2
      go_ret2
      exact ⟨⟨none, 0, rfl, Nat.le_refl _, RdFs.nil, hbb⟩, fun h => absurd h (by decide)⟩
  · have hv' : validB s bs.length = false := by simpa using hv
    obtain ⟨e1, e2⟩ := prog_bad (m := (s, bs)) (p := p) (ds := ds) (.inl hv')
    rw [e1, e2]
    clear e1 e2 hv
    go_enter Tryz.func76, Tryz.ntmps76
    go_wp2_with fail
    refine (rValid_any _ _ _ _ _).mono ?_
    rintro e W2 ⟨rfl, hb2⟩
    have k3 := k1.next hb2
    obtain ⟨c0, c1, _, _⟩ := boxFacts k3
    have hbb := bt hb2 hB0
    clear k1 hb2 hB0 k3
    go_wp2
    go_ret2
    exact ⟨⟨none, 0, rfl, Nat.le_refl _, RdFs.nil, hbb⟩, fun h => absurd h (by decide)⟩
set_option maxHeartbeats 4000000 in
theorem rErase_new (m : Mem) (z : Int) (A : Option Addr) (c : Nat) (w : World) (hA : RdB w w.heap.size A m.2) (hcap : m.2.length ≤ c) (hn : m.2.length ≤ 1000000000) (hp0 : -9223372036854775808 ≤ z) (hp1 : z ≤ 9223372036854775807) :
    Calls Tryz.prog 56 #[.agg #[.int .i64 m.1, .slice A m.2.length c], .int .i64 z] w (NwPost m.1 w (eraL m z) (eraE m z)) := by
  obtain ⟨tI, hi, hz0, hz1, hz2⟩ := info_parts info_flash
  obtain ⟨s, bs⟩ := m
  dsimp only at *
  have HA := Lib.hid hA
  clear hA
  have hB0 : Below w.heap.size w (w.alloc (.cells #[.int .i64 s, .slice A bs.length c] 24)) := (Below.refl _ w).alloc (Nat.le_refl _) _
  have k1 : Bk (w.alloc (.cells #[.int .i64 s, .slice A bs.length c] 24)) w.heap.size 24 #[.int .i64 s, .slice A bs.length c] := Bk.new _ _ _
  by_cases hv : validB s bs.length = true
  · have hv' := (valid_iff _ _).1 hv
    obtain ⟨v1, v2, v3, v4, v5⟩ := hv'
    have d0 : 0 ≤ (bs.length : Int) / s := Int.ediv_nonneg (by omega) (by omega)
    have d1 : (bs.length : Int) / s ≤ 4096 := Int.le_trans (Int.ediv_le_self _ (by omega)) (by omega)
    by_cases h0 : 0 ≤ z
    · by_cases h1 : z < (bs.length : Int) / s
      · obtain ⟨e1, e2⟩ := era_in (m := (s, bs)) hv h0 h1
        rw [e1, e2]
        clear e1 e2
        obtain ⟨q0, q1⟩ := sector_in v1 v5 h0 h1
        obtain ⟨n, hns⟩ := Int.eq_ofNat_of_zero_le (a := s) (by omega)
        obtain ⟨q, hq⟩ := Int.eq_ofNat_of_zero_le q0
        have hqn : q + n ≤ bs.length := by omega
        have hn1 : 1 ≤ n := by omega
        have hn2 : n ≤ 512 := by omega
        have HR : Hid ((memos eraF bs (z * s).toNat s.toNat) = memos eraF bs q n) := by show _ = _; rw [hq, hns]; rfl
        rw [HR.out]
        have z2 : decide (z < 0) = false := by simp; omega
        have z3 : decide ((bs.length : Int) / s ≤ z) = false := by simp; omega
        have HN := Lib.hid hns
        clear v5 q0 q1 hns
        go_enter Tryz.func56, Tryz.ntmps56
        go_wp2_with fail
        refine (rValid_any _ _ _ _ _).mono ?_
        rintro e W2 ⟨rfl, hb2⟩
        have k3 := k1.next hb2
        obtain ⟨c0, c1, _, _⟩ := boxFacts k3
        have hbb := bt hb2 hB0
        have RA := HA.out.next hbb
        have hz : w.heap.size + 1 ≤ W2.heap.size := by have := k3.lt; omega
        clear k1 hb2 hB0
        go_wp2
        go_loopw [6, 7] (fun v i wr => ∃ (k : Nat) (its : List Elt), i = .int .i64 (k : Int) ∧ k ≤ n ∧ its.length = k + 1 ∧ its.map (·.2.2) = memos eraF bs q k ∧ Lst s (w.heap.size + 1) its v wr ∧ Nw w.heap.size its ∧ Bk wr w.heap.size 24 #[.int .i64 s, .slice A bs.length c] ∧ Below w.heap.size w wr) (fun _ i _ => n - (intOf i).toNat)
        case atStart =>
          refine ⟨0, [(A, c, bs)], rfl, Nat.zero_le _, rfl, rfl, ⟨?_, ?_, ?_⟩, Nw.one _ _, k3.alloc _, hbb.alloc (by omega) _⟩
          · exact ⟨rfl, .inr ⟨W2.heap.size, 1, _, rfl, hz, Bk.new _ _ _, Nat.le_refl _, by simp [maxLen], rfl, rfl⟩⟩
          · intro x hx
            obtain rfl : x = (A, c, bs) := by simpa using hx
            exact ⟨RA.next ((Below.refl _ _).alloc (Nat.le_refl _) _), hcap⟩
          · intro x hx hlen b o e
            obtain rfl : x = (A, c, bs) := by simpa using hx
            obtain ⟨b', o', e', hb', _⟩ := HA.out.2 hlen
            rw [show A = some ⟨b, o, none⟩ from e] at e'
            injection e' with e'; injection e' with e'
            simp [Value.ownBlock]
            omega
        case round =>
          obtain ⟨k, its, rfl, hk, hil, him, hl, hnw, kb, hb⟩ := hrel
          have HIM := Lib.hid him
          have HIL := Lib.hid hil
          have HNW := Lib.hid hnw
          clear hnw
          obtain ⟨g, cap, hvs⟩ := ownsRow_succ (by rw [← hil]; exact hl.1)
          rw [hvs] at hl ⊢
          have HL := Lib.hid hl
          obtain ⟨x0, x1, _, _⟩ := boxFacts kb
          have HKB := Lib.hid kb
          by_cases hlt : k < n
          · have hks : (k : Int) < s := by have := HN.out; omega
            have hl' := hl
            rw [← hil] at hl'
            obtain ⟨A1, c1', r1, r2, r3, r4, r5⟩ := Lst.at_ hl' (k := k) (by omega)
            have hm : (its[k]'(by omega)).2.2 = memo eraF bs q k := by
              have h5 := memos_get eraF bs q k k (by omega)
              rw [← him] at h5
              simp only [List.getElem?_map, Option.map_eq_some_iff] at h5
              obtain ⟨y, hy, hy2⟩ := h5
              obtain ⟨hk', hy'⟩ := List.getElem?_eq_some_iff.1 hy
              rw [hy']; exact hy2
            rw [hm] at r2 r3 r4 r5
            have hml := memo_length eraF bs q k
            obtain ⟨mb, hmb⟩ : ∃ mb, mb = memo eraF bs q k := ⟨_, rfl⟩
            rw [← hmb] at r2 r3 r4 r5 hml
            have hqk : q + k < mb.length := by omega
            have n4 : mb.length ≤ 4096 := by omega
            have hmemo : memo eraF bs q (k + 1) = mb.set (q + k) 255 := by
              simp only [memo]
              rw [← hmb]; rfl
            have HML := Lib.hid hml
            have HMM := Lib.hid hmemo
            have hwith := With_any s mb A1 c1' (q + k) 255 wr.drew r4 hqk (by omega)
            rw [Int.natCast_add] at hwith
            have HW := Lib.hid hwith
            have hgl : g < wr.heap.size := by
              obtain ⟨_, _, h8, _, h9⟩ := HL.out.1.form (by have := HIL.out; omega)
              injection h8 with h8; injection h8 with h8; injection h8 with h8
              omega
            have hg0 : w.heap.size + 1 ≤ g := own_ge HL.out.1 g rfl
            have hszw := hb.size
            clear hm hil him hl hl' hml hmb hvs hwith hmemo r4 r5 kb
            have i1 : (0 : Int) ≤ (q : Int) + (k : Int) := by omega
            have i3 : ((q : Int) + (k : Int)).toNat = q + k := by omega
            have i5 : (k : Int) < (k : Int) + 1 := by omega
            have i6 : (0 : Int) ≤ (k : Int) := by omega
            have i7 : (k : Int) < ((k + 1 : Nat) : Int) := by omega
            have i4 : IntKind.i64.wrap ((q : Int)) = (q : Int) := IntWalk.i64_in _ (by omega)
            have i0 : IntKind.i64.wrap ((q : Int) + (k : Int)) = (q : Int) + (k : Int) := IntWalk.i64_in _ (by omega)
            go_wp2
            go_region_law (first
                | (refine step_append_lies _ (by rfl) _ _ _ (by rfl) (w.heap.size + 1) 24 tI (.agg #[.int .i64 0, .slice none 0 0]) 2 32 Tryz.underlying28 hi hz0 hz1 hz2 rfl (by omega) (.slice (some ⟨g, 0, none⟩) (k + 1) cap) (k + 1) (cellsE s its) (by rfl) (hrow.alloc _) ⟨W6.heap.size, 0, none⟩ 1 1 [.int .i64 s, .slice (some ⟨g6, 0, none⟩) mb.length cap6] (by rfl) (by rfl) (news2 _ _ _ _) (by simp [Value.oneCell']) (by omega) (by simp only [maxLen]; omega) (by omega) (by simp; omega) _ rfl ?_; intro g' cap' w1 hown' hgrow hat hlt')
                | (go_simp; go_at_call 79; refine HW.out.mono ?_; rintro e W6 ⟨g6, cap6, rfl, hcap6, hg6, R6, hb6⟩; have hb6 : Below wr.heap.size wr W6 := ⟨hb6.os, hb6.tape, hb6.output, hb6.size, hb6.block⟩; have hsz6 := hb6.size; have hrow := (HL.out.next hb6).1; rw [HIL.out] at hrow))
            all_goals
              have HB6 := Lib.hid hb6
              have HL6 := Lib.hid (HL.out.next hb6)
              have HX : Hid (EltOk W6 (some ⟨g6, 0, none⟩, cap6, mb.set (q + k) 255)) := ⟨R6, by simpa using hcap6⟩
              have HS6 : Hid (∀ b o, (some ⟨g6, 0, none⟩ : Option Addr) = some ⟨b, o, none⟩ → some b ≠ (Value.slice (some ⟨g, 0, none⟩) (k + 1) cap).ownBlock) := by
                intro b o e he
                injection e with e; injection e with e
                have h7 : b = g := by simpa [Value.ownBlock] using he
                have : wr.drew.heap.size = wr.heap.size := rfl
                omega
              have HG := Lib.hid hgrow
              have HO := Lib.hid hown'
              have HAT : Hid ((Value.slice (some ⟨g', 0, none⟩) (k + 1 + 1) cap').ownBlock = (Value.slice (some ⟨g, 0, none⟩) (k + 1) cap).ownBlock ∨ (Value.slice (some ⟨g', 0, none⟩) (k + 1 + 1) cap').ownBlock = some (W6.alloc (.cells #[.int .i64 s, .slice (some ⟨g6, 0, none⟩) mb.length cap6] 24)).heap.size) := by
                rcases hat with e | e
                · exact .inl e.symm
                · exact .inr (by rw [← e]; rfl)
              have HK6 : Hid (Bk w1 w.heap.size 24 #[.int .i64 s, .slice A bs.length c]) := ((HKB.out.next hb6).alloc _).grown hgrow (by simp [Value.ownBlock]; omega)
              clear hgrow hown' hat R6 hb6 i0 i1 i3 i4 i5 i6 i7 r1 r2 hrow
              go_wp2
              go_roundw
              case rel =>
                refine ⟨k + 1, its ++ [(some ⟨g6, 0, none⟩, cap6, mb.set (q + k) 255)], by go_num, by omega, by simp [HIL.out], ?_, ?_, HNW.out.snoc (fun b o e => by injection e with e; injection e with e; have h8 := hb.size; have h7 : wr.drew.heap.size = wr.heap.size := rfl; omega), HK6.out, ?_⟩
                · rw [List.map_append, HIM.out, memos_succ, HMM.out]; rfl
                · refine Lst.snoc HL6.out HX.out (fun _ => HS6.out) ?_ HG.out HAT.out
                  rw [HIL.out]
                  simpa using HO.out
                · exact ((bt HB6.out hb).alloc (by omega) _).grown HG.out (by simp; omega) (fun j hj => (by have : g = j := (by simpa [Value.ownBlock] using hj); omega))
              case measure => simp [intOf]; omega
          · obtain rfl : k = n := by omega
            have hks : ¬ (k : Int) < s := by have := HN.out; omega
            have HB := Lib.hid hb
            clear hil him hl kb
            go_wp2
            go_ret2
            refine ⟨⟨some ⟨g, 0, none⟩, cap, ?_, ?_, ?_, HB.out⟩, fun _ => ⟨_, its, rfl, by have := HL.out.mono (Nat.le_succ _); exact this, by rw [← HIM.out, List.map_map]; rfl, HNW.out⟩⟩
            · simp [memos_length]
            · have := HL.out.1
              rw [HIL.out] at this
              rcases this.2 with ⟨h, _⟩ | ⟨_, _, _, h, _, _, hh, _⟩
              · cases h
              · injection h with _ _ h; simp [memos_length]; omega
            · have h9 := HL.out
              rw [← HIL.out] at h9
              have := Lst.reads h9
              rw [← HIM.out, List.map_map]
              exact this
      · have h1' : (bs.length : Int) / s ≤ z := by omega
        obtain ⟨e1, e2⟩ := era_bad (m := (s, bs)) (k := z) (.inr (.inr h1))
        rw [e1, e2]
        clear e1 e2 v5
        go_enter Tryz.func56, Tryz.ntmps56
        go_wp2_with fail
        refine (rValid_any _ _ _ _ _).mono ?_
        rintro e W2 ⟨rfl, hb2⟩
        have k3 := k1.next hb2
        obtain ⟨c0, c1, _, _⟩ := boxFacts k3
        have hbb := bt hb2 hB0
        clear k1 hb2 hB0 k3
        go_wp2
        go_ret2
        exact ⟨⟨none, 0, rfl, Nat.le_refl _, RdFs.nil, hbb⟩, fun h => absurd h (by decide)⟩
    · obtain ⟨e1, e2⟩ := era_bad (m := (s, bs)) (k := z) (.inr (.inl (by omega)))
      rw [e1, e2]
      clear e1 e2 v5
      go_enter Tryz.func56, Tryz.ntmps56
      go_wp2_with fail
      refine (rValid_any _ _ _ _ _).mono ?_
      rintro e W2 ⟨rfl, hb2⟩
      have k3 := k1.next hb2
      obtain ⟨c0, c1, _, _⟩ := boxFacts k3
      have hbb := bt hb2 hB0
      clear k1 hb2 hB0 k3
      go_wp2
      go_ret2
      exact ⟨⟨none, 0, rfl, Nat.le_refl _, RdFs.nil, hbb⟩, fun h => absurd h (by decide)⟩
  · have hv' : validB s bs.length = false := by simpa using hv
    obtain ⟨e1, e2⟩ := era_bad (m := (s, bs)) (k := z) (.inl hv')
    rw [e1, e2]
    clear e1 e2 hv
    go_enter Tryz.func56, Tryz.ntmps56
    go_wp2_with fail
    refine (rValid_any _ _ _ _ _).mono ?_
    rintro e W2 ⟨rfl, hb2⟩
    have k3 := k1.next hb2
    obtain ⟨c0, c1, _, _⟩ := boxFacts k3
    have hbb := bt hb2 hB0
    clear k1 hb2 hB0 k3
    go_wp2
    go_ret2
    exact ⟨⟨none, 0, rfl, Nat.le_refl _, RdFs.nil, hbb⟩, fun h => absurd h (by decide)⟩
end Go.Proofs.YthebojaminploaaGreatDoor
