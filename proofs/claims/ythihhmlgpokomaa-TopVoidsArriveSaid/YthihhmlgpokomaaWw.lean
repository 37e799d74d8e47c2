/- TopVoidsArrive: the walk. -/
import Derived.Test.YthihhmlgpokomaaWv
import Derived.Maps.OwnSet
set_option maxRecDepth 100000
set_option linter.unusedVariables false
set_option linter.unusedSimpArgs false
namespace Go.Proofs.Ythihhmlgpokomaa
open Go.RowKit Go.Maps

set_option maxHeartbeats 4000000 in
theorem law_any (hR : RcvOk) (l : List Cd) (v : List Vd) (ord : List UInt8) (A B O : Option Addr) (c cb co : Nat) (number epoch : Int) (w : World) (hcb : v.length ≤ cb) (hA : RdC w w.heap.size A l) (hB : RdV w w.heap.size B v) (hO : RdB w w.heap.size O ord) :
    Calls Try.prog 3 #[.slice A l.length c, .slice B v.length cb, .slice O ord.length co, .int .i64 number, .int .i64 epoch] w fun e w' => e = .returned (.bool true) ∧ Below w.heap.size w w' := by
  have HB := Lib.hid (Below.refl w.heap.size w)
  have F_a := Lib.hid hA
  have F_b := Lib.hid hB
  have F_o := Lib.hid hO
  clear hA hB hO
  by_cases h1 : l.length ≤ 80 ∧ v.length ≤ 80
  · have hf : decide (l.length ≤ 80 ∧ v.length ≤ 80) = true := decide_eq_true h1
    have HF := Lib.hid hf
    clear hf
    obtain ⟨h1a, h1b⟩ := h1
    by_cases h2 : v = []
    · subst h2
      go_enter Try.func3, Try.ntmps3
      go_wp2_with fail
      refine (Hub_yes hR _).mono ?_
      rintro e V1 ⟨rfl, hb⟩
      have hB := hb
      replace F_a := Lib.hid (F_a.out.next hB)
      replace F_b := Lib.hid (F_b.out.next hB)
      replace F_o := Lib.hid (F_o.out.next hB)
      replace HB := Lib.hid (bt hB HB.out)
      clear hb hB
      go_wp2_with fail
      refine (Few_lit true _ _ HF.out A B c cb _).mono ?_
      rintro e w' ⟨rfl, rfl⟩
      go_wp2
      go_ret
      exact ⟨rfl, HB.out⟩
    · have hv0 : 0 < v.length := List.length_pos_iff.2 h2
      by_cases h3 : 200 < ord.length
      · have g3 : (200 : Int) < (ord.length : Int) := by omega
        go_enter Try.func3, Try.ntmps3
        go_wp2_with fail
        refine (Hub_yes hR _).mono ?_
        rintro e V1 ⟨rfl, hb⟩
        have hB := hb
        replace F_a := Lib.hid (F_a.out.next hB)
        replace F_b := Lib.hid (F_b.out.next hB)
        replace F_o := Lib.hid (F_o.out.next hB)
        replace HB := Lib.hid (bt hB HB.out)
        clear hb hB
        go_wp2_with fail
        refine (Few_lit true _ _ HF.out A B c cb _).mono ?_
        rintro e w' ⟨rfl, rfl⟩
        go_wp2
        go_ret
        exact ⟨rfl, HB.out⟩
      · have g4 : (ord.length : Int) ≤ 200 := by omega
        by_cases h4 : COk l
        · have HC := Lib.hid h4
          clear h4
          by_cases h5 : VOk v
          · have HV := Lib.hid h5
            clear h5
            by_cases h6 : 1 ≤ number ∧ number ≤ 1000000
            · have hq : decide (1 ≤ number ∧ number ≤ 1000000) = true := decide_eq_true h6
              have HN := Lib.hid hq
              clear hq
              by_cases h7 : 0 ≤ epoch ∧ epoch ≤ 1000000
              · have hq : decide (0 ≤ epoch ∧ epoch ≤ 1000000) = true := decide_eq_true h7
                have HE := Lib.hid hq
                clear hq
                exact law_main hR l v ord A B O c cb co number epoch w hcb F_a.out F_b.out F_o.out h1a h1b h2 g4 HC.out HV.out h6 h7
              · have hq : decide (0 ≤ epoch ∧ epoch ≤ 1000000) = false := decide_eq_false h7
                have HE := Lib.hid hq
                clear hq
                go_enter Try.func3, Try.ntmps3
                go_wp2_with fail
                refine (Hub_yes hR _).mono ?_
                rintro e V1 ⟨rfl, hb⟩
                have hB := hb
                replace F_a := Lib.hid (F_a.out.next hB)
                replace F_b := Lib.hid (F_b.out.next hB)
                replace F_o := Lib.hid (F_o.out.next hB)
                replace HB := Lib.hid (bt hB HB.out)
                clear hb hB
                go_wp2_with fail
                refine (Few_lit true _ _ HF.out A B c cb _).mono ?_
                rintro e w' ⟨rfl, rfl⟩
                go_wp2_with fail
                refine (rValid_yes l A c _ HC.out (by omega) F_a.out).mono ?_
                rintro e V2 ⟨rfl, hb⟩
                have hB := hb
                replace F_a := Lib.hid (F_a.out.next hB)
                replace F_b := Lib.hid (F_b.out.next hB)
                replace F_o := Lib.hid (F_o.out.next hB)
                replace HB := Lib.hid (bt hB HB.out)
                clear hb hB
                go_wp2_with fail
                refine (rVoids_yes v B cb _ HV.out (by omega) F_b.out).mono ?_
                rintro e V3 ⟨rfl, hb⟩
                have hB := hb
                replace F_a := Lib.hid (F_a.out.next hB)
                replace F_b := Lib.hid (F_b.out.next hB)
                replace F_o := Lib.hid (F_o.out.next hB)
                replace HB := Lib.hid (bt hB HB.out)
                clear hb hB
                go_wp2_with fail
                refine (rNumber_lit true number _ HN.out).mono ?_
                rintro e w' ⟨rfl, rfl⟩
                go_wp2_with fail
                refine (rEpoch_lit false epoch _ HE.out).mono ?_
                rintro e w' ⟨rfl, rfl⟩
                go_wp2
                go_ret
                exact ⟨rfl, HB.out⟩
            · have hq : decide (1 ≤ number ∧ number ≤ 1000000) = false := decide_eq_false h6
              have HN := Lib.hid hq
              clear hq
              go_enter Try.func3, Try.ntmps3
              go_wp2_with fail
              refine (Hub_yes hR _).mono ?_
              rintro e V1 ⟨rfl, hb⟩
              have hB := hb
              replace F_a := Lib.hid (F_a.out.next hB)
              replace F_b := Lib.hid (F_b.out.next hB)
              replace F_o := Lib.hid (F_o.out.next hB)
              replace HB := Lib.hid (bt hB HB.out)
              clear hb hB
              go_wp2_with fail
              refine (Few_lit true _ _ HF.out A B c cb _).mono ?_
              rintro e w' ⟨rfl, rfl⟩
              go_wp2_with fail
              refine (rValid_yes l A c _ HC.out (by omega) F_a.out).mono ?_
              rintro e V2 ⟨rfl, hb⟩
              have hB := hb
              replace F_a := Lib.hid (F_a.out.next hB)
              replace F_b := Lib.hid (F_b.out.next hB)
              replace F_o := Lib.hid (F_o.out.next hB)
              replace HB := Lib.hid (bt hB HB.out)
              clear hb hB
              go_wp2_with fail
              refine (rVoids_yes v B cb _ HV.out (by omega) F_b.out).mono ?_
              rintro e V3 ⟨rfl, hb⟩
              have hB := hb
              replace F_a := Lib.hid (F_a.out.next hB)
              replace F_b := Lib.hid (F_b.out.next hB)
              replace F_o := Lib.hid (F_o.out.next hB)
              replace HB := Lib.hid (bt hB HB.out)
              clear hb hB
              go_wp2_with fail
              refine (rNumber_lit false number _ HN.out).mono ?_
              rintro e w' ⟨rfl, rfl⟩
              go_wp2
              go_ret
              exact ⟨rfl, HB.out⟩
          · have HV := Lib.hid h5
            clear h5
            go_enter Try.func3, Try.ntmps3
            go_wp2_with fail
            refine (Hub_yes hR _).mono ?_
            rintro e V1 ⟨rfl, hb⟩
            have hB := hb
            replace F_a := Lib.hid (F_a.out.next hB)
            replace F_b := Lib.hid (F_b.out.next hB)
            replace F_o := Lib.hid (F_o.out.next hB)
            replace HB := Lib.hid (bt hB HB.out)
            clear hb hB
            go_wp2_with fail
            refine (Few_lit true _ _ HF.out A B c cb _).mono ?_
            rintro e w' ⟨rfl, rfl⟩
            go_wp2_with fail
            refine (rValid_yes l A c _ HC.out (by omega) F_a.out).mono ?_
            rintro e V2 ⟨rfl, hb⟩
            have hB := hb
            replace F_a := Lib.hid (F_a.out.next hB)
            replace F_b := Lib.hid (F_b.out.next hB)
            replace F_o := Lib.hid (F_o.out.next hB)
            replace HB := Lib.hid (bt hB HB.out)
            clear hb hB
            go_wp2_with fail
            refine (rVoids_no v B cb _ HV.out (by omega) F_b.out).mono ?_
            rintro e V3 ⟨rfl, hb⟩
            have hB := hb
            replace F_a := Lib.hid (F_a.out.next hB)
            replace F_b := Lib.hid (F_b.out.next hB)
            replace F_o := Lib.hid (F_o.out.next hB)
            replace HB := Lib.hid (bt hB HB.out)
            clear hb hB
            go_wp2
            go_ret
            exact ⟨rfl, HB.out⟩
        · have HC := Lib.hid h4
          clear h4
          go_enter Try.func3, Try.ntmps3
          go_wp2_with fail
          refine (Hub_yes hR _).mono ?_
          rintro e V1 ⟨rfl, hb⟩
          have hB := hb
          replace F_a := Lib.hid (F_a.out.next hB)
          replace F_b := Lib.hid (F_b.out.next hB)
          replace F_o := Lib.hid (F_o.out.next hB)
          replace HB := Lib.hid (bt hB HB.out)
          clear hb hB
          go_wp2_with fail
          refine (Few_lit true _ _ HF.out A B c cb _).mono ?_
          rintro e w' ⟨rfl, rfl⟩
          go_wp2_with fail
          refine (rValid_no l A c _ HC.out (by omega) F_a.out).mono ?_
          rintro e V2 ⟨rfl, hb⟩
          have hB := hb
          replace F_a := Lib.hid (F_a.out.next hB)
          replace F_b := Lib.hid (F_b.out.next hB)
          replace F_o := Lib.hid (F_o.out.next hB)
          replace HB := Lib.hid (bt hB HB.out)
          clear hb hB
          go_wp2
          go_ret
          exact ⟨rfl, HB.out⟩
  · have hf : decide (l.length ≤ 80 ∧ v.length ≤ 80) = false := decide_eq_false h1
    have HF := Lib.hid hf
    clear hf h1
    go_enter Try.func3, Try.ntmps3
    go_wp2_with fail
    refine (Hub_yes hR _).mono ?_
    rintro e V1 ⟨rfl, hb⟩
    have hB := hb
    replace F_a := Lib.hid (F_a.out.next hB)
    replace F_b := Lib.hid (F_b.out.next hB)
    replace F_o := Lib.hid (F_o.out.next hB)
    replace HB := Lib.hid (bt hB HB.out)
    clear hb hB
    go_wp2_with fail
    refine (Few_lit false _ _ HF.out A B c cb _).mono ?_
    rintro e w' ⟨rfl, rfl⟩
    go_wp2
    go_ret
    exact ⟨rfl, HB.out⟩
end Go.Proofs.Ythihhmlgpokomaa
