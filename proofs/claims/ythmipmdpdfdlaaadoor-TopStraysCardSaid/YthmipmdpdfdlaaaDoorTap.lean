/- r7Apart: are plates far enough apart? -/
import Derived.Test.YthmipmdpdfdlaaaDoorTe
import Derived.Lib.QuietBelow
import Derived.BigQuiet
set_option maxRecDepth 100000
set_option linter.unusedVariables false
set_option linter.unusedSimpArgs false
namespace Go.Proofs.YthmipmdpdfdlaaaDoor
open Go.RowKit Go.Sort

theorem Distance_lit (D E : Int) (a b : ByteArray) (w : World) (ha : a.size ≤ 9223372036854775807) (hb : b.size ≤ 9223372036854775807) (hC : Cf w) (h1 : dsV a b = D) (h2 : dsE a b = E) :
    Calls Tryd.prog 8 #[.string a, .string b] w fun e w' => e = .returned (.tuple #[.int .i64 D, .int .i64 E]) ∧ Below w.heap.size w w' := by
  have h := Distance_any a b w ha hb hC
  rw [h1, h2] at h
  exact h
def apB (l : List ByteArray) (least : Int) : Bool := (List.range l.length).all fun i => (List.range i).all fun k => decide (dsE (l.getD i ByteArray.empty) (l.getD k ByteArray.empty) = 0 ∧ least ≤ dsV (l.getD i ByteArray.empty) (l.getD k ByteArray.empty))
theorem ap_iff (l : List ByteArray) (least : Int) : apB l least = true ↔ ∀ i (hi : i < l.length) k (hk : k < i), dsE l[i] (l[k]'(by omega)) = 0 ∧ least ≤ dsV l[i] (l[k]'(by omega)) := by
  simp only [apB, List.all_eq_true, List.mem_range, decide_eq_true_iff]
  constructor
  · intro h i hi k hk
    have := h i hi k hk
    simpa [List.getD_eq_getElem?_getD, List.getElem?_eq_getElem hi, List.getElem?_eq_getElem (show k < l.length by omega)] using this
  · intro h i hi k hk
    have := h i hi k hk
    simpa [List.getD_eq_getElem?_getD, List.getElem?_eq_getElem hi, List.getElem?_eq_getElem (show k < l.length by omega)] using this
theorem ap_no {l : List ByteArray} {least : Int} {i k : Nat} (hi : i < l.length) (hk : k < i) (h : dsE l[i] (l[k]'(by omega)) ≠ 0 ∨ dsV l[i] (l[k]'(by omega)) < least) : apB l least = false := by
  rw [Bool.eq_false_iff]
  intro h9
  have := (ap_iff l least).1 h9 i hi k hk
  omega
/-- a slice of strings -/
def RdStr (w : World) (B : Nat) (A : Option Addr) (l : List ByteArray) : Prop := RdS w B 1 A l.length (l.map Value.string)
theorem RdStr.below {w w' : World} {B : Nat} {A : Option Addr} {l : List ByteArray} (h : RdStr w B A l) (hb : Below B w w') : RdStr w' B A l := RdS.below h hb
theorem RdStr.str {w : World} {B : Nat} {A : Option Addr} {l : List ByteArray} (h : RdStr w B A l) {i : Nat} (hi : i < l.length) : ∃ b o, A = some ⟨b, o, none⟩ ∧ b < B ∧ w.cell? ⟨b, o + i, none⟩ = some (.string l[i]) := by
  obtain ⟨b, o, e, hb, hc⟩ := h.2 (by omega)
  exact ⟨b, o, e, hb, hc i _ (by simp [hi])⟩
set_option maxHeartbeats 2000000 in
theorem r7Apart_any (l : List ByteArray) (least : Int) (A : Option Addr) (c : Nat) (w : World) (hA : RdStr w w.heap.size A l) (hS : ∀ s ∈ l, s.size ≤ 9223372036854775807) (hn : l.length ≤ 1000000) (hC : Cf w) :
    Calls Tryd.prog 9 #[.slice A l.length c, .int .i64 least] w fun e w' => e = .returned (.bool (apB l least)) ∧ Below w.heap.size w w' := by
  have HA := Lib.hid hA
  have HS := Lib.hid hS
  have HC := Lib.hid hC
  clear hA hS hC
  by_cases h0 : l.length = 0
  · have HV : apB l least = true := (ap_iff l least).2 fun i hi => absurd hi (by omega)
    rw [HV]
    clear HV
    have h0' : ¬ (0 : Int) < (l.length : Int) := by omega
    clear h0
    go_enter Tryd.func9, Tryd.ntmps9
    go_wp2
    go_loopw [5, 11] (fun _ i wr => i = .int .i64 0 ∧ Below w.heap.size w wr) (fun _ _ _ => 0)
    case atStart => exact ⟨rfl, Below.refl _ _⟩
    case round =>
      obtain ⟨rfl, hbw⟩ := hrel
      have HBW := Lib.hid hbw
      clear hbw
      go_wp2
      go_ret
      exact ⟨rfl, HBW.out⟩
  · obtain ⟨b, o, rfl, hb0, hc0⟩ := HA.out.str (i := 0) (by omega)
    clear hb0 hc0 h0
    go_enter Tryd.func9, Tryd.ntmps9
    go_wp2
    go_loopw [5, 11] (fun _ i wr => ∃ n : Nat, i = .int .i64 (n : Int) ∧ n ≤ l.length ∧ (∀ i, i < n → (hi : i < l.length) → ∀ k, k < i → (h : k < l.length) → dsE (l[i]'hi) (l[k]'h) = 0 ∧ least ≤ dsV (l[i]'hi) (l[k]'h)) ∧ Below w.heap.size w wr) (fun _ i _ => l.length - (intOf i).toNat)
    case atStart => exact ⟨0, rfl, Nat.zero_le _, fun i h => absurd h (by omega), Below.refl _ _⟩
    case round =>
      obtain ⟨i, rfl, hi, hal, hbw⟩ := hrel
      have HAL := Lib.hid hal
      have HBW := Lib.hid hbw
      clear hal hbw
      by_cases hlt : i < l.length
      · have i0 : (i : Int) < (l.length : Int) := by omega
        go_wp2
        clear i0
        go_loopw [6, 15] (fun _ j wr => ∃ k : Nat, j = .int .i64 (k : Int) ∧ k ≤ i ∧ (∀ k', k' < k → (h : k' < l.length) → dsE (l[i]'hlt) (l[k']'h) = 0 ∧ least ≤ dsV (l[i]'hlt) (l[k']'h)) ∧ Below w.heap.size w wr) (fun _ j _ => i - (intOf j).toNat)
        case atStart => exact ⟨0, rfl, Nat.zero_le _, fun k h => absurd h (by omega), HBW.out⟩
        case round =>
          obtain ⟨k, rfl, hki, hkk, hbw⟩ := hrel
          have HK := Lib.hid hkk
          have HBW := Lib.hid hbw
          clear hkk hbw
          by_cases hk : k < i
          · obtain ⟨x, hx⟩ : ∃ x, x = l[i] := ⟨_, rfl⟩
            obtain ⟨y, hy⟩ : ∃ y, y = l[k]'(by omega) := ⟨_, rfl⟩
            have hki : k < l.length := by omega
            obtain ⟨b1, o1, hA, hq0, e0'⟩ := (HA.out.below HBW.out).str hlt
            injection hA with hA
            injection hA with h1 h2 _
            subst h1 h2
            obtain ⟨b1, o1, hA, hq1, e1'⟩ := (HA.out.below HBW.out).str hki
            injection hA with hA
            injection hA with h1 h2 _
            subst h1 h2
            have e0 : wr.cell? ⟨b, o + i, none⟩ = some (.string x) := by rw [hx]; exact e0'
            have e1 : wr.cell? ⟨b, o + k, none⟩ = some (.string y) := by rw [hy]; exact e1'
            have hx1 : x.size ≤ 9223372036854775807 := by rw [hx]; exact HS.out _ (List.getElem_mem _)
            have hy1 : y.size ≤ 9223372036854775807 := by rw [hy]; exact HS.out _ (List.getElem_mem _)
            obtain ⟨D, hD⟩ : ∃ D, dsV x y = D := ⟨_, rfl⟩
            obtain ⟨E, hE⟩ : ∃ E, dsE x y = E := ⟨_, rfl⟩
            have HD := Lib.hid hD
            have HE := Lib.hid hE
            have HX := Lib.hid hx
            have HY := Lib.hid hy
            have i1 : (0 : Int) ≤ (i : Int) := by omega
            have i2 : (i : Int) < (l.length : Int) := by omega
            have j1 : (0 : Int) ≤ (k : Int) := by omega
            have j2 : (k : Int) < (i : Int) := by omega
            have j3 : (k : Int) < (l.length : Int) := by omega
            clear hD hE hx hy e0' e1' hq0 hq1
            go_wp2
            obtain ⟨U, hU⟩ : ∃ Zz, Zz = wr := ⟨_, rfl⟩
            rw [← hU] at e0 e1
            have HUW : Hid (Below w.heap.size w U) := by show Below _ _ _; rw [hU]; exact HBW.out
            rw [← hU]
            clear hU
            have HCU := Lib.hid (HC.out.next HUW.out)
            have Re0 := cell_regrown e0
            have Re1 := cell_regrown e1
            have CD := fun (d : Nat) (os : Array Obj) => Calls.regrown_of (Distance_lit D E x y (grow (redrawn U d) os) hx1 hy1 (HCU.out.next (below_regrown U d os)) HD.out HE.out)
            refine wp_region_quiet_below (by kernel_rfl) (by kernel_rfl) ?_
            repeat (first | go_big_quiet_step (first | (with_reducible exact CD _ _)) | quiet_step (first | (with_reducible exact CD _ _)))
            refine wpQuiet_nil ?_
            intro _ hw'
            obtain ⟨⟨dq, osq⟩, hw''⟩ := hw'
            subst hw''
            obtain ⟨V, hV⟩ : ∃ V, V = grow (redrawn U dq) osq := ⟨_, rfl⟩
            have hbV : Below U.heap.size U V := by rw [hV]; exact below_regrown _ _ _
            rw [← hV]
            clear hV
            clear Re0
            clear Re1
            clear CD
            have HW := Lib.hid (HUW.out.trans (hbV.mono HUW.out.size))
            clear hbV e0 e1
            by_cases hE0 : E = 0
            · subst hE0
              by_cases hD0 : D < least
              · have HV : Hid (apB l least = false) := ap_no hlt hk (by rw [← HX.out, ← HY.out, HD.out]; exact Or.inr hD0)
                go_wp2
                go_ret
                exact ⟨by rw [HV.out]; rfl, HW.out⟩
              · have HN : Hid (∀ k', k' < k + 1 → (h : k' < l.length) → dsE (l[i]'hlt) (l[k']'h) = 0 ∧ least ≤ dsV (l[i]'hlt) (l[k']'h)) := fun k' hk' h => by
                  rcases Nat.lt_or_ge k' k with h9 | h9
                  · exact HK.out k' h9 h
                  · obtain rfl : k' = k := by omega
                    rw [← HX.out, ← HY.out, HD.out, HE.out]; exact ⟨rfl, by omega⟩
                go_wp2
                go_roundw
                case rel => exact ⟨k + 1, by go_num, by omega, HN.out, HW.out⟩
                case measure => simp [intOf]; omega
            · have HV : Hid (apB l least = false) := ap_no hlt hk (by rw [← HX.out, ← HY.out, HE.out]; exact Or.inl hE0)
              have qe : (E == 0) = false := by rw [beq_eq_false_iff_ne]; exact hE0
              have qe2 : (E != 0) = true := by rw [bne, qe]; rfl
              go_wp2
              go_ret
              exact ⟨by rw [HV.out]; rfl, HW.out⟩
          · obtain rfl : k = i := by omega
            have HN : Hid (∀ i', i' < k + 1 → (hi : i' < l.length) → ∀ k', k' < i' → (h : k' < l.length) → dsE (l[i']'hi) (l[k']'h) = 0 ∧ least ≤ dsV (l[i']'hi) (l[k']'h)) := fun i' h1 h2 k' h3 h4 => by
              rcases Nat.lt_or_ge i' k with h9 | h9
              · exact HAL.out i' h9 h2 k' h3 h4
              · obtain rfl : i' = k := by omega
                exact HK.out k' h3 h4
            clear hk
            go_wp2
            go_roundw
            case rel => exact ⟨k + 1, by go_num, by omega, HN.out, HBW.out⟩
            case measure => simp [intOf]; omega
      · obtain rfl : i = l.length := by omega
        have HV : Hid (apB l least = true) := (ap_iff l least).2 fun i' h1 k' h2 => HAL.out i' h1 h1 k' h2 (by omega)
        have i0 : ¬ ((l.length : Int) < (l.length : Int)) := by omega
        clear hlt
        go_wp2
        go_ret
        exact ⟨by rw [HV.out]; rfl, HBW.out⟩
end Go.Proofs.YthmipmdpdfdlaaaDoor
