/- w17Hub, TopVoidsArrive: walked over Receive's contract. -/
import Derived.Test.YthihhmlgpokomaaWr
import Derived.Test.YthihhmlgpokomaaWg
import Derived.Test.YthihhmlgpokomaaWh
import Derived.Test.YthihhmlgpokomaaWp
import Derived.Maps.OwnSet
set_option maxRecDepth 100000
set_option linter.unusedVariables false
set_option linter.unusedSimpArgs false
namespace Go.Proofs.Ythihhmlgpokomaa
open Go.RowKit Go.Maps

theorem Arrive_lit (hR : RcvOk) (q : Nat) (l : List Vd) (ord : List UInt8) (A O : Option Addr) (n m c co : Nat) (w : World) (hn : l.length = n) (hm : ord.length = m) (hq : (arrS (ksU l.length ord)).1 = q) (hl : VOk l) (h0 : 0 < l.length) (ho : ord.length ≤ 1000) (hA : RdV w w.heap.size A l) (hO : RdB w w.heap.size O ord) :
    Calls Try.prog 10 #[.slice A n c, .slice O m co] w fun e w' => ∃ A' c', e = .returned (.tuple #[.slice A' q c', .int .i64 (q : Int), .bool true]) ∧ q ≤ c' ∧ RdV w' w'.heap.size A' (l.take q) ∧ Below w.heap.size w w' := by
  subst hn hm hq; exact Arrive_any hR l ord A O c co w hl h0 ho hA hO
def hubL : List Vd := [⟨3, 5⟩, ⟨8, 2⟩]
theorem hubL_ok : VOk hubL := by
  refine ⟨by decide, ?_, ?_⟩
  · intro i hi
    match i, hi with
    | 0, _ => exact (by decide : (1 : Int) ≤ 3 ∧ (3 : Int) ≤ 1000000 ∧ (0 : Int) ≤ 5 ∧ (5 : Int) ≤ 1000000)
    | 1, _ => exact (by decide : (1 : Int) ≤ 8 ∧ (8 : Int) ≤ 1000000 ∧ (0 : Int) ≤ 2 ∧ (2 : Int) ≤ 1000000)
  · intro i hi
    match i, hi with
    | 0, _ => exact (by decide : (3 : Int) < 8)
theorem Hub_yes (hR : RcvOk) (w : World) : Calls Try.prog 4 #[] w fun e w' => e = .returned (.bool true) ∧ Below w.heap.size w w' := by
  have HB := Lib.hid (Below.refl w.heap.size w)
  go_enter Try.func4, Try.ntmps4
  go_wp2_with fail
  obtain ⟨U, hU⟩ : ∃ Zz, Zz = (w.alloc (.cells #[.int .i64 3, .int .i64 5, .int .i64 8, .int .i64 2] 42)).alloc (.cells #[.int .u8 1, .int .u8 1, .int .u8 0, .int .u8 1] 5) := ⟨_, rfl⟩
  have hbU : Below w.heap.size w U := by rw [hU]; exact al2 _ _ _
  have kv : Bk U w.heap.size 42 #[.int .i64 3, .int .i64 5, .int .i64 8, .int .i64 2] := by rw [hU]; exact (Bk.new _ _ _).alloc _
  have ko : Bk U (w.heap.size + 1) 5 #[.int .u8 1, .int .u8 1, .int .u8 0, .int .u8 1] := by rw [hU]; exact bkOf (by simp [at?_alloc])
  rw [← hU]
  clear hU
  have hrv : RdV U U.heap.size (some ⟨w.heap.size, 0, none⟩) hubL := RdX.of_bk vdE_len (l := hubL) kv kv.lt
  have hro : RdB U U.heap.size (some ⟨w.heap.size + 1, 0, none⟩) [1, 1, 0, 1] := RdB.of_cells (t := 5) (m := (0, 0)) ko ko.lt rfl
  refine (Arrive_lit hR 2 hubL [1, 1, 0, 1] (some ⟨w.heap.size, 0, none⟩) (some ⟨w.heap.size + 1, 0, none⟩) 2 4 2 4 U rfl rfl (by decide +kernel) hubL_ok (by decide) (by decide) hrv hro).mono ?_
  rintro e V ⟨A', c', rfl, hc', hr, hb⟩
  have HR := Lib.hid hr
  have HV := Lib.hid (RdX.next hrv hb)
  have HB := Lib.hid (bt hb hbU)
  clear hr hb hbU hrv hro kv ko
  go_wp2_with fail
  refine (rSame_yes hubL 2 2 rfl rfl A' (some ⟨w.heap.size, 0, none⟩) c' 2 _ (by decide) HR.out HV.out).mono ?_
  rintro e V2 ⟨rfl, hb⟩
  replace HB := Lib.hid (bt hb HB.out)
  clear hb
  go_wp2
  go_ret
  exact ⟨rfl, HB.out⟩
/-- the map holds these -/
def MpX (w : World) (b : Nat) (ks : List Nat) : Prop := ∃ n, n ≤ 1000 ∧ w.ownsMap Try.prog 3 (plainElem (H := Unit) Try.prog 4) b n (thereD ks)
theorem MpX.next {w w' : World} {b : Nat} {ks : List Nat} (h : MpX w b ks) (hb : Below w.heap.size w w') : MpX w' b ks := by
  obtain ⟨n, hn, h⟩ := h
  exact ⟨n, hn, h.kept (row := none) { os := hb.os, tape := hb.tape, output := hb.output, size := hb.size, block := fun k hk _ => hb.block k hk } (by simp)⟩
theorem MpX.len {w : World} {b : Nat} {ks : List Nat} {S : Nat} (h : MpX w b ks) (hS : Maps.size (thereD ks) = S) (ty : TypeId) : (Builtin.len_ #[33] ty #[.map (some b)]).run Try.prog w = .ok (.int .i64 (S : Int)) w := by
  obtain ⟨n, hn, h⟩ := h
  rw [← hS]
  exact h.len Try.underlying33 ty
theorem mlaw : Keyed Try.prog 3 := int_keyed Try.underlying3
theorem Few_lit (b : Bool) (n m : Nat) (h : decide (n ≤ 80 ∧ m ≤ 80) = b) (A B : Option Addr) (c cb : Nat) (w : World) :
    Calls Try.prog 5 #[.slice A n c, .slice B m cb, .slice none 0 0] w fun e w' => e = .returned (.bool b) ∧ w = w' := by
  subst h; exact Few_any n m A B c cb w
theorem Accepts_len (K E : Int) (l : List Cd) (v : List Vd) (n ep : Int) (i j : Nat) (A B : Option Addr) (c cb : Nat) (w : World) (hi : l.length = i) (hj : v.length = j) (hK : accK l v n ep = K) (hE : accE l v n ep = E) (hl : COk l) (hv : VOk v) (hn : 1 ≤ n ∧ n ≤ 1000000) (he : 0 ≤ ep ∧ ep ≤ 1000000) (hA : RdC w w.heap.size A l) (hB : RdV w w.heap.size B v) :
    Calls Try.prog 12 #[.slice A i c, .slice B j cb, .int .i64 n, .int .i64 ep] w fun e w' => e = .returned (.tuple #[.int .i64 K, .int .i64 E]) ∧ Below w.heap.size w w' := by
  subst hi hj; exact Accepts_lit K E l v n ep A B c cb w hK hE hl hv hn he hA hB
theorem Late_len (m : Nat) (l : List Cd) (u v : List Vd) (ep : Int) (i j k : Nat) (A U B : Option Addr) (c cu cb : Nat) (w : World) (hi : l.length = i) (hj : u.length = j) (hk : v.length = k) (hm : (lateL l u v ep).length = m) (hl : COk l) (hu : VOk u) (hv : VOk v) (he : 0 ≤ ep ∧ ep ≤ 1000000) (hA : RdC w w.heap.size A l) (hU : RdV w w.heap.size U u) (hB : RdV w w.heap.size B v) :
    Calls Try.prog 13 #[.slice A i c, .slice U j cu, .slice B k cb, .int .i64 ep] w fun e w' => ∃ A' c', e = .returned (.tuple #[.slice A' m c', .int .i64 0]) ∧ Below w.heap.size w w' := by
  subst hi hj hk hm; exact Late_any l u v ep A U B c cu cb w hl hu hv he hA hU hB
end Go.Proofs.Ythihhmlgpokomaa
