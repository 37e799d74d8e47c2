/- The laws' own helpers: last, done, and what 'want' compares. -/
import Derived.Test.YtjfpnldijlbmiaaFj
set_option linter.unusedVariables false
set_option linter.unusedSimpArgs false
namespace Go.Proofs.Ytjfpnldijlbmiaa
open Go.RowKit

def lastB (ms : List Mem) (er many : Int) : Bool := decide (er = 0) && decide ((ms.length : Int) = many) && decide (many ≠ 0)
def lastM (ms : List Mem) (er many : Int) : Mem := if lastB ms er many = true then ms.getLastD (0, []) else (0, [])
def MemPost (w : World) (m : Mem) (b : Value) (e : Ending) (w' : World) : Prop :=
  ∃ A c, e = .returned (.tuple #[.agg #[.int .i64 m.1, .slice A m.2.length c], b]) ∧ m.2.length ≤ c ∧ RdB w' w'.heap.size A m.2 ∧ Below w.heap.size w w'

set_option maxHeartbeats 1000000 in
theorem last_any (ms : List Mem) (er many : Int) (A : Option Addr) (c : Nat) (w : World) (h : RdFs w w.heap.size A ms) (hl : ms.length ≤ 1000000000) (hm0 : -9223372036854775807 ≤ many) (hm1 : many ≤ 9223372036854775807) :
    Calls Try.prog 23 #[.slice A ms.length c, .int .i64 er, .int .i64 many] w (MemPost w (lastM ms er many) (.bool (lastB ms er many))) := by
  have H := Lib.hid h
  clear h
  have hB0 : Below w.heap.size w (w.alloc (.cells #[.int .i64 0, .slice none 0 0] 24)) := (Below.refl _ w).alloc (Nat.le_refl _) _
  have bad : ∀ (hb : lastB ms er many = false), Hid (lastM ms er many = (0, []) ∧ lastB ms er many = false) := fun hb => ⟨by simp [lastM, hb], hb⟩
  by_cases h1 : er = 0
  · have h1' : (er != 0) = false := by simp [h1]
    by_cases h2 : (ms.length : Int) = many
    · by_cases h3 : many = 0
      · have HB := bad (by simp [lastB, h3])
        have h3' : (many == 0) = true := by simp [h3]
        have h2' : ((ms.length : Int) != many) = false := by simp [h2]
        clear bad h1 h2 h3
        go_enter Try.func23, Try.ntmps23
        go_wp2
        refine bodyPost_ret (v := .tuple #[.agg #[.int .i64 0, .slice none 0 0], .bool false]) (by simp [results, Try.results23, go_sem]) rfl ?_
        rw [HB.out.1, HB.out.2]
        exact ⟨none, 0, rfl, Nat.le_refl _, RdS.nil, hB0⟩
      · obtain ⟨k, hk⟩ : ∃ k : Nat, ms.length = k + 1 := ⟨ms.length - 1, by omega⟩
        obtain rfl : many = (k : Int) + 1 := by omega
        have hkl : k < ms.length := by omega
        obtain ⟨b, o, A', c', rfl, hb, r1, r2, r3, r4⟩ := H.out.at_ hkl
        have HB : Hid (lastM ms er ((k : Int) + 1) = ms[k] ∧ lastB ms er ((k : Int) + 1) = true) := by
          have e1 : lastB ms er ((k : Int) + 1) = true := by simp [lastB, h1, h2, h3]
          refine ⟨?_, e1⟩
          rw [lastM, if_pos e1, List.getLastD_eq_getLast?, List.getLast?_eq_getElem?]
          rw [show ms.length - 1 = k from by omega, List.getElem?_eq_getElem hkl, Option.getD_some]
        have h3' : ((k : Int) + 1 == 0) = false := by simp; omega
        have h2' : ((ms.length : Int) != (k : Int) + 1) = false := by simp; omega
        obtain ⟨x, hx⟩ : ∃ x, x = ms[k] := ⟨_, rfl⟩
        have HX : Hid (lastM ms er ((k : Int) + 1) = x ∧ lastB ms er ((k : Int) + 1) = true) := by rw [hx]; exact HB.out
        rw [← hx] at r1 r2 r3 r4
        have q1 := (hB0.cell (p := ⟨b, o + k * 2, none⟩) hb).trans r1
        have q2 := (hB0.cell (p := ⟨b, o + k * 2 + 1, none⟩) hb).trans r2
        have R4 := Lib.hid r4
        clear bad h1 h2 h3 hx HB r1 r2 r4 hk
        go_enter Try.func23, Try.ntmps23
        go_wp2
        refine bodyPost_ret (v := .tuple #[.agg #[.int .i64 x.1, .slice A' x.2.length c'], .bool true]) (by simp [results, Try.results23, go_sem]) rfl ?_
        rw [HX.out.1, HX.out.2]
        exact ⟨A', c', rfl, r3, R4.out.next ((Below.refl _ w).alloc (Nat.le_refl _) _), (Below.refl _ w).alloc (Nat.le_refl _) _⟩
    · have h2' : ((ms.length : Int) != many) = true := by simp [h2]
      have HB := bad (by simp [lastB, h2])
      clear bad h1 h2
      go_enter Try.func23, Try.ntmps23
      go_wp2
      refine bodyPost_ret (v := .tuple #[.agg #[.int .i64 0, .slice none 0 0], .bool false]) (by simp [results, Try.results23, go_sem]) rfl ?_
      rw [HB.out.1, HB.out.2]
      exact ⟨none, 0, rfl, Nat.le_refl _, RdS.nil, hB0⟩
  · have h1' : (er != 0) = true := by simp [h1]
    have HB := bad (by simp [lastB, h1])
    clear bad h1
    go_enter Try.func23, Try.ntmps23
    go_wp2
    refine bodyPost_ret (v := .tuple #[.agg #[.int .i64 0, .slice none 0 0], .bool false]) (by simp [results, Try.results23, go_sem]) rfl ?_
    rw [HB.out.1, HB.out.2]
    exact ⟨none, 0, rfl, Nat.le_refl _, RdS.nil, hB0⟩

/-- bytes do not lie in a memory's own variable (its cells are no bytes) -/
theorem RdB.ne_box {w : World} {B g : Nat} {A : Option Addr} {bs : List UInt8} {t : TypeId} {x : Int} {A' : Option Addr} {n c : Nat} (h : RdB w B A bs) (hk : Bk w g t #[.int .i64 x, .slice A' n c]) (hn : 0 < bs.length) : ∀ b o, A = some ⟨b, o, none⟩ → b ≠ g := by
  rintro b o rfl rfl
  obtain ⟨b', o', e, _, hc⟩ := h.at_ hn
  injection e with e
  injection e with e1 e2
  subst e1 e2
  rw [hk.cell] at hc
  match o, hc with
  | 0, hc => simp at hc
  | 1, hc => simp at hc
  | n + 2, hc => simp at hc
theorem RdB.set_box {w : World} {B g i : Nat} {A : Option Addr} {bs : List UInt8} {t : TypeId} {x : Int} {A' : Option Addr} {n c : Nat} (h : RdB w B A bs) (hk : Bk w g t #[.int .i64 x, .slice A' n c]) (u : Value) : RdB (w.setCell ⟨g, i, none⟩ u) B A bs := by
  refine ⟨h.1, fun hn => ?_⟩
  obtain ⟨b, o, rfl, hb, hc⟩ := h.2 hn
  have hne := h.ne_box hk hn b o rfl
  exact ⟨b, o, rfl, hb, fun j v hv => (World.cell?_setCell_other _ _ _ _ (fun e => hne (congrArg Addr.block e).symm)).trans (hc j v hv)⟩
/-- a struct's two cells written -/
theorem RdB.store2 {w : World} {g : Nat} {A : Option Addr} {bs : List UInt8} {t : TypeId} {x : Int} {A' : Option Addr} {n c : Nat} (h : RdB w w.heap.size A bs) (hk : Bk w g t #[.int .i64 x, .slice A' n c]) (y : Int) (u : Value) :
    RdB ((w.setCell ⟨g, 0, none⟩ (.int .i64 y)).setCell ⟨g, 1, none⟩ u) ((w.setCell ⟨g, 0, none⟩ (.int .i64 y)).setCell ⟨g, 1, none⟩ u).heap.size A bs := by
  have h1 : RdB ((w.setCell ⟨g, 0, none⟩ (.int .i64 y)).setCell ⟨g, 1, none⟩ u) w.heap.size A bs := (h.set_box hk _).set_box (x := y) (by simpa using hk.set 0 (.int .i64 y)) _
  exact h1.more (by simp [World.setCell])

def doneB (m : Mem) (p : Int) (ds : List UInt8) : Bool := decide (progE m p ds = 0)
def doneM (m : Mem) (p : Int) (ds : List UInt8) : Mem := if progE m p ds = 0 then (m.1, memo (andF ds) m.2 p.toNat ds.length) else (0, [])
theorem done_last (m : Mem) (p : Int) (ds : List UInt8) : lastM (progL m p ds) (progE m p ds) ((ds.length : Int) + 1) = doneM m p ds ∧ lastB (progL m p ds) (progE m p ds) ((ds.length : Int) + 1) = doneB m p ds := by
  by_cases h : progE m p ds = 0
  · have hl : progL m p ds = (memos (andF ds) m.2 p.toNat ds.length).map fun b => (m.1, b) := by simp [progL, h]
    have hB : lastB (progL m p ds) (progE m p ds) ((ds.length : Int) + 1) = true := by
      simp [lastB, h, hl, memos_length]; omega
    refine ⟨?_, by rw [hB]; simp [doneB, h]⟩
    rw [lastM, if_pos hB, hl, doneM, if_pos h, List.getLastD_eq_getLast?, List.getLast?_eq_getElem?, List.length_map, memos_length, Nat.add_sub_cancel, List.getElem?_map, memos_get _ _ _ _ _ (by omega)]
    rfl
  · have hB : lastB (progL m p ds) (progE m p ds) ((ds.length : Int) + 1) = false := by simp [lastB, h]
    refine ⟨by simp [lastM, hB, doneM, h], by rw [hB]; simp [doneB, h]⟩

theorem progL_le (m : Mem) (p : Int) (ds : List UInt8) : (progL m p ds).length ≤ ds.length + 1 := by
  unfold progL; split
  · simp [memos_length]
  · simp

set_option maxHeartbeats 1000000 in
theorem done_any (m : Mem) (p : Int) (ds : List UInt8) (A Ad : Option Addr) (c cd : Nat) (w : World) (hA : RdB w w.heap.size A m.2) (hAd : RdB w w.heap.size Ad ds) (hn : m.2.length ≤ 1000000000) (hd : ds.length ≤ 100000000) (hp0 : -9223372036854775808 ≤ p) (hp1 : p ≤ 9223372036854775807) :
    Calls Try.prog 22 #[.agg #[.int .i64 m.1, .slice A m.2.length c], .int .i64 p, .slice Ad ds.length cd] w (MemPost w (doneM m p ds) (.bool (doneB m p ds))) := by
  have HA := Lib.hid hA
  have HD := Lib.hid hAd
  clear hA hAd
  have hB0 : ∀ o1 o2, Below w.heap.size w ((w.alloc o1).alloc o2) := fun o1 o2 => ((Below.refl _ w).alloc (Nat.le_refl _) _).alloc (by simp) _
  have HB0 := Lib.hid hB0
  have hpl := progL_le m p ds
  have HDL := Lib.hid (done_last m p ds)
  clear hB0
  go_enter Try.func22, Try.ntmps22
  go_wp2_with fail
  refine (Program_any m p ds A Ad c cd _ (HA.out.next (HB0.out _ _)) (HD.out.next (HB0.out _ _)) (by omega) (by omega) hp0 hp1).mono ?_
  rintro e W2 ⟨A2, c2, rfl, hc2, hr2, hb2⟩
  have k2 : Bk W2 (w.heap.size + 1) 24 #[.int .i64 0, .slice none 0 0] := Bk.next (bkOf (by simp [at?_alloc])) hb2
  have hbw2 := bt hb2 (HB0.out _ _)
  have HR2 := Lib.hid hr2
  clear hr2 hb2
  go_wp2_with fail
  refine (last_any (progL m p ds) (progE m p ds) ((ds.length : Int) + 1) A2 c2 W2 HR2.out (by omega) (by omega) (by omega)).mono ?_
  rw [HDL.out.1, HDL.out.2]
  rintro e W3 ⟨A3, c3, rfl, hc3, hr3, hb3⟩
  have k3 := k2.next hb3
  obtain ⟨t0, t1, t2, t3⟩ := boxFacts k3
  have HR3 := Lib.hid hr3
  have hbw3 := bt hb3 hbw2
  clear hr3 hb3 k2
  go_wp2
  refine bodyPost_ret (v := .tuple #[.agg #[.int .i64 (doneM m p ds).1, .slice A3 (doneM m p ds).2.length c3], .bool (doneB m p ds)]) (by simp [results, Try.results22, go_sem, t0, t1]) rfl ⟨A3, c3, rfl, hc3, ?_, ?_⟩
  · exact HR3.out.store2 k3 _ _
  · exact (hbw3.setCell (p := ⟨w.heap.size + 1, 0, none⟩) (by show _ ≤ w.heap.size + 1; omega) _).setCell (p := ⟨w.heap.size + 1, 1, none⟩) (by show _ ≤ w.heap.size + 1; omega) _

/-- 'want': is a memory of sectors of 2 bytes just these bytes? -/
theorem want_any (m : Mem) (bs : List UInt8) (A Ab : Option Addr) (c cb : Nat) (w : World) (hA : RdB w w.heap.size A m.2) (hB : RdB w w.heap.size Ab bs) (hn : m.2.length ≤ 1000000) (hb : bs.length ≤ 1000000) :
    Calls Try.prog 24 #[.agg #[.int .i64 m.1, .slice A m.2.length c], .slice Ab bs.length cb] w fun e w' => e = .returned (.bool (eqM m (2, bs))) ∧ Below w.heap.size w w' := by
  have HA := Lib.hid hA
  have HB := Lib.hid hB
  clear hA hB
  have hB0 : ∀ o1, Below w.heap.size w (w.alloc o1) := fun o1 => (Below.refl _ w).alloc (Nat.le_refl _) _
  have HB0 := Lib.hid hB0
  clear hB0
  go_enter Try.func24, Try.ntmps24
  go_wp2_with fail
  refine (Same_any m (2, bs) A Ab c cb _ (HA.out.next (HB0.out _)) (HB.out.next (HB0.out _)) (by omega) (by show bs.length ≤ _; omega)).mono ?_
  rintro e W2 ⟨rfl, hb2⟩
  have hbw := bt hb2 (HB0.out _)
  clear hb2
  go_wp2
  go_ret
  exact ⟨rfl, hbw⟩
end Go.Proofs.Ytjfpnldijlbmiaa
