/- The law's helpers: Room, last, holds, few, with. -/
import Derived.Test.YtpcklbmhblmjpaaJm
set_option maxRecDepth 100000
set_option linter.unusedVariables false
set_option linter.unusedSimpArgs false
namespace Go.Proofs.Ytpcklbmhblmjpaa
open Go.RowKit Go.Sort Go.Shelf

set_option maxHeartbeats 1000000 in
theorem Room_any (x : List Rec) (A1 : Option Addr) (c1 : Nat) (w : World) (h1 : RdBs w w.heap.size A1 x) (m1 : x.length ≤ 1000000) :
    Calls Try.prog 9 #[.slice A1 x.length c1] w fun e w' => ∃ r : Int, e = .returned (.int .i64 r) ∧ (room x ≤ 1000000 → r = 5 + (room x : Int)) ∧ w = w' := by
  have H1 := Lib.hid h1
  clear h1
  go_enter Try.func9, Try.ntmps9
  go_wp2
  go_loopw [3, 4] (fun v i wr => ∃ (k : Nat) (z : Int), v = .int .i64 z ∧ i = .int .i64 (k : Int) ∧ k ≤ x.length ∧ (room x ≤ 1000000 → z = 5 + (room (x.take k) : Int)) ∧ w = wr) (fun _ i _ => x.length - (intOf i).toNat)
  case atStart => exact ⟨0, 5, rfl, rfl, Nat.zero_le _, fun _ => by simp [room], rfl⟩
  case round =>
    obtain ⟨k, v, rfl, rfl, hk, hv, rfl⟩ := hrel
    by_cases hlt : k < x.length
    · obtain ⟨b1, o1, A1', c1', rfl, h1b, z1, h1c, r1⟩ := H1.out.at_ hlt
      have k1 : (0 : Int) ≤ (k : Int) := by omega
      have k2 : (k : Int) < (x.length : Int) := by omega
      obtain ⟨p, hp⟩ : ∃ p, p = x[k] := ⟨_, rfl⟩
      rw [← hp] at z1 h1c r1
      have hst := room_take_succ hlt
      rw [← hp] at hst
      have hrl := room_take_le x k
      have hrl2 := room_take_le x (k + 1)
      obtain ⟨v2, hv2⟩ : ∃ v2 : Int, v2 = RowKit.wrap64 (RowKit.wrap64 (v + 7) + (p.length : Int)) := ⟨_, rfl⟩
      have HV : Hid (room x ≤ 1000000 → v2 = 5 + (room (x.take (k + 1)) : Int)) := fun hr => by
        have h9 := hv hr
        rw [hv2, IntWalk.wrap64_in (v + 7) (by omega), IntWalk.wrap64_in _ (by omega)]
        omega
      have HV2 := Lib.hid hv2
      clear hp r1 hst hrl hrl2 hv hv2
      go_wp2
      go_roundw
      case rel => exact ⟨k + 1, v2, by rw [HV2.out], by go_num, by omega, HV.out, trivial⟩
      case measure => simp [intOf]; omega
    · obtain rfl : k = x.length := by omega
      rw [List.take_of_length_le (Nat.le_refl _)] at hv
      have HV := Lib.hid hv
      clear hv
      go_wp2
      go_ret
      exact ⟨v, rfl, HV.out, rfl⟩

def lastM (f : Mem) (l : List Mem) (e : Int) : Mem := if e = 0 then l.getLastD f else f
def flashPost (m : Mem) (w : World) (e : Ending) (w' : World) : Prop := ∃ A c, e = .returned (.agg #[.int .i64 m.1, .slice A m.2.length c]) ∧ m.2.length ≤ c ∧ RdB w' w'.heap.size A m.2 ∧ Below w.heap.size w w'
set_option maxHeartbeats 1000000 in
theorem last_l (f : Mem) (l : List Mem) (e : Int) (A Al : Option Addr) (c cl : Nat) (w : World) (hA : RdB w w.heap.size A f.2) (hc : f.2.length ≤ c) (hl : RdFs w w.heap.size Al l) (hll : l.length ≤ 1000000) :
    Calls Try.prog 18 #[.agg #[.int .i64 f.1, .slice A f.2.length c], .slice Al l.length cl, .int .i64 e] w (flashPost (lastM f l e) w) := by
  have HA := Lib.hid hA
  have HL := Lib.hid hl
  clear hA hl
  by_cases h0 : e = 0
  · by_cases hn : l.length = 0
    · have hE : lastM f l e = f := by
        rw [List.length_eq_zero_iff.1 hn]; unfold lastM; split <;> rfl
      have HE := Lib.hid hE
      have e0 : (e != 0) = false := by simp [h0]
      have e1 : ((l.length : Int) == 0) = true := by simp [hn]
      subst h0
      clear hE
      go_enter Try.func18, Try.ntmps18
      go_wp2
      obtain ⟨X, hX⟩ : ∃ Zz, Zz = ((w.alloc (.cells #[.int .i64 f.1, .slice A f.2.length c] 24)).alloc (.cells #[.int .i64 f.1, .slice A f.2.length c] 24)) := ⟨_, rfl⟩
      have kX : Bk X (w.heap.size + 1) 24 #[.int .i64 f.1, .slice A f.2.length c] := by rw [hX]; exact bkOf (by simp [at?_alloc])
      have hbX : Below w.heap.size w X := by rw [hX]; exact al2 _ _ _
      rw [← hX]
      obtain ⟨u0, u1⟩ := box2 kX
      clear hX
      refine bodyPost_ret (v := .agg #[.int .i64 f.1, .slice A f.2.length c]) (by simp [results, Try.results18, go_sem, u0, u1]) rfl ?_
      rw [HE.out]
      exact ⟨A, c, rfl, hc, HA.out.next hbX, hbX⟩
    · obtain ⟨k, hk⟩ : ∃ k, l.length = k + 1 := ⟨l.length - 1, by omega⟩
      obtain ⟨b1, o1, A', c', rfl, hb1, z0, z1, hc', hr'⟩ := HL.out.at_ (by omega : k < l.length)
      obtain ⟨x, hx⟩ : ∃ x, x = l[k]'(by omega) := ⟨_, rfl⟩
      rw [← hx] at z0 z1 hc' hr'
      have hE : lastM f l e = x := by
        unfold lastM
        have hk' : l.length - 1 = k := by omega
        rw [if_pos h0, List.getLastD_eq_getLast?, List.getLast?_eq_getElem?, hk', List.getElem?_eq_getElem (by omega : k < l.length), hx]
        rfl
      have HE := Lib.hid hE
      have e0 : (e != 0) = false := by simp [h0]
      subst h0
      rw [hk]
      have e1 : (((k : Int) + 1) == 0) = false := by rw [beq_eq_false_iff_ne]; omega
      have i1 : (0 : Int) ≤ (k : Int) := by omega
      have i2 : (k : Int) < (k : Int) + 1 := by omega
      have HR := Lib.hid hr'
      have hkl : k ≤ 1000000 := by omega
      clear hE hx hk hr'
      go_enter Try.func18, Try.ntmps18
      go_wp2
      obtain ⟨X, hX⟩ : ∃ Zz, Zz = ((w.alloc (.cells #[.int .i64 f.1, .slice A f.2.length c] 24)).alloc (.cells #[.int .i64 x.1, .slice A' x.2.length c'] 24)) := ⟨_, rfl⟩
      have kX : Bk X (w.heap.size + 1) 24 #[.int .i64 x.1, .slice A' x.2.length c'] := by rw [hX]; exact bkOf (by simp [at?_alloc])
      have hbX : Below w.heap.size w X := by rw [hX]; exact al2 _ _ _
      rw [← hX]
      obtain ⟨u0, u1⟩ := box2 kX
      clear hX
      refine bodyPost_ret (v := .agg #[.int .i64 x.1, .slice A' x.2.length c']) (by simp [results, Try.results18, go_sem, u0, u1]) rfl ?_
      rw [HE.out]
      exact ⟨A', c', rfl, hc', HR.out.next hbX, hbX⟩
  · have hE : lastM f l e = f := by unfold lastM; rw [if_neg h0]
    have HE := Lib.hid hE
    have e0 : (e != 0) = true := by simp [h0]
    clear hE
    go_enter Try.func18, Try.ntmps18
    go_wp2
    obtain ⟨X, hX⟩ : ∃ Zz, Zz = ((w.alloc (.cells #[.int .i64 f.1, .slice A f.2.length c] 24)).alloc (.cells #[.int .i64 f.1, .slice A f.2.length c] 24)) := ⟨_, rfl⟩
    have kX : Bk X (w.heap.size + 1) 24 #[.int .i64 f.1, .slice A f.2.length c] := by rw [hX]; exact bkOf (by simp [at?_alloc])
    have hbX : Below w.heap.size w X := by rw [hX]; exact al2 _ _ _
    rw [← hX]
    obtain ⟨u0, u1⟩ := box2 kX
    clear hX
    refine bodyPost_ret (v := .agg #[.int .i64 f.1, .slice A f.2.length c]) (by simp [results, Try.results18, go_sem, u0, u1]) rfl ?_
    rw [HE.out]
    exact ⟨A, c, rfl, hc, HA.out.next hbX, hbX⟩

def hldB (m : Mem) (want : List Rec) : Bool := decide (lookE m = 0 ∧ (lookC m).recs = want)
set_option maxHeartbeats 1000000 in
theorem holds_any (m : Mem) (want : List Rec) (A Aw : Option Addr) (c cw : Nat) (w : World) (hA : RdB w w.heap.size A m.2) (hc : m.2.length ≤ c) (hW : RdBs w w.heap.size Aw want) (m2 : want.length ≤ 1000000000) (n2 : ∀ d ∈ want, d.length ≤ 1000000000) :
    Calls Try.prog 19 #[.agg #[.int .i64 m.1, .slice A m.2.length c], .slice Aw want.length cw] w fun e w' => e = .returned (.bool (hldB m want)) ∧ Below w.heap.size w w' := by
  have HA := Lib.hid hA
  have HW := Lib.hid hW
  clear hA hW
  by_cases h0 : lookE m = 0
  · have hE : hldB m want = decide ((lookC m).recs = want) := by unfold hldB; simp [h0]
    have HE := Lib.hid hE
    have hlen : (lookC m).recs.length ≤ 1000000000 ∧ ∀ d ∈ (lookC m).recs, d.length ≤ 1000000000 := by
      obtain ⟨a, l, en, hv, hq, hsc, hC⟩ := lookE_ok h0
      have h9 := scanA_facts hsc (by rw [areaB_length m (curO_le hq)]; have := jv_len hv; unfold hf; omega)
      rw [areaB_length m (curO_le hq)] at h9
      have h4 := jv_max hv
      have h8 := room_ge l
      have h5 : hf m ≤ 4096 := by unfold hf; omega
      rw [hC]
      exact ⟨by have := h9.2.1; have := h9.2.2.2.2; have := h8.1; show l.length ≤ _; omega, fun d hd => by have := h8.2 d hd; have := h9.2.1; have := h9.2.2.2.2; omega⟩
    clear hE
    go_enter Try.func19, Try.ntmps19
    go_wp2_with fail
    have hb1 := al1 w (.cells #[.int .i64 m.1, .slice A m.2.length c] 24)
    refine (Read_any m A c _ (HA.out.next hb1) hc).mono ?_
    rintro e V ⟨Ar, cr, rfl, hcr, hrd, hbV⟩
    have HR := Lib.hid hrd
    have HB := Lib.hid (bt hbV hb1)
    clear hrd hbV hb1
    rw [h0]
    go_wp2_with fail
    refine (SameR_any (lookC m).recs want Ar Aw cr cw V HR.out (HW.out.next HB.out) hlen.1 m2 hlen.2 n2).mono ?_
    rintro e V2 ⟨rfl, hb2⟩
    have HB2 := Lib.hid (bt hb2 HB.out)
    obtain ⟨bb, hbb⟩ : ∃ bb, bb = decide ((lookC m).recs = want) := ⟨_, rfl⟩
    rw [← hbb] at HE ⊢
    clear hb2 hbb
    go_wp2
    go_ret
    exact ⟨by rw [HE.out]; rfl, HB2.out⟩
  · have hE : hldB m want = false := by unfold hldB; simp [h0]
    have HE := Lib.hid hE
    clear hE
    go_enter Try.func19, Try.ntmps19
    go_wp2_with fail
    have hb1 := al1 w (.cells #[.int .i64 m.1, .slice A m.2.length c] 24)
    refine (Read_any m A c _ (HA.out.next hb1) hc).mono ?_
    rintro e V ⟨Ar, cr, rfl, hcr, hrd, hbV⟩
    have HR := Lib.hid hrd
    have HB := Lib.hid (bt hbV hb1)
    clear hrd hbV hb1
    have e0 : (lookE m == 0) = false := by simp [h0]
    go_wp2
    go_ret
    exact ⟨by rw [HE.out]; rfl, HB.out⟩

theorem few_any (m : Mem) (d : Rec) (A Ad : Option Addr) (c cd : Nat) (w : World) :
    Calls Try.prog 8 #[.agg #[.int .i64 m.1, .slice A m.2.length c], .slice Ad d.length cd] w fun e w' => e = .returned (.bool (decide (m.2.length ≤ 600 ∧ d.length ≤ 700))) ∧ Below w.heap.size w w' := by
  by_cases h1 : m.2.length ≤ 600
  · by_cases h2 : d.length ≤ 700
    · have q1 : (m.2.length : Int) ≤ 600 := by omega
      have q2 : (d.length : Int) ≤ 700 := by omega
      have hE : decide (m.2.length ≤ 600 ∧ d.length ≤ 700) = true := by exact decide_eq_true ⟨by omega, by omega⟩
      have HE := Lib.hid hE
      clear hE
      go_enter Try.func8, Try.ntmps8
      go_wp2
      go_ret
      exact ⟨by first | (rw [HE.out]; rfl) | rfl, al1 _ _⟩
    · have q1 : (m.2.length : Int) ≤ 600 := by omega
      have q2 : ¬ (d.length : Int) ≤ 700 := by omega
      have hE : decide (m.2.length ≤ 600 ∧ d.length ≤ 700) = false := by exact decide_eq_false (by omega)
      have HE := Lib.hid hE
      clear hE
      go_enter Try.func8, Try.ntmps8
      go_wp2
      go_ret
      exact ⟨by first | (rw [HE.out]; rfl) | rfl, al1 _ _⟩
  · have q1 : ¬ (m.2.length : Int) ≤ 600 := by omega
    have hE : decide (m.2.length ≤ 600 ∧ d.length ≤ 700) = false := by exact decide_eq_false (by omega)
    have HE := Lib.hid hE
    clear hE
    go_enter Try.func8, Try.ntmps8
    go_wp2
    go_ret
    exact ⟨by first | (rw [HE.out]; rfl) | rfl, al1 _ _⟩
end Go.Proofs.Ytpcklbmhblmjpaa
