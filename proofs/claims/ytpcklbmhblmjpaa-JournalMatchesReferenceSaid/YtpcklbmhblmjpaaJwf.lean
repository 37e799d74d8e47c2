/- The law JournalMatchesReference, walked. -/
import Derived.Test.YtpcklbmhblmjpaaJW
import Derived.Test.YtpcklbmhblmjpaaJX
import Derived.Test.YtpcklbmhblmjpaaJp
import Derived.Test.YtpcklbmhblmjpaaJrC
import Derived.Test.YtpcklbmhblmjpaaJrs
set_option maxRecDepth 100000
set_option linter.unusedVariables false
set_option linter.unusedSimpArgs false
namespace Go.Proofs.Ytpcklbmhblmjpaa
open Go.RowKit Go.Sort Go.Shelf

theorem look_small (m : Mem) : (lookC m).recs.length ≤ 1000000000 ∧ ∀ d ∈ (lookC m).recs, d.length ≤ 1000000000 := by
  by_cases h : lookE m = 0
  · obtain ⟨h1, h2⟩ := recs_small h
    exact ⟨by omega, fun d hd => by have := h2 d hd; omega⟩
  · rw [lookC_bad h]; simp
theorem steps_small {m : Mem} {L F : List (List UInt8)} {z : List UInt8} {after : List Rec} (h : Steps m L F z after) (h0 : lookE m = 0) : (L.map fun b => ((m.1, b) : Mem)).length ≤ 1000000000 ∧ ∀ x ∈ L.map fun b => ((m.1, b) : Mem), x.2.length ≤ 1000000000 := by
  obtain ⟨a, l, e, hv, _⟩ := lookE_ok h0
  have h4k := jv_max hv
  have hl := h.len
  rw [h.split]
  refine ⟨by simp; omega, fun x hx => ?_⟩
  obtain ⟨b, hb, rfl⟩ := List.mem_map.1 hx
  dsimp only
  rcases List.mem_append.1 hb with hb | hb
  · rw [(h.mid b hb).1]; omega
  · obtain rfl : b = z := by simpa using hb
    rw [h.zlen]; omega
theorem rew_small (m : Mem) (keep : List Rec) : (rewM m keep).length ≤ 1000000000 ∧ ∀ x ∈ rewM m keep, x.2.length ≤ 1000000000 := by
  by_cases h : rewE m keep = 0
  · have h0 : lookE m = 0 := by
      by_cases h9 : lookE m = 0
      · exact h9
      · unfold rewE at h; rw [if_neg h9] at h; exact absurd h h9
    obtain ⟨_, _, F, z, hs, _⟩ := rew_steps h0 keep h
    exact steps_small hs h0
  · rw [rewM_no h]; simp
theorem app_small (m : Mem) (d : Rec) : (appM m d).length ≤ 1000000000 ∧ ∀ x ∈ appM m d, x.2.length ≤ 1000000000 := by
  by_cases h : appE m d = 0
  · have h0 : lookE m = 0 := by
      by_cases h9 : lookE m = 0
      · exact h9
      · unfold appE at h; rw [if_neg h9] at h; exact absurd h h9
    obtain ⟨F, z, hs⟩ := app_steps h0 d h
    exact steps_small hs h0
  · rw [appM_no h]; simp
theorem fmt_small (s k : Int) : (fmtM s k).2.length ≤ 1000000000 := by
  by_cases h : fmtE s k = 0
  · have := (fmt_ok h).2.1; omega
  · unfold fmtM; rw [if_neg h]; simp
theorem few_l2 (b : Bool) (m : Mem) (d : Rec) (A Ad : Option Addr) (c cd : Nat) (w : World) (h : decide (m.2.length ≤ 600 ∧ d.length ≤ 700) = b) :
    Calls Try.prog 8 #[.agg #[.int .i64 m.1, .slice A m.2.length c], .slice Ad d.length cd] w fun e w' => e = .returned (.bool b) ∧ Below w.heap.size w w' := by subst h; exact few_any m d A Ad c cd w
theorem Room_w (x : List Rec) (r : Nat) (hr : 5 + room x = r) (hb : r ≤ 4000000000000000000) (A1 : Option Addr) (c1 : Nat) (w : World) (h1 : RdBs w w.heap.size A1 x) (m1 : x.length ≤ 1000000) :
    Calls Try.prog 9 #[.slice A1 x.length c1] w fun e w' => e = .returned (.int .i64 (r : Int)) ∧ Below w.heap.size w w' :=
  (Room_wide x A1 c1 w h1 m1).mono fun e w' ⟨r', h1, h2, h3⟩ => ⟨by rw [h1, h2 (by omega), ← hr]; simp, by rw [h3]; exact Below.refl _ _⟩
theorem rFormat_lit (M : Mem) (E s k : Int) (w : World) (hM : fmtM s k = M) (hE : fmtE s k = E) (hs0 : -9223372036854775808 ≤ s) (hs1 : s ≤ 9223372036854775807) (hp0 : -9223372036854775808 ≤ k) (hp1 : k ≤ 9223372036854775807) :
    Calls Try.prog 6 #[.int .i64 s, .int .i64 k] w fun e w' => ∃ A c, e = .returned (.tuple #[.agg #[.int .i64 M.1, .slice A M.2.length c], .int .i64 E]) ∧ M.2.length ≤ c ∧ RdB w' w'.heap.size A M.2 ∧ Below w.heap.size w w' := by subst hM; subst hE; exact rFormat_any s k w hs0 hs1 hp0 hp1
theorem Same_2 (m : Mem) (A1 A2 : Option Addr) (c1 c2 : Nat) (w : World) (n1 : m.2.length ≤ 1000000000) (h1 : RdB w w.heap.size A1 m.2) (h2 : RdB w w.heap.size A2 m.2) :
    Calls Try.prog 7 #[.agg #[.int .i64 m.1, .slice A1 m.2.length c1], .agg #[.int .i64 m.1, .slice A2 m.2.length c2]] w fun e w' => e = .returned (.bool true) ∧ Below w.heap.size w w' := by
  have h := Same_any m m A1 A2 c1 c2 w h1 h2 n1 n1
  rwa [show eqM m m = true from by simp [eqM]] at h
theorem SameList_2 (l : List Mem) (n : Nat) (hn : l.length = n) (hs : l.length ≤ 1000000000 ∧ ∀ x ∈ l, x.2.length ≤ 1000000000) (A1 A2 : Option Addr) (c1 c2 : Nat) (w : World) (h1 : RdFs w w.heap.size A1 l) (h2 : RdFs w w.heap.size A2 l) :
    Calls Try.prog 17 #[.slice A1 n c1, .slice A2 n c2] w fun e w' => e = .returned (.bool true) ∧ Below w.heap.size w w' := by
  subst hn
  have h := SameList_any l l A1 A2 c1 c2 w h1 h2 hs.1 hs.1 hs.2 hs.2
  rwa [show eqMs l l = true from by simp [eqMs]] at h
theorem SameR_2 (l : List Rec) (n : Nat) (hn : l.length = n) (hs : l.length ≤ 1000000000 ∧ ∀ x ∈ l, x.length ≤ 1000000000) (A1 A2 : Option Addr) (c1 c2 : Nat) (w : World) (h1 : RdBs w w.heap.size A1 l) (h2 : RdBs w w.heap.size A2 l) :
    Calls Try.prog 16 #[.slice A1 n c1, .slice A2 n c2] w fun e w' => e = .returned (.bool true) ∧ Below w.heap.size w w' := by
  subst hn
  have h := SameR_any l l A1 A2 c1 c2 w h1 h2 hs.1 hs.1 hs.2 hs.2
  rwa [show decide (l = l) = true from by simp] at h
theorem rRead_lit (E : Int) (N : Nat) (m : Mem) (A : Option Addr) (c : Nat) (w : World) (hE : lookE m = E) (hN : (lookC m).recs.length = N) (hA : RdB w w.heap.size A m.2) (hc : m.2.length ≤ c) :
    Calls Try.prog 11 #[.agg #[.int .i64 m.1, .slice A m.2.length c]] w fun e w' => ∃ A c, e = .returned (.tuple #[.slice A N c, .int .i64 E]) ∧ N ≤ c ∧ RdBs w' w'.heap.size A (lookC m).recs ∧ Below w.heap.size w w' := by subst hE; subst hN; exact rRead_any m A c w hA hc
theorem rAppend_lit (N : Nat) (E : Int) (m : Mem) (d : Rec) (A Ad : Option Addr) (c cd : Nat) (w : World) (hN : (appM m d).length = N) (hE : appE m d = E) (hA : RdB w w.heap.size A m.2) (hc : m.2.length ≤ c) (hD : RdB w w.heap.size Ad d) (hcd : d.length ≤ cd) (hdl : d.length ≤ 60000) :
    Calls Try.prog 13 #[.agg #[.int .i64 m.1, .slice A m.2.length c], .slice Ad d.length cd] w fun e w' => ∃ A c, e = .returned (.tuple #[.slice A N c, .int .i64 E]) ∧ N ≤ c ∧ RdFs w' w'.heap.size A (appM m d) ∧ Below w.heap.size w w' := by subst hE; subst hN; exact rAppend_any m d A Ad c cd w hA hc hD hcd hdl
theorem rRewrite_lit (N : Nat) (E : Int) (m : Mem) (keep : List Rec) (A Ad : Option Addr) (c cd : Nat) (w : World) (hN : (rewM m keep).length = N) (hE : rewE m keep = E) (hA : RdB w w.heap.size A m.2) (hc : m.2.length ≤ c) (hD : RdBs w w.heap.size Ad keep) (hk : room keep ≤ 900000) :
    Calls Try.prog 15 #[.agg #[.int .i64 m.1, .slice A m.2.length c], .slice Ad keep.length cd] w fun e w' => ∃ A c, e = .returned (.tuple #[.slice A N c, .int .i64 E]) ∧ N ≤ c ∧ RdFs w' w'.heap.size A (rewM m keep) ∧ Below w.heap.size w w' := by subst hE; subst hN; exact rRewrite_any m keep A Ad c cd w hA hc hD hk
theorem room_max (l : List Rec) (n : Nat) (h : ∀ d ∈ l, d.length ≤ n) : room l ≤ l.length * (7 + n) := by
  induction l with
  | nil => simp [room]
  | cons d l ih =>
    have h1 := ih (fun d hd => h d (List.mem_cons_of_mem _ hd))
    have h2 := h d (List.mem_cons_self)
    simp only [room, List.length_cons, Nat.succ_mul] at h1 ⊢
    omega

set_option maxHeartbeats 2000000 in
theorem JournalMatchesReference_walk (m : Mem) (d : Rec) (keep : List Rec) (a3 a4 : Int) (A Ad Ak : Option Addr) (c cd ck : Nat) (w : World) (hA : RdB w w.heap.size A m.2) (hc : m.2.length ≤ c) (hD : RdB w w.heap.size Ad d) (hcd : d.length ≤ cd) (hK : RdBs w w.heap.size Ak keep) (hk2 : ∀ d ∈ keep, d.length ≤ 140737488351232)
    (lo3 : -9223372036854775808 ≤ a3) (hi3 : a3 ≤ 9223372036854775807) (lo4 : -9223372036854775808 ≤ a4) (hi4 : a4 ≤ 9223372036854775807) (hkl : keep.length ≤ 9223372036854775807) :
    Calls Try.prog 3 #[.agg #[.int .i64 m.1, .slice A m.2.length c], .slice Ad d.length cd, .slice Ak keep.length ck, .int .i64 a3, .int .i64 a4] w fun e w' => e = .returned (.bool true) ∧ Below w.heap.size w w' := by
  have HB := Lib.hid (Below.refl w.heap.size w)
  have F_m := Lib.hid hA
  have F_d := Lib.hid hD
  have F_k := Lib.hid hK
  obtain ⟨M0, hM0⟩ : ∃ M, fmtM a3 a4 = M := ⟨_, rfl⟩
  obtain ⟨E0, hE0⟩ : ∃ E, fmtE a3 a4 = E := ⟨_, rfl⟩
  have hMl := fmt_small a3 a4
  rw [hM0] at hMl
  have HM0 := Lib.hid hM0
  have HE0 := Lib.hid hE0
  have HML := Lib.hid hMl
  clear hA hD hK hM0 hE0 hMl
  go_enter Try.func3, Try.ntmps3
  go_wp2_with fail
  refine (head_any _).mono ?_
  rintro e V1 ⟨rfl, hb⟩
  have hB := bt hb (al1 w _)
  have K_f : Hid (Bk V1 (w.heap.size) 24 #[.int .i64 m.1, .slice A m.2.length c]) := Bk.next (by first | exact Bk.new _ _ _ | exact (Bk.new _ _ _).alloc _ | exact ((Bk.new _ _ _).alloc _).alloc _ | exact bkOf (by simp [at?_alloc])) hb
  replace F_m := Lib.hid (F_m.out.next hB)
  replace F_d := Lib.hid (F_d.out.next hB)
  replace F_k := Lib.hid (F_k.out.next hB)
  replace HB := Lib.hid (bt hB HB.out)
  clear hb hB
  obtain ⟨c_f0, c_f1⟩ := box2 K_f.out
  have l_f := K_f.out.lt
  go_wp2_with fail
  clear c_f0 c_f1 l_f
  refine (Format_lit M0 E0 a3 a4 _ HM0.out HE0.out lo3 hi3 lo4 hi4).mono ?_
  rintro e V2 ⟨A0, c0, rfl, hc0, r0, hb⟩
  have hB := hb
  replace F_m := Lib.hid (F_m.out.next hB)
  replace F_d := Lib.hid (F_d.out.next hB)
  replace F_k := Lib.hid (F_k.out.next hB)
  replace K_f := Lib.hid (K_f.out.next hB)
  replace HB := Lib.hid (bt hB HB.out)
  clear hb hB
  have F_0 := Lib.hid (r0)
  clear r0
  obtain ⟨c_f0, c_f1⟩ := box2 K_f.out
  have l_f := K_f.out.lt
  go_wp2_with fail
  clear c_f0 c_f1 l_f
  refine (rFormat_lit M0 E0 a3 a4 _ HM0.out HE0.out lo3 hi3 lo4 hi4).mono ?_
  rintro e V3 ⟨A1, c1, rfl, hc1, r1, hb⟩
  have hB := bt hb (al1 V2 _)
  have K_a : Hid (Bk V3 (V2.heap.size) 24 #[.int .i64 M0.1, .slice A0 M0.2.length c0]) := Bk.next (by first | exact Bk.new _ _ _ | exact (Bk.new _ _ _).alloc _ | exact ((Bk.new _ _ _).alloc _).alloc _ | exact bkOf (by simp [at?_alloc])) hb
  replace F_m := Lib.hid (F_m.out.next hB)
  replace F_d := Lib.hid (F_d.out.next hB)
  replace F_k := Lib.hid (F_k.out.next hB)
  replace F_0 := Lib.hid (F_0.out.next hB)
  replace K_f := Lib.hid (K_f.out.next hB)
  replace HB := Lib.hid (bt hB HB.out)
  clear hb hB
  have F_1 := Lib.hid (r1)
  clear r1
  obtain ⟨c_f0, c_f1⟩ := box2 K_f.out
  have l_f := K_f.out.lt
  obtain ⟨c_a0, c_a1⟩ := box2 K_a.out
  have l_a := K_a.out.lt
  go_wp2_with fail
  clear c_f0 c_f1 l_f
  clear c_a0 c_a1 l_a
  refine (Same_2 M0 A0 A1 c0 c1 _ HML.out (F_0.out.next (al1 _ _)) (F_1.out.next (al1 _ _))).mono ?_
  rintro e V4 ⟨rfl, hb⟩
  have hB := bt hb (al1 V3 _)
  have K_b : Hid (Bk V4 (V3.heap.size) 24 #[.int .i64 M0.1, .slice A1 M0.2.length c1]) := Bk.next (by first | exact Bk.new _ _ _ | exact (Bk.new _ _ _).alloc _ | exact ((Bk.new _ _ _).alloc _).alloc _ | exact bkOf (by simp [at?_alloc])) hb
  replace F_m := Lib.hid (F_m.out.next hB)
  replace F_d := Lib.hid (F_d.out.next hB)
  replace F_k := Lib.hid (F_k.out.next hB)
  replace F_0 := Lib.hid (F_0.out.next hB)
  replace F_1 := Lib.hid (F_1.out.next hB)
  replace K_f := Lib.hid (K_f.out.next hB)
  replace K_a := Lib.hid (K_a.out.next hB)
  replace HB := Lib.hid (bt hB HB.out)
  clear hb hB
  clear F_0
  clear F_1
  clear K_a
  clear K_b
  clear HML HM0 HE0
  by_cases hf : m.2.length ≤ 600 ∧ d.length ≤ 700
  · obtain ⟨c_f0, c_f1⟩ := box2 K_f.out
    have l_f := K_f.out.lt
    go_wp2_with fail
    clear c_f0 c_f1 l_f
    refine (few_l2 true m d A Ad c cd _ (decide_eq_true hf)).mono ?_
    rintro e V5 ⟨rfl, hb⟩
    have hB := hb
    replace F_m := Lib.hid (F_m.out.next hB)
    replace F_d := Lib.hid (F_d.out.next hB)
    replace F_k := Lib.hid (F_k.out.next hB)
    replace K_f := Lib.hid (K_f.out.next hB)
    replace HB := Lib.hid (bt hB HB.out)
    clear hb hB
    by_cases h40 : 40 < keep.length
    · have q40 : (40 : Int) < (keep.length : Int) := by omega
      obtain ⟨c_f0, c_f1⟩ := box2 K_f.out
      have l_f := K_f.out.lt
      go_wp2
      go_ret
      exact ⟨rfl, HB.out⟩
    · have q40 : ¬ (40 : Int) < (keep.length : Int) := by omega
      obtain ⟨rr, hrr⟩ : ∃ rr, 5 + room keep = rr := ⟨_, rfl⟩
      have hrb : rr ≤ 4000000000000000000 := by
        have h1 := room_max keep 140737488351232 hk2
        have h2 : keep.length * (7 + 140737488351232) ≤ 40 * (7 + 140737488351232) := Nat.mul_le_mul_right _ (by omega)
        omega
      have HRR := Lib.hid hrr
      clear hrr
      obtain ⟨c_f0, c_f1⟩ := box2 K_f.out
      have l_f := K_f.out.lt
      go_wp2_with fail
      clear c_f0 c_f1 l_f
      refine (Room_w keep rr HRR.out hrb Ak ck _ F_k.out (by omega)).mono ?_
      rintro e V6 ⟨rfl, hb⟩
      have hB := hb
      replace F_m := Lib.hid (F_m.out.next hB)
      replace F_d := Lib.hid (F_d.out.next hB)
      replace F_k := Lib.hid (F_k.out.next hB)
      replace K_f := Lib.hid (K_f.out.next hB)
      replace HB := Lib.hid (bt hB HB.out)
      clear hb hB
      by_cases hr : 1000 < rr
      · have qr : (1000 : Int) < (rr : Int) := by omega
        obtain ⟨c_f0, c_f1⟩ := box2 K_f.out
        have l_f := K_f.out.lt
        go_wp2
        go_ret
        exact ⟨rfl, HB.out⟩
      · have qr : ¬ (1000 : Int) < (rr : Int) := by omega
        have hrk : room keep ≤ 900000 := by have := HRR.out; omega
        have hk3 : ∀ d ∈ keep, d.length ≤ 9223372036854775807 := fun d hd => by have := hk2 d hd; omega
        have HKK := Lib.hid (⟨hrk, hk3⟩ : _ ∧ _)
        clear hrk hk3 hk2
        obtain ⟨n0, hn0⟩ : ∃ z, (lookC m).recs.length = z := ⟨_, rfl⟩
        have Hn0 := Lib.hid hn0
        clear hn0
        obtain ⟨g0, hg0⟩ : ∃ z, lookE m = z := ⟨_, rfl⟩
        have Hg0 := Lib.hid hg0
        clear hg0
        obtain ⟨n1, hn1⟩ : ∃ z, (appM m d).length = z := ⟨_, rfl⟩
        have Hn1 := Lib.hid hn1
        clear hn1
        obtain ⟨g1, hg1⟩ : ∃ z, appE m d = z := ⟨_, rfl⟩
        have Hg1 := Lib.hid hg1
        clear hg1
        obtain ⟨n2, hn2⟩ : ∃ z, (rewM m keep).length = z := ⟨_, rfl⟩
        have Hn2 := Lib.hid hn2
        clear hn2
        obtain ⟨g2, hg2⟩ : ∃ z, rewE m keep = z := ⟨_, rfl⟩
        have Hg2 := Lib.hid hg2
        clear hg2
        obtain ⟨c_f0, c_f1⟩ := box2 K_f.out
        have l_f := K_f.out.lt
        go_wp2_with fail
        clear c_f0 c_f1 l_f
        refine (Read_lit g0 n0 m.2.length m.1 m A c _ rfl Hg0.out Hn0.out rfl F_m.out hc).mono ?_
        rintro e V7 ⟨A1, c1, rfl, hc1, r1, hb⟩
        have hB := hb
        replace F_m := Lib.hid (F_m.out.next hB)
        replace F_d := Lib.hid (F_d.out.next hB)
        replace F_k := Lib.hid (F_k.out.next hB)
        replace K_f := Lib.hid (K_f.out.next hB)
        replace HB := Lib.hid (bt hB HB.out)
        clear hb hB
        have F_1 := Lib.hid (r1)
        clear r1
        obtain ⟨c_f0, c_f1⟩ := box2 K_f.out
        have l_f := K_f.out.lt
        go_wp2_with fail
        clear c_f0 c_f1 l_f
        refine (rRead_lit g0 n0 m A c _ Hg0.out Hn0.out F_m.out hc).mono ?_
        rintro e V8 ⟨A2, c2, rfl, hc2, r2, hb⟩
        have hB := hb
        replace F_m := Lib.hid (F_m.out.next hB)
        replace F_d := Lib.hid (F_d.out.next hB)
        replace F_k := Lib.hid (F_k.out.next hB)
        replace F_1 := Lib.hid (F_1.out.next hB)
        replace K_f := Lib.hid (K_f.out.next hB)
        replace HB := Lib.hid (bt hB HB.out)
        clear hb hB
        have F_2 := Lib.hid (r2)
        clear r2
        obtain ⟨c_f0, c_f1⟩ := box2 K_f.out
        have l_f := K_f.out.lt
        go_wp2_with fail
        clear c_f0 c_f1 l_f
        refine (Append_lit n1 g1 d.length m d A Ad c cd _ Hn1.out Hg1.out rfl F_m.out hc F_d.out hcd (by omega)).mono ?_
        rintro e V9 ⟨A3, c3, rfl, hc3, r3, hb⟩
        have hB := hb
        replace F_m := Lib.hid (F_m.out.next hB)
        replace F_d := Lib.hid (F_d.out.next hB)
        replace F_k := Lib.hid (F_k.out.next hB)
        replace F_1 := Lib.hid (F_1.out.next hB)
        replace F_2 := Lib.hid (F_2.out.next hB)
        replace K_f := Lib.hid (K_f.out.next hB)
        replace HB := Lib.hid (bt hB HB.out)
        clear hb hB
        have F_3 := Lib.hid (r3)
        clear r3
        obtain ⟨c_f0, c_f1⟩ := box2 K_f.out
        have l_f := K_f.out.lt
        go_wp2_with fail
        clear c_f0 c_f1 l_f
        refine (rAppend_lit n1 g1 m d A Ad c cd _ Hn1.out Hg1.out F_m.out hc F_d.out hcd (by omega)).mono ?_
        rintro e V10 ⟨A4, c4, rfl, hc4, r4, hb⟩
        have hB := hb
        replace F_m := Lib.hid (F_m.out.next hB)
        replace F_d := Lib.hid (F_d.out.next hB)
        replace F_k := Lib.hid (F_k.out.next hB)
        replace F_1 := Lib.hid (F_1.out.next hB)
        replace F_2 := Lib.hid (F_2.out.next hB)
        replace F_3 := Lib.hid (F_3.out.next hB)
        replace K_f := Lib.hid (K_f.out.next hB)
        replace HB := Lib.hid (bt hB HB.out)
        clear hb hB
        have F_4 := Lib.hid (r4)
        clear r4
        obtain ⟨c_f0, c_f1⟩ := box2 K_f.out
        have l_f := K_f.out.lt
        go_wp2_with fail
        clear c_f0 c_f1 l_f
        refine (Rewrite_lit n2 g2 keep.length m keep A Ak c ck _ Hn2.out Hg2.out rfl F_m.out hc F_k.out (by omega) HKK.out.2).mono ?_
        rintro e V11 ⟨A5, c5, rfl, hc5, r5, hb⟩
        have hB := hb
        replace F_m := Lib.hid (F_m.out.next hB)
        replace F_d := Lib.hid (F_d.out.next hB)
        replace F_k := Lib.hid (F_k.out.next hB)
        replace F_1 := Lib.hid (F_1.out.next hB)
        replace F_2 := Lib.hid (F_2.out.next hB)
        replace F_3 := Lib.hid (F_3.out.next hB)
        replace F_4 := Lib.hid (F_4.out.next hB)
        replace K_f := Lib.hid (K_f.out.next hB)
        replace HB := Lib.hid (bt hB HB.out)
        clear hb hB
        have F_5 := Lib.hid (r5)
        clear r5
        obtain ⟨c_f0, c_f1⟩ := box2 K_f.out
        have l_f := K_f.out.lt
        go_wp2_with fail
        clear c_f0 c_f1 l_f
        refine (rRewrite_lit n2 g2 m keep A Ak c ck _ Hn2.out Hg2.out F_m.out hc F_k.out HKK.out.1).mono ?_
        rintro e V12 ⟨A6, c6, rfl, hc6, r6, hb⟩
        have hB := hb
        replace F_m := Lib.hid (F_m.out.next hB)
        replace F_d := Lib.hid (F_d.out.next hB)
        replace F_k := Lib.hid (F_k.out.next hB)
        replace F_1 := Lib.hid (F_1.out.next hB)
        replace F_2 := Lib.hid (F_2.out.next hB)
        replace F_3 := Lib.hid (F_3.out.next hB)
        replace F_4 := Lib.hid (F_4.out.next hB)
        replace F_5 := Lib.hid (F_5.out.next hB)
        replace K_f := Lib.hid (K_f.out.next hB)
        replace HB := Lib.hid (bt hB HB.out)
        clear hb hB
        have F_6 := Lib.hid (r6)
        clear r6
        obtain ⟨c_f0, c_f1⟩ := box2 K_f.out
        have l_f := K_f.out.lt
        go_wp2_with fail
        clear c_f0 c_f1 l_f
        refine (SameR_2 (lookC m).recs n0 Hn0.out (look_small m) A1 A2 c1 c2 _ F_1.out F_2.out).mono ?_
        rintro e V13 ⟨rfl, hb⟩
        have hB := hb
        replace F_m := Lib.hid (F_m.out.next hB)
        replace F_d := Lib.hid (F_d.out.next hB)
        replace F_k := Lib.hid (F_k.out.next hB)
        replace F_1 := Lib.hid (F_1.out.next hB)
        replace F_2 := Lib.hid (F_2.out.next hB)
        replace F_3 := Lib.hid (F_3.out.next hB)
        replace F_4 := Lib.hid (F_4.out.next hB)
        replace F_5 := Lib.hid (F_5.out.next hB)
        replace F_6 := Lib.hid (F_6.out.next hB)
        replace K_f := Lib.hid (K_f.out.next hB)
        replace HB := Lib.hid (bt hB HB.out)
        clear hb hB
        obtain ⟨c_f0, c_f1⟩ := box2 K_f.out
        have l_f := K_f.out.lt
        go_wp2_with fail
        clear c_f0 c_f1 l_f
        refine (SameList_2 (appM m d) n1 Hn1.out (app_small m d) A3 A4 c3 c4 _ F_3.out F_4.out).mono ?_
        rintro e V14 ⟨rfl, hb⟩
        have hB := hb
        replace F_m := Lib.hid (F_m.out.next hB)
        replace F_d := Lib.hid (F_d.out.next hB)
        replace F_k := Lib.hid (F_k.out.next hB)
        replace F_1 := Lib.hid (F_1.out.next hB)
        replace F_2 := Lib.hid (F_2.out.next hB)
        replace F_3 := Lib.hid (F_3.out.next hB)
        replace F_4 := Lib.hid (F_4.out.next hB)
        replace F_5 := Lib.hid (F_5.out.next hB)
        replace F_6 := Lib.hid (F_6.out.next hB)
        replace K_f := Lib.hid (K_f.out.next hB)
        replace HB := Lib.hid (bt hB HB.out)
        clear hb hB
        obtain ⟨c_f0, c_f1⟩ := box2 K_f.out
        have l_f := K_f.out.lt
        go_wp2_with fail
        clear c_f0 c_f1 l_f
        refine (SameList_2 (rewM m keep) n2 Hn2.out (rew_small m keep) A5 A6 c5 c6 _ F_5.out F_6.out).mono ?_
        rintro e V15 ⟨rfl, hb⟩
        have hB := hb
        replace F_m := Lib.hid (F_m.out.next hB)
        replace F_d := Lib.hid (F_d.out.next hB)
        replace F_k := Lib.hid (F_k.out.next hB)
        replace F_1 := Lib.hid (F_1.out.next hB)
        replace F_2 := Lib.hid (F_2.out.next hB)
        replace F_3 := Lib.hid (F_3.out.next hB)
        replace F_4 := Lib.hid (F_4.out.next hB)
        replace F_5 := Lib.hid (F_5.out.next hB)
        replace F_6 := Lib.hid (F_6.out.next hB)
        replace K_f := Lib.hid (K_f.out.next hB)
        replace HB := Lib.hid (bt hB HB.out)
        clear hb hB
        obtain ⟨c_f0, c_f1⟩ := box2 K_f.out
        have l_f := K_f.out.lt
        go_wp2
        go_ret
        exact ⟨rfl, HB.out⟩
  · obtain ⟨c_f0, c_f1⟩ := box2 K_f.out
    have l_f := K_f.out.lt
    go_wp2_with fail
    clear c_f0 c_f1 l_f
    refine (few_l2 false m d A Ad c cd _ (decide_eq_false hf)).mono ?_
    rintro e V5 ⟨rfl, hb⟩
    have hB := hb
    replace F_m := Lib.hid (F_m.out.next hB)
    replace F_d := Lib.hid (F_d.out.next hB)
    replace F_k := Lib.hid (F_k.out.next hB)
    replace K_f := Lib.hid (K_f.out.next hB)
    replace HB := Lib.hid (bt hB HB.out)
    clear hb hB
    obtain ⟨c_f0, c_f1⟩ := box2 K_f.out
    have l_f := K_f.out.lt
    go_wp2
    go_ret
    exact ⟨rfl, HB.out⟩
end Go.Proofs.Ytpcklbmhblmjpaa
