/- The law JournalTorn, walked. -/
import Derived.Test.YtkeghidlolidmaaJW
import Derived.Test.YtkeghidlolidmaaJq
set_option maxRecDepth 100000
set_option linter.unusedVariables false
set_option linter.unusedSimpArgs false
namespace Go.Proofs.Ytkeghidlolidmaa
open Go.RowKit Go.Sort Go.Shelf

theorem few_lit (b : Bool) (m : Mem) (d : Rec) (A Ad : Option Addr) (c cd : Nat) (w : World) (h : decide (m.2.length ≤ 600 ∧ d.length ≤ 700) = b) :
    Calls Try.prog 13 #[.agg #[.int .i64 m.1, .slice A m.2.length c], .slice Ad d.length cd] w fun e w' => e = .returned (.bool b) ∧ Below w.heap.size w w' := by subst h; exact few_any m d A Ad c cd w
theorem Room_b (x : List Rec) (A1 : Option Addr) (c1 : Nat) (w : World) (h1 : RdBs w w.heap.size A1 x) (m1 : x.length ≤ 1000000) :
    Calls Try.prog 14 #[.slice A1 x.length c1] w fun e w' => ∃ r : Int, e = .returned (.int .i64 r) ∧ (room x ≤ 1000000 → r = 5 + (room x : Int)) ∧ Below w.heap.size w w' :=
  (Room_any x A1 c1 w h1 m1).mono fun e w' ⟨r, h1, h2, h3⟩ => ⟨r, h1, h2, by rw [h3]; exact Below.refl _ _⟩
theorem torn_lit (nl nb na : Nat) (l : List Mem) (before after : List Rec) (Al Ab Aa : Option Addr) (cl cb ca : Nat) (w : World) (h1 : l.length = nl) (h2 : before.length = nb) (h3 : after.length = na) (hl : RdFs w w.heap.size Al l) (hB : RdBs w w.heap.size Ab before) (hA : RdBs w w.heap.size Aa after) (hll : l.length ≤ 1000000) (h0 : 0 < l.length)
    (m1 : before.length ≤ 1000000000) (n1 : ∀ d ∈ before, d.length ≤ 1000000000) (m2 : after.length ≤ 1000000000) (n2 : ∀ d ∈ after, d.length ≤ 1000000000)
    (hall : ∀ x ∈ l, hldB x before = true ∨ hldB x after = true) (hlast : ∀ k (h : k < l.length), k + 1 = l.length → hldB l[k] after = true) :
    Calls Try.prog 23 #[.slice Al nl cl, .slice Ab nb cb, .slice Aa na ca] w fun e w' => e = .returned (.bool true) ∧ Below w.heap.size w w' := by
  subst h1; subst h2; subst h3; exact torn_any l before after Al Ab Aa cl cb ca w hl hB hA hll h0 m1 n1 m2 n2 hall hlast
theorem with_lit (n : Nat) (l : List Rec) (d : Rec) (Al Ad : Option Addr) (cl cd : Nat) (w : World) (hn : l.length = n) (hl : RdBs w w.heap.size Al l) (hd : RdB w w.heap.size Ad d) (hcd : d.length ≤ cd) (hll : l.length ≤ 1000000) :
    Calls Try.prog 24 #[.slice Al n cl, .slice Ad d.length cd] w fun e w' => ∃ A c, e = .returned (.slice A (n + 1) c) ∧ n + 1 ≤ c ∧ RdBs w' w'.heap.size A (l ++ [d]) ∧ Below w.heap.size w w' := by
  subst hn; exact with_any l d Al Ad cl cd w hl hd hcd hll

set_option maxHeartbeats 1000000 in
theorem JournalTorn_walk (m : Mem) (d : Rec) (keep : List Rec) (A Ad Ak : Option Addr) (c cd ck : Nat) (w : World) (hA : RdB w w.heap.size A m.2) (hc : m.2.length ≤ c) (hD : RdB w w.heap.size Ad d) (hcd : d.length ≤ cd) (hK : RdBs w w.heap.size Ak keep) (hk2 : ∀ d ∈ keep, d.length ≤ 9223372036854775807) (hkl : keep.length ≤ 9223372036854775807) :
    Calls Try.prog 4 #[.agg #[.int .i64 m.1, .slice A m.2.length c], .slice Ad d.length cd, .slice Ak keep.length ck] w fun e w' => e = .returned (.bool true) ∧ Below w.heap.size w w' := by
  have HB := Lib.hid (Below.refl w.heap.size w)
  have F_m := Lib.hid hA
  have F_d := Lib.hid hD
  have F_k := Lib.hid hK
  clear hA hD hK
  go_enter Try.func4, Try.ntmps4
  go_wp2_with fail
  refine (head_any _).mono ?_
  rintro e V1 ⟨rfl, hb⟩
  have hB := bt hb (al1 w _)
  have K_f : Hid (Bk V1 (w.heap.size) 24 #[.int .i64 m.1, .slice A m.2.length c]) := Bk.next (by first | exact Bk.new _ _ _ | exact (Bk.new _ _ _).alloc _ | exact ((Bk.new _ _ _).alloc _).alloc _ | exact bkOf (by simp [at?_alloc])) hb
  replace F_m := Lib.hid (F_m.out.next hB)
  replace F_d := Lib.hid (F_d.out.next hB)
  replace F_k := Lib.hid (F_k.out.next hB)
  replace HB := Lib.hid (bt hB HB.out)
  clear hb hB
  by_cases hf : m.2.length ≤ 600 ∧ d.length ≤ 700
  · obtain ⟨c_f0, c_f1⟩ := box2 K_f.out
    have l_f := K_f.out.lt
    go_wp2_with fail
    clear c_f0 c_f1 l_f
    refine (few_lit true m d A Ad c cd _ (decide_eq_true hf)).mono ?_
    rintro e V2 ⟨rfl, hb⟩
    have hB := hb
    replace F_m := Lib.hid (F_m.out.next hB)
    replace F_d := Lib.hid (F_d.out.next hB)
    replace F_k := Lib.hid (F_k.out.next hB)
    replace K_f := Lib.hid (K_f.out.next hB)
    replace HB := Lib.hid (bt hB HB.out)
    clear hb hB
    by_cases h40 : 40 < keep.length
    · have q40 : (40 : Int) < (keep.length : Int) := by omega
      obtain ⟨c_f0, c_f1⟩ := box2 K_f.out
      have l_f := K_f.out.lt
      go_wp2
      go_ret
      exact ⟨rfl, HB.out⟩
    · have q40 : ¬ (40 : Int) < (keep.length : Int) := by omega
      obtain ⟨c_f0, c_f1⟩ := box2 K_f.out
      have l_f := K_f.out.lt
      go_wp2_with fail
      clear c_f0 c_f1 l_f
      refine (Room_b keep Ak ck _ F_k.out (by omega)).mono ?_
      rintro e V3 ⟨rr, rfl, hrr, hb⟩
      have hB := hb
      replace F_m := Lib.hid (F_m.out.next hB)
      replace F_d := Lib.hid (F_d.out.next hB)
      replace F_k := Lib.hid (F_k.out.next hB)
      replace K_f := Lib.hid (K_f.out.next hB)
      replace HB := Lib.hid (bt hB HB.out)
      clear hb hB
      by_cases hr : (1000 : Int) < rr
      · have qr : (1000 : Int) < rr := hr
        obtain ⟨c_f0, c_f1⟩ := box2 K_f.out
        have l_f := K_f.out.lt
        go_wp2
        go_ret
        exact ⟨rfl, HB.out⟩
      · by_cases h0 : lookE m = 0
        · have qr : ¬ (1000 : Int) < rr := hr
          clear hr
          obtain ⟨n0, hn0⟩ : ∃ n0, (lookC m).recs.length = n0 := ⟨_, rfl⟩
          obtain ⟨n1, hn1⟩ : ∃ n1, (appM m d).length = n1 := ⟨_, rfl⟩
          obtain ⟨n2, hn2⟩ : ∃ n2, (rewM m keep).length = n2 := ⟨_, rfl⟩
          obtain ⟨g1, hg1⟩ : ∃ g1, appE m d = g1 := ⟨_, rfl⟩
          obtain ⟨g2, hg2⟩ : ∃ g2, rewE m keep = g2 := ⟨_, rfl⟩
          have hsm := recs_small h0
          have HN0 := Lib.hid hn0
          have HN1 := Lib.hid hn1
          have HN2 := Lib.hid hn2
          have HG1 := Lib.hid hg1
          have HG2 := Lib.hid hg2
          have HSM := Lib.hid hsm
          clear hn0 hn1 hn2 hg1 hg2 hsm
          obtain ⟨c_f0, c_f1⟩ := box2 K_f.out
          have l_f := K_f.out.lt
          go_wp2_with fail
          clear c_f0 c_f1 l_f
          refine (Read_lit 0 n0 m.2.length m.1 m A c _ rfl h0 HN0.out rfl F_m.out hc).mono ?_
          rintro e V4 ⟨A1, c1, rfl, hc1, r1, hb⟩
          have hB := hb
          replace F_m := Lib.hid (F_m.out.next hB)
          replace F_d := Lib.hid (F_d.out.next hB)
          replace F_k := Lib.hid (F_k.out.next hB)
          replace K_f := Lib.hid (K_f.out.next hB)
          replace HB := Lib.hid (bt hB HB.out)
          clear hb hB
          have F_1 := Lib.hid (r1)
          clear r1
          obtain ⟨c_f0, c_f1⟩ := box2 K_f.out
          have l_f := K_f.out.lt
          go_wp2_with fail
          clear c_f0 c_f1 l_f
          refine (Append_lit n1 g1 d.length m d A Ad c cd _ HN1.out HG1.out rfl F_m.out hc F_d.out hcd (by omega)).mono ?_
          rintro e V5 ⟨A2, c2, rfl, hc2, r2, hb⟩
          have hB := hb
          replace F_m := Lib.hid (F_m.out.next hB)
          replace F_d := Lib.hid (F_d.out.next hB)
          replace F_k := Lib.hid (F_k.out.next hB)
          replace F_1 := Lib.hid (F_1.out.next hB)
          replace K_f := Lib.hid (K_f.out.next hB)
          replace HB := Lib.hid (bt hB HB.out)
          clear hb hB
          have F_2 := Lib.hid (r2)
          clear r2
          obtain ⟨c_f0, c_f1⟩ := box2 K_f.out
          have l_f := K_f.out.lt
          go_wp2_with fail
          clear c_f0 c_f1 l_f
          refine (Rewrite_lit n2 g2 keep.length m keep A Ak c ck _ HN2.out HG2.out rfl F_m.out hc F_k.out (by omega) hk2).mono ?_
          rintro e V6 ⟨A3, c3, rfl, hc3, r3, hb⟩
          have hB := hb
          replace F_m := Lib.hid (F_m.out.next hB)
          replace F_d := Lib.hid (F_d.out.next hB)
          replace F_k := Lib.hid (F_k.out.next hB)
          replace F_1 := Lib.hid (F_1.out.next hB)
          replace F_2 := Lib.hid (F_2.out.next hB)
          replace K_f := Lib.hid (K_f.out.next hB)
          replace HB := Lib.hid (bt hB HB.out)
          clear hb hB
          have F_3 := Lib.hid (r3)
          clear r3
          by_cases h1 : g1 = 0
          · have z1 : (g1 == 0) = true := by simp [h1]
            obtain ⟨F1, zz1, hS1⟩ := app_steps h0 d (by rw [HG1.out]; exact h1)
            have hsz1 := steps_size hS1
            have hl1 : Hid (n1 = (appL m d).length) := by show _ = _; rw [← HN1.out]; unfold appM; simp
            have HH1 := Lib.hid (steps_holds hS1)
            have HL1 := Lib.hid (steps_last hS1)
            clear hS1
            obtain ⟨c_f0, c_f1⟩ := box2 K_f.out
            have l_f := K_f.out.lt
            go_wp2_with fail
            clear c_f0 c_f1 l_f
            refine (with_lit n0 (lookC m).recs d A1 Ad c1 cd _ HN0.out F_1.out F_d.out hcd (by have := HSM.out.1; omega)).mono ?_
            rintro e V7 ⟨A4, c4, rfl, hc4, r4, hb⟩
            have hB := hb
            replace F_m := Lib.hid (F_m.out.next hB)
            replace F_d := Lib.hid (F_d.out.next hB)
            replace F_k := Lib.hid (F_k.out.next hB)
            replace F_1 := Lib.hid (F_1.out.next hB)
            replace F_2 := Lib.hid (F_2.out.next hB)
            replace F_3 := Lib.hid (F_3.out.next hB)
            replace K_f := Lib.hid (K_f.out.next hB)
            replace HB := Lib.hid (bt hB HB.out)
            clear hb hB
            have F_4 := Lib.hid (r4)
            clear r4
            obtain ⟨c_f0, c_f1⟩ := box2 K_f.out
            have l_f := K_f.out.lt
            go_wp2_with fail
            clear c_f0 c_f1 l_f
            refine (torn_lit n1 n0 (n0 + 1) (appM m d) (lookC m).recs ((lookC m).recs ++ [d]) A2 A1 A4 c2 c1 c4 _ HN1.out HN0.out (by rw [List.length_append, HN0.out]; rfl) F_2.out F_1.out F_4.out (by rw [HN1.out, hl1.out]; exact hsz1.2) (by rw [HN1.out, hl1.out]; exact hsz1.1) (by have := HSM.out.1; omega) (fun x hx => by have := HSM.out.2 x hx; omega) (by have := HSM.out.1; rw [List.length_append]; simp; omega) (by intro x hx; rcases List.mem_append.1 hx with hx | hx; (have := HSM.out.2 x hx; omega); (obtain rfl : x = d := by simpa using hx); omega) HH1.out HL1.out).mono ?_
            rintro e V8 ⟨rfl, hb⟩
            have hB := hb
            replace F_m := Lib.hid (F_m.out.next hB)
            replace F_d := Lib.hid (F_d.out.next hB)
            replace F_k := Lib.hid (F_k.out.next hB)
            replace F_1 := Lib.hid (F_1.out.next hB)
            replace F_2 := Lib.hid (F_2.out.next hB)
            replace F_3 := Lib.hid (F_3.out.next hB)
            replace F_4 := Lib.hid (F_4.out.next hB)
            replace K_f := Lib.hid (K_f.out.next hB)
            replace HB := Lib.hid (bt hB HB.out)
            clear hb hB
            clear z1
            by_cases h2 : g2 = 0
            · have z2 : (g2 == 0) = true := by simp [h2]
              obtain ⟨hrf, _, F2, zz2, hS2, _⟩ := rew_steps h0 keep (by rw [HG2.out]; exact h2)
              have hks := keep_small h0 hrf
              have hsz2 := steps_size hS2
              have hl2 : Hid (n2 = (rewL m keep).length) := by show _ = _; rw [← HN2.out]; unfold rewM; simp
              have HH2 := Lib.hid (steps_holds hS2)
              have HL2 := Lib.hid (steps_last hS2)
              clear hS2 hrf
              obtain ⟨c_f0, c_f1⟩ := box2 K_f.out
              have l_f := K_f.out.lt
              go_wp2_with fail
              clear c_f0 c_f1 l_f
              refine (torn_lit n2 n0 keep.length (rewM m keep) (lookC m).recs keep A3 A1 Ak c3 c1 ck _ HN2.out HN0.out rfl F_3.out F_1.out F_k.out (by rw [HN2.out, hl2.out]; exact hsz2.2) (by rw [HN2.out, hl2.out]; exact hsz2.1) (by have := HSM.out.1; omega) (fun x hx => by have := HSM.out.2 x hx; omega) (by omega) (fun x hx => by have := hks.2 x hx; omega) HH2.out HL2.out).mono ?_
              rintro e V9 ⟨rfl, hb⟩
              have hB := hb
              replace F_m := Lib.hid (F_m.out.next hB)
              replace F_d := Lib.hid (F_d.out.next hB)
              replace F_k := Lib.hid (F_k.out.next hB)
              replace F_1 := Lib.hid (F_1.out.next hB)
              replace F_2 := Lib.hid (F_2.out.next hB)
              replace F_3 := Lib.hid (F_3.out.next hB)
              replace F_4 := Lib.hid (F_4.out.next hB)
              replace K_f := Lib.hid (K_f.out.next hB)
              replace HB := Lib.hid (bt hB HB.out)
              clear hb hB
              obtain ⟨c_f0, c_f1⟩ := box2 K_f.out
              have l_f := K_f.out.lt
              go_wp2
              go_ret
              exact ⟨rfl, HB.out⟩
            · have z2 : (g2 == 0) = false := by simp [h2]
              obtain ⟨c_f0, c_f1⟩ := box2 K_f.out
              have l_f := K_f.out.lt
              go_wp2
              go_ret
              exact ⟨rfl, HB.out⟩
          · have z1 : (g1 == 0) = false := by simp [h1]
            by_cases h2 : g2 = 0
            · have z2 : (g2 == 0) = true := by simp [h2]
              obtain ⟨hrf, _, F2, zz2, hS2, _⟩ := rew_steps h0 keep (by rw [HG2.out]; exact h2)
              have hks := keep_small h0 hrf
              have hsz2 := steps_size hS2
              have hl2 : Hid (n2 = (rewL m keep).length) := by show _ = _; rw [← HN2.out]; unfold rewM; simp
              have HH2 := Lib.hid (steps_holds hS2)
              have HL2 := Lib.hid (steps_last hS2)
              clear hS2 hrf
              obtain ⟨c_f0, c_f1⟩ := box2 K_f.out
              have l_f := K_f.out.lt
              go_wp2_with fail
              clear c_f0 c_f1 l_f
              refine (torn_lit n2 n0 keep.length (rewM m keep) (lookC m).recs keep A3 A1 Ak c3 c1 ck _ HN2.out HN0.out rfl F_3.out F_1.out F_k.out (by rw [HN2.out, hl2.out]; exact hsz2.2) (by rw [HN2.out, hl2.out]; exact hsz2.1) (by have := HSM.out.1; omega) (fun x hx => by have := HSM.out.2 x hx; omega) (by omega) (fun x hx => by have := hks.2 x hx; omega) HH2.out HL2.out).mono ?_
              rintro e V7 ⟨rfl, hb⟩
              have hB := hb
              replace F_m := Lib.hid (F_m.out.next hB)
              replace F_d := Lib.hid (F_d.out.next hB)
              replace F_k := Lib.hid (F_k.out.next hB)
              replace F_1 := Lib.hid (F_1.out.next hB)
              replace F_2 := Lib.hid (F_2.out.next hB)
              replace F_3 := Lib.hid (F_3.out.next hB)
              replace K_f := Lib.hid (K_f.out.next hB)
              replace HB := Lib.hid (bt hB HB.out)
              clear hb hB
              obtain ⟨c_f0, c_f1⟩ := box2 K_f.out
              have l_f := K_f.out.lt
              go_wp2
              go_ret
              exact ⟨rfl, HB.out⟩
            · have z2 : (g2 == 0) = false := by simp [h2]
              obtain ⟨c_f0, c_f1⟩ := box2 K_f.out
              have l_f := K_f.out.lt
              go_wp2
              go_ret
              exact ⟨rfl, HB.out⟩
        · have qr : ¬ (1000 : Int) < rr := hr
          clear hr
          obtain ⟨e1, e2, e3, e4⟩ := bad_all h0 d keep
          have hN : (lookC m).recs.length = 0 := by rw [lookC_bad h0]; rfl
          have hN1 : (appM m d).length = 0 := by unfold appM; rw [e2]; rfl
          have hN2 : (rewM m keep).length = 0 := by unfold rewM; rw [e4]; rfl
          obtain ⟨er, her⟩ : ∃ er, er = lookE m := ⟨_, rfl⟩
          have z0 : (er != 0) = true := by rw [her]; simp [h0]
          have HE1 : Hid (appE m d = er) := by rw [her]; exact e1
          have HE2 : Hid (rewE m keep = er) := by rw [her]; exact e3
          have HER : Hid (lookE m = er) := her.symm
          clear e1 e2 e3 e4 her
          obtain ⟨c_f0, c_f1⟩ := box2 K_f.out
          have l_f := K_f.out.lt
          go_wp2_with fail
          clear c_f0 c_f1 l_f
          refine (Read_lit er 0 m.2.length m.1 m A c _ rfl HER.out hN rfl F_m.out hc).mono ?_
          rintro e V4 ⟨A1, c1, rfl, hc1, r1, hb⟩
          have hB := hb
          replace F_m := Lib.hid (F_m.out.next hB)
          replace F_d := Lib.hid (F_d.out.next hB)
          replace F_k := Lib.hid (F_k.out.next hB)
          replace K_f := Lib.hid (K_f.out.next hB)
          replace HB := Lib.hid (bt hB HB.out)
          clear hb hB
          clear r1
          obtain ⟨c_f0, c_f1⟩ := box2 K_f.out
          have l_f := K_f.out.lt
          go_wp2_with fail
          clear c_f0 c_f1 l_f
          refine (Append_lit 0 er d.length m d A Ad c cd _ hN1 HE1.out rfl F_m.out hc F_d.out hcd (by omega)).mono ?_
          rintro e V5 ⟨A2, c2, rfl, hc2, r2, hb⟩
          have hB := hb
          replace F_m := Lib.hid (F_m.out.next hB)
          replace F_d := Lib.hid (F_d.out.next hB)
          replace F_k := Lib.hid (F_k.out.next hB)
          replace K_f := Lib.hid (K_f.out.next hB)
          replace HB := Lib.hid (bt hB HB.out)
          clear hb hB
          clear r2
          obtain ⟨c_f0, c_f1⟩ := box2 K_f.out
          have l_f := K_f.out.lt
          go_wp2_with fail
          clear c_f0 c_f1 l_f
          refine (Rewrite_lit 0 er keep.length m keep A Ak c ck _ hN2 HE2.out rfl F_m.out hc F_k.out (by omega) hk2).mono ?_
          rintro e V6 ⟨A3, c3, rfl, hc3, r3, hb⟩
          have hB := hb
          replace F_m := Lib.hid (F_m.out.next hB)
          replace F_d := Lib.hid (F_d.out.next hB)
          replace F_k := Lib.hid (F_k.out.next hB)
          replace K_f := Lib.hid (K_f.out.next hB)
          replace HB := Lib.hid (bt hB HB.out)
          clear hb hB
          clear r3
          obtain ⟨c_f0, c_f1⟩ := box2 K_f.out
          have l_f := K_f.out.lt
          go_wp2
          go_ret
          exact ⟨rfl, HB.out⟩
  · obtain ⟨c_f0, c_f1⟩ := box2 K_f.out
    have l_f := K_f.out.lt
    go_wp2_with fail
    clear c_f0 c_f1 l_f
    refine (few_lit false m d A Ad c cd _ (decide_eq_false hf)).mono ?_
    rintro e V2 ⟨rfl, hb⟩
    have hB := hb
    replace F_m := Lib.hid (F_m.out.next hB)
    replace F_d := Lib.hid (F_d.out.next hB)
    replace F_k := Lib.hid (F_k.out.next hB)
    replace K_f := Lib.hid (K_f.out.next hB)
    replace HB := Lib.hid (bt hB HB.out)
    clear hb hB
    obtain ⟨c_f0, c_f1⟩ := box2 K_f.out
    have l_f := K_f.out.lt
    go_wp2
    go_ret
    exact ⟨rfl, HB.out⟩
end Go.Proofs.Ytkeghidlolidmaa
