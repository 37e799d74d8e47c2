/- match: Match. -/
import Derived.Test.YthmipmdpdfdlaaaDoorTh
set_option maxRecDepth 100000
set_option linter.unusedVariables false
set_option linter.unusedSimpArgs false
namespace Go.Proofs.YthmipmdpdfdlaaaDoor
open Go.RowKit

def tN : Nat → Nat
  | 0 => 1
  | n + 1 => 9 * tN n + 1
theorem least_any (s : Sx) (hs : s.Ok) : ∀ (n a u N : Nat) (D : DataW Value) (w : World), a ≤ s.es.length → s.es.length ≤ a + n → u < 256 → s.Env w → s.Kn w N D → N + tN n ≤ 1000000000 →
    Calls Tryd.prog 14 #[.agg #[.int .i64 (a : Int), .int .i64 (u : Int)], .pointer (some ⟨s.k1, 0, none⟩), .pointer (some ⟨s.k2, 0, none⟩), .pointer (some ⟨s.k3, 0, none⟩), .pointer (some ⟨s.k4, 0, none⟩)] w (s.LP a u N (tN n) w)
  | 0, a, u, N, D, w, ha, hn, hu, hE, hK, hN => least_step s hs 0 a u N D w ha hu hE hK hN (fun h => by omega)
  | n + 1, a, u, N, D, w, ha, hn, hu, hE, hK, hN => least_step s hs (tN n) a u N D w ha hu hE hK hN (fun h u' N' D' w' hu' hE' hK' hN' => by
      have := least_any s hs n (a + 1) u' N' D' w' (by omega) (by omega) hu' hE' hK' hN'
      rwa [show (((a + 1 : Nat)) : Int) = (a : Int) + 1 from by push_cast; rfl] at this)
theorem tN8 : ∀ n, n ≤ 8 → tN n ≤ 100000000 := by decide
def MatchP (es xs : List Pas) (w : World) (e : Ending) (w' : World) : Prop :=
  ∃ A c l n, e = .returned (.tuple #[.slice A l.length c, .int .i64 n, .int .i64 0]) ∧ l.length ≤ c ∧ RdQ w' w'.heap.size A l ∧ BP es xs 0 (fun _ => false) l n ∧ Below w.heap.size w w'
set_option maxHeartbeats 4000000 in
theorem Match_yes (es xs : List Pas) (Ae Ax : Option Addr) (ce cx : Nat) (w : World) (he : mvB es = true) (hx : mvB xs = true) (hse : ∀ p ∈ es, p.1.size ≤ 9223372036854775807) (hsx : ∀ p ∈ xs, p.1.size ≤ 9223372036854775807)
    (hA : RdP w w.heap.size Ae es) (hX : RdP w w.heap.size Ax xs) (hC : Cf w) :
    Calls Tryd.prog 10 #[.slice Ae es.length ce, .slice Ax xs.length cx] w (MatchP es xs w) := by
  have e8 : es.length ≤ 8 := by
    rw [mvB, Bool.and_eq_true, decide_eq_true_iff] at he; exact he.1
  have x8 : xs.length ≤ 8 := by
    rw [mvB, Bool.and_eq_true, decide_eq_true_iff] at hx; exact hx.1
  have HVE := Lib.hid he
  have HVX := Lib.hid hx
  have HSE := Lib.hid hse
  have HSX := Lib.hid hsx
  have HA := Lib.hid hA
  have HX := Lib.hid hX
  have HC := Lib.hid hC
  clear he hx hse hsx hA hX hC
  have hmm := @run_makeMap Tryd.prog
  have hstf := fun (W : World) (a : Addr) (g : Fn) (cs : Array Value) => run_store Tryd.prog W a (.func g #[] cs) .plain rfl
  go_enter Tryd.func10, Tryd.ntmps10
  go_wp2_with fail
  obtain ⟨B, hB⟩ : ∃ B, B = w.heap.size := ⟨_, rfl⟩
  obtain ⟨U, hU⟩ : ∃ Zz, Zz = (w.alloc (.cells #[.slice Ae es.length ce] 24)).alloc (.cells #[.slice Ax xs.length cx] 24) := ⟨_, rfl⟩
  have hUb : Below w.heap.size w U := by rw [hU]; exact al2 _ _ _
  have k2 : Bk U B 24 #[.slice Ae es.length ce] := by rw [hU, hB]; exact (Bk.new _ _ _).alloc _
  have k3 : Bk U (B + 1) 24 #[.slice Ax xs.length cx] := by
    rw [hU, hB]
    have := Bk.new (w.alloc (.cells #[.slice Ae es.length ce] 24)) 24 #[.slice Ax xs.length cx]
    simpa using this
  rw [← hU]
  try rw [← hB]
  have HK2 := Lib.hid k2
  have HK3 := Lib.hid k3
  have HUB := Lib.hid hUb
  have HBS := Lib.hid hB
  clear hU hUb hB k2 k3
  refine (mvalid_any es Ae ce _ (HA.out.next HUB.out) HSE.out (by omega)).mono ?_
  rintro e W1 ⟨rfl, hb1⟩
  rw [HVE.out]
  have x0 := box1 (HK3.out.next hb1)
  have l3 := (HK3.out.next hb1).lt
  have HB1 := Lib.hid hb1
  clear hb1
  go_wp2_with fail
  refine (mvalid_any xs Ax cx _ ((HX.out.next HUB.out).next HB1.out) HSX.out (by omega)).mono ?_
  rintro e W2 ⟨rfl, hb2⟩
  rw [HVX.out]
  have HB2 := Lib.hid (bt hb2 HB1.out)
  clear hb2 x0 l3 HB1
  go_wp2_with fail
  obtain ⟨M, hM⟩ : ∃ M, M = W2.heap.size := ⟨_, rfl⟩
  rw [← hM]
  obtain ⟨V, hV⟩ : ∃ Zz, Zz = ((W2.alloc (.map #[] 0)).alloc (.cells #[.map (some M)] 51)).alloc (.cells #[.func (.func 14) #[] #[.pointer (some ⟨M + 1, 0, none⟩), .pointer (some ⟨B, 0, none⟩), .pointer (some ⟨B + 1, 0, none⟩), .pointer (some ⟨M + 1 + 1, 0, none⟩)]] 52) := ⟨_, rfl⟩
  have hb3 : Below W2.heap.size W2 V := by rw [hV]; exact al3 _ _ _ _
  have k1 : Bk V (M + 1) 51 #[.map (some M)] := by
    rw [hV, hM]
    have := (Bk.new (W2.alloc (.map #[] 0)) 51 #[.map (some W2.heap.size)]).alloc (.cells #[.func (.func 14) #[] #[.pointer (some ⟨W2.heap.size + 1, 0, none⟩), .pointer (some ⟨B, 0, none⟩), .pointer (some ⟨B + 1, 0, none⟩), .pointer (some ⟨W2.heap.size + 1 + 1, 0, none⟩)]] 52)
    simpa using this
  have k4 : Bk V (M + 1 + 1) 52 #[.func (.func 14) #[] #[.pointer (some ⟨M + 1, 0, none⟩), .pointer (some ⟨B, 0, none⟩), .pointer (some ⟨B + 1, 0, none⟩), .pointer (some ⟨M + 1 + 1, 0, none⟩)]] := by
    rw [hV, hM]
    have := Bk.new ((W2.alloc (.map #[] 0)).alloc (.cells #[.map (some W2.heap.size)] 51)) 52 #[.func (.func 14) #[] #[.pointer (some ⟨W2.heap.size + 1, 0, none⟩), .pointer (some ⟨B, 0, none⟩), .pointer (some ⟨B + 1, 0, none⟩), .pointer (some ⟨W2.heap.size + 1 + 1, 0, none⟩)]]
    simpa using this
  have ho : V.ownsMap Tryd.prog 54 Rv M 0 (.map []) := by
    rw [hV, hM]; exact ((World.ownsMap_made W2 Tryd.prog 54 Rv).alloc _).alloc _
  rw [← hV]
  have hWB := bt hb3 (bt HB2.out HUB.out)
  have hEnv : Sx.Env ⟨es, xs, Ae, Ax, ce, cx, M, M + 1, B, B + 1, M + 1 + 1⟩ V := ⟨k1, (HK2.out.next HB2.out).next hb3, (HK3.out.next HB2.out).next hb3, k4, HA.out.next hWB, HX.out.next hWB, HC.out.next hWB⟩
  have hKn : Sx.Kn ⟨es, xs, Ae, Ax, ce, cx, M, M + 1, B, B + 1, M + 1 + 1⟩ V 0 (.map []) := ⟨ho, fun a u _ _ hh => by simp [Maps.has] at hh⟩
  have HMW : Hid (w.heap.size ≤ M) := by show _ ≤ _; rw [hM]; have h1 := HB2.out.size; have h2 := HUB.out.size; omega
  have HWB := Lib.hid hWB
  have hlt := tN8 es.length e8
  clear hV hb3 k1 k4 ho hM hWB hmm hstf
  refine (least_any ⟨es, xs, Ae, Ax, ce, cx, M, M + 1, B, B + 1, M + 1 + 1⟩ ⟨e8, x8, HSE.out, HSX.out⟩ es.length 0 0 0 (.map []) V (Nat.zero_le _) (by simp) (by omega) hEnv hKn (by omega)).mono ?_
  rintro e W3 ⟨A, c, l, n, N', D', rfl, hc, hr, hbp, hE, hK, hN, hg⟩
  rw [bits_zero] at hbp
  have hbd := bp_bd e8 x8 (Nat.zero_le _) hbp
  have hl8 := hbd.1
  have HBP := Lib.hid hbp
  have HR := Lib.hid hr
  have HW3 : Hid (Below w.heap.size w W3) := HWB.out.grown hg HWB.out.size (fun k hk => by cases hk; exact HMW.out)
  clear hEnv hKn hbp hr hE hK hN hg hc hbd hlt HWB HMW HB2 HUB HBS HK2 HK3 HA HX HC
  go_wp2_with fail
  obtain ⟨P9, hP⟩ : ∃ P9, P9 = W3.heap.size := ⟨_, rfl⟩
  obtain ⟨W4, hW4⟩ : ∃ Zz, Zz = (W3.alloc (.cells #[.slice A l.length c, .int .i64 n] 56)).drew := ⟨_, rfl⟩
  have hb4 : Below W3.heap.size W3 W4 := by rw [hW4]; exact (al1 _ _).drew
  have k9 : Bk W4 P9 56 #[.slice A l.length c, .int .i64 n] := by rw [hW4, hP]; exact (Bk.new _ _ _).drew
  have HK9 := Lib.hid k9
  have HB4 := Lib.hid hb4
  have HS9 : Hid (∀ W, Below W4.heap.size W4 W → W.cell? ⟨P9, 0, none⟩ = some (.slice A l.length c) ∧ W.cell? ⟨P9, 1, none⟩ = some (.int .i64 n)) := fun W hW => box2 (HK9.out.next hW)
  refine region_S (fun w' => w'.cell? ⟨P9, 0, none⟩ = some (.slice A l.length c) ∧ w'.cell? ⟨P9, 1, none⟩ = some (.int .i64 n)) 7 (by kernel_rfl) ?_
  rw [← hW4]
  try rw [← hP]
  have HS0 := HS9.out W4 (Below.refl _ _)
  clear hW4 hP hb4 k9
  refine anyS_take (i := 0) rfl (by kernel_rfl) (by kernel_rfl) (by kernel_rfl) (by kernel_rfl) (fun _ _ _ h => h) (Or.inl ⟨by rfl, fun w' hS' => (by obtain ⟨s1, s2⟩ := hS'; go_simp; try with_reducible rfl)⟩) HS0 ?_
  refine anyS_take (i := 1) rfl (by kernel_rfl) (by kernel_rfl) (by kernel_rfl) (by kernel_rfl) (fun _ _ _ h => h) (Or.inl ⟨by rfl, fun w' hS' => (by obtain ⟨s1, s2⟩ := hS'; go_simp; try with_reducible rfl)⟩) HS0 ?_
  refine anyS_take (i := 3) rfl (by kernel_rfl) (by kernel_rfl) (by kernel_rfl) (by kernel_rfl) (fun _ _ _ h => h) (Or.inl ⟨by rfl, fun w' hS' => (by obtain ⟨s1, s2⟩ := hS'; go_simp; try with_reducible rfl)⟩) HS0 ?_
  refine anyS_take (i := 4) rfl (by kernel_rfl) (by kernel_rfl) (by kernel_rfl) (by kernel_rfl) (fun _ _ _ h => h) (Or.inl ⟨by rfl, fun w' hS' => (by obtain ⟨s1, s2⟩ := hS'; go_simp; try with_reducible rfl)⟩) HS0 ?_
  refine anyS_one (i := 2) (by kernel_rfl) rfl rfl (fun K9 hK9 => ?_)
  go_simp
  refine (Clone_any l A c W4 (HR.out.next HB4.out) (by omega)).mono ?_
  rintro e W5 ⟨A5, c5, rfl, hc5, hr5, hb5⟩
  go_simp
  have HS1 := HS9.out _ hb5
  refine hK9 _ _ (fun _ => HS1) ?_
  clear hK9 K9 HS0
  have HS0 := HS1
  clear HS1
  have HR5 := Lib.hid hr5
  have HC5 := Lib.hid hc5
  have HB5 := Lib.hid (bt hb5 HB4.out)
  clear hr5 hc5 hb5
  refine anyS_take (i := 5) rfl (by kernel_rfl) (by kernel_rfl) (by kernel_rfl) (by kernel_rfl) (fun _ _ _ h => h) (Or.inl ⟨by rfl, fun w' hS' => (by obtain ⟨s1, s2⟩ := hS'; go_simp; try with_reducible rfl)⟩) HS0 ?_
  refine anyS_take (i := 6) rfl (by kernel_rfl) (by kernel_rfl) (by kernel_rfl) (by kernel_rfl) (fun _ _ _ h => h) (Or.inl ⟨by rfl, fun w' hS' => (by obtain ⟨s1, s2⟩ := hS'; go_simp; try with_reducible rfl)⟩) HS0 ?_
  refine anyS_one (i := 7) (by kernel_rfl) rfl rfl (fun K9 hK9 => ?_)
  go_simp
  refine hK9 _ _ (fun h => absurd rfl h) ?_
  clear hK9 K9
  refine anyS_done (by kernel_rfl) ?_ _
  simp only [normPost]
  go_wp2
  refine bodyPost_ret (v := .tuple #[.slice A5 l.length c5, .int .i64 n, .int .i64 0]) (by simp [results, Tryd.results10, go_sem]) rfl ?_
  exact ⟨A5, c5, l, n, rfl, HC5.out, HR5.out, HBP.out, bt HB5.out HW3.out⟩
end Go.Proofs.YthmipmdpdfdlaaaDoor
