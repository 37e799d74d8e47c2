/- The reference's New and With. -/
import Derived.Test.YtpcklbmhblmjpaaFf
set_option maxRecDepth 100000
set_option linter.unusedVariables false
namespace Go.Proofs.Ytpcklbmhblmjpaa
open Go.RowKit

theorem news1 (W : World) (t : TypeId) (a : Value) : ∀ j u, [a][j]? = some u → (W.alloc (.cells #[a] t)).cell? ((⟨W.heap.size, 0, none⟩ : Addr).add j) = some u := by
  intro j u hj
  rw [add_mk, (Bk.new W t #[a]).cell]
  simpa using hj

/-- a row of the call's own lies in another block than one of another type -/
theorem own_ne {W : World} {base size k g : Nat} {e t : TypeId} {v : Value} {xs : List Value} {cs : Array Value} (hr : W.ownsRow base e size v k xs) (hk : Bk W g t cs) (hne : t ≠ e) : some g ≠ v.ownBlock := by
  intro he
  rcases hr.2 with ⟨rfl, _⟩ | ⟨g', cap, cur, rfl, _, hh, _⟩
  · simp [Value.ownBlock] at he
  · obtain rfl : g = g' := by simpa [Value.ownBlock] using he
    exact Bk.ne hk (t' := e) (cs' := cur) hh hne rfl
theorem own_ge {W : World} {base size k : Nat} {e : TypeId} {v : Value} {xs : List Value} (hr : W.ownsRow base e size v k xs) : ∀ g, v.ownBlock = some g → base ≤ g := by
  intro g hg
  rcases hr.2 with ⟨rfl, _⟩ | ⟨g', cap, cur, rfl, hb, _⟩
  · simp [Value.ownBlock] at hg
  · obtain rfl : g' = g := by simpa [Value.ownBlock] using hg
    exact hb
theorem own_set_far {W : World} {base size k : Nat} {e : TypeId} {v : Value} {xs : List Value} (hr : W.ownsRow base e size v k xs) {p : Addr} (hp : some p.block ≠ v.ownBlock) (u : Value) : (W.setCell p u).ownsRow base e size v k xs := by
  obtain ⟨h1, h2⟩ := hr
  refine ⟨h1, ?_⟩
  rcases h2 with h2 | ⟨g, cap, cur, rfl, hg, hh, r⟩
  · exact .inl h2
  · exact .inr ⟨g, cap, cur, rfl, hg, (Below.heap_setCell W p u g (fun e => hp (by rw [← e]; rfl))).trans hh, r⟩

/-- one byte more in a field's slice: the box at b, its second cell the slice -/
theorem field_append {w W w1 : World} {b base : Nat} {s : Int} {v v' : Value} {k m : Nat} {xs ys : List Value} {tmp : Obj} (hbox : Bk W b 24 #[.int .i64 s, v]) (hr : W.ownsRow base 5 1 v k xs) (hB : base ≤ W.heap.size) (hlow : w.heap.size ≤ base) (hwb : w.heap.size ≤ b) (hbl : Below w.heap.size w W)
    (hown : w1.ownsRow base 5 1 v' m ys) (hgrow : (W.alloc tmp).grownBy w1 v.ownBlock) :
    Bk w1 b 24 #[.int .i64 s, v] ∧ Bk (w1.setCell ⟨b, 1, none⟩ v') b 24 #[.int .i64 s, v'] ∧ (w1.setCell ⟨b, 1, none⟩ v').ownsRow base 5 1 v' m ys ∧ Below w.heap.size w (w1.setCell ⟨b, 1, none⟩ v') ∧ W.heap.size ≤ w1.heap.size := by
  have h1 : Bk w1 b 24 #[.int .i64 s, v] := (hbox.alloc tmp).grown hgrow (own_ne hr hbox (by decide))
  have hsz : W.heap.size ≤ w1.heap.size := by have := hgrow.size; simp at this; omega
  refine ⟨h1, by simpa using h1.set 1 v', own_set_far hown (by exact own_ne hown h1 (by decide)) _, ?_, hsz⟩
  refine ((hbl.alloc (by omega) tmp).grown hgrow (by simp; omega) (fun g hg => ?_)).setCell (p := ⟨b, 1, none⟩) hwb _
  have := own_ge hr g hg
  omega

def rNewPost (w : World) (s k : Int) (e : Ending) (w' : World) : Prop :=
  ∃ A c, e = .returned (.tuple #[.agg #[.int .i64 (newM s k).1, .slice A (newM s k).2.length c], .int .i64 (newE s k)]) ∧ (newM s k).2.length ≤ c ∧ RdB w' w'.heap.size A (newM s k).2 ∧ Below w.heap.size w w' ∧
    w'.ownsRow w.heap.size 5 1 (.slice A (newM s k).2.length c) (newM s k).2.length (u8s (newM s k).2)

set_option maxHeartbeats 2000000 in
theorem rNew_any (s k : Int) (w : World) (hs0 : -9223372036854775808 ≤ s) (hs1 : s ≤ 9223372036854775807) (hp0 : -9223372036854775808 ≤ k) (hp1 : k ≤ 9223372036854775807) :
    Calls Try.prog 22 #[.int .i64 s, .int .i64 k] w (rNewPost w s k) := by
  obtain ⟨i0, hi, hz0, hz1, hz2⟩ := info_parts info_u8
  by_cases h1 : 1 ≤ s
  · by_cases h2 : s ≤ 512
    · have d0 : 0 ≤ 4096 / s := Int.ediv_nonneg (by omega) (by omega)
      have d1 : 4096 / s ≤ 4096 := Int.ediv_le_self _ (by omega)
      by_cases h3 : 1 ≤ k
      · by_cases h4 : k ≤ 4096 / s
        · obtain ⟨b1, b2, b3⟩ := new_bd h1 h3 h4
          obtain ⟨e1, e2⟩ := new_in h1 h2 h3 h4
          obtain ⟨n, hn⟩ := Int.eq_ofNat_of_zero_le (a := s * k) (by omega)
          have hn' : (s * k).toNat = n := by omega
          have HE : Hid (newE s k = 0 ∧ newM s k = (s, List.replicate n 255)) := ⟨e1, by rw [e2, hn']⟩
          have hn1 : 1 ≤ n := by omega
          have hn2 : n ≤ 4096 := by omega
          clear e1 e2 hn' b1 b2 b3
          go_enter Try.func22, Try.ntmps22
          go_wp2
          go_loopw [7] (fun i wr => ∃ (j : Nat) (v : Value), i = .int .i64 (j : Int) ∧ j ≤ n ∧ Bk wr w.heap.size 24 #[.int .i64 0, .slice none 0 0] ∧ Bk wr (w.heap.size + 1) 24 #[.int .i64 s, v] ∧ wr.ownsRow (w.heap.size + 2) 5 1 v j (u8s (List.replicate j 255)) ∧ Below w.heap.size w wr ∧ w.heap.size + 2 ≤ wr.heap.size) (fun i _ => n - (intOf i).toNat)
          case atStart => exact ⟨0, _, rfl, Nat.zero_le _, (Bk.new _ _ _).alloc _, bkOf (by simp [at?_alloc]), World.ownsRow_nil _ _ _ _, ((Below.refl _ w).alloc (Nat.le_refl _) _).alloc (by simp) _, by simp⟩
          case round =>
            obtain ⟨j, v, rfl, hj, k1, k2, hr, hb, hz⟩ := hrel
            have c0 := k2.cell 0
            have c1 := k2.cell 1
            have g0 := k2.frozen 0
            have g1 := k2.frozen 1
            have t0 := k1.cell 0
            have t1 := k1.cell 1
            have f0 := k1.frozen 0
            have f1 := k1.frozen 1
            simp only [List.getElem?_toArray, List.getElem?_cons_zero, List.getElem?_cons_succ] at c0 c1 t0 t1
            by_cases hlt : j < n
            · go_wp2_with (at_builtin; refine wpList_append_own _ rfl _ _ 22 rfl (w.heap.size + 2) 5 i0 (.int .u8 0) 1 1 Try.underlying22 hi hz0 hz1 hz2 rfl (by decide) v j (u8s (List.replicate j 255)) rfl (hr.alloc _) ⟨wr.heap.size, 0, none⟩ 1 1 [.int .u8 255] rfl rfl (news1 _ _ _) (by simp [Value.oneCell']) (by simp only [maxLen]; omega) (by omega) (by simp; omega) ?_; intro v' w1 hown' hgrow _; obtain ⟨g', cap', rfl⟩ := ownsRow_succ hown'; obtain ⟨r1, r2, r3, r4, r5⟩ := field_append (w := w) k2 hr hz (by omega) (by omega) hb hown' hgrow; have d2 := r1.cell 1; have d3 := r1.frozen 1; have d4 := (k1.alloc _).grown hgrow (own_ne hr k1 (by decide)))
              go_roundw
              case rel => exact ⟨j + 1, _, by go_num, by omega, d4.far (p := ⟨w.heap.size + 1, 1, none⟩) (by show w.heap.size ≠ w.heap.size + 1; omega) _, r2, by rw [List.replicate_succ']; simpa [u8s, u8] using r3, r4, by have : w1.heap.size = (w1.setCell ⟨w.heap.size + 1, 1, none⟩ (.slice (some ⟨g', 0, none⟩) (j + 1) cap')).heap.size := (by simp [World.setCell]); omega⟩
              case measure => simp [intOf]; omega
            · obtain rfl : j = n := by omega
              obtain ⟨g, cap, hv⟩ : ∃ g cap, v = .slice (some ⟨g, 0, none⟩) j cap := by
                obtain ⟨m, rfl⟩ : ∃ m, j = m + 1 := ⟨j - 1, by omega⟩
                exact ownsRow_succ hr
              subst hv
              have hcap : j ≤ cap := by
                rcases hr.2 with ⟨h, _⟩ | ⟨_, _, _, h, _, _, hh, _⟩
                · cases h
                · injection h with _ _ h; omega
              go_wp2
              refine bodyPost_ret (v := .tuple #[.agg #[.int .i64 s, .slice (some ⟨g, 0, none⟩) j cap], .int .i64 0]) (by simp [results, Try.results22, go_sem, t0, t1]) rfl ?_
              unfold rNewPost
              rw [HE.out.1, HE.out.2]
              have hr2 := own_set_far (p := ⟨w.heap.size, 1, none⟩) (own_set_far (p := ⟨w.heap.size, 0, none⟩) hr (by exact own_ne hr k1 (by decide)) (.int .i64 s)) (by exact own_ne hr k1 (by decide)) (.slice (some ⟨g, 0, none⟩) j cap)
              have hr3 : (((wr.setCell ⟨w.heap.size, 0, none⟩ (.int .i64 s)).setCell ⟨w.heap.size, 1, none⟩ (.slice (some ⟨g, 0, none⟩) j cap))).ownsRow w.heap.size 5 1 (.slice (some ⟨g, 0, none⟩) j cap) j (u8s (List.replicate j 255)) := by
                obtain ⟨x1, x2⟩ := hr2
                refine ⟨x1, ?_⟩
                rcases x2 with x2 | ⟨g', cap', cur, x3, x4, x5⟩
                · exact .inl x2
                · exact .inr ⟨g', cap', cur, x3, by omega, x5⟩
              refine ⟨some ⟨g, 0, none⟩, cap, by simp, by simpa using hcap, ?_, (hb.setCell (p := ⟨w.heap.size, 0, none⟩) (Nat.le_refl _) _).setCell (p := ⟨w.heap.size, 1, none⟩) (Nat.le_refl _) _, by simpa using hr3⟩
              have := RdS.of_own hr3
              simpa [RdB] using this
        · have h4' : 4096 / s < k := by omega
          obtain ⟨e1, e2⟩ := new_out (s := s) (k := k) (by omega)
          have HE : Hid (newE s k = 1 ∧ newM s k = (0, [])) := ⟨e1, e2⟩
          clear e1 e2
          go_enter Try.func22, Try.ntmps22
          go_wp2
          refine bodyPost_ret (v := .tuple #[.agg #[.int .i64 0, .slice none 0 0], .int .i64 1]) (by simp [results, Try.results22, go_sem]) rfl ?_
          unfold rNewPost
          rw [HE.out.1, HE.out.2]
          exact ⟨none, 0, rfl, Nat.le_refl _, RdS.nil, (Below.refl _ _).alloc (Nat.le_refl _) _, World.ownsRow_nil _ _ _ _⟩
      · have h3' : k < 1 := by omega
        obtain ⟨e1, e2⟩ := new_out (s := s) (k := k) (by omega)
        have HE : Hid (newE s k = 1 ∧ newM s k = (0, [])) := ⟨e1, e2⟩
        clear e1 e2
        go_enter Try.func22, Try.ntmps22
        go_wp2
        refine bodyPost_ret (v := .tuple #[.agg #[.int .i64 0, .slice none 0 0], .int .i64 1]) (by simp [results, Try.results22, go_sem]) rfl ?_
        unfold rNewPost
        rw [HE.out.1, HE.out.2]
        exact ⟨none, 0, rfl, Nat.le_refl _, RdS.nil, (Below.refl _ _).alloc (Nat.le_refl _) _, World.ownsRow_nil _ _ _ _⟩
    · have h2' : 512 < s := by omega
      obtain ⟨e1, e2⟩ := new_out (s := s) (k := k) (by omega)
      have HE : Hid (newE s k = 1 ∧ newM s k = (0, [])) := ⟨e1, e2⟩
      clear e1 e2
      go_enter Try.func22, Try.ntmps22
      go_wp2
      refine bodyPost_ret (v := .tuple #[.agg #[.int .i64 0, .slice none 0 0], .int .i64 1]) (by simp [results, Try.results22, go_sem]) rfl ?_
      unfold rNewPost
      rw [HE.out.1, HE.out.2]
      exact ⟨none, 0, rfl, Nat.le_refl _, RdS.nil, (Below.refl _ _).alloc (Nat.le_refl _) _, World.ownsRow_nil _ _ _ _⟩
  · have h1' : s < 1 := by omega
    obtain ⟨e1, e2⟩ := new_out (s := s) (k := k) (by omega)
    have HE : Hid (newE s k = 1 ∧ newM s k = (0, [])) := ⟨e1, e2⟩
    clear e1 e2
    go_enter Try.func22, Try.ntmps22
    go_wp2
    refine bodyPost_ret (v := .tuple #[.agg #[.int .i64 0, .slice none 0 0], .int .i64 1]) (by simp [results, Try.results22, go_sem]) rfl ?_
    unfold rNewPost
    rw [HE.out.1, HE.out.2]
    exact ⟨none, 0, rfl, Nat.le_refl _, RdS.nil, (Below.refl _ _).alloc (Nat.le_refl _) _, World.ownsRow_nil _ _ _ _⟩
end Go.Proofs.Ytpcklbmhblmjpaa
