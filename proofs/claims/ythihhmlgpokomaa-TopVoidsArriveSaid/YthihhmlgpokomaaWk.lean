/- hub: duplicate. -/
import Derived.Test.YthihhmlgpokomaaWj
import Derived.Deep.Cut
set_option maxRecDepth 100000
set_option linter.unusedVariables false
set_option linter.unusedSimpArgs false
namespace Go.Proofs.Ythihhmlgpokomaa
open Go.RowKit

theorem make_ib (n : Nat) (m : Int) (hm : (n : Int) = m) (hn : n ≤ 1000000) (w : World) : ∃ cs : Array Value, cs.size = n * 3 ∧
    (Instr.makeSlice 45 (.int .i64 0) (.int .i64 m)).run Try.prog w = .ok (.slice (some ⟨w.heap.size, 0, none⟩) 0 n) (w.alloc (.cells cs 69)) := by
  subst hm
  obtain ⟨i0, hi, hz0, hz1, hz2⟩ := info_parts info_ib
  have hr := run_make (P := Try.prog) w 45 69 i0 _ Try.underlying45 hi hz0 .i64 .i64 0 n (by omega) (by omega) (by rw [hz2]; omega) (by omega)
  rw [hz1] at hr
  exact ⟨_, by rw [size_madeCells, Int.toNat_natCast], hr⟩
theorem news3 (W : World) (t : TypeId) (a b c : Value) : ∀ j u, [a, b, c][j]? = some u → (W.alloc (.cells #[a, b, c] t)).cell? ((⟨W.heap.size, 0, none⟩ : Addr).add j) = some u := news_at W t [a, b, c]
theorem own_far {w : World} {g base n sz : Nat} {e t : TypeId} {v : Value} {xs : List Value} {cs : Array Value} {i : Nat} (h : w.ownsRow base e sz v n xs) (hne : e ≠ t) (hB : Bk w g t cs) (u : Value) : (w.setCell ⟨g, i, none⟩ u).ownsRow base e sz v n xs :=
  own_set (xs := []) (base' := 0) h ⟨cs, hB, rfl⟩ hne i u
theorem own_keepG {w w' : World} {base n sz : Nat} {e : TypeId} {v : Value} {xs : List Value} {row : Option Nat} (h : w.ownsRow base e sz v n xs) (hg : w.grownBy w' row) (hne : ∀ k, v.ownBlock = some k → some k ≠ row) : w'.ownsRow base e sz v n xs := by
  obtain ⟨h1, h2⟩ := h
  refine ⟨h1, ?_⟩
  rcases h2 with h2 | ⟨g', cap, cur, rfl, hg', hh, r⟩
  · exact .inl h2
  · exact .inr ⟨g', cap, cur, rfl, hg', (hg.block g' (Array.getElem?_eq_some_iff.1 hh).1 (hne g' rfl)).trans hh, r⟩
theorem dup_nil (w : World) : Calls Try.prog 32 #[.slice none 0 0] w fun e w' => ∃ A, e = .returned (.slice A 0 0) ∧ Below w.heap.size w w' := by
  obtain ⟨cs, hcs, hmk⟩ := make_ib 0 0 rfl (by omega) w
  clear hcs
  go_enter Try.func32, Try.ntmps32
  go_wp2
  go_loopw [3, 11] (fun v i wr => i = .int .i64 0 ∧ v = .slice (some ⟨w.heap.size, 0, none⟩) 0 0 ∧ Below w.heap.size w wr) (fun _ _ _ => 0)
  case atStart => exact ⟨rfl, rfl, al1 _ _⟩
  case round =>
    obtain ⟨rfl, rfl, hb⟩ := hrel
    have HB := Lib.hid hb
    clear hb hmk
    go_wp2
    go_ret
    exact ⟨_, rfl, HB.out⟩
/-- the new list, the row of its messages -/
def dupDone (s : Ib) (w : World) (v : Value) (W : World) : Prop :=
  ∃ g cap D' d', v = .slice (some ⟨g, 0, none⟩) 1 cap ∧ w.heap.size ≤ g ∧ Bt W g 69 [.int .i64 7, .int .i64 ((s.1 : Int) + 1), .slice D' s.2.length d'] ∧ 1 ≤ cap ∧ W.ownsRow w.heap.size 50 3 (.slice D' s.2.length d') s.2.length (encs msE s.2) ∧ Below w.heap.size w W
set_option maxHeartbeats 1000000 in
theorem dup_one (b o c : Nat) (D : Option Addr) (d : Nat) (s : Ib) (w : World) (hx : Bx1 w b o D d s) (hc : 1 ≤ c) (hs : s.2.length ≤ 64) :
    Calls Try.prog 32 #[.slice (some ⟨b, o, none⟩) 1 c] w fun e w' => ∃ v, e = .returned v ∧ dupDone s w v w' := by
  obtain ⟨i0, hi, hz0, hz1, hz2⟩ := info_parts info_ib
  obtain ⟨i1, hj, hw0, hw1, hw2⟩ := info_parts info_ms
  have HX := Lib.hid hx
  clear hx
  obtain ⟨cs, hcs, hmk⟩ := make_ib 1 1 rfl (by omega) w
  have HCS := Lib.hid hcs
  clear hcs
  go_enter Try.func32, Try.ntmps32
  go_wp2
  obtain ⟨U, hU⟩ : ∃ Zz, Zz = w.alloc (.cells cs 69) := ⟨_, rfl⟩
  have hbU : Below w.heap.size w U := by rw [hU]; exact al1 _ _
  have kx : Bk U w.heap.size 69 cs := by rw [hU]; exact Bk.new _ _ _
  rw [← hU]
  clear hU
  have HO0 := Lib.hid (own_zero (base := w.heap.size) (n := 1) (sz := 3) kx (Nat.le_refl _) HCS.out (by omega))
  have HBU := Lib.hid hbU
  clear hbU kx hmk
  go_loopw [3, 11] (fun v i wr => (i = .int .i64 0 ∧ v = .slice (some ⟨w.heap.size, 0, none⟩) 0 1 ∧ wr.ownsRow w.heap.size 69 3 v 0 [] ∧ Below w.heap.size w wr) ∨ (i = .int .i64 1 ∧ dupDone s w v wr)) (fun _ i _ => 1 - (intOf i).toNat)
  case atStart => exact .inl ⟨rfl, rfl, HO0.out, HBU.out⟩
  case round =>
    obtain ⟨rfl, rfl, ho, hb⟩ | ⟨rfl, hd⟩ := hrel
    · have HO := Lib.hid ho
      have HB := Lib.hid hb
      have hbase := hb.size
      clear ho hb
      obtain ⟨lb, z0, z1, z2, hd, hr⟩ := (HX.out.next HB.out)
      have HR := Lib.hid hr
      clear hr
      go_upto_region 5 with fail
      obtain ⟨Y, hY⟩ : ∃ Zz, Zz = wr.alloc (.cells #[.int .i64 7, .int .i64 ((s.1 : Int) + 1), .slice D s.2.length d] 69) := ⟨_, rfl⟩
      have hbY : Below wr.heap.size wr Y := by rw [hY]; exact al1 _ _
      have ky : Bk Y wr.heap.size 69 #[.int .i64 7, .int .i64 ((s.1 : Int) + 1), .slice D s.2.length d] := by rw [hY]; exact Bk.new _ _ _
      rw [← hY]
      clear hY
      obtain ⟨gx, hgx⟩ : ∃ g, g = wr.heap.size := ⟨_, rfl⟩
      rw [← hgx] at ky ⊢
      have KY := Lib.hid ky
      have HBY := Lib.hid hbY
      have hgx2 := Lib.hid hgx
      have hltx : wr.heap.size ≤ gx := by omega
      have hws : wr.heap.size ≤ Y.heap.size := hbY.size
      clear ky hbY z0 z1 z2 hgx
      obtain ⟨c0, c1, c2⟩ := box3 KY.out
      go_upto_region 6 with (at_builtin; refine wpList_append_rd _ rfl (.const (.slice none 0 0)) (.tmp 16) _ rfl wr.heap.size 50 i1 _ 3 24 Try.underlying46 hj hw0 hw1 hw2 rfl (by omega) (.slice none 0 0) 0 [] rfl (World.ownsRow_nil _ _ _ _) wr.heap.size D s.2.length d (encs msE s.2) rfl (RdX.below HR.out HBY.out) (encs_one_cell _) (by simp only [maxLen]; omega) (by omega) (by omega) ?_; intro v1 w1 hown1 hg1 hat1; have HG1 := Lib.hid (grownBy_below (B := Y.heap.size) hg1 (Nat.le_refl _) (fun k e => by cases e)); have kY1 := Lib.hid (KY.out.next HG1.out); obtain ⟨e0, e1, e2⟩ := box3 kY1.out; have f2 := kY1.out.frozen 2; simp only [Nat.zero_add, List.nil_append] at hown1; obtain ⟨D1, d1, rfl, hd1, _⟩ := own_read hown1; have HO1 := Lib.hid hown1; clear hown1 hg1 hat1 c0 c1 c2)
      obtain ⟨W2, hW2⟩ : ∃ Zz, Zz = w1.setCell ⟨gx, 2, none⟩ (.slice D1 s.2.length d1) := ⟨_, rfl⟩
      have kW2 : Bk W2 gx 69 #[.int .i64 7, .int .i64 ((s.1 : Int) + 1), .slice D1 s.2.length d1] := by rw [hW2]; exact (by simpa using kY1.out.set 2 (.slice D1 s.2.length d1))
      have hbW2 : Below wr.heap.size wr W2 := by rw [hW2]; exact ((bt HG1.out HBY.out).setCell (p := ⟨gx, 2, none⟩) hltx _)
      have hoW2 : W2.ownsRow wr.heap.size 50 3 (.slice D1 s.2.length d1) s.2.length (encs msE s.2) := by rw [hW2]; exact own_far HO1.out (by decide) kY1.out _
      rw [← hW2]
      clear hW2
      have KW2 := Lib.hid kW2
      have HBW2 := Lib.hid hbW2
      have HOW2 := Lib.hid hoW2
      have HOR := Lib.hid (own_on HO.out hbW2)
      have hs2 := hbW2.size
      clear kW2 hbW2 hoW2 e0 e1 e2 f2 hd1
      obtain ⟨e0, e1, e2⟩ := box3 KW2.out
      go_wp2_with (at_builtin; refine wpList_append_own _ rfl _ _ 45 rfl w.heap.size 69 i0 (.agg #[.int .i64 0, .int .i64 0, .slice none 0 0]) 3 40 Try.underlying45 hi hz0 hz1 hz2 rfl (by decide) (.slice (some ⟨w.heap.size, 0, none⟩) 0 1) 0 [] rfl (HOR.out.alloc _) ⟨W2.heap.size, 0, none⟩ 1 1 [.int .i64 7, .int .i64 ((s.1 : Int) + 1), .slice D1 s.2.length d1] rfl rfl (news3 _ _ _ _ _) (by simp [Value.oneCell']) (by simp only [maxLen]; omega) (by omega) (by simp; omega) ?_; intro v' w3 hown' hgrow _)
      simp only [Nat.zero_add, List.nil_append] at hown'
      obtain ⟨g, cap, rfl, hg, _⟩ := hown'.form (by omega)
      have HDD : Hid (dupDone s w (.slice (some ⟨g, 0, none⟩) 1 cap) w3) := Lib.hid (by
        refine ⟨g, cap, D1, d1, rfl, hg, Bt.of_own hown', ?_, ?_, ?_⟩
        · obtain ⟨A9, c9, e9, h9, _⟩ := own_read hown'
          injection e9 with _ _ e9
          omega
        · exact own_mono (own_keepG (HOW2.out.alloc _) hgrow (fun k hk => by
            have h1 := (own_lt HOW2.out hk).1
            have h0 := (own_lt HO.out (g := w.heap.size) rfl).2
            intro e9
            have h2 : w.heap.size = k := by simpa [Value.ownBlock] using e9.symm
            omega)) hbase
        · exact own_grow ((bt HBW2.out HB.out).alloc (by omega) _) (HOR.out.alloc _) hgrow (by simp; omega) (Nat.le_refl _))
      clear hown' hgrow e0 e1 e2
      go_wp2
      go_roundw
      case rel => exact .inr ⟨rfl, HDD.out⟩
      case measure => simp [intOf]
    · obtain ⟨g, cap, D', d', rfl, h1, h2, h3, h4, h5⟩ := hd
      have HH := Lib.hid (⟨h1, h2, h3, h4, h5⟩ : _ ∧ _ ∧ _ ∧ _ ∧ _)
      clear h1 h2 h3 h4 h5
      go_wp2
      go_ret
      exact ⟨_, rfl, g, cap, D', d', rfl, HH.out.1, HH.out.2.1, HH.out.2.2.1, HH.out.2.2.2.1, HH.out.2.2.2.2⟩
end Go.Proofs.Ythihhmlgpokomaa
