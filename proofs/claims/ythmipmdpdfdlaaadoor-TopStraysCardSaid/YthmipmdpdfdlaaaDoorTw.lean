/- The law TopVisits, walked. -/
import Derived.Test.YthmipmdpdfdlaaaDoorTj
set_option maxRecDepth 100000
set_option linter.unusedVariables false
set_option linter.unusedSimpArgs false
namespace Go.Proofs.YthmipmdpdfdlaaaDoor
open Go.RowKit

def s2F (x : UInt8 × UInt8) : Value := .int .u8 (x.1.toNat : Int)
def s2G (x : UInt8 × UInt8) : Value := .int .u8 (x.2.toNat : Int)
theorem info_pass : (Tryd.prog.info? 42).map (fun i => (i.zero, i.size, i.bytes)) = some (some (.agg #[.string ByteArray.empty, .int .i64 0]), 2, 24) := by kernel_rfl
theorem rd_two {w : World} {B g : Nat} {t : TypeId} {x y : Value} (h : Bk w g t #[x, y]) (hg : g < B) : RdS w B 2 (some ⟨g, 0, none⟩) 1 [x, y] := by
  refine ⟨rfl, fun _ => ⟨g, 0, rfl, hg, fun j u hu => ?_⟩⟩
  rw [Nat.zero_add, h.cell j, ← hu]
  rcases j with _ | _ | j <;> rfl
theorem Match_vis (s : ByteArray) (l : List (UInt8 × UInt8)) (n : Nat) (hs : plB s = true) (hn : n ≤ 8) (A6 A7 : Option Addr) (c6 c7 : Nat) (w : World) (h6 : RdS w w.heap.size 2 A6 n (cl2 paF paG (vE s l n))) (h7 : RdS w w.heap.size 2 A7 n (cl2 paF paG (vX s l n))) (hC : Cf w) :
    Calls Tryd.prog 10 #[.slice A6 n c6, .slice A7 n c7] w fun e w' => ∃ A c, e = .returned (.tuple #[.slice A n c, .int .i64 0, .int .i64 0]) ∧ RdQ w' w'.heap.size A (dg n 0) ∧ Below w.heap.size w w' := by
  have h := Match_yes (vE s l n) (vX s l n) A6 A7 c6 c7 w (vE_valid hs l hn) (vX_valid hs l hn)
    (fun p hp => by simp only [vE, List.mem_map] at hp; obtain ⟨i, _, rfl⟩ := hp; exact pl_sz hs)
    (fun p hp => by simp only [vX, List.mem_map] at hp; obtain ⟨i, _, rfl⟩ := hp; exact pl_sz hs)
    (by show RdS _ _ _ _ _ _; rw [vE_length]; exact h6) (by show RdS _ _ _ _ _ _; rw [vX_length]; exact h7) hC
  rw [vE_length, vX_length] at h
  refine h.mono ?_
  rintro e w' ⟨A, c, q, m, rfl, hc, hr, hbp, hb⟩
  obtain ⟨rfl, rfl⟩ := visits_best hs l n hbp
  rw [dg_length]
  exact ⟨A, c, rfl, hr, hb⟩
theorem ne_own {u v : Value} (h : ∀ g, u.ownBlock = some g → v.ownBlock ≠ some g) : v.ownBlock = none ∨ v.ownBlock ≠ u.ownBlock := by
  cases hv : v.ownBlock with
  | none => exact .inl rfl
  | some g => exact .inr fun e => h g e.symm hv
set_option maxHeartbeats 4000000 in
theorem TopVisits_walk (s : ByteArray) (l : List (UInt8 × UInt8)) (Al : Option Addr) (cl : Nat) (w : World) (hs : s.size ≤ 9223372036854775807) (hn : l.length ≤ 9223372036854775807) (hC : Cf w) (hl : Rd2 s2F s2G w w.heap.size Al l) :
    Calls Tryd.prog 5 #[.string s, .slice Al l.length cl] w fun e w' => e = .returned (.bool true) ∧ Below w.heap.size w w' := by
  go_enter Tryd.func5, Tryd.ntmps5
  go_wp2_with fail
  refine (r7Plates_any _ hC).mono ?_
  rintro e W1 ⟨rfl, hb1⟩
  go_wp2_with fail
  refine (PValid_any s _ hs).mono ?_
  rintro e W2 ⟨rfl, hb2⟩
  have HB2 := Lib.hid (bt hb2 hb1)
  have HL := Lib.hid hl
  have HC := Lib.hid hC
  clear hb1 hb2 hl hC
  by_cases hp : plB s = true
  · rw [hp]
    have HP := Lib.hid hp
    clear hp
    by_cases h8 : 8 < l.length
    · have h8' : (8 : Int) < (l.length : Int) := by omega
      clear h8
      go_wp2
      go_ret
      exact ⟨rfl, HB2.out⟩
    · have h8' : ¬ (8 : Int) < (l.length : Int) := by omega
      obtain ⟨B, hB⟩ : ∃ B, B = W2.heap.size := ⟨_, rfl⟩
      have HBS := Lib.hid hB
      obtain ⟨i0, hi, hz0, hz1, hz2⟩ := info_parts info_pass
      clear hB
      go_wp2_with fail
      go_loopw [6, 7, 8, 28] (fun v6 v7 v8 i wr => ∃ k : Nat, i = .int .i64 (k : Int) ∧ k ≤ l.length ∧ v8 = .int .i64 (mAt l k : Int) ∧ wr.ownsRow B 42 2 v6 k (cl2 paF paG (vE s l k)) ∧ wr.ownsRow B 42 2 v7 k (cl2 paF paG (vX s l k)) ∧ (∀ g, v6.ownBlock = some g → v7.ownBlock ≠ some g) ∧ B ≤ wr.heap.size ∧ Below w.heap.size w wr) (fun _ _ _ i _ => l.length - (intOf i).toNat)
      case atStart => exact ⟨0, rfl, Nat.zero_le _, rfl, ⟨rfl, .inl ⟨rfl, rfl⟩⟩, ⟨rfl, .inl ⟨rfl, rfl⟩⟩, fun g h => (by cases h), Nat.le_of_eq HBS.out, HB2.out⟩
      case round =>
        obtain ⟨k, rfl, hk, rfl, o6, o7, hne, hBw, hbw⟩ := hrel
        have HO6 := Lib.hid o6
        have HO7 := Lib.hid o7
        have HNE := Lib.hid hne
        have HBW := Lib.hid hbw
        have hsz := hbw.size
        clear o6 o7 hne hbw
        by_cases hlt : k < l.length
        · obtain ⟨x, hx⟩ : ∃ x, x = l[k] := ⟨_, rfl⟩
          obtain ⟨b, o, rfl, hbb, c0, c1⟩ := (Rd2.below HL.out HBW.out).at_ hlt
          rw [← hx] at c0 c1
          simp only [s2F, s2G] at c0 c1
          have hxg : l.getD k (0, 0) = x := by rw [hx, List.getD_eq_getElem?_getD, List.getElem?_eq_getElem hlt]; rfl
          obtain ⟨m0, hm0⟩ : ∃ m0 : Int, m0 = (mAt l k : Int) := ⟨_, rfl⟩
          have hmb := mAt_le l k
          obtain ⟨xa, hxa⟩ : ∃ xa : Int, xa = (x.1.toNat : Int) := ⟨_, rfl⟩
          obtain ⟨xb, hxb⟩ : ∃ xb : Int, xb = (x.2.toNat : Int) := ⟨_, rfl⟩
          have a1 := x.1.toNat_lt
          have a2 := x.2.toNat_lt
          have a3 : 0 ≤ xa := by omega
          have a4 : xa ≤ 255 := by omega
          have a5 : 0 ≤ xb := by omega
          have a6 : xb ≤ 255 := by omega
          have a7 : 0 ≤ m0 := by omega
          have a8 : m0 ≤ 5000 := by omega
          have HE1 : Hid (m0 + xa = (eAt l k : Int)) := by show _ = _; rw [eAt, hxg]; push_cast; omega
          have HE2 : Hid (m0 + xa + (1 + xb) = (mAt l (k + 1) : Int)) := by show _ = _; rw [mAt, hxg]; push_cast; omega
          rw [← hxa] at c0
          rw [← hxb] at c1
          rw [← hm0]
          have hbb2 : b < wr.heap.size := by omega
          have k1 : (0 : Int) ≤ (k : Int) := by omega
          have k2 : (k : Int) < (l.length : Int) := by omega
          clear hx hxg hm0 hmb hxa hxb a1 a2
          go_wp2_with (first
            | (at_builtin; refine wpList_append_rd _ rfl (.tmp 37) (.tmp 41) _ rfl B 42 i0 _ 2 24 Tryd.underlying24 hi hz0 hz1 hz2 rfl (by omega) u6 k (cl2 paF paG (vE s l k)) (by rfl) ((HO6.out.alloc _).alloc _) (wr.heap.size + 1 + 1) (some ⟨wr.heap.size + 1, 0, none⟩) 1 1 [.string s, .int .i64 (m0 + xa)] (by rfl) (rd_two (bkOf (by simp [at?_alloc]; try rfl)) (by omega)) (by simp [Value.oneCell']) (by simp only [maxLen]; omega) (by omega) (by simp; omega) ?_; intro v6' W3 hown6 hg6 hat6; have o7 := ((HO7.out.alloc _).alloc _).kept hg6 (ne_own HNE.out); have kb := ((Bk.new wr 46 #[.int .u8 xa, .int .u8 xb]).alloc (.cells #[.string s, .int .i64 (m0 + xa)] 42)).grown hg6 (fun e => by have := (HO6.out.lt _ e.symm).2; omega); obtain ⟨z0, z1⟩ := box2 kb; have hs3 : wr.heap.size + 2 ≤ W3.heap.size := by have := hg6.size; simp at this; omega)
            | (at_builtin; refine wpList_append_rd _ rfl (.tmp 49) (.tmp 53) _ rfl B 42 i0 _ 2 24 Tryd.underlying24 hi hz0 hz1 hz2 rfl (by omega) u7 k (cl2 paF paG (vX s l k)) (by rfl) (o7.alloc _) (W3.heap.size + 1) (some ⟨W3.heap.size, 0, none⟩) 1 1 [.string s, .int .i64 (m0 + xa + (1 + xb))] (by rfl) (rd_two (bkOf (by simp [at?_alloc]; try rfl)) (by omega)) (by simp [Value.oneCell']) (by simp only [maxLen]; omega) (by omega) (by simp; omega) ?_; intro v7' W4 hown7 hg7 hat7))
          have hlw6 := fun g h => HO6.out.lt g h
          have hlw7 := fun g h => HO7.out.lt g h
          have hbs := HBS.out
          have hb2 := HB2.out.size
          have HN67 : ∀ g, v6'.ownBlock = some g → u7.ownBlock ≠ some g := fun g hg e => by
            rcases hat6 with h | h
            · exact HNE.out g (h ▸ hg) e
            · have := (hlw7 g e).2
              rw [h] at hg
              injection hg with hg
              simp at hg; omega
          have HN8 : ∀ g, v6'.ownBlock = some g → v7'.ownBlock ≠ some g := fun g hg e => by
            rcases hat7 with h | h
            · exact HN67 g hg (h ▸ e)
            · have := (hown6.lt g hg).2
              rw [h] at e
              injection e with e
              simp at e; omega
          have w6 := (hown6.alloc (.cells #[.string s, .int .i64 (m0 + xa + (1 + xb))] 42)).kept hg7 (ne_own (u := u7) (v := v6') fun g hg e => HN67 g e hg)
          have e6 : cl2 paF paG (vE s l (k + 1)) = cl2 paF paG (vE s l k) ++ [.string s, .int .i64 (m0 + xa)] := by rw [vE_succ, cl2_append, HE1.out]; rfl
          have e7 : cl2 paF paG (vX s l (k + 1)) = cl2 paF paG (vX s l k) ++ [.string s, .int .i64 (m0 + xa + (1 + xb))] := by rw [vX_succ, cl2_append, HE2.out]; rfl
          have hsz7 := hg7.size
          have HF : Hid (W4.ownsRow B 42 2 v6' (k + 1) (cl2 paF paG (vE s l (k + 1))) ∧ W4.ownsRow B 42 2 v7' (k + 1) (cl2 paF paG (vX s l (k + 1))) ∧ (∀ g, v6'.ownBlock = some g → v7'.ownBlock ≠ some g) ∧ B ≤ W4.heap.size ∧ Below w.heap.size w W4) := by
            show _ ∧ _
            rw [e6, e7]
            refine ⟨w6, hown7, HN8, by simp at hsz7; omega, ?_⟩
            have h1 : Below w.heap.size w W3 := ((HBW.out.alloc hsz (.cells #[.int .u8 xa, .int .u8 xb] 46)).alloc (by simp; omega) (.cells #[.string s, .int .i64 (m0 + xa)] 42)).grown hg6 (by simp; omega) (fun k hk => by have := (hlw6 k hk).1; omega)
            exact (h1.alloc (by omega) _).grown hg7 (by simp; omega) (fun k hk => by have := (hlw7 k hk).1; omega)
          clear hlw6 hlw7 hbs hb2 HN67 HN8 w6 e6 e7 hsz7 hown6 hown7 hg6 hg7 hat6 hat7 o7 kb z0 z1
          go_roundw
          case rel => exact ⟨k + 1, by go_num, by omega, by rw [← HE2.out], HF.out⟩
          case measure => simp [intOf]; omega
        · obtain rfl : k = l.length := by omega
          obtain ⟨A6, c6, rfl, hc6, r6⟩ := own_read HO6.out
          obtain ⟨A7, c7, rfl, hc7, r7⟩ := own_read HO7.out
          have HR6 := Lib.hid r6
          have HR7 := Lib.hid r7
          clear r6 r7 HO6 HO7 HNE hlt hk
          have k2 : ¬ ((l.length : Int) < (l.length : Int)) := by omega
          go_wp2_with fail
          refine (Match_vis s l l.length HP.out (by omega) A6 A7 c6 c7 wr HR6.out HR7.out (HC.out.next HBW.out)).mono ?_
          rintro e W5 ⟨A, c, rfl, hr, hb5⟩
          have HB5 : Hid (Below w.heap.size w W5) := HBW.out.trans (hb5.mono hsz)
          have HQ := Lib.hid hr
          have hsz5 := HB5.out.size
          clear hr hb5 HR6 HR7 k2
          go_wp2_with fail
          go_loopw [14, 78] (fun _ i wq => ∃ k : Nat, i = .int .i64 (k : Int) ∧ k ≤ l.length ∧ Below W5.heap.size W5 wq) (fun _ i _ => l.length - (intOf i).toNat)
          case atStart => exact ⟨0, rfl, Nat.zero_le _, Below.refl _ _⟩
          case round =>
            obtain ⟨k, rfl, hk, hbq⟩ := hrel
            have HBQ := Lib.hid hbq
            have hszq := hbq.size
            clear hbq
            by_cases hlt : k < l.length
            · have hlg : k < (dg l.length 0).length := by rw [dg_length]; exact hlt
              obtain ⟨b, o, rfl, hbb, c0, c1⟩ := (Rd2.below HQ.out HBQ.out).at_ hlg
              have hg : (dg l.length 0)[k] = (k, k) := by
                have := dg_get l.length 0 k hlt
                rw [List.getElem?_eq_getElem hlg] at this
                injection this with this
                rw [this, Nat.zero_add]
              rw [hg] at c0 c1
              simp only [prF, prG] at c0 c1
              clear hg hlg
              have k1 : (0 : Int) ≤ (k : Int) := by omega
              have k2 : (k : Int) < (l.length : Int) := by omega
              have hbb2 : b < wr.heap.size := by omega
              have HF2 : Hid (∀ o, Below W5.heap.size W5 (wr.alloc o)) := fun o => HBQ.out.alloc hszq o
              go_wp2
              go_roundw
              case rel => exact ⟨k + 1, by go_num, by omega, HF2.out _⟩
              case measure => simp [intOf]; omega
            · have k2 : ¬ (k : Int) < (l.length : Int) := by omega
              go_wp2
              go_ret
              exact ⟨rfl, HB5.out.trans (HBQ.out.mono hsz5)⟩
  · have hp' : plB s = false := by simpa using hp
    rw [hp']
    clear hp hp'
    go_wp2
    go_ret
    exact ⟨rfl, HB2.out⟩
end Go.Proofs.YthmipmdpdfdlaaaDoor
