/- head: the fixed examples of the laws on flash memories return true. -/
import Derived.Test.YtjfpnldijlbmiaaFk
set_option linter.unusedVariables false
set_option linter.unusedSimpArgs false
namespace Go.Proofs.Ytjfpnldijlbmiaa
open Go.RowKit

theorem al1 (W : World) (o : Obj) : Below W.heap.size W (W.alloc o) := (Below.refl _ W).alloc (Nat.le_refl _) _
theorem al2 (W : World) (o o' : Obj) : Below W.heap.size W ((W.alloc o).alloc o') := (al1 W o).alloc (by simp) _
theorem al3 (W : World) (o o' o'' : Obj) : Below W.heap.size W (((W.alloc o).alloc o').alloc o'') := (al2 W o o').alloc (by simp; omega) _

theorem Program_lit (L : List Mem) (E : Int) (m : Mem) (p : Int) (ds : List UInt8) (A Ad : Option Addr) (c cd : Nat) (w : World) (hL : progL m p ds = L) (hE : progE m p ds = E) (hA : RdB w w.heap.size A m.2) (hAd : RdB w w.heap.size Ad ds) (hn : m.2.length ≤ 1000000000) (hd : ds.length ≤ 1000000000) (hp0 : -9223372036854775808 ≤ p) (hp1 : p ≤ 9223372036854775807) :
    Calls Try.prog 14 #[.agg #[.int .i64 m.1, .slice A m.2.length c], .int .i64 p, .slice Ad ds.length cd] w (ListPost w L E) := by
  rw [← hL, ← hE]; exact Program_any m p ds A Ad c cd w hA hAd hn hd hp0 hp1
theorem Erase_lit (L : List Mem) (E : Int) (m : Mem) (k : Int) (A : Option Addr) (c : Nat) (w : World) (hL : eraL m k = L) (hE : eraE m k = E) (hA : RdB w w.heap.size A m.2) (hn : m.2.length ≤ 1000000000) (hp0 : -9223372036854775808 ≤ k) (hp1 : k ≤ 9223372036854775807) :
    Calls Try.prog 16 #[.agg #[.int .i64 m.1, .slice A m.2.length c], .int .i64 k] w (ListPost w L E) := by
  rw [← hL, ← hE]; exact Erase_any m k A c w hA hn hp0 hp1
theorem last_lit (M : Mem) (b : Bool) (ms : List Mem) (er many : Int) (A : Option Addr) (c : Nat) (w : World) (hM : lastM ms er many = M) (hb : lastB ms er many = b) (h : RdFs w w.heap.size A ms) (hl : ms.length ≤ 1000000000) (hm0 : -9223372036854775807 ≤ many) (hm1 : many ≤ 9223372036854775807) :
    Calls Try.prog 23 #[.slice A ms.length c, .int .i64 er, .int .i64 many] w (MemPost w M (.bool b)) := by
  rw [← hM, ← hb]; exact last_any ms er many A c w h hl hm0 hm1
theorem New22 (w : World) : Calls Try.prog 11 #[.int .i64 2, .int .i64 2] w (MemPost w (2, [255, 255, 255, 255]) (.int .i64 0)) :=
  (New_any 2 2 w (by decide) (by decide) (by decide) (by decide)).mono fun e w' ⟨A, c, he, hc, hr, hb, _⟩ => ⟨A, c, he, hc, hr, hb⟩
theorem want_lit (b : Bool) (m : Mem) (bs : List UInt8) (A Ab : Option Addr) (c cb : Nat) (w : World) (hb : eqM m (2, bs) = b) (hA : RdB w w.heap.size A m.2) (hB : RdB w w.heap.size Ab bs) (hn : m.2.length ≤ 1000000) (hbs : bs.length ≤ 1000000) :
    Calls Try.prog 24 #[.agg #[.int .i64 m.1, .slice A m.2.length c], .slice Ab bs.length cb] w fun e w' => e = .returned (.bool b) ∧ Below w.heap.size w w' := by
  rw [← hb]; exact want_any m bs A Ab c cb w hA hB hn hbs
theorem Valid_lit (b : Bool) (s : Int) (A : Option Addr) (n c : Nat) (w : World) (hb : validB s n = b) :
    Calls Try.prog 18 #[.agg #[.int .i64 s, .slice A n c]] w fun e w' => e = .returned (.bool b) ∧ Below w.heap.size w w' := by
  rw [← hb]; exact Valid_any s A n c w

theorem litB {W : World} {g : Nat} {bs : List UInt8} (h : at? W g = some (.cells (u8s bs).toArray 5 (0, 0))) : RdB W W.heap.size (some ⟨g, 0, none⟩) bs := RdB.of_bk (bkOf h) (bkOf h).lt

set_option maxRecDepth 100000 in
set_option maxHeartbeats 4000000 in
theorem head_any (w : World) : Calls Try.prog 10 #[] w fun e w' => e = .returned (.bool true) ∧ Below w.heap.size w w' := by
  go_enter Try.func10, Try.ntmps10
  go_wp2_with fail
  refine (New22 w).mono ?_
  rintro e W1 ⟨A1, c1, rfl, hc1, hr1, hB1⟩
  have HB1 := hB1
  clear hB1
  go_wp2_with fail
  refine (Program_lit [(2, [255, 255, 255, 255]), (2, [255, 240, 255, 255]), (2, [255, 240, 15, 255])] 0 (2, [255, 255, 255, 255]) 1 [240, 15] A1 (some ⟨W1.heap.size + 1, 0, none⟩) c1 2 _ (by decide) (by decide) (hr1.next (al2 _ _ _)) (litB (by simp [at?_alloc, u8s, u8])) (by decide) (by decide) (by decide) (by decide)).mono ?_
  rintro e W2 ⟨A2, c2, rfl, hc2, hr2, hb2⟩
  have hB2 := bt hb2 (al2 W1 _ _)
  have kf : Bk W2 W1.heap.size 24 _ := ((Bk.new _ _ _).alloc _).next hb2
  have rf := hr1.next hB2
  have HB2 := bt hB2 HB1
  clear hb2 hB2 HB1
  obtain ⟨xf0, xf1, _, _⟩ := boxFacts kf
  have lf := kf.lt
  go_wp2_with fail
  clear xf0 xf1 lf
  refine (last_lit (2, [255, 240, 15, 255]) true [(2, [255, 255, 255, 255]), (2, [255, 240, 255, 255]), (2, [255, 240, 15, 255])] 0 3 A2 c2 W2 (by decide) (by decide) hr2 (by decide) (by decide) (by decide)).mono ?_
  rintro e W3 ⟨A3, c3, rfl, hc3, hr3, hb3⟩
  have hB3 := hb3
  have kf := kf.next hB3
  have rf := rf.next hB3
  have HB3 := bt hB3 HB2
  clear hb3 hB3 HB2
  obtain ⟨xf0, xf1, _, _⟩ := boxFacts kf
  have lf := kf.lt
  go_wp2_with fail
  clear xf0 xf1 lf
  refine (Program_lit [(2, [255, 240, 15, 255]), (2, [255, 48, 15, 255])] 0 (2, [255, 240, 15, 255]) 1 [51] A3 (some ⟨W3.heap.size + 1, 0, none⟩) c3 1 _ (by decide) (by decide) (hr3.next (al2 _ _ _)) (litB (by simp [at?_alloc, u8s, u8])) (by decide) (by decide) (by decide) (by decide)).mono ?_
  rintro e W4 ⟨A4, c4, rfl, hc4, hr4, hb4⟩
  have hB4 := bt hb4 (al2 W3 _ _)
  have kf := kf.next hB4
  have rf := rf.next hB4
  have ka : Bk W4 W3.heap.size 24 _ := ((Bk.new _ _ _).alloc _).next hb4
  have ra := hr3.next hB4
  have HB4 := bt hB4 HB3
  clear hb4 hB4 HB3
  obtain ⟨xf0, xf1, _, _⟩ := boxFacts kf
  have lf := kf.lt
  obtain ⟨xa0, xa1, _, _⟩ := boxFacts ka
  have la := ka.lt
  go_wp2_with fail
  clear xf0 xf1 lf
  clear xa0 xa1 la
  refine (last_lit (2, [255, 48, 15, 255]) true [(2, [255, 240, 15, 255]), (2, [255, 48, 15, 255])] 0 2 A4 c4 W4 (by decide) (by decide) hr4 (by decide) (by decide) (by decide)).mono ?_
  rintro e W5 ⟨A5, c5, rfl, hc5, hr5, hb5⟩
  have hB5 := hb5
  have kf := kf.next hB5
  have rf := rf.next hB5
  have ka := ka.next hB5
  have ra := ra.next hB5
  have HB5 := bt hB5 HB4
  clear hb5 hB5 HB4
  obtain ⟨xf0, xf1, _, _⟩ := boxFacts kf
  have lf := kf.lt
  obtain ⟨xa0, xa1, _, _⟩ := boxFacts ka
  have la := ka.lt
  go_wp2_with fail
  clear xf0 xf1 lf
  clear xa0 xa1 la
  refine (Erase_lit [(2, [255, 48, 15, 255]), (2, [255, 48, 15, 255]), (2, [255, 255, 15, 255])] 0 (2, [255, 48, 15, 255]) 0 A5 c5 _ (by decide) (by decide) (hr5.next (al1 _ _)) (by decide) (by decide) (by decide)).mono ?_
  rintro e W6 ⟨A6, c6, rfl, hc6, hr6, hb6⟩
  have hB6 := bt hb6 (al1 W5 _)
  have kf := kf.next hB6
  have rf := rf.next hB6
  have ka := ka.next hB6
  have ra := ra.next hB6
  have kb : Bk W6 W5.heap.size 24 _ := ((Bk.new _ _ _)).next hb6
  have rb := hr5.next hB6
  have HB6 := bt hB6 HB5
  clear hb6 hB6 HB5
  obtain ⟨xf0, xf1, _, _⟩ := boxFacts kf
  have lf := kf.lt
  obtain ⟨xa0, xa1, _, _⟩ := boxFacts ka
  have la := ka.lt
  obtain ⟨xb0, xb1, _, _⟩ := boxFacts kb
  have lb := kb.lt
  go_wp2_with fail
  clear xf0 xf1 lf
  clear xa0 xa1 la
  clear xb0 xb1 lb
  refine (last_lit (2, [255, 255, 15, 255]) true [(2, [255, 48, 15, 255]), (2, [255, 48, 15, 255]), (2, [255, 255, 15, 255])] 0 3 A6 c6 W6 (by decide) (by decide) hr6 (by decide) (by decide) (by decide)).mono ?_
  rintro e W7 ⟨A7, c7, rfl, hc7, hr7, hb7⟩
  have hB7 := hb7
  have kf := kf.next hB7
  have rf := rf.next hB7
  have ka := ka.next hB7
  have ra := ra.next hB7
  have kb := kb.next hB7
  have rb := rb.next hB7
  have HB7 := bt hB7 HB6
  clear hb7 hB7 HB6
  obtain ⟨xf0, xf1, _, _⟩ := boxFacts kf
  have lf := kf.lt
  obtain ⟨xa0, xa1, _, _⟩ := boxFacts ka
  have la := ka.lt
  obtain ⟨xb0, xb1, _, _⟩ := boxFacts kb
  have lb := kb.lt
  go_wp2_with fail
  clear xf0 xf1 lf
  clear xa0 xa1 la
  clear xb0 xb1 lb
  refine (Program_lit [] 3 (2, [255, 255, 255, 255]) 3 [1, 2] A1 (some ⟨W7.heap.size + 1, 0, none⟩) c1 2 _ (by decide) (by decide) (rf.next (al2 _ _ _)) (litB (by simp [at?_alloc, u8s, u8])) (by decide) (by decide) (by decide) (by decide)).mono ?_
  rintro e W8 ⟨A8, c8, rfl, hc8, hr8, hb8⟩
  have hB8 := bt hb8 (al2 W7 _ _)
  have kf := kf.next hB8
  have rf := rf.next hB8
  have ka := ka.next hB8
  have ra := ra.next hB8
  have kb := kb.next hB8
  have rb := rb.next hB8
  have kc : Bk W8 W7.heap.size 24 _ := ((Bk.new _ _ _).alloc _).next hb8
  have rc := hr7.next hB8
  have HB8 := bt hB8 HB7
  clear hb8 hB8 HB7
  obtain ⟨xf0, xf1, _, _⟩ := boxFacts kf
  have lf := kf.lt
  obtain ⟨xa0, xa1, _, _⟩ := boxFacts ka
  have la := ka.lt
  obtain ⟨xb0, xb1, _, _⟩ := boxFacts kb
  have lb := kb.lt
  obtain ⟨xc0, xc1, _, _⟩ := boxFacts kc
  have lc := kc.lt
  go_wp2_with fail
  clear xf0 xf1 lf
  clear xa0 xa1 la
  clear xb0 xb1 lb
  clear xc0 xc1 lc
  refine (Erase_lit [] 1 (2, [255, 255, 255, 255]) 2 A1 c1 W8 (by decide) (by decide) rf (by decide) (by decide) (by decide)).mono ?_
  rintro e W9 ⟨A9, c9, rfl, hc9, hr9, hb9⟩
  have hB9 := hb9
  have kf := kf.next hB9
  have rf := rf.next hB9
  have ka := ka.next hB9
  have ra := ra.next hB9
  have kb := kb.next hB9
  have rb := rb.next hB9
  have kc := kc.next hB9
  have rc := rc.next hB9
  have HB9 := bt hB9 HB8
  clear hb9 hB9 HB8
  obtain ⟨xf0, xf1, _, _⟩ := boxFacts kf
  have lf := kf.lt
  obtain ⟨xa0, xa1, _, _⟩ := boxFacts ka
  have la := ka.lt
  obtain ⟨xb0, xb1, _, _⟩ := boxFacts kb
  have lb := kb.lt
  obtain ⟨xc0, xc1, _, _⟩ := boxFacts kc
  have lc := kc.lt
  go_wp2_with fail
  clear xf0 xf1 lf
  clear xa0 xa1 la
  clear xb0 xb1 lb
  clear xc0 xc1 lc
  refine (Valid_lit true 2 A1 4 c1 W9 (by decide)).mono ?_
  rintro e W10 ⟨rfl, hb10⟩
  have hB10 := hb10
  have kf := kf.next hB10
  have rf := rf.next hB10
  have ka := ka.next hB10
  have ra := ra.next hB10
  have kb := kb.next hB10
  have rb := rb.next hB10
  have kc := kc.next hB10
  have rc := rc.next hB10
  have HB10 := bt hB10 HB9
  clear hb10 hB10 HB9
  obtain ⟨xf0, xf1, _, _⟩ := boxFacts kf
  have lf := kf.lt
  obtain ⟨xa0, xa1, _, _⟩ := boxFacts ka
  have la := ka.lt
  obtain ⟨xb0, xb1, _, _⟩ := boxFacts kb
  have lb := kb.lt
  obtain ⟨xc0, xc1, _, _⟩ := boxFacts kc
  have lc := kc.lt
  go_wp2_with fail
  clear xf0 xf1 lf
  clear xa0 xa1 la
  clear xb0 xb1 lb
  clear xc0 xc1 lc
  refine (Valid_lit false 0 none 0 0 W10 (by decide)).mono ?_
  rintro e W11 ⟨rfl, hb11⟩
  have hB11 := hb11
  have kf := kf.next hB11
  have rf := rf.next hB11
  have ka := ka.next hB11
  have ra := ra.next hB11
  have kb := kb.next hB11
  have rb := rb.next hB11
  have kc := kc.next hB11
  have rc := rc.next hB11
  have HB11 := bt hB11 HB10
  clear hb11 hB11 HB10
  obtain ⟨xf0, xf1, _, _⟩ := boxFacts kf
  have lf := kf.lt
  obtain ⟨xa0, xa1, _, _⟩ := boxFacts ka
  have la := ka.lt
  obtain ⟨xb0, xb1, _, _⟩ := boxFacts kb
  have lb := kb.lt
  obtain ⟨xc0, xc1, _, _⟩ := boxFacts kc
  have lc := kc.lt
  go_wp2_with fail
  clear xf0 xf1 lf
  clear xa0 xa1 la
  clear xb0 xb1 lb
  clear xc0 xc1 lc
  refine (want_lit true (2, [255, 255, 255, 255]) [255, 255, 255, 255] A1 (some ⟨W11.heap.size, 0, none⟩) c1 4 _ (by decide) (rf.next (al1 _ _)) (litB (by simp [at?_alloc, u8s, u8])) (by decide) (by decide)).mono ?_
  rintro e W12 ⟨rfl, hb12⟩
  have hB12 := bt hb12 (al1 W11 _)
  have kf := kf.next hB12
  have rf := rf.next hB12
  have ka := ka.next hB12
  have ra := ra.next hB12
  have kb := kb.next hB12
  have rb := rb.next hB12
  have kc := kc.next hB12
  have rc := rc.next hB12
  have HB12 := bt hB12 HB11
  clear hb12 hB12 HB11
  obtain ⟨xf0, xf1, _, _⟩ := boxFacts kf
  have lf := kf.lt
  obtain ⟨xa0, xa1, _, _⟩ := boxFacts ka
  have la := ka.lt
  obtain ⟨xb0, xb1, _, _⟩ := boxFacts kb
  have lb := kb.lt
  obtain ⟨xc0, xc1, _, _⟩ := boxFacts kc
  have lc := kc.lt
  go_wp2_with fail
  clear xf0 xf1 lf
  clear xa0 xa1 la
  clear xb0 xb1 lb
  clear xc0 xc1 lc
  refine (want_lit true (2, [255, 240, 15, 255]) [255, 240, 15, 255] A3 (some ⟨W12.heap.size, 0, none⟩) c3 4 _ (by decide) (ra.next (al1 _ _)) (litB (by simp [at?_alloc, u8s, u8])) (by decide) (by decide)).mono ?_
  rintro e W13 ⟨rfl, hb13⟩
  have hB13 := bt hb13 (al1 W12 _)
  have kf := kf.next hB13
  have rf := rf.next hB13
  have ka := ka.next hB13
  have ra := ra.next hB13
  have kb := kb.next hB13
  have rb := rb.next hB13
  have kc := kc.next hB13
  have rc := rc.next hB13
  have HB13 := bt hB13 HB12
  clear hb13 hB13 HB12
  obtain ⟨xf0, xf1, _, _⟩ := boxFacts kf
  have lf := kf.lt
  obtain ⟨xa0, xa1, _, _⟩ := boxFacts ka
  have la := ka.lt
  obtain ⟨xb0, xb1, _, _⟩ := boxFacts kb
  have lb := kb.lt
  obtain ⟨xc0, xc1, _, _⟩ := boxFacts kc
  have lc := kc.lt
  go_wp2_with fail
  clear xf0 xf1 lf
  clear xa0 xa1 la
  clear xb0 xb1 lb
  clear xc0 xc1 lc
  refine (want_lit true (2, [255, 48, 15, 255]) [255, 48, 15, 255] A5 (some ⟨W13.heap.size, 0, none⟩) c5 4 _ (by decide) (rb.next (al1 _ _)) (litB (by simp [at?_alloc, u8s, u8])) (by decide) (by decide)).mono ?_
  rintro e W14 ⟨rfl, hb14⟩
  have hB14 := bt hb14 (al1 W13 _)
  have kf := kf.next hB14
  have rf := rf.next hB14
  have ka := ka.next hB14
  have ra := ra.next hB14
  have kb := kb.next hB14
  have rb := rb.next hB14
  have kc := kc.next hB14
  have rc := rc.next hB14
  have HB14 := bt hB14 HB13
  clear hb14 hB14 HB13
  obtain ⟨xf0, xf1, _, _⟩ := boxFacts kf
  have lf := kf.lt
  obtain ⟨xa0, xa1, _, _⟩ := boxFacts ka
  have la := ka.lt
  obtain ⟨xb0, xb1, _, _⟩ := boxFacts kb
  have lb := kb.lt
  obtain ⟨xc0, xc1, _, _⟩ := boxFacts kc
  have lc := kc.lt
  go_wp2_with fail
  clear xf0 xf1 lf
  clear xa0 xa1 la
  clear xb0 xb1 lb
  clear xc0 xc1 lc
  refine (want_lit true (2, [255, 255, 15, 255]) [255, 255, 15, 255] A7 (some ⟨W14.heap.size, 0, none⟩) c7 4 _ (by decide) (rc.next (al1 _ _)) (litB (by simp [at?_alloc, u8s, u8])) (by decide) (by decide)).mono ?_
  rintro e W15 ⟨rfl, hb15⟩
  have hB15 := bt hb15 (al1 W14 _)
  have kf := kf.next hB15
  have rf := rf.next hB15
  have ka := ka.next hB15
  have ra := ra.next hB15
  have kb := kb.next hB15
  have rb := rb.next hB15
  have kc := kc.next hB15
  have rc := rc.next hB15
  have HB15 := bt hB15 HB14
  clear hb15 hB15 HB14
  go_wp2
  go_ret
  exact ⟨rfl, HB15⟩
end Go.Proofs.Ytjfpnldijlbmiaa
