/- Contracts of package journal: checksums and numbers in bytes. -/
import Derived.Test.YthebojaminploaaGreatDoorProg
import Derived.Test.YthebojaminploaaGreatDoorKJM
import Derived.WalkKit
import Derived.Deep.QuietTactic
import Derived.BigQuiet
import Derived.Lib.Hide
import Derived.Lib.QuietBelow
import Derived.Outline
import Derived.StillTailTactics
import Derived.Deep.RegionHeld3
import Derived.IntWalk
import Derived.Laws.BitsAllLaws
set_option maxRecDepth 100000
set_option linter.unusedVariables false
set_option linter.unusedSimpArgs false
namespace Go.Proofs.YthebojaminploaaGreatDoor
open Go.RowKit Go.Sort

theorem xor32 (h : UInt32) (b : UInt8) : bits .xor .u32 (h.toNat : Int) (b.toNat : Int) = ((h ^^^ b.toUInt32).toNat : Int) := by
  show IntKind.u32.wrap ((BitVec.ofInt 32 (h.toNat : Int) ^^^ BitVec.ofInt 32 (b.toNat : Int)).toNat : Int) = _
  have e1 : (BitVec.ofInt 32 (h.toNat : Int)).toNat = h.toNat := by
    rw [BitVec.ofInt_natCast, BitVec.toNat_ofNat]; exact Nat.mod_eq_of_lt h.toNat_lt
  have e2 : (BitVec.ofInt 32 (b.toNat : Int)).toNat = b.toNat := by
    rw [BitVec.ofInt_natCast, BitVec.toNat_ofNat]; exact Nat.mod_eq_of_lt (by have := b.toNat_lt; omega)
  rw [BitVec.toNat_xor, e1, e2, UInt32.toNat_xor, UInt8.toNat_toUInt32]
  have hx : h.toNat ^^^ b.toNat < 2 ^ 32 := Nat.xor_lt_two_pow h.toNat_lt (by have := b.toNat_lt; omega)
  simp [IntKind.wrap, IntKind.bits, IntKind.signed]
  omega
theorem mul32 (a : UInt32) : IntKind.u32.wrap ((a.toNat : Int) * 16777619) = ((a * 16777619).toNat : Int) := by
  rw [UInt32.toNat_mul]
  simp [IntKind.wrap, IntKind.bits, IntKind.signed]
theorem val32 (h : UInt32) (b : UInt8) : ((h.toNat ^^^ b.toNat : Nat) : Int) * 16777619 % 4294967296 = (((h ^^^ b.toUInt32) * 16777619).toNat : Int) := by
  rw [UInt32.toNat_mul, UInt32.toNat_xor, UInt8.toNat_toUInt32]; simp
theorem ret_u32 {a b : Int} (h : a = b) : Ending.returned (.int .u32 a) = .returned (.int .u32 b) := by rw [h]
theorem or32 (x y k : Nat) (hy : y < 2 ^ k) (h : 2 ^ k * x + y < 4294967296) : bits .or .u32 ((2 ^ k * x : Nat) : Int) ((y : Nat) : Int) = ((2 ^ k * x + y : Nat) : Int) := by
  show IntKind.u32.wrap ((BitVec.ofInt 32 ((2 ^ k * x : Nat) : Int) ||| BitVec.ofInt 32 (y : Int)).toNat : Int) = _
  have e1 : (BitVec.ofInt 32 ((2 ^ k * x : Nat) : Int)).toNat = 2 ^ k * x := by
    rw [BitVec.ofInt_natCast, BitVec.toNat_ofNat]; exact Nat.mod_eq_of_lt (by omega)
  have e2 : (BitVec.ofInt 32 (y : Int)).toNat = y := by
    rw [BitVec.ofInt_natCast, BitVec.toNat_ofNat]; exact Nat.mod_eq_of_lt (by omega)
  rw [BitVec.toNat_or, e1, e2, ← Nat.two_pow_add_eq_or_of_lt hy]
  generalize 2 ^ k * x = z at *
  simp only [IntKind.wrap, IntKind.bits, IntKind.signed]
  simp
  omega
theorem number_val (a b c d : Nat) (ha : a < 256) (hb : b < 256) (hc : c < 256) (hd : d < 256) :
    bits .or .u32 (bits .or .u32 (bits .or .u32 ((a : Int) * 16777216) ((b : Int) * 65536)) ((c : Int) * 256)) (d : Int) = ((a * 16777216 + b * 65536 + c * 256 + d : Nat) : Int) := by
  have h1 := or32 a (b * 65536) 24 (by omega) (by omega)
  have h2 := or32 (a * 256 + b) (c * 256) 16 (by omega) (by omega)
  have h3 := or32 (a * 65536 + b * 256 + c) d 8 (by omega) (by omega)
  rw [show ((a : Int) * 16777216) = ((2 ^ 24 * a : Nat) : Int) by omega, show ((b : Int) * 65536) = ((b * 65536 : Nat) : Int) by omega, h1,
    show ((2 ^ 24 * a + b * 65536 : Nat) : Int) = ((2 ^ 16 * (a * 256 + b) : Nat) : Int) by omega, show ((c : Int) * 256) = ((c * 256 : Nat) : Int) by omega, h2,
    show ((2 ^ 16 * (a * 256 + b) + c * 256 : Nat) : Int) = ((2 ^ 8 * (a * 65536 + b * 256 + c) : Nat) : Int) by omega, h3]
  omega
theorem fnv_snoc (bs : List UInt8) (b : UInt8) : fnv (bs ++ [b]) = (fnv bs ^^^ b.toUInt32) * 16777619 := by simp [fnv, fnvS]
theorem flat_snoc (ds : List Rec) (i : Nat) (h : i < ds.length) : (ds.take (i + 1)).flatten = (ds.take i).flatten ++ ds[i] := by
  rw [List.take_succ_eq_append_getElem h, List.flatten_append]; simp

set_option maxHeartbeats 1000000 in
theorem checksum_any (ds : List Rec) (A : Option Addr) (c : Nat) (w : World) (hA : RdBs w w.heap.size A ds) (hn : ds.length ≤ 1000000) (hl : ∀ d ∈ ds, d.length ≤ 1000000000) :
    Calls Tryz.prog 68 #[.slice A ds.length c] w fun e w' => e = .returned (.int .u32 ((fnv ds.flatten).toNat : Int)) ∧ w = w' := by
  have HA := Lib.hid hA
  have HL := Lib.hid hl
  clear hA hl
  go_enter Tryz.func68, Tryz.ntmps68
  go_wp2
  go_loop [3, 10] (fun x k => ∃ i : Nat, i ≤ ds.length ∧ k = .int .i64 (i : Int) ∧ x = .int .u32 ((fnv (ds.take i).flatten).toNat : Int)) (fun _ k => ds.length - (intOf k).toNat)
  case atStart => exact ⟨0, Nat.zero_le _, rfl, rfl⟩
  case round =>
    obtain ⟨i, hi, rfl, rfl⟩ := hrel
    by_cases hlt : i < ds.length
    · obtain ⟨b, o, A', c', rfl, hb, q0, q1, hr⟩ := HA.out.at_ hlt
      obtain ⟨d, hd⟩ : ∃ d, d = ds[i] := ⟨_, rfl⟩
      have hdl := HL.out d (by rw [hd]; exact List.getElem_mem hlt)
      rw [← hd] at q0 q1 hr
      have HD := Lib.hid hd
      have HR := Lib.hid hr
      clear hd hr
      have i1 : (0 : Int) ≤ (i : Int) := by omega
      have i2 : (i : Int) < (ds.length : Int) := by omega
      go_wp2
      go_loop [3, 16] (fun x k => ∃ j : Nat, j ≤ d.length ∧ k = .int .i64 (j : Int) ∧ x = .int .u32 ((fnv ((ds.take i).flatten ++ d.take j)).toNat : Int)) (fun _ k => d.length - (intOf k).toNat)
      case atStart => exact ⟨0, Nat.zero_le _, rfl, by simp⟩
      case round =>
        obtain ⟨j, hj, rfl, rfl⟩ := hrel
        by_cases hjl : j < d.length
        · obtain ⟨b2, o2, rfl, hb2, q2⟩ := HR.out.at_ hjl
          have hx := xor32 (fnv ((ds.take i).flatten ++ d.take j)) d[j]
          have hm := mul32 (fnv ((ds.take i).flatten ++ d.take j) ^^^ d[j].toUInt32)
          have HN : Hid (fnv ((ds.take i).flatten ++ d.take (j + 1)) = (fnv ((ds.take i).flatten ++ d.take j) ^^^ d[j].toUInt32) * 16777619) := by
            show _ = _
            rw [List.take_succ_eq_append_getElem hjl, ← List.append_assoc, fnv_snoc]
          obtain ⟨h0, hh0⟩ : ∃ h, h = fnv ((ds.take i).flatten ++ d.take j) := ⟨_, rfl⟩
          obtain ⟨dj, hdj⟩ : ∃ x, x = d[j] := ⟨_, rfl⟩
          rw [← hh0, ← hdj] at HN
          rw [← hh0, ← hdj] at hx hm
          rw [← hh0]
          rw [← hdj] at q2
          have b0 := h0.toNat_lt
          have b1 := dj.toNat_lt
          have b2' := (h0 ^^^ dj.toUInt32).toNat_lt
          clear hh0 hdj
          have k1 : (0 : Int) ≤ (j : Int) := by omega
          have k2 : (j : Int) < (d.length : Int) := by omega
          go_wp2
          go_round
          case rel => exact ⟨j + 1, by omega, by go_num, by rw [HN.out, val32]⟩
          case measure => simp [intOf]; omega
        · obtain rfl : j = d.length := by omega
          have HF : Hid ((ds.take i).flatten ++ d.take d.length = (ds.take (i + 1)).flatten) := by show _ = _; rw [flat_snoc _ _ hlt, ← HD.out, List.take_of_length_le (Nat.le_refl _)]
          rw [HF.out]
          go_wp2
          go_round
          case rel => exact ⟨i + 1, by omega, by go_num, rfl⟩
          case measure => simp [intOf]; omega
    · obtain rfl : i = ds.length := by omega
      have HF : Hid ((ds.take ds.length).flatten = ds.flatten) := by show _ = _; rw [List.take_of_length_le (Nat.le_refl _)]
      go_wp2
      go_ret
      exact ⟨rfl, rfl⟩
theorem be4_cells (n : Nat) (h : n < 4294967296) : u8s (be4 n) = [.int .u8 ((n / 16777216 : Nat) : Int), .int .u8 ((n / 65536 % 256 : Nat) : Int), .int .u8 ((n / 256 % 256 : Nat) : Int), .int .u8 ((n % 256 : Nat) : Int)] := by
  simp only [u8s, be4, List.map_cons, List.map_nil, u8, UInt8.toNat_ofNat']
  rw [Nat.mod_eq_of_lt (by omega : n / 16777216 < 2 ^ 8), Nat.mod_eq_of_lt (by omega : n / 65536 % 256 < 2 ^ 8), Nat.mod_eq_of_lt (by omega : n / 256 % 256 < 2 ^ 8), Nat.mod_eq_of_lt (by omega : n % 256 < 2 ^ 8)]
theorem four_any (n : Nat) (hn : n < 4294967296) (w : World) :
    Calls Tryz.prog 46 #[.int .u32 (n : Int)] w fun e w' => e = .returned (.slice (some ⟨w.heap.size, 0, none⟩) 4 4) ∧ w' = w.alloc (.cells (u8s (be4 n)).toArray 5) := by
  rw [be4_cells n hn]
  go_enter Tryz.func46, Tryz.ntmps46
  go_wp2
  go_ret
  refine ⟨rfl, ?_⟩
  simp only [Int.natCast_ediv, Int.natCast_emod]; rfl
theorem number_any (a b c d : UInt8) (A : Option Addr) (cp : Nat) (w : World) (hA : RdB w w.heap.size A [a, b, c, d]) :
    Calls Tryz.prog 66 #[.slice A 4 cp] w fun e w' => e = .returned (.int .u32 (num4 a b c d : Int)) ∧ ∃ k, w' = w.drewN k := by
  obtain ⟨g, o, rfl, hg, hc⟩ := hA.addr (by simp)
  have q0 := hc 0 (by simp)
  have q1 := hc 1 (by simp)
  have q2 := hc 2 (by simp)
  have q3 := hc 3 (by simp)
  simp only [Nat.add_zero, List.getElem_cons_zero, List.getElem_cons_succ] at q0 q1 q2 q3
  have b0 := a.toNat_lt
  have b1 := b.toNat_lt
  have b2 := c.toNat_lt
  have b3 := d.toNat_lt
  clear hc hA
  go_enter Tryz.func66, Tryz.ntmps66
  go_wp2
  go_quiet (fail)
  go_wp2
  go_ret
  refine ⟨ret_u32 ?_, _, rfl⟩
  exact number_val _ _ _ _ b0 b1 b2 b3
end Go.Proofs.YthebojaminploaaGreatDoor
