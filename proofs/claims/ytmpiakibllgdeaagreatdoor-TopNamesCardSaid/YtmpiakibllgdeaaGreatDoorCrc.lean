/-
  PROVED HERE: what package crc answers.
-/
import Derived.Test.YtmpiakibllgdeaaGreatDoorProg
import Derived.WalkKit
import Derived.ProofKit
import Derived.OpenShut
import Derived.Lib.Hide
import Derived.Handy
import Derived.Deep.DeepCutAuto
namespace Go.Proofs.YtmpiakibllgdeaaGreatDoor
open Go.ChangeShapes Go.WideShapes Go.ChangeAt Go.RowKit
set_option linter.unusedVariables false

/-- Bytes somewhere. -/
structure Reads (w : World) (g off : Nat) (bs : List Int) : Prop where
  at' : ∀ i : Nat, i < bs.length → w.cell? ⟨g, off + i, none⟩ = some (.int .u8 (bs[i]?.getD 0))
  lo : ∀ i : Nat, 0 ≤ bs[i]?.getD 0 ∧ bs[i]?.getD 0 < 256
theorem bits_u32 (o : BinOp) (a b : Int) : 0 ≤ bits o .u32 a b ∧ bits o .u32 a b < 4294967296 := by
  unfold bits
  rw [IntKind.wrap_u32]
  omega
theorem and15 (n : Int) : bits .and .u32 n 15 = n % 16 := by
  have h : (BitVec.ofInt 32 15).toNat = 2 ^ 4 - 1 := by decide
  have key : (BitVec.ofInt 32 n &&& BitVec.ofInt 32 15).toNat = (n % ((2 ^ 32 : Nat) : Int)).toNat % 2 ^ 4 := by
    rw [BitVec.toNat_and, BitVec.toNat_ofInt, h, Nat.and_two_pow_sub_one_eq_mod]
  show IntKind.u32.wrap ((BitVec.ofInt 32 n &&& BitVec.ofInt 32 15).toNat : Nat) = n % 16
  rw [key, IntKind.wrap_u32]
  omega
attribute [local go_sem] and15
/-- crc's table. -/
def Half (w : World) (T : Nat → Int) : Prop := ∀ i : Nat, i < 16 → w.cell? ⟨1, i, none⟩ = some (.int .u32 (T i)) ∧ 0 ≤ T i ∧ T i < 4294967296
theorem Half.below {w w' : World} {T : Nat → Int} {B : Nat} (h : Half w T) (hB : 1 < B) (hb : Below B w w') : Half w' T := fun i hi => ⟨(hb.cell (p := ⟨1, i, none⟩) hB).trans (h i hi).1, (h i hi).2⟩
def inv32 (s : Int) : Int := bits .xor .u32 IntKind.u32.max s
theorem inv32_in (s : Int) : 0 ≤ inv32 s ∧ inv32 s < 4294967296 := bits_u32 _ _ _
def nib (T : Nat → Int) (x : Int) : Int := bits .xor .u32 (x / 16) (T (x % 16).toNat)
theorem nib_in (T : Nat → Int) (x : Int) : 0 ≤ nib T x ∧ nib T x < 4294967296 := bits_u32 _ _ _
def nibs (T : Nat → Int) (x : Int) : Nat → Int
  | 0 => x
  | k + 1 => nib T (nibs T x k)
def crcOf (T : Nat → Int) (s : Int) (bs : List Int) : Int := bs.foldl (fun x b => nibs T (bits .xor .u32 x b) 2) s
theorem take_snoc (bs : List Int) (k : Nat) (h : k < bs.length) : bs.take (k + 1) = bs.take k ++ [bs[k]?.getD 0] := by
  rw [List.take_succ_eq_append_getElem h, List.getElem?_eq_getElem h]; rfl
theorem crc_snoc (T : Nat → Int) (s : Int) (bs : List Int) (k : Nat) (h : k < bs.length) : crcOf T s (bs.take (k + 1)) = nibs T (bits .xor .u32 (crcOf T s (bs.take k)) (bs[k]?.getD 0)) 2 := by
  unfold crcOf; rw [take_snoc bs k h, List.foldl_append]; rfl
set_option maxHeartbeats 1000000 in
theorem more_any (g off len cap : Nat) (bs : List Int) (s : Int) (T : Nat → Int) (w : World) (hr : Reads w g off bs) (hl : bs.length = len) (hm : len ≤ 1000000) (hT : Half w T) (s0 : 0 ≤ s) (s1 : s < 4294967296) :
    Calls Tryz.prog 199 #[.int .u32 s, .slice (some ⟨g, off, none⟩) len cap] w fun e w' => e = .returned (.int .u32 (inv32 (crcOf T (inv32 s) bs))) ∧ w = w' := by
  have HT := Lib.hid hT
  have HR := Lib.hid hr
  have HL := Lib.hid hl
  clear hT hr hl
  go_enter Tryz.func199, Tryz.ntmps199
  obtain ⟨n, hn⟩ : ∃ n, bits .xor .u32 IntKind.u32.max s = n := ⟨_, rfl⟩
  have hnb := inv32_in s
  have HN := Lib.hid (show inv32 s = n from hn)
  unfold inv32 at hnb
  rw [hn] at hnb
  obtain ⟨hn0, hn1⟩ := hnb
  go_wp2
  clear hn
  go_loop [5, 6, 11] (fun l b i => ∃ (k : Nat) (x : Int), k ≤ len ∧ i = .int .i64 k ∧ l = .int .u32 x ∧ 0 ≤ x ∧ x < 4294967296 ∧ Hid (x = crcOf T (inv32 s) (bs.take k))) (fun _ _ i => len - (intOf i).toNat)
  case atStart => exact ⟨0, _, by omega, rfl, rfl, by omega, by omega, Lib.hid (by rw [HN.out]; rfl)⟩
  case round =>
    obtain ⟨k, x, hk, rfl, rfl, hx0, hx1, hx⟩ := hrel
    by_cases hlt : k < len
    · have HC := Lib.hid (crc_snoc T (inv32 s) bs k (by rw [HL.out]; exact hlt))
      rw [← hx.out] at HC
      have hc := HR.out.at' k (by rw [HL.out]; exact hlt)
      have hb := HR.out.lo k
      generalize bs[k]?.getD 0 = b at *
      obtain ⟨hb0, hb1⟩ := hb
      obtain ⟨y, hy⟩ : ∃ y, bits .xor .u32 x b = y := ⟨_, rfl⟩
      have hyb := bits_u32 .xor x b
      rw [hy] at hyb HC
      obtain ⟨hy0, hy1⟩ := hyb
      go_wp2
      have HY := Lib.hid hy
      clear hy
      go_loop [5, 21] (fun l j => ∃ (m : Nat) (z : Int), m ≤ 2 ∧ j = .int .i64 m ∧ l = .int .u32 z ∧ 0 ≤ z ∧ z < 4294967296 ∧ Hid (z = nibs T y m)) (fun _ j => 2 - (intOf j).toNat)
      case atStart => exact ⟨0, _, by omega, rfl, rfl, by omega, by omega, Lib.hid rfl⟩
      case round =>
        obtain ⟨m, z, hm2, rfl, rfl, hz0, hz1, hz⟩ := hrel
        by_cases hlt2 : m < 2
        · have hh := HT.out (z % 16).toNat (by omega)
          have e16 : ((z % 16).toNat : Nat) < 16 := by omega
          obtain ⟨hh1, hh2, hh3⟩ := hh
          have HN := Lib.hid (show nibs T y (m + 1) = bits .xor .u32 (z / 16) (T (z % 16).toNat) from by rw [nibs, ← hz.out]; rfl)
          have hnb := nib_in T z
          unfold nib at hnb
          generalize T (z % 16).toNat = t at *
          obtain ⟨v, hv⟩ : ∃ v, bits .xor .u32 (z / 16) t = v := ⟨_, rfl⟩
          rw [hv] at hnb HN
          obtain ⟨hv0, hv1⟩ := hnb
          go_wp2
          go_round
          case rel => exact ⟨m + 1, v, by omega, by go_num, rfl, hv0, hv1, Lib.hid HN.out.symm⟩
          case measure => simp [intOf]; omega
        · obtain rfl : m = 2 := by omega
          have HZ := Lib.hid (hz.out.trans (show nibs T y 2 = crcOf T (inv32 s) (bs.take (k + 1)) from HC.out.symm))
          go_wp2
          go_round
          case rel => exact ⟨k + 1, z, by omega, by go_num, rfl, hz0, hz1, HZ⟩
          case measure => simp [intOf]; omega
    · obtain rfl : k = len := by omega
      obtain ⟨v, hv⟩ : ∃ v, bits .xor .u32 IntKind.u32.max x = v := ⟨_, rfl⟩
      have HV := Lib.hid (show inv32 (crcOf T (inv32 s) bs) = v from by rw [← hv, hx.out, List.take_of_length_le (by rw [HL.out]; omega)]; rfl)
      go_wp2
      go_ret
      rw [HV.out]
      exact ⟨rfl, rfl⟩
theorem sum_any (g off len cap : Nat) (bs : List Int) (T : Nat → Int) (w : World) (hr : Reads w g off bs) (hl : bs.length = len) (hm : len ≤ 1000000) (hT : Half w T) :
    Calls Tryz.prog 124 #[.slice (some ⟨g, off, none⟩) len cap] w fun e w' => e = .returned (.int .u32 (inv32 (crcOf T (inv32 0) bs))) ∧ w = w' := by
  have HH := Lib.hid (more_any g off len cap bs 0 T w hr hl hm hT (by omega) (by omega))
  clear hr hl hT
  go_enter Tryz.func124, Tryz.ntmps124
  go_wp2_with (go_at_call 199; refine HH.out.mono ?_; rintro e w' ⟨rfl, rfl⟩)
  go_ret
  exact ⟨rfl, rfl⟩
end Go.Proofs.YtmpiakibllgdeaaGreatDoor

/-
  PROVED HERE: what slices.ContainsFunc answers of noughts, and that file's within goes on if all numbers are blocks.
-/
namespace Go.Proofs.YtmpiakibllgdeaaGreatDoor
open Go.ChangeShapes Go.WideShapes Go.ChangeAt Go.RowKit
set_option linter.unusedVariables false

set_option maxRecDepth 100000 in
theorem nz_any (c : Int) (w : World) : Calls Tryz.prog 334 #[.int .u8 c] w fun e w' => e = .returned (.bool (c != 0)) ∧ w = w' := by
  go_enter Tryz.func334, Tryz.ntmps334
  go_wp2
  go_ret
  exact ⟨rfl, rfl⟩
set_option maxRecDepth 100000 in
set_option maxHeartbeats 2000000 in
theorem index_no (g off len cap : Nat) (w : World) (h : ∀ i : Nat, i < len → w.cell? ⟨g, off + i, none⟩ = some (.int .u8 0)) (hm : len ≤ 1000) :
    Calls Tryz.prog 363 #[.slice (some ⟨g, off, none⟩) len cap, .func (.func 334) #[] #[]] w fun e w' => e = .returned (.int .i64 (-1)) ∧ w = w' := by
  have HH := Lib.hid h
  clear h
  go_enter Tryz.func363, Tryz.ntmps363
  go_wp2_with fail
  go_loop [5, 8] (fun a i => ∃ k : Nat, k ≤ len ∧ i = .int .i64 k) (fun _ i => len - (intOf i).toNat)
  case atStart => exact ⟨0, by omega, rfl⟩
  case round =>
    obtain ⟨k, hk, rfl⟩ := hrel
    by_cases hlt : k < len
    · have hc := HH.out k hlt
      go_wp2_with fail
      refine (nz_any _ _).mono ?_
      rintro e w' ⟨rfl, rfl⟩
      go_wp2_with fail
      go_round
      case rel => exact ⟨k + 1, by omega, by go_num⟩
      case measure => simp [intOf]; omega
    · obtain rfl : k = len := by omega
      go_wp2_with fail
      go_ret
      exact ⟨rfl, rfl⟩
set_option maxRecDepth 100000 in
theorem contains_no (g off len cap : Nat) (w : World) (h : ∀ i : Nat, i < len → w.cell? ⟨g, off + i, none⟩ = some (.int .u8 0)) (hm : len ≤ 1000) :
    Calls Tryz.prog 333 #[.slice (some ⟨g, off, none⟩) len cap, .func (.func 334) #[] #[]] w fun e w' => e = .returned (.bool false) ∧ w = w' := by
  have HH := Lib.hid (index_no g off len cap w h hm)
  clear h
  go_enter Tryz.func333, Tryz.ntmps333
  go_wp2_with (go_at_call 363; refine HH.out.mono ?_; rintro e w' ⟨rfl, rfl⟩)
  go_ret
  exact ⟨rfl, rfl⟩
set_option maxRecDepth 100000 in
set_option maxHeartbeats 2000000 in
theorem within_any (wb wo g off len cap : Nat) (n : Nat) (ms : Nat → Nat) (w : World) (hb : w.cell? ⟨wb, wo + 1, none⟩ = some (.int .i64 n)) (h : ∀ i : Nat, i < len → w.cell? ⟨g, off + i, none⟩ = some (.int .i64 (ms i)) ∧ ms i < n) (hm : len ≤ 1000) :
    Calls Tryz.prog 285 #[.pointer (some ⟨wb, wo, none⟩), .slice (some ⟨g, off, none⟩) len cap] w fun e w' => e = .returned (.tuple #[]) ∧ w = w' := by
  have HH := Lib.hid h
  have HB := Lib.hid hb
  clear h
  go_enter Tryz.func285, Tryz.ntmps285
  go_wp2_with fail
  go_loop [5, 8] (fun a i => ∃ k : Nat, k ≤ len ∧ i = .int .i64 k) (fun _ i => len - (intOf i).toNat)
  case atStart => exact ⟨0, by omega, rfl⟩
  case round =>
    obtain ⟨k, hk, rfl⟩ := hrel
    by_cases hlt : k < len
    · obtain ⟨hc, hms⟩ := HH.out k hlt
      generalize ms k = m at *
      go_wp2_with fail
      go_round
      case rel => exact ⟨k + 1, by omega, by go_num⟩
      case measure => simp [intOf]; omega
    · obtain rfl : k = len := by omega
      go_wp2_with fail
      go_end0
      exact ⟨rfl, rfl⟩
end Go.Proofs.YtmpiakibllgdeaaGreatDoor
