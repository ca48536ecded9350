/-
  PROVED HERE: what slices.ContainsFunc answers of noughts, and that file's within goes on if all numbers are blocks.
-/
import Derived.Test.YtmpiakibllgdeaaGreatDoorCrc
namespace Go.Proofs.YtmpiakibllgdeaaGreatDoor
open Go.ChangeShapes Go.WideShapes Go.ChangeAt Go.RowKit
set_option linter.unusedVariables false

set_option maxRecDepth 100000 in
theorem nz_any (c : Int) (w : World) : Calls Tryz.prog 334 #[.int .u8 c] w fun e w' => e = .returned (.bool (c != 0)) ∧ w = w' := by
  go_enter Tryz.func334, Tryz.ntmps334
  go_wp2
  go_ret
  exact ⟨rfl, rfl⟩
set_option maxRecDepth 100000 in
set_option maxHeartbeats 2000000 in
theorem index_no (g off len cap : Nat) (w : World) (h : ∀ i : Nat, i < len → w.cell? ⟨g, off + i, none⟩ = some (.int .u8 0)) (hm : len ≤ 1000) :
    Calls Tryz.prog 363 #[.slice (some ⟨g, off, none⟩) len cap, .func (.func 334) #[] #[]] w fun e w' => e = .returned (.int .i64 (-1)) ∧ w = w' := by
  have HH := Lib.hid h
  clear h
  go_enter Tryz.func363, Tryz.ntmps363
  go_wp2_with fail
  go_loop [5, 8] (fun a i => ∃ k : Nat, k ≤ len ∧ i = .int .i64 k) (fun _ i => len - (intOf i).toNat)
  case atStart => exact ⟨0, by omega, rfl⟩
  case round =>
    obtain ⟨k, hk, rfl⟩ := hrel
    by_cases hlt : k < len
    · have hc := HH.out k hlt
      go_wp2_with fail
      refine (nz_any _ _).mono ?_
      rintro e w' ⟨rfl, rfl⟩
      go_wp2_with fail
      go_round
      case rel => exact ⟨k + 1, by omega, by go_num⟩
      case measure => simp [intOf]; omega
    · obtain rfl : k = len := by omega
      go_wp2_with fail
      go_ret
      exact ⟨rfl, rfl⟩
set_option maxRecDepth 100000 in
theorem contains_no (g off len cap : Nat) (w : World) (h : ∀ i : Nat, i < len → w.cell? ⟨g, off + i, none⟩ = some (.int .u8 0)) (hm : len ≤ 1000) :
    Calls Tryz.prog 333 #[.slice (some ⟨g, off, none⟩) len cap, .func (.func 334) #[] #[]] w fun e w' => e = .returned (.bool false) ∧ w = w' := by
  have HH := Lib.hid (index_no g off len cap w h hm)
  clear h
  go_enter Tryz.func333, Tryz.ntmps333
  go_wp2_with (go_at_call 363; refine HH.out.mono ?_; rintro e w' ⟨rfl, rfl⟩)
  go_ret
  exact ⟨rfl, rfl⟩
set_option maxRecDepth 100000 in
set_option maxHeartbeats 2000000 in
theorem within_any (wb wo g off len cap : Nat) (n : Nat) (ms : Nat → Nat) (w : World) (hb : w.cell? ⟨wb, wo + 1, none⟩ = some (.int .i64 n)) (h : ∀ i : Nat, i < len → w.cell? ⟨g, off + i, none⟩ = some (.int .i64 (ms i)) ∧ ms i < n) (hm : len ≤ 1000) :
    Calls Tryz.prog 285 #[.pointer (some ⟨wb, wo, none⟩), .slice (some ⟨g, off, none⟩) len cap] w fun e w' => e = .returned (.tuple #[]) ∧ w = w' := by
  have HH := Lib.hid h
  have HB := Lib.hid hb
  clear h
  go_enter Tryz.func285, Tryz.ntmps285
  go_wp2_with fail
  go_loop [5, 8] (fun a i => ∃ k : Nat, k ≤ len ∧ i = .int .i64 k) (fun _ i => len - (intOf i).toNat)
  case atStart => exact ⟨0, by omega, rfl⟩
  case round =>
    obtain ⟨k, hk, rfl⟩ := hrel
    by_cases hlt : k < len
    · obtain ⟨hc, hms⟩ := HH.out k hlt
      generalize ms k = m at *
      go_wp2_with fail
      go_round
      case rel => exact ⟨k + 1, by omega, by go_num⟩
      case measure => simp [intOf]; omega
    · obtain rfl : k = len := by omega
      go_wp2_with fail
      go_end0
      exact ⟨rfl, rfl⟩
end Go.Proofs.YtmpiakibllgdeaaGreatDoor
