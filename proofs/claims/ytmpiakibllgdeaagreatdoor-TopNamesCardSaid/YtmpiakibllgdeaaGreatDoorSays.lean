/-
  PROVED HERE: what an error of the device tells of itself (0, 1, 2, 3, 12).
-/
import Derived.Test.YtmpiakibllgdeaaGreatDoorRows
import Derived.WalkKit
import Derived.ProofKit
import Derived.OpenShut
import Derived.Lib.Hide
import Derived.Handy
namespace Go.Proofs.YtmpiakibllgdeaaGreatDoor
open Go.ChangeShapes Go.WideShapes Go.ChangeAt Go.RowKit

def dig (n : Int) : ByteArray := if n = 0 then ⟨#[48]⟩ else if n = 1 then ⟨#[49]⟩ else if n = 2 then ⟨#[50]⟩ else if n = 3 then ⟨#[51]⟩ else ⟨#[49, 50]⟩
def etxt (n : Int) : ByteArray := ⟨#[101, 114, 114, 111, 114, 32]⟩ ++ dig n
def Told (n : Int) : Prop := n = 0 ∨ n = 1 ∨ n = 2 ∨ n = 3 ∨ n = 12
theorem ret_str {a b : ByteArray} (h : a = b) : Ending.returned (.string a) = .returned (.string b) := by rw [h]
set_option maxRecDepth 100000 in
theorem small_any (n : Int) (w : World) (hn : Told n) : Calls Tryz.prog 115 #[.int .i64 n] w fun e w' => e = .returned (.string (dig n)) ∧ w = w' := by
  rcases hn with rfl | rfl | rfl | rfl | rfl
  all_goals
    go_enter Tryz.func115, Tryz.ntmps115
    go_wp2
    go_ret
    exact ⟨ret_str (by kernel_rfl), rfl⟩
theorem format_any (n : Int) (w : World) (hn : Told n) : Calls Tryz.prog 44 #[.int .i64 n, .int .i64 10] w fun e w' => e = .returned (.string (dig n)) ∧ w = w' := by
  have h1 : 0 ≤ n := by rcases hn with rfl | rfl | rfl | rfl | rfl <;> decide
  have h2 : n < 100 := by rcases hn with rfl | rfl | rfl | rfl | rfl <;> decide
  have HN := Lib.hid hn
  clear hn
  go_enter Tryz.func44, Tryz.ntmps44
  go_wp2_with (go_at_call 115; refine (small_any n _ HN.out).mono ?_; rintro e w' ⟨rfl, rfl⟩)
  go_ret
  exact ⟨rfl, rfl⟩
theorem itoa_any (n : Int) (w : World) (hn : Told n) : Calls Tryz.prog 11 #[.int .i64 n] w fun e w' => e = .returned (.string (dig n)) ∧ w = w' := by
  have HN := Lib.hid hn
  clear hn
  have h26 : Calls Tryz.prog 25 #[.int .i64 n] w fun e w' => e = .returned (.string (dig n)) ∧ w = w' := by
    go_enter Tryz.func25, Tryz.ntmps25
    go_wp2_with (go_at_call 44; refine (format_any n _ HN.out).mono ?_; rintro e w' ⟨rfl, rfl⟩)
    go_ret
    exact ⟨rfl, rfl⟩
  go_enter Tryz.func11, Tryz.ntmps11
  go_wp2_with (go_at_call 25; refine h26.mono ?_; rintro e w' ⟨rfl, rfl⟩)
  go_ret
  exact ⟨rfl, rfl⟩
theorem dig_size (n : Int) : (dig n).size ≤ 2 := by
  unfold dig
  split
  · decide
  · split
    · decide
    · split
      · decide
      · split <;> decide
theorem etxt_size (n : Int) : (etxt n).size ≤ 8 := by
  have := dig_size n
  unfold etxt
  rw [ByteArray.size_append]
  have e : (⟨#[101, 114, 114, 111, 114, 32]⟩ : ByteArray).size = 6 := rfl
  omega
theorem error_any (n : Int) (w : World) (hn : Told n) : Calls Tryz.prog 5 #[.int .i64 n] w fun e w' => e = .returned (.string (etxt n)) ∧ w = w' := by
  have HN := Lib.hid hn
  have hz := dig_size n
  clear hn
  go_enter Tryz.func5, Tryz.ntmps5
  go_wp2_with (go_at_call 11; refine (itoa_any n _ HN.out).mono ?_; rintro e w' ⟨rfl, rfl⟩)
  go_ret
  exact ⟨rfl, rfl⟩
end Go.Proofs.YtmpiakibllgdeaaGreatDoor
