/-
  Seat a: the classes of numbers.
  No condition.
-/
import Derived.Test.YtioclaoooghllaaGreatDoorLay
import Derived.Shelf.Strconv.Itoa0
import Derived.Shelf.Bits.Mul64
import Derived.Shelf.Small.Bits
import Derived.Ground.NamesProg
import Derived.WalkKit
import Derived.LoopTactic
import Derived.Lib.Hide
import Derived.Test.YtioclaoooghllaaGreatDoorProg
namespace Go.Proofs
open Go.RowKit Go.Shelf
namespace Tryz
theorem len64 (x : Nat) (w : World) (h : x < 18446744073709551616) : Calls Tryz.prog 21 #[.int .u64 x] w fun e w' => e = .returned (.int .i64 (Lib.bitLen x)) ∧ w = w' :=
  (Any.bits_Len64 Tryz.lays129 x w (by omega) (by omega)).mono fun e w' h => ⟨by simpa using h.1, h.2.symm⟩
theorem mul64 (x y : Nat) (hx : x < 18446744073709551616) (hy : y < 18446744073709551616) (w : World) :
    Calls Tryz.prog 30 #[.int .u64 x, .int .u64 y] w fun e w' => e = .returned (.tuple #[.int .u64 ((x * y / 18446744073709551616 : Nat) : Int), .int .u64 ((x * y % 18446744073709551616 : Nat) : Int)]) ∧ w = w' :=
  (Any.bits_Mul64 Tryz.lays264 x y hx hy w).mono fun e w' h => ⟨h.1, h.2.symm⟩
theorem lead64 (x : Nat) (w : World) (h : x < 18446744073709551616) : Calls Tryz.prog 44 #[.int .u64 x] w fun e w' => e = .returned (.int .i64 (64 - (Lib.bitLen x : Int))) ∧ w = w' :=
  (Any.bits_LeadingZeros64 Tryz.lays134 x w (by omega) (by omega)).mono fun e w' h => ⟨by simpa using h.1, h.2.symm⟩
theorem cls (x : Nat) (w : World) (h : x < 18446744073709551616) : Calls Tryz.prog 7 #[.int .u64 x] w fun e w' => e = .returned (.int .i64 (Lib.bitLen x)) ∧ w = w' := by
  go_enter Tryz.func7, Tryz.ntmps7
  go_wp2_with (go_at_call 21; refine (len64 x _ h).mono ?_; rintro e w' ⟨rfl, rfl⟩)
  go_ret
  exact ⟨rfl, rfl⟩
theorem bitLen_zero : Lib.bitLen 0 = 0 := by decide
theorem bitLen_le64 (x : Nat) (h : x < 18446744073709551616) : Lib.bitLen x ≤ 64 := Lib.bitLen_le x 64 (by omega) h
theorem rcls (x : Nat) (w : World) (h : x < 18446744073709551616) : Calls Tryz.prog 8 #[.int .u64 x] w fun e w' => e = .returned (.int .i64 (Lib.bitLen x)) ∧ w = w' := by
  go_enter Tryz.func8, Tryz.ntmps8
  go_wp2
  go_loop [0, 3] (fun n k => ∃ m j : Nat, n = .int .u64 (m : Int) ∧ k = .int .i64 (j : Int) ∧ j + Lib.bitLen m = Lib.bitLen x ∧ m < 18446744073709551616) (fun n _ => (intOf n).toNat)
  case atStart => exact ⟨x, 0, rfl, rfl, by omega, h⟩
  case round =>
    obtain ⟨m, j, rfl, rfl, hj, hm⟩ := hrel
    have hb := bitLen_le64 x h
    by_cases h0 : 0 < m
    · have H := Lib.hid (Lib.bitLen_half m (by omega) hm)
      have hjl : j ≤ 64 := by omega
      have HJ := Lib.hid hj
      clear hj
      go_wp2
      go_round
      case rel =>
        refine ⟨m / 2, j + 1, ?_, by go_num, ?_, by omega⟩
        · go_num
        · have := H.out; have := HJ.out; omega
      case measure => simp [intOf]; omega
    · obtain rfl : m = 0 := by omega
      have hj' : j = Lib.bitLen x := by rw [bitLen_zero] at hj; exact hj
      clear hj
      subst hj'
      go_wp2
      go_ret
      exact ⟨rfl, rfl⟩
end Tryz
end Go.Proofs
