/-
  Seat a: closed facts, and layers 21 and 23 awake.
  No condition.
-/
import Derived.Test.YtioclaoooghllaaGreatDoorSxW
import Derived.Test.YtioclaoooghllaaGreatDoorProg
import Derived.KernelRfl
namespace Go.Proofs.Tryz
open Go Go.Sx Go.RowKit
def pks : List (Nat × PK) := [(278, .noEscape), (288, .count), (297, .indexByte), (292, .makeNoZero 5)]
theorem pks_ok : AllPK Tryz.prog pks :=
  ⟨ext_of (by kernel_rfl) (by kernel_rfl), ext_of (by kernel_rfl) (by kernel_rfl), ext_of (by kernel_rfl) (by kernel_rfl), ⟨ext_of (by kernel_rfl) (by kernel_rfl), 280, by kernel_rfl, by kernel_rfl⟩, trivial⟩
theorem awake23 (W : World) : Calls Tryz.prog 52 #[] W fun e w' => e = .returned (.bool true) ∧ Below W.heap.size W w' :=
  closed_by (G := 6) (fuel := 1000000) mixed plain pks_ok Tryz.func52 rfl (by kernel_rfl) W
theorem awake21 (W : World) : Calls Tryz.prog 109 #[] W fun e w' => e = .returned (.bool true) ∧ Below W.heap.size W w' :=
  closed_by (G := 6) (fuel := 1000000) mixed plain pks_ok Tryz.func109 rfl (by kernel_rfl) W
end Go.Proofs.Tryz
