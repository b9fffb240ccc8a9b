/-
  Seat a: awake, whole, under the shelf's contracts on slices.Sorted(maps.Keys(m)).
  Conditions: KeysOk at both iterators; the laid table command.forms.
-/
import Derived.Test.YtioclaoooghllaaGreatDoorSa
namespace Go.Proofs.Tryz
open Go Go.Sx Go.RowKit
def pks1 : List (Nat × PK) := (37, .sorted 9 [50, 322]) :: pks
theorem pks1_ok (h50 : KeysOk Tryz.prog 37 9 50) (h322 : KeysOk Tryz.prog 37 9 322) : AllPK Tryz.prog pks1 :=
  ⟨⟨⟨_, Tryz.func37, rfl⟩, fun _ hg => (List.mem_cons.1 hg).elim (fun e => e ▸ h50) fun hg => (List.mem_singleton.1 hg) ▸ h322⟩, pks_ok⟩
theorem awake22 (h50 : KeysOk Tryz.prog 37 9 50) (h322 : KeysOk Tryz.prog 37 9 322) (W : World) : Calls Tryz.prog 39 #[] W fun e w' => e = .returned (.bool true) ∧ Below W.heap.size W w' :=
  closed_by (G := 6) (fuel := 1000000) mixed plain (pks1_ok h50 h322) Tryz.func39 rfl (by kernel_rfl) W
theorem up23 (W : World) : Calls Tryz.prog 40 #[] W fun e w' => e = .returned (.bool true) ∧ Below W.heap.size W w' :=
  closed_by (G := 6) (fuel := 1000000) mixed plain pks_ok Tryz.func40 rfl (by kernel_rfl) W
def pks2 : List (Nat × PK) := (39, .awake) :: (40, .awake) :: pks1
theorem pks2_ok (h50 : KeysOk Tryz.prog 37 9 50) (h322 : KeysOk Tryz.prog 37 9 322) : AllPK Tryz.prog pks2 :=
  ⟨⟨⟨_, Tryz.func39, rfl⟩, awake22 h50 h322⟩, ⟨⟨_, Tryz.func40, rfl⟩, up23⟩, pks1_ok h50 h322⟩
def forms : List (List UInt8) := [[], [113], [110], [98], [98], [120, 107, 121, 109], [110, 99, 109], [110, 105, 116], [110, 105, 116, 100], [110, 105, 116, 109], [110], [109], [110], [110, 105, 99]]
theorem awake36 (h50 : KeysOk Tryz.prog 37 9 50) (h322 : KeysOk Tryz.prog 37 9 322) (W : World) (hW : LaidStrs W 2 149 forms) : Calls Tryz.prog 4 #[] W fun e w' => e = .returned (.bool true) ∧ Below W.heap.size W w' :=
  closed_by_strs (G := 6) (fuel := 1000000) mixed plain (pks2_ok h50 h322) Tryz.func4 rfl (by decide) (by kernel_rfl) W hW
end Go.Proofs.Tryz
