/-
  Seat a: slices.Sorted(maps.Keys(m)) at both map types, by the shelf's contracts.
  No condition.
-/
import Derived.Test.YtioclaoooghllaaGreatDoorLay
import Derived.Shelf.SlIter.Nil
import Derived.Shelf.SortM.Plain
import Derived.Shelf.SortM.SortNone
import Derived.Ground.GgzProg
import Derived.Ground.SlgmProg
import Derived.Test.YtioclaoooghllaaGreatDoorProg
import Derived.Test.YtioclaoooghllaaGreatDoorSk
namespace Go.Proofs
open Go.RowKit Go.Maps Go.Sort Go.Shelf Go.Sx
theorem Tryz.sorts37 (m : Nat) : AnyZ.SortsIn Tryz.prog Tryz.sorted37_ren Fence.wide m :=
  ⟨fun blk off cap ss W hH hblk hsz => callsIn_wide.2 (AnyM.slices_Sort_string Tryz.sort49 blk off cap ss W hH hblk hsz),
   fun p cap W => callsIn_wide.2 (AnyM.slices_Sort_string_none Tryz.sort49 p cap W)⟩
theorem Tryz.keysOk50 : KeysOk Tryz.prog 37 9 50 :=
  keysOk_of (ρ := Tryz.keys38_ren) (σ := Tryz.sorted37_ren) { Tryz.keys38 with } Tryz.sorted37 (Tryz.sorts37 _) (enters_of Tryz.func49 (by kernel_rfl) rfl) (enters_of Tryz.func50 (by kernel_rfl) rfl) (by kernel_rfl) rfl rfl rfl rfl
theorem Tryz.keysOk322 : KeysOk Tryz.prog 37 9 322 :=
  keysOk_of (ρ := Tryz.keys321_ren) (σ := Tryz.sorted37_ren) { Tryz.keys321 with } Tryz.sorted37 (Tryz.sorts37 _) (enters_of Tryz.func49 (by kernel_rfl) rfl) (enters_of Tryz.func322 (by kernel_rfl) rfl) (by kernel_rfl) rfl rfl rfl rfl
end Go.Proofs
