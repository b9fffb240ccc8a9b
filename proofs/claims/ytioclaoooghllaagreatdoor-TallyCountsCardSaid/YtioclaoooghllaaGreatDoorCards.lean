/-
  DERIVED. GIVEN WITH THE SEED: THE CARDS: each row of YtioclaoooghllaaGreatDoorRows.lean that lists a variable, with what it lists TIED to the program's text (the seventh form; the later family's looks); each row that meets fmt, with fmt's text TOLD by the authors' own Lean function (tested against real Go, not proved from fmt's source: count such statements apart). THE CARD IS WHAT COUNTS. Prove the row's statement (the work); the ties are given (YtioclaoooghllaaGreatDoorTie.lean); close each card by the builder's one call (the guide's Derived/Test/ToyasCard.lean, 'card_holds'). Laid BY PROGRAM, IN A SANDBOX (cutbox-door.mjs). By AI agents, Wed Nov 11 2026. No macro, syntax, notation, axiom, sorry.
-/
import Derived.Test.YtioclaoooghllaaGreatDoorRows
import GoSem.ClaimSeven
namespace Go.Proofs.YtioclaoooghllaaGreatDoor
namespace Rows

/-- THE TIED CARD OF 'taprootlaw36.TallyCounts'. -/
def tallyCountsCard : Claim7 := { stood := { row := tallyCountsRow, standIns := [], harness := (true, "7e46a150c200d9515aaadf0b0866430f19ecac3ff5079d84817da85ba9315050"), looks := false }, kinds := [], alts := [], laidByText := true, laidKinds := [.data, .data, .pinned], laidTests := true, laidLooks := .later }
def TallyCountsCardSaid : Prop := Claim7.holds Tryz.pinned (.plain (OpenSpec.ofChange tallyCountsSpec)) tallyCountsCard

/-- THE SECOND FORM's CARD OF 'taprootlaw36.TallyCounts'. -/
def tallyCountsUptoCard : Claim7 := { stood := { row := tallyCountsUptoRow, standIns := [], harness := (true, "7e46a150c200d9515aaadf0b0866430f19ecac3ff5079d84817da85ba9315050"), looks := false }, kinds := [], alts := [], laidByText := true, laidKinds := [.data, .data, .pinned], laidTests := true, laidLooks := .later }
def TallyCountsUptoCardSaid : Prop := Claim7.holds Tryz.pinned (.plain (OpenSpec.upto tallyCountsSpec)) tallyCountsUptoCard
end Rows
end Go.Proofs.YtioclaoooghllaaGreatDoor
