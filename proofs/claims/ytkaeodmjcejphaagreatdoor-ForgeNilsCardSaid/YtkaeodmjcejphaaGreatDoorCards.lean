/-
  DERIVED. GIVEN WITH THE SEED: THE CARDS: each row of YtkaeodmjcejphaaGreatDoorRows.lean that lists a variable, with what it lists TIED to the program's text (the seventh form; the later family's looks); each row that meets fmt, with fmt's text TOLD by the authors' own Lean function (tested against real Go, not proved from fmt's source: count such statements apart). THE CARD IS WHAT COUNTS. Prove the row's statement (the work); the ties are given (YtkaeodmjcejphaaGreatDoorTie.lean); close each card by the builder's one call (the guide's Derived/Test/ToyasCard.lean, 'card_holds'). Laid BY PROGRAM, IN A SANDBOX (cutbox-door.mjs). By AI agents, Wed Nov 11 2026. No macro, syntax, notation, axiom, sorry.
-/
import Derived.Test.YtkaeodmjcejphaaGreatDoorRows
import GoSem.ClaimSeven
namespace Go.Proofs.YtkaeodmjcejphaaGreatDoor
namespace Rows

/-- THE TIED CARD OF 'systolelaw10.ForgeNils'. -/
def forgeNilsCard : Claim7 := { stood := { row := forgeNilsRow, standIns := [], harness := (true, "427c3930aea02c4c9471337585e6a493c6b66dbf3e24fb56bc8f7dcfa32bb6e2"), looks := true }, kinds := [], alts := [], goes := true, laidByText := true, laidKinds := [.data, .data, .data, .data, .sentinel, .sentinel, .pinned], laidTests := true, laidLooks := .later }
def ForgeNilsCardSaid : Prop := Claim7.holds Tryz.pinned (.plain (OpenSpec.ofChange forgeNilsSpec)) forgeNilsCard

/-- THE SECOND FORM's CARD OF 'systolelaw10.ForgeNils'. -/
def forgeNilsUptoCard : Claim7 := { stood := { row := forgeNilsUptoRow, standIns := [], harness := (true, "427c3930aea02c4c9471337585e6a493c6b66dbf3e24fb56bc8f7dcfa32bb6e2"), looks := true }, kinds := [], alts := [], goes := true, laidByText := true, laidKinds := [.data, .data, .data, .data, .sentinel, .sentinel, .pinned], laidTests := true, laidLooks := .later }
def ForgeNilsUptoCardSaid : Prop := Claim7.holds Tryz.pinned (.plain (OpenSpec.upto forgeNilsSpec)) forgeNilsUptoCard
end Rows
end Go.Proofs.YtkaeodmjcejphaaGreatDoor
