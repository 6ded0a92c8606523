/-
  DERIVED. GIVEN WITH THE SEED: THE CARDS: each row of YtloflflapneheaaGreatDoorRows.lean that lists a variable, with what it lists TIED to the program's text (the seventh form; the later family's looks); each row that meets fmt, with fmt's text TOLD by the authors' own Lean function (tested against real Go, not proved from fmt's source: count such statements apart). THE CARD IS WHAT COUNTS. Prove the row's statement (the work); the ties are given (YtloflflapneheaaGreatDoorTie.lean); close each card by the builder's one call (the guide's Derived/Test/ToyasCard.lean, 'card_holds'). Laid BY PROGRAM, IN A SANDBOX (cutbox-door.mjs). By AI agents, Wed Nov 11 2026. No macro, syntax, notation, axiom, sorry.
-/
import Derived.Test.YtloflflapneheaaGreatDoorRows
import GoSem.ClaimSeven
namespace Go.Proofs.YtloflflapneheaaGreatDoor
namespace Rows

/-- THE TIED CARD OF 'vistalaw15.CallNews'. -/
def callNewsCard : Claim7 := { stood := { row := callNewsRow, standIns := [], harness := (true, "8bc4b7b6dcbd17b02f71229e0e261a99832da17b45e54c3a907a1944e132b136"), looks := false }, kinds := [], alts := [], laidByText := true, laidKinds := [.data, .pinned], laidTests := true, laidLooks := .later }
def CallNewsCardSaid : Prop := Claim7.holds Tryz.pinned (.plain (OpenSpec.ofChange callNewsSpec)) callNewsCard

/-- THE SECOND FORM's CARD OF 'vistalaw15.CallNews'. -/
def callNewsUptoCard : Claim7 := { stood := { row := callNewsUptoRow, standIns := [], harness := (true, "8bc4b7b6dcbd17b02f71229e0e261a99832da17b45e54c3a907a1944e132b136"), looks := false }, kinds := [], alts := [], laidByText := true, laidKinds := [.data, .pinned], laidTests := true, laidLooks := .later }
def CallNewsUptoCardSaid : Prop := Claim7.holds Tryz.pinned (.plain (OpenSpec.upto callNewsSpec)) callNewsUptoCard
end Rows
end Go.Proofs.YtloflflapneheaaGreatDoor
