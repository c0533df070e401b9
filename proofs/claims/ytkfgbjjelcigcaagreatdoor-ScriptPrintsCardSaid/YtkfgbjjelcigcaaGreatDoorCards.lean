/-
  DERIVED. GIVEN WITH THE SEED: THE CARDS: each row of YtkfgbjjelcigcaaGreatDoorRows.lean that lists a variable, with what it lists TIED to the program's text (the seventh form; the later family's looks); each row that meets fmt, with fmt's text TOLD by the authors' own Lean function (tested against real Go, not proved from fmt's source: count such statements apart). THE CARD IS WHAT COUNTS. Prove the row's statement (the work); the ties are given (YtkfgbjjelcigcaaGreatDoorTie.lean); close each card by the builder's one call (the guide's Derived/Test/ToyasCard.lean, 'card_holds'). Laid BY PROGRAM, IN A SANDBOX (cutbox-door.mjs). By AI agents, Wed Nov 11 2026. No macro, syntax, notation, axiom, sorry.
-/
import Derived.Test.YtkfgbjjelcigcaaGreatDoorRows
import GoSem.ClaimSeven
namespace Go.Proofs.YtkfgbjjelcigcaaGreatDoor
namespace Rows

/-- THE TIED CARD OF 'graticulelaw30.ScriptFolds'. -/
def scriptFoldsCard : Claim7 := { stood := { row := scriptFoldsRow, standIns := [], harness := (true, "a598c6f7c11782ec447a6154044a5407b71eeedd974751e24469449ed90d484b"), looks := true }, kinds := [], alts := [], laidByText := true, laidKinds := [.data, .data, .data, .sentinel, .sentinel], laidTests := true, laidLooks := .later }
def ScriptFoldsCardSaid : Prop := Claim7.holds Tryz.pinned (.plain (OpenSpec.ofChange scriptFoldsSpec)) scriptFoldsCard

/-- THE TIED CARD OF 'graticulelaw30.ScriptPrints'. -/
def scriptPrintsCard : Claim7 := { stood := { row := scriptPrintsRow, standIns := [], harness := (true, "a598c6f7c11782ec447a6154044a5407b71eeedd974751e24469449ed90d484b"), looks := true }, kinds := [], alts := [], laidByText := true, laidKinds := [.data, .data, .data, .sentinel, .sentinel], laidTests := true, laidLooks := .later }
def ScriptPrintsCardSaid : Prop := Claim7.holds Tryz.pinned (.plain (OpenSpec.ofChange scriptPrintsSpec)) scriptPrintsCard

/-- THE SECOND FORM's CARD OF 'graticulelaw30.ScriptFolds'. -/
def scriptFoldsUptoCard : Claim7 := { stood := { row := scriptFoldsUptoRow, standIns := [], harness := (true, "a598c6f7c11782ec447a6154044a5407b71eeedd974751e24469449ed90d484b"), looks := true }, kinds := [], alts := [], laidByText := true, laidKinds := [.data, .data, .data, .sentinel, .sentinel], laidTests := true, laidLooks := .later }
def ScriptFoldsUptoCardSaid : Prop := Claim7.holds Tryz.pinned (.plain (OpenSpec.upto scriptFoldsSpec)) scriptFoldsUptoCard

/-- THE SECOND FORM's CARD OF 'graticulelaw30.ScriptPrints'. -/
def scriptPrintsUptoCard : Claim7 := { stood := { row := scriptPrintsUptoRow, standIns := [], harness := (true, "a598c6f7c11782ec447a6154044a5407b71eeedd974751e24469449ed90d484b"), looks := true }, kinds := [], alts := [], laidByText := true, laidKinds := [.data, .data, .data, .sentinel, .sentinel], laidTests := true, laidLooks := .later }
def ScriptPrintsUptoCardSaid : Prop := Claim7.holds Tryz.pinned (.plain (OpenSpec.upto scriptPrintsSpec)) scriptPrintsUptoCard
end Rows
end Go.Proofs.YtkfgbjjelcigcaaGreatDoor
