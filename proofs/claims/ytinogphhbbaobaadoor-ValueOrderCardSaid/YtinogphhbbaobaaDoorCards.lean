/-
  DERIVED. GIVEN WITH THE SEED: THE CARDS: each row of YtinogphhbbaobaaDoorRows.lean that lists a variable, with what it lists TIED to the program's text (the seventh form; the later family's looks); each row that meets fmt, with fmt's text TOLD by the authors' own Lean function (tested against real Go, not proved from fmt's source: count such statements apart). THE CARD IS WHAT COUNTS. Prove the row's statement (the work); the ties are given (YtinogphhbbaobaaDoorTie.lean); close each card by the builder's one call (the guide's Derived/Test/ToyasCard.lean, 'card_holds'). Laid BY PROGRAM, IN A SANDBOX (cutbox-door.mjs). By AI agents, Wed Nov 11 2026. No macro, syntax, notation, axiom, sorry.
-/
import Derived.Test.YtinogphhbbaobaaDoorRows
import GoSem.ClaimSeven
namespace Go.Proofs.YtinogphhbbaobaaDoor
namespace Rows

/-- THE TIED CARD OF 'graticulelaw10.ValuePasses'. -/
def valuePassesCard : Claim7 := { stood := { row := valuePassesRow, standIns := [], harness := (true, "8c88010ad84bb3c8c3ee84d788e4cc144ad9f18e286d4277c599ac70c31d75df"), looks := true }, kinds := [], alts := [], laidByText := true, laidKinds := [.data, .data, .data], laidTests := true, laidLooks := .later }
def ValuePassesCardSaid : Prop := Claim7.holds Tryd.pinned (.plain (OpenSpec.ofChange valuePassesSpec)) valuePassesCard

/-- THE TIED CARD OF 'graticulelaw10.ValueOrder'. -/
def valueOrderCard : Claim7 := { stood := { row := valueOrderRow, standIns := [], harness := (true, "8c88010ad84bb3c8c3ee84d788e4cc144ad9f18e286d4277c599ac70c31d75df"), looks := true }, kinds := [], alts := [], laidByText := true, laidKinds := [.data, .data, .data], laidTests := true, laidLooks := .later }
def ValueOrderCardSaid : Prop := Claim7.holds Tryd.pinned (.plain (OpenSpec.ofChange valueOrderSpec)) valueOrderCard

/-- THE TIED CARD OF 'graticulelaw10.ValueBytes'. -/
def valueBytesCard : Claim7 := { stood := { row := valueBytesRow, standIns := [], harness := (true, "8c88010ad84bb3c8c3ee84d788e4cc144ad9f18e286d4277c599ac70c31d75df"), looks := true }, kinds := [], alts := [], laidByText := true, laidKinds := [.data, .data, .data, .sentinel, .sentinel], laidTests := true, laidLooks := .later }
def ValueBytesCardSaid : Prop := Claim7.holds Tryd.pinned (.plain (OpenSpec.ofChange valueBytesSpec)) valueBytesCard

/-- THE SECOND FORM's CARD OF 'graticulelaw10.ValuePasses'. -/
def valuePassesUptoCard : Claim7 := { stood := { row := valuePassesUptoRow, standIns := [], harness := (true, "8c88010ad84bb3c8c3ee84d788e4cc144ad9f18e286d4277c599ac70c31d75df"), looks := true }, kinds := [], alts := [], laidByText := true, laidKinds := [.data, .data, .data], laidTests := true, laidLooks := .later }
def ValuePassesUptoCardSaid : Prop := Claim7.holds Tryd.pinned (.plain (OpenSpec.upto valuePassesSpec)) valuePassesUptoCard

/-- THE SECOND FORM's CARD OF 'graticulelaw10.ValueOrder'. -/
def valueOrderUptoCard : Claim7 := { stood := { row := valueOrderUptoRow, standIns := [], harness := (true, "8c88010ad84bb3c8c3ee84d788e4cc144ad9f18e286d4277c599ac70c31d75df"), looks := true }, kinds := [], alts := [], laidByText := true, laidKinds := [.data, .data, .data], laidTests := true, laidLooks := .later }
def ValueOrderUptoCardSaid : Prop := Claim7.holds Tryd.pinned (.plain (OpenSpec.upto valueOrderSpec)) valueOrderUptoCard

/-- THE SECOND FORM's CARD OF 'graticulelaw10.ValueBytes'. -/
def valueBytesUptoCard : Claim7 := { stood := { row := valueBytesUptoRow, standIns := [], harness := (true, "8c88010ad84bb3c8c3ee84d788e4cc144ad9f18e286d4277c599ac70c31d75df"), looks := true }, kinds := [], alts := [], laidByText := true, laidKinds := [.data, .data, .data, .sentinel, .sentinel], laidTests := true, laidLooks := .later }
def ValueBytesUptoCardSaid : Prop := Claim7.holds Tryd.pinned (.plain (OpenSpec.upto valueBytesSpec)) valueBytesUptoCard
end Rows
end Go.Proofs.YtinogphhbbaobaaDoor
