/-
  No cell of these rows narrows 'for every input' (looked for: loops, veiled, ifaces, maps, wideKeys, modest, calm, conditions, laid).
  DERIVED. THE GIVEN ROWS OF THIS SEAT. 5 by the template 'for every input the law returns true; each argument reads behind the call as it read before'; 0 by the template 'total and deterministic' (their statements: YtoellhmoghgmlaaTotals.lean).
  GIVEN WITH THE SEED: the statements are not yours to turn. If you find one false, say at which input.
  Laid BY PROGRAM, IN A SANDBOX (cutbox-rows.mjs): the forced cells as the released guide's own fill.sh prints them over the translation d6a40afcc561eac7… (all of the seat's roots in one cut). By AI agents, Wed Nov 11 2026. No macro, syntax, notation, axiom, sorry.
-/
import Derived.Test.YtoellhmoghgmlaaChecked
import GoSem.Claim
import GoSem.ClaimJoined
import GoSem.ClaimMapViews
import Derived.JoinedTies
import Derived.KernelRfl
namespace Go.Proofs.Ytoellhmoghgmlaa
/- THE CELL 'sum', in the pinned program and in every row, IS THE sha256 OF THE DUMP (.gsa) THAT YtoellhmoghgmlaaProg.lean LOADS. Nothing in Lean hashes anything: it is a label: what it is worth is what the hold of that sum in a sandbox is worth. -/
noncomputable def Try.pinned : Pinned := { name := "ytoellhmoghgmlaa", sum := "d6a40afcc561eac71111fe58db31c6a6d8706a2c8027051140ae485c13783496", checked := Try.checked }
namespace Rows
def none {H : Type} : Left H := { results := [], args := [] }

/-- 'graticulelaw02.SegCuts': WHATEVER THE INPUT: true; the input reads as it did. -/
def segCutsSpec : ChangeSpec := { name := "segCuts", fn := fun _ => fun
  | [d1, d2, d3, d4, d5] => { results := [.lit (.bool true)], args := [d1, d2, d3, d4, d5] }
  | _ => none }
def segCutsRow : OpenClaim := { program := "ytoellhmoghgmlaa", sum := "d6a40afcc561eac71111fe58db31c6a6d8706a2c8027051140ae485c13783496", func := "graticule/graticulelaw02.SegCuts", spec := "segCuts", unfollowed := true, recurses := true, apart := false }
def SegCutsSaid : Prop := segCutsRow.holds Try.pinned (OpenSpec.ofChange segCutsSpec)

/-- ITS FALSE NEIGHBOUR: 'it returns false'. Refute it at one input. -/
def segCutsWrong : ChangeSpec := { name := "segCuts", fn := fun _ => fun
  | [d1, d2, d3, d4, d5] => { results := [.lit (.bool false)], args := [d1, d2, d3, d4, d5] }
  | _ => none }
def SegCutsWrongFalsely : Prop := segCutsRow.holds Try.pinned (OpenSpec.ofChange segCutsWrong)

/-- 'graticulelaw02.SegTurned': WHATEVER THE INPUT: true; the input reads as it did. -/
def segTurnedSpec : ChangeSpec := { name := "segTurned", fn := fun _ => fun
  | [d1, d2, d3, d4, d5, d6] => { results := [.lit (.bool true)], args := [d1, d2, d3, d4, d5, d6] }
  | _ => none }
def segTurnedRow : OpenClaim := { program := "ytoellhmoghgmlaa", sum := "d6a40afcc561eac71111fe58db31c6a6d8706a2c8027051140ae485c13783496", func := "graticule/graticulelaw02.SegTurned", spec := "segTurned", unfollowed := true, recurses := true, apart := false }
def SegTurnedSaid : Prop := segTurnedRow.holds Try.pinned (OpenSpec.ofChange segTurnedSpec)

/-- ITS FALSE NEIGHBOUR: 'it returns false'. Refute it at one input. -/
def segTurnedWrong : ChangeSpec := { name := "segTurned", fn := fun _ => fun
  | [d1, d2, d3, d4, d5, d6] => { results := [.lit (.bool false)], args := [d1, d2, d3, d4, d5, d6] }
  | _ => none }
def SegTurnedWrongFalsely : Prop := segTurnedRow.holds Try.pinned (OpenSpec.ofChange segTurnedWrong)

/-- 'graticulelaw02.SegPieces': WHATEVER THE INPUT: true; the input reads as it did. -/
def segPiecesSpec : ChangeSpec := { name := "segPieces", fn := fun _ => fun
  | [d1, d2, d3, d4] => { results := [.lit (.bool true)], args := [d1, d2, d3, d4] }
  | _ => none }
def segPiecesRow : OpenClaim := { program := "ytoellhmoghgmlaa", sum := "d6a40afcc561eac71111fe58db31c6a6d8706a2c8027051140ae485c13783496", func := "graticule/graticulelaw02.SegPieces", spec := "segPieces", unfollowed := true, recurses := true, apart := false }
def SegPiecesSaid : Prop := segPiecesRow.holds Try.pinned (OpenSpec.ofChange segPiecesSpec)

/-- ITS FALSE NEIGHBOUR: 'it returns false'. Refute it at one input. -/
def segPiecesWrong : ChangeSpec := { name := "segPieces", fn := fun _ => fun
  | [d1, d2, d3, d4] => { results := [.lit (.bool false)], args := [d1, d2, d3, d4] }
  | _ => none }
def SegPiecesWrongFalsely : Prop := segPiecesRow.holds Try.pinned (OpenSpec.ofChange segPiecesWrong)

/-- 'graticulelaw02.SegMoves': WHATEVER THE INPUT: true; the input reads as it did. -/
def segMovesSpec : ChangeSpec := { name := "segMoves", fn := fun _ => fun
  | [d1, d2, d3, d4, d5, d6, d7] => { results := [.lit (.bool true)], args := [d1, d2, d3, d4, d5, d6, d7] }
  | _ => none }
def segMovesRow : OpenClaim := { program := "ytoellhmoghgmlaa", sum := "d6a40afcc561eac71111fe58db31c6a6d8706a2c8027051140ae485c13783496", func := "graticule/graticulelaw02.SegMoves", spec := "segMoves", unfollowed := true, recurses := true, apart := false }
def SegMovesSaid : Prop := segMovesRow.holds Try.pinned (OpenSpec.ofChange segMovesSpec)

/-- ITS FALSE NEIGHBOUR: 'it returns false'. Refute it at one input. -/
def segMovesWrong : ChangeSpec := { name := "segMoves", fn := fun _ => fun
  | [d1, d2, d3, d4, d5, d6, d7] => { results := [.lit (.bool false)], args := [d1, d2, d3, d4, d5, d6, d7] }
  | _ => none }
def SegMovesWrongFalsely : Prop := segMovesRow.holds Try.pinned (OpenSpec.ofChange segMovesWrong)

/-- 'graticulelaw02.SegClasses': WHATEVER THE INPUT: true; the input reads as it did. -/
def segClassesSpec : ChangeSpec := { name := "segClasses", fn := fun _ => fun
  | [d1, d2, d3, d4, d5] => { results := [.lit (.bool true)], args := [d1, d2, d3, d4, d5] }
  | _ => none }
def segClassesRow : OpenClaim := { program := "ytoellhmoghgmlaa", sum := "d6a40afcc561eac71111fe58db31c6a6d8706a2c8027051140ae485c13783496", func := "graticule/graticulelaw02.SegClasses", spec := "segClasses", unfollowed := true, recurses := true, apart := false }
def SegClassesSaid : Prop := segClassesRow.holds Try.pinned (OpenSpec.ofChange segClassesSpec)

/-- ITS FALSE NEIGHBOUR: 'it returns false'. Refute it at one input. -/
def segClassesWrong : ChangeSpec := { name := "segClasses", fn := fun _ => fun
  | [d1, d2, d3, d4, d5] => { results := [.lit (.bool false)], args := [d1, d2, d3, d4, d5] }
  | _ => none }
def SegClassesWrongFalsely : Prop := segClassesRow.holds Try.pinned (OpenSpec.ofChange segClassesWrong)

/- THE SECOND FORM. 'bulk': how many values and letters a reading holds, each counted each time it is reached (what is shared counts as often as it is met; a slice's spare places count too). A statement '..UptoSaid' is the law's where the arguments, and the package variables that the reading takes, are together of bulk at most 1048576: NARROWER than '..Said'. Prove '..Said' where nothing that the law and all that it calls make is longer than what came in: it says more and counts as full. Else prove '..UptoSaid'. A law counts once. -/
mutual
def uptoBulk {H : Type} : DataW H → Nat
  | .lit (.string bytes) => bytes.length + 1
  | .lit _ => 1
  | .nil => 1
  | .ptr d => uptoBulk d + 1
  | .slice elems spare => uptoBulkAll elems + uptoBulkAll spare + 1
  | .agg parts => uptoBulkAll parts + 1
  | .iface _ d => uptoBulk d + 1
  | .map entries => uptoBulkEntries entries + 1
  | .held _ => 1
def uptoBulkAll {H : Type} : List (DataW H) → Nat
  | [] => 0
  | d :: r => uptoBulk d + uptoBulkAll r
def uptoBulkEntries {H : Type} : List (Lit × DataW H) → Nat
  | [] => 0
  | x :: r => uptoBulkEntry x + uptoBulkEntries r
def uptoBulkEntry {H : Type} : Lit × DataW H → Nat
  | (.string bytes, d) => bytes.length + uptoBulk d + 1
  | (_, d) => uptoBulk d + 1
 end
def uptoSmall : (H : Type) → List (DataW H) → Bool := fun _ ds => decide (uptoBulkAll ds ≤ 1048576)
def OpenSpec.upto (s : _root_.Go.ChangeSpec) : _root_.Go.OpenSpec := { _root_.Go.OpenSpec.ofChange s with cond := some uptoSmall }

/-- 'graticulelaw02.SegCuts', WHERE WHAT IT READS IS OF BULK AT MOST 1048576: true; the input reads as it did. -/
def segCutsUptoRow : OpenClaim := { program := "ytoellhmoghgmlaa", sum := "d6a40afcc561eac71111fe58db31c6a6d8706a2c8027051140ae485c13783496", func := "graticule/graticulelaw02.SegCuts", spec := "segCuts", unfollowed := true, recurses := true, apart := false, narrowed := true }
def SegCutsUptoSaid : Prop := segCutsUptoRow.holds Try.pinned (OpenSpec.upto segCutsSpec)

/-- 'graticulelaw02.SegTurned', WHERE WHAT IT READS IS OF BULK AT MOST 1048576: true; the input reads as it did. -/
def segTurnedUptoRow : OpenClaim := { program := "ytoellhmoghgmlaa", sum := "d6a40afcc561eac71111fe58db31c6a6d8706a2c8027051140ae485c13783496", func := "graticule/graticulelaw02.SegTurned", spec := "segTurned", unfollowed := true, recurses := true, apart := false, narrowed := true }
def SegTurnedUptoSaid : Prop := segTurnedUptoRow.holds Try.pinned (OpenSpec.upto segTurnedSpec)

/-- 'graticulelaw02.SegPieces', WHERE WHAT IT READS IS OF BULK AT MOST 1048576: true; the input reads as it did. -/
def segPiecesUptoRow : OpenClaim := { program := "ytoellhmoghgmlaa", sum := "d6a40afcc561eac71111fe58db31c6a6d8706a2c8027051140ae485c13783496", func := "graticule/graticulelaw02.SegPieces", spec := "segPieces", unfollowed := true, recurses := true, apart := false, narrowed := true }
def SegPiecesUptoSaid : Prop := segPiecesUptoRow.holds Try.pinned (OpenSpec.upto segPiecesSpec)

/-- 'graticulelaw02.SegMoves', WHERE WHAT IT READS IS OF BULK AT MOST 1048576: true; the input reads as it did. -/
def segMovesUptoRow : OpenClaim := { program := "ytoellhmoghgmlaa", sum := "d6a40afcc561eac71111fe58db31c6a6d8706a2c8027051140ae485c13783496", func := "graticule/graticulelaw02.SegMoves", spec := "segMoves", unfollowed := true, recurses := true, apart := false, narrowed := true }
def SegMovesUptoSaid : Prop := segMovesUptoRow.holds Try.pinned (OpenSpec.upto segMovesSpec)

/-- 'graticulelaw02.SegClasses', WHERE WHAT IT READS IS OF BULK AT MOST 1048576: true; the input reads as it did. -/
def segClassesUptoRow : OpenClaim := { program := "ytoellhmoghgmlaa", sum := "d6a40afcc561eac71111fe58db31c6a6d8706a2c8027051140ae485c13783496", func := "graticule/graticulelaw02.SegClasses", spec := "segClasses", unfollowed := true, recurses := true, apart := false, narrowed := true }
def SegClassesUptoSaid : Prop := segClassesUptoRow.holds Try.pinned (OpenSpec.upto segClassesSpec)

end Rows
end Go.Proofs.Ytoellhmoghgmlaa
