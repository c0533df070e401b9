/-
  No cell of these rows narrows 'for every input' (looked for: loops, veiled, ifaces, maps, wideKeys, modest, calm, conditions, laid).
  DERIVED. THE GIVEN ROWS OF THIS SEAT. 5 by the template 'for every input the law returns true; each argument reads behind the call as it read before'; 0 by the template 'total and deterministic' (their statements: YtccamjnomjcchaaTotals.lean).
  GIVEN WITH THE SEED: the statements are not yours to turn. If you find one false, say at which input.
  Laid BY PROGRAM, IN A SANDBOX (cutbox-rows.mjs): the forced cells as the released guide's own fill.sh prints them over the translation e6943085725bdebd… (all of the seat's roots in one cut). By AI agents, Wed Nov 11 2026. No macro, syntax, notation, axiom, sorry.
-/
import Derived.Test.YtccamjnomjcchaaChecked
import GoSem.Claim
import GoSem.ClaimJoined
import GoSem.ClaimMapViews
import Derived.JoinedTies
import Derived.KernelRfl
namespace Go.Proofs.Ytccamjnomjcchaa
/- THE CELL 'sum', in the pinned program and in every row, IS THE sha256 OF THE DUMP (.gsa) THAT YtccamjnomjcchaaProg.lean LOADS. Nothing in Lean hashes anything: it is a label: what it is worth is what the hold of that sum in a sandbox is worth. -/
noncomputable def Try.pinned : Pinned := { name := "ytccamjnomjcchaa", sum := "e6943085725bdebdd0a101d69c27f5cd3d5193ecee1351b1b0ffaeb605f51492", checked := Try.checked }
namespace Rows
def none {H : Type} : Left H := { results := [], args := [] }

/-- 'graticulelaw13.CoverChecks': WHATEVER THE INPUT: true; the input reads as it did. -/
def coverChecksSpec : ChangeSpec := { name := "coverChecks", fn := fun _ => fun
  | [d] => { results := [.lit (.bool true)], args := [d] }
  | _ => none }
def coverChecksRow : OpenClaim := { program := "ytccamjnomjcchaa", sum := "e6943085725bdebdd0a101d69c27f5cd3d5193ecee1351b1b0ffaeb605f51492", func := "graticule/graticulelaw13.CoverChecks", spec := "coverChecks", unfollowed := true, recurses := true, plainKeys := false, apart := false }
def CoverChecksSaid : Prop := coverChecksRow.holds Try.pinned (OpenSpec.ofChange coverChecksSpec)

/-- ITS FALSE NEIGHBOUR: 'it returns false'. Refute it at one input. -/
def coverChecksWrong : ChangeSpec := { name := "coverChecks", fn := fun _ => fun
  | [d] => { results := [.lit (.bool false)], args := [d] }
  | _ => none }
def CoverChecksWrongFalsely : Prop := coverChecksRow.holds Try.pinned (OpenSpec.ofChange coverChecksWrong)

/-- 'graticulelaw13.CoverMany': WHATEVER THE INPUT: true; the input reads as it did. -/
def coverManySpec : ChangeSpec := { name := "coverMany", fn := fun _ => fun
  | [d] => { results := [.lit (.bool true)], args := [d] }
  | _ => none }
def coverManyRow : OpenClaim := { program := "ytccamjnomjcchaa", sum := "e6943085725bdebdd0a101d69c27f5cd3d5193ecee1351b1b0ffaeb605f51492", func := "graticule/graticulelaw13.CoverMany", spec := "coverMany", unfollowed := true, recurses := true, plainKeys := false, apart := false }
def CoverManySaid : Prop := coverManyRow.holds Try.pinned (OpenSpec.ofChange coverManySpec)

/-- ITS FALSE NEIGHBOUR: 'it returns false'. Refute it at one input. -/
def coverManyWrong : ChangeSpec := { name := "coverMany", fn := fun _ => fun
  | [d] => { results := [.lit (.bool false)], args := [d] }
  | _ => none }
def CoverManyWrongFalsely : Prop := coverManyRow.holds Try.pinned (OpenSpec.ofChange coverManyWrong)

/-- 'graticulelaw13.CoverTurns': WHATEVER THE INPUT: true; the input reads as it did. -/
def coverTurnsSpec : ChangeSpec := { name := "coverTurns", fn := fun _ => fun
  | [d1, d2] => { results := [.lit (.bool true)], args := [d1, d2] }
  | _ => none }
def coverTurnsRow : OpenClaim := { program := "ytccamjnomjcchaa", sum := "e6943085725bdebdd0a101d69c27f5cd3d5193ecee1351b1b0ffaeb605f51492", func := "graticule/graticulelaw13.CoverTurns", spec := "coverTurns", unfollowed := true, recurses := true, plainKeys := false, apart := false }
def CoverTurnsSaid : Prop := coverTurnsRow.holds Try.pinned (OpenSpec.ofChange coverTurnsSpec)

/-- ITS FALSE NEIGHBOUR: 'it returns false'. Refute it at one input. -/
def coverTurnsWrong : ChangeSpec := { name := "coverTurns", fn := fun _ => fun
  | [d1, d2] => { results := [.lit (.bool false)], args := [d1, d2] }
  | _ => none }
def CoverTurnsWrongFalsely : Prop := coverTurnsRow.holds Try.pinned (OpenSpec.ofChange coverTurnsWrong)

/-- 'graticulelaw13.CoverMoves': WHATEVER THE INPUT: true; the input reads as it did. -/
def coverMovesSpec : ChangeSpec := { name := "coverMoves", fn := fun _ => fun
  | [d1, d2] => { results := [.lit (.bool true)], args := [d1, d2] }
  | _ => none }
def coverMovesRow : OpenClaim := { program := "ytccamjnomjcchaa", sum := "e6943085725bdebdd0a101d69c27f5cd3d5193ecee1351b1b0ffaeb605f51492", func := "graticule/graticulelaw13.CoverMoves", spec := "coverMoves", unfollowed := true, recurses := true, plainKeys := false, apart := false }
def CoverMovesSaid : Prop := coverMovesRow.holds Try.pinned (OpenSpec.ofChange coverMovesSpec)

/-- ITS FALSE NEIGHBOUR: 'it returns false'. Refute it at one input. -/
def coverMovesWrong : ChangeSpec := { name := "coverMoves", fn := fun _ => fun
  | [d1, d2] => { results := [.lit (.bool false)], args := [d1, d2] }
  | _ => none }
def CoverMovesWrongFalsely : Prop := coverMovesRow.holds Try.pinned (OpenSpec.ofChange coverMovesWrong)

/-- 'graticulelaw13.CoverOnce': WHATEVER THE INPUT: true; the input reads as it did. -/
def coverOnceSpec : ChangeSpec := { name := "coverOnce", fn := fun _ => fun
  | [d1, d2] => { results := [.lit (.bool true)], args := [d1, d2] }
  | _ => none }
def coverOnceRow : OpenClaim := { program := "ytccamjnomjcchaa", sum := "e6943085725bdebdd0a101d69c27f5cd3d5193ecee1351b1b0ffaeb605f51492", func := "graticule/graticulelaw13.CoverOnce", spec := "coverOnce", unfollowed := true, recurses := true, plainKeys := false, apart := false }
def CoverOnceSaid : Prop := coverOnceRow.holds Try.pinned (OpenSpec.ofChange coverOnceSpec)

/-- ITS FALSE NEIGHBOUR: 'it returns false'. Refute it at one input. -/
def coverOnceWrong : ChangeSpec := { name := "coverOnce", fn := fun _ => fun
  | [d1, d2] => { results := [.lit (.bool false)], args := [d1, d2] }
  | _ => none }
def CoverOnceWrongFalsely : Prop := coverOnceRow.holds Try.pinned (OpenSpec.ofChange coverOnceWrong)

/- THE SECOND FORM. 'bulk': how many values and letters a reading holds, each counted each time it is reached (what is shared counts as often as it is met; a slice's spare places count too). A statement '..UptoSaid' is the law's where the arguments, and the package variables that the reading takes, are together of bulk at most 1048576: NARROWER than '..Said'. Prove '..Said' where nothing that the law and all that it calls make is longer than what came in: it says more and counts as full. Else prove '..UptoSaid'. A law counts once. -/
mutual
def uptoBulk {H : Type} : DataW H → Nat
  | .lit (.string bytes) => bytes.length + 1
  | .lit _ => 1
  | .nil => 1
  | .ptr d => uptoBulk d + 1
  | .slice elems spare => uptoBulkAll elems + uptoBulkAll spare + 1
  | .agg parts => uptoBulkAll parts + 1
  | .iface _ d => uptoBulk d + 1
  | .map entries => uptoBulkEntries entries + 1
  | .held _ => 1
def uptoBulkAll {H : Type} : List (DataW H) → Nat
  | [] => 0
  | d :: r => uptoBulk d + uptoBulkAll r
def uptoBulkEntries {H : Type} : List (Lit × DataW H) → Nat
  | [] => 0
  | x :: r => uptoBulkEntry x + uptoBulkEntries r
def uptoBulkEntry {H : Type} : Lit × DataW H → Nat
  | (.string bytes, d) => bytes.length + uptoBulk d + 1
  | (_, d) => uptoBulk d + 1
 end
def uptoSmall : (H : Type) → List (DataW H) → Bool := fun _ ds => decide (uptoBulkAll ds ≤ 1048576)
def OpenSpec.upto (s : _root_.Go.ChangeSpec) : _root_.Go.OpenSpec := { _root_.Go.OpenSpec.ofChange s with cond := some uptoSmall }

/-- 'graticulelaw13.CoverChecks', WHERE WHAT IT READS IS OF BULK AT MOST 1048576: true; the input reads as it did. -/
def coverChecksUptoRow : OpenClaim := { program := "ytccamjnomjcchaa", sum := "e6943085725bdebdd0a101d69c27f5cd3d5193ecee1351b1b0ffaeb605f51492", func := "graticule/graticulelaw13.CoverChecks", spec := "coverChecks", unfollowed := true, recurses := true, plainKeys := false, apart := false, narrowed := true }
def CoverChecksUptoSaid : Prop := coverChecksUptoRow.holds Try.pinned (OpenSpec.upto coverChecksSpec)

/-- 'graticulelaw13.CoverMany', WHERE WHAT IT READS IS OF BULK AT MOST 1048576: true; the input reads as it did. -/
def coverManyUptoRow : OpenClaim := { program := "ytccamjnomjcchaa", sum := "e6943085725bdebdd0a101d69c27f5cd3d5193ecee1351b1b0ffaeb605f51492", func := "graticule/graticulelaw13.CoverMany", spec := "coverMany", unfollowed := true, recurses := true, plainKeys := false, apart := false, narrowed := true }
def CoverManyUptoSaid : Prop := coverManyUptoRow.holds Try.pinned (OpenSpec.upto coverManySpec)

/-- 'graticulelaw13.CoverTurns', WHERE WHAT IT READS IS OF BULK AT MOST 1048576: true; the input reads as it did. -/
def coverTurnsUptoRow : OpenClaim := { program := "ytccamjnomjcchaa", sum := "e6943085725bdebdd0a101d69c27f5cd3d5193ecee1351b1b0ffaeb605f51492", func := "graticule/graticulelaw13.CoverTurns", spec := "coverTurns", unfollowed := true, recurses := true, plainKeys := false, apart := false, narrowed := true }
def CoverTurnsUptoSaid : Prop := coverTurnsUptoRow.holds Try.pinned (OpenSpec.upto coverTurnsSpec)

/-- 'graticulelaw13.CoverMoves', WHERE WHAT IT READS IS OF BULK AT MOST 1048576: true; the input reads as it did. -/
def coverMovesUptoRow : OpenClaim := { program := "ytccamjnomjcchaa", sum := "e6943085725bdebdd0a101d69c27f5cd3d5193ecee1351b1b0ffaeb605f51492", func := "graticule/graticulelaw13.CoverMoves", spec := "coverMoves", unfollowed := true, recurses := true, plainKeys := false, apart := false, narrowed := true }
def CoverMovesUptoSaid : Prop := coverMovesUptoRow.holds Try.pinned (OpenSpec.upto coverMovesSpec)

/-- 'graticulelaw13.CoverOnce', WHERE WHAT IT READS IS OF BULK AT MOST 1048576: true; the input reads as it did. -/
def coverOnceUptoRow : OpenClaim := { program := "ytccamjnomjcchaa", sum := "e6943085725bdebdd0a101d69c27f5cd3d5193ecee1351b1b0ffaeb605f51492", func := "graticule/graticulelaw13.CoverOnce", spec := "coverOnce", unfollowed := true, recurses := true, plainKeys := false, apart := false, narrowed := true }
def CoverOnceUptoSaid : Prop := coverOnceUptoRow.holds Try.pinned (OpenSpec.upto coverOnceSpec)

end Rows
end Go.Proofs.Ytccamjnomjcchaa
