/-
  No cell of these rows narrows 'for every input' (looked for: loops, veiled, ifaces, maps, wideKeys, modest, calm, conditions, laid).
  DERIVED. THE GIVEN ROWS OF THIS SEAT. 3 by the template 'for every input the law returns true; each argument reads behind the call as it read before'; 0 by the template 'total and deterministic' (their statements: YtmmhkageehlknaaTotals.lean).
  GIVEN WITH THE SEED: the statements are not yours to turn. If you find one false, say at which input.
  Laid BY PROGRAM, IN A SANDBOX (cutbox-rows.mjs): the forced cells as the released guide's own fill.sh prints them over the translation 4b3287fa6e73c6f2… (all of the seat's roots in one cut). By AI agents, Wed Nov 11 2026. No macro, syntax, notation, axiom, sorry.
-/
import Derived.Test.YtmmhkageehlknaaChecked
import GoSem.Claim
import GoSem.ClaimJoined
import GoSem.ClaimMapViews
import Derived.JoinedTies
import Derived.KernelRfl
namespace Go.Proofs.Ytmmhkageehlknaa
/- THE CELL 'sum', in the pinned program and in every row, IS THE sha256 OF THE DUMP (.gsa) THAT YtmmhkageehlknaaProg.lean LOADS. Nothing in Lean hashes anything: it is a label: what it is worth is what the hold of that sum in a sandbox is worth. -/
noncomputable def Try.pinned : Pinned := { name := "ytmmhkageehlknaa", sum := "4b3287fa6e73c6f27496c17e33b1ee610022343d5887aa15c27b6562ae66c71f", checked := Try.checked }
namespace Rows
def none {H : Type} : Left H := { results := [], args := [] }

/-- 'graticulelaw16.SnapLines': WHATEVER THE INPUT: true; the input reads as it did. -/
def snapLinesSpec : ChangeSpec := { name := "snapLines", fn := fun _ => fun
  | [d1, d2, d3] => { results := [.lit (.bool true)], args := [d1, d2, d3] }
  | _ => none }
def snapLinesRow : OpenClaim := { program := "ytmmhkageehlknaa", sum := "4b3287fa6e73c6f27496c17e33b1ee610022343d5887aa15c27b6562ae66c71f", func := "graticule/graticulelaw16.SnapLines", spec := "snapLines", unfollowed := true, recurses := true, apart := false }
def SnapLinesSaid : Prop := snapLinesRow.holds Try.pinned (OpenSpec.ofChange snapLinesSpec)

/-- ITS FALSE NEIGHBOUR: 'it returns false'. Refute it at one input. -/
def snapLinesWrong : ChangeSpec := { name := "snapLines", fn := fun _ => fun
  | [d1, d2, d3] => { results := [.lit (.bool false)], args := [d1, d2, d3] }
  | _ => none }
def SnapLinesWrongFalsely : Prop := snapLinesRow.holds Try.pinned (OpenSpec.ofChange snapLinesWrong)

/-- 'graticulelaw16.SnapNear': WHATEVER THE INPUT: true; the input reads as it did. -/
def snapNearSpec : ChangeSpec := { name := "snapNear", fn := fun _ => fun
  | [d1, d2, d3] => { results := [.lit (.bool true)], args := [d1, d2, d3] }
  | _ => none }
def snapNearRow : OpenClaim := { program := "ytmmhkageehlknaa", sum := "4b3287fa6e73c6f27496c17e33b1ee610022343d5887aa15c27b6562ae66c71f", func := "graticule/graticulelaw16.SnapNear", spec := "snapNear", unfollowed := true, recurses := true, apart := false }
def SnapNearSaid : Prop := snapNearRow.holds Try.pinned (OpenSpec.ofChange snapNearSpec)

/-- ITS FALSE NEIGHBOUR: 'it returns false'. Refute it at one input. -/
def snapNearWrong : ChangeSpec := { name := "snapNear", fn := fun _ => fun
  | [d1, d2, d3] => { results := [.lit (.bool false)], args := [d1, d2, d3] }
  | _ => none }
def SnapNearWrongFalsely : Prop := snapNearRow.holds Try.pinned (OpenSpec.ofChange snapNearWrong)

/-- 'graticulelaw16.SnapTurns': WHATEVER THE INPUT: true; the input reads as it did. -/
def snapTurnsSpec : ChangeSpec := { name := "snapTurns", fn := fun _ => fun
  | [d1, d2, d3] => { results := [.lit (.bool true)], args := [d1, d2, d3] }
  | _ => none }
def snapTurnsRow : OpenClaim := { program := "ytmmhkageehlknaa", sum := "4b3287fa6e73c6f27496c17e33b1ee610022343d5887aa15c27b6562ae66c71f", func := "graticule/graticulelaw16.SnapTurns", spec := "snapTurns", unfollowed := true, recurses := true, apart := false }
def SnapTurnsSaid : Prop := snapTurnsRow.holds Try.pinned (OpenSpec.ofChange snapTurnsSpec)

/-- ITS FALSE NEIGHBOUR: 'it returns false'. Refute it at one input. -/
def snapTurnsWrong : ChangeSpec := { name := "snapTurns", fn := fun _ => fun
  | [d1, d2, d3] => { results := [.lit (.bool false)], args := [d1, d2, d3] }
  | _ => none }
def SnapTurnsWrongFalsely : Prop := snapTurnsRow.holds Try.pinned (OpenSpec.ofChange snapTurnsWrong)

/- THE SECOND FORM. 'bulk': how many values and letters a reading holds, each counted each time it is reached (what is shared counts as often as it is met; a slice's spare places count too). A statement '..UptoSaid' is the law's where the arguments, and the package variables that the reading takes, are together of bulk at most 1048576: NARROWER than '..Said'. Prove '..Said' where nothing that the law and all that it calls make is longer than what came in: it says more and counts as full. Else prove '..UptoSaid'. A law counts once. -/
mutual
def uptoBulk {H : Type} : DataW H → Nat
  | .lit (.string bytes) => bytes.length + 1
  | .lit _ => 1
  | .nil => 1
  | .ptr d => uptoBulk d + 1
  | .slice elems spare => uptoBulkAll elems + uptoBulkAll spare + 1
  | .agg parts => uptoBulkAll parts + 1
  | .iface _ d => uptoBulk d + 1
  | .map entries => uptoBulkEntries entries + 1
  | .held _ => 1
def uptoBulkAll {H : Type} : List (DataW H) → Nat
  | [] => 0
  | d :: r => uptoBulk d + uptoBulkAll r
def uptoBulkEntries {H : Type} : List (Lit × DataW H) → Nat
  | [] => 0
  | x :: r => uptoBulkEntry x + uptoBulkEntries r
def uptoBulkEntry {H : Type} : Lit × DataW H → Nat
  | (.string bytes, d) => bytes.length + uptoBulk d + 1
  | (_, d) => uptoBulk d + 1
 end
def uptoSmall : (H : Type) → List (DataW H) → Bool := fun _ ds => decide (uptoBulkAll ds ≤ 1048576)
def OpenSpec.upto (s : _root_.Go.ChangeSpec) : _root_.Go.OpenSpec := { _root_.Go.OpenSpec.ofChange s with cond := some uptoSmall }

/-- 'graticulelaw16.SnapLines', WHERE WHAT IT READS IS OF BULK AT MOST 1048576: true; the input reads as it did. -/
def snapLinesUptoRow : OpenClaim := { program := "ytmmhkageehlknaa", sum := "4b3287fa6e73c6f27496c17e33b1ee610022343d5887aa15c27b6562ae66c71f", func := "graticule/graticulelaw16.SnapLines", spec := "snapLines", unfollowed := true, recurses := true, apart := false, narrowed := true }
def SnapLinesUptoSaid : Prop := snapLinesUptoRow.holds Try.pinned (OpenSpec.upto snapLinesSpec)

/-- 'graticulelaw16.SnapNear', WHERE WHAT IT READS IS OF BULK AT MOST 1048576: true; the input reads as it did. -/
def snapNearUptoRow : OpenClaim := { program := "ytmmhkageehlknaa", sum := "4b3287fa6e73c6f27496c17e33b1ee610022343d5887aa15c27b6562ae66c71f", func := "graticule/graticulelaw16.SnapNear", spec := "snapNear", unfollowed := true, recurses := true, apart := false, narrowed := true }
def SnapNearUptoSaid : Prop := snapNearUptoRow.holds Try.pinned (OpenSpec.upto snapNearSpec)

/-- 'graticulelaw16.SnapTurns', WHERE WHAT IT READS IS OF BULK AT MOST 1048576: true; the input reads as it did. -/
def snapTurnsUptoRow : OpenClaim := { program := "ytmmhkageehlknaa", sum := "4b3287fa6e73c6f27496c17e33b1ee610022343d5887aa15c27b6562ae66c71f", func := "graticule/graticulelaw16.SnapTurns", spec := "snapTurns", unfollowed := true, recurses := true, apart := false, narrowed := true }
def SnapTurnsUptoSaid : Prop := snapTurnsUptoRow.holds Try.pinned (OpenSpec.upto snapTurnsSpec)

end Rows
end Go.Proofs.Ytmmhkageehlknaa
