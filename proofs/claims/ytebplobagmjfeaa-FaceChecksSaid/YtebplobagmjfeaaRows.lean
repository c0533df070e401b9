/-
  No cell of these rows narrows 'for every input' (looked for: loops, veiled, ifaces, maps, wideKeys, modest, calm, conditions, laid).
  DERIVED. THE GIVEN ROWS OF THIS SEAT. 3 by the template 'for every input the law returns true; each argument reads behind the call as it read before'; 0 by the template 'total and deterministic' (their statements: YtebplobagmjfeaaTotals.lean).
  GIVEN WITH THE SEED: the statements are not yours to turn. If you find one false, say at which input.
  Laid BY PROGRAM, IN A SANDBOX (cutbox-rows.mjs): the forced cells as the released guide's own fill.sh prints them over the translation 301096a21bc75102… (all of the seat's roots in one cut). By AI agents, Wed Nov 11 2026. No macro, syntax, notation, axiom, sorry.
-/
import Derived.Test.YtebplobagmjfeaaChecked
import GoSem.Claim
import GoSem.ClaimJoined
import GoSem.ClaimMapViews
import Derived.JoinedTies
import Derived.KernelRfl
namespace Go.Proofs.Ytebplobagmjfeaa
/- THE CELL 'sum', in the pinned program and in every row, IS THE sha256 OF THE DUMP (.gsa) THAT YtebplobagmjfeaaProg.lean LOADS. Nothing in Lean hashes anything: it is a label: what it is worth is what the hold of that sum in a sandbox is worth. -/
noncomputable def Try.pinned : Pinned := { name := "ytebplobagmjfeaa", sum := "301096a21bc751028665b6829afefd13cb51c655eb0aab5cdcf2af8c258dca15", checked := Try.checked }
namespace Rows
def none {H : Type} : Left H := { results := [], args := [] }

/-- 'graticulelaw12.FaceChecks': WHATEVER THE INPUT: true; the input reads as it did. -/
def faceChecksSpec : ChangeSpec := { name := "faceChecks", fn := fun _ => fun
  | [d] => { results := [.lit (.bool true)], args := [d] }
  | _ => none }
def faceChecksRow : OpenClaim := { program := "ytebplobagmjfeaa", sum := "301096a21bc751028665b6829afefd13cb51c655eb0aab5cdcf2af8c258dca15", func := "graticule/graticulelaw12.FaceChecks", spec := "faceChecks", unfollowed := true, recurses := true, apart := false }
def FaceChecksSaid : Prop := faceChecksRow.holds Try.pinned (OpenSpec.ofChange faceChecksSpec)

/-- ITS FALSE NEIGHBOUR: 'it returns false'. Refute it at one input. -/
def faceChecksWrong : ChangeSpec := { name := "faceChecks", fn := fun _ => fun
  | [d] => { results := [.lit (.bool false)], args := [d] }
  | _ => none }
def FaceChecksWrongFalsely : Prop := faceChecksRow.holds Try.pinned (OpenSpec.ofChange faceChecksWrong)

/-- 'graticulelaw12.FaceNests': WHATEVER THE INPUT: true; the input reads as it did. -/
def faceNestsSpec : ChangeSpec := { name := "faceNests", fn := fun _ => fun
  | [d1, d2] => { results := [.lit (.bool true)], args := [d1, d2] }
  | _ => none }
def faceNestsRow : OpenClaim := { program := "ytebplobagmjfeaa", sum := "301096a21bc751028665b6829afefd13cb51c655eb0aab5cdcf2af8c258dca15", func := "graticule/graticulelaw12.FaceNests", spec := "faceNests", unfollowed := true, recurses := true, apart := false }
def FaceNestsSaid : Prop := faceNestsRow.holds Try.pinned (OpenSpec.ofChange faceNestsSpec)

/-- ITS FALSE NEIGHBOUR: 'it returns false'. Refute it at one input. -/
def faceNestsWrong : ChangeSpec := { name := "faceNests", fn := fun _ => fun
  | [d1, d2] => { results := [.lit (.bool false)], args := [d1, d2] }
  | _ => none }
def FaceNestsWrongFalsely : Prop := faceNestsRow.holds Try.pinned (OpenSpec.ofChange faceNestsWrong)

/-- 'graticulelaw12.FaceTurns': WHATEVER THE INPUT: true; the input reads as it did. -/
def faceTurnsSpec : ChangeSpec := { name := "faceTurns", fn := fun _ => fun
  | [d1, d2, d3] => { results := [.lit (.bool true)], args := [d1, d2, d3] }
  | _ => none }
def faceTurnsRow : OpenClaim := { program := "ytebplobagmjfeaa", sum := "301096a21bc751028665b6829afefd13cb51c655eb0aab5cdcf2af8c258dca15", func := "graticule/graticulelaw12.FaceTurns", spec := "faceTurns", unfollowed := true, recurses := true, apart := false }
def FaceTurnsSaid : Prop := faceTurnsRow.holds Try.pinned (OpenSpec.ofChange faceTurnsSpec)

/-- ITS FALSE NEIGHBOUR: 'it returns false'. Refute it at one input. -/
def faceTurnsWrong : ChangeSpec := { name := "faceTurns", fn := fun _ => fun
  | [d1, d2, d3] => { results := [.lit (.bool false)], args := [d1, d2, d3] }
  | _ => none }
def FaceTurnsWrongFalsely : Prop := faceTurnsRow.holds Try.pinned (OpenSpec.ofChange faceTurnsWrong)

/- THE SECOND FORM. 'bulk': how many values and letters a reading holds, each counted each time it is reached (what is shared counts as often as it is met; a slice's spare places count too). A statement '..UptoSaid' is the law's where the arguments, and the package variables that the reading takes, are together of bulk at most 1048576: NARROWER than '..Said'. Prove '..Said' where nothing that the law and all that it calls make is longer than what came in: it says more and counts as full. Else prove '..UptoSaid'. A law counts once. -/
mutual
def uptoBulk {H : Type} : DataW H → Nat
  | .lit (.string bytes) => bytes.length + 1
  | .lit _ => 1
  | .nil => 1
  | .ptr d => uptoBulk d + 1
  | .slice elems spare => uptoBulkAll elems + uptoBulkAll spare + 1
  | .agg parts => uptoBulkAll parts + 1
  | .iface _ d => uptoBulk d + 1
  | .map entries => uptoBulkEntries entries + 1
  | .held _ => 1
def uptoBulkAll {H : Type} : List (DataW H) → Nat
  | [] => 0
  | d :: r => uptoBulk d + uptoBulkAll r
def uptoBulkEntries {H : Type} : List (Lit × DataW H) → Nat
  | [] => 0
  | x :: r => uptoBulkEntry x + uptoBulkEntries r
def uptoBulkEntry {H : Type} : Lit × DataW H → Nat
  | (.string bytes, d) => bytes.length + uptoBulk d + 1
  | (_, d) => uptoBulk d + 1
 end
def uptoSmall : (H : Type) → List (DataW H) → Bool := fun _ ds => decide (uptoBulkAll ds ≤ 1048576)
def OpenSpec.upto (s : _root_.Go.ChangeSpec) : _root_.Go.OpenSpec := { _root_.Go.OpenSpec.ofChange s with cond := some uptoSmall }

/-- 'graticulelaw12.FaceChecks', WHERE WHAT IT READS IS OF BULK AT MOST 1048576: true; the input reads as it did. -/
def faceChecksUptoRow : OpenClaim := { program := "ytebplobagmjfeaa", sum := "301096a21bc751028665b6829afefd13cb51c655eb0aab5cdcf2af8c258dca15", func := "graticule/graticulelaw12.FaceChecks", spec := "faceChecks", unfollowed := true, recurses := true, apart := false, narrowed := true }
def FaceChecksUptoSaid : Prop := faceChecksUptoRow.holds Try.pinned (OpenSpec.upto faceChecksSpec)

/-- 'graticulelaw12.FaceNests', WHERE WHAT IT READS IS OF BULK AT MOST 1048576: true; the input reads as it did. -/
def faceNestsUptoRow : OpenClaim := { program := "ytebplobagmjfeaa", sum := "301096a21bc751028665b6829afefd13cb51c655eb0aab5cdcf2af8c258dca15", func := "graticule/graticulelaw12.FaceNests", spec := "faceNests", unfollowed := true, recurses := true, apart := false, narrowed := true }
def FaceNestsUptoSaid : Prop := faceNestsUptoRow.holds Try.pinned (OpenSpec.upto faceNestsSpec)

/-- 'graticulelaw12.FaceTurns', WHERE WHAT IT READS IS OF BULK AT MOST 1048576: true; the input reads as it did. -/
def faceTurnsUptoRow : OpenClaim := { program := "ytebplobagmjfeaa", sum := "301096a21bc751028665b6829afefd13cb51c655eb0aab5cdcf2af8c258dca15", func := "graticule/graticulelaw12.FaceTurns", spec := "faceTurns", unfollowed := true, recurses := true, apart := false, narrowed := true }
def FaceTurnsUptoSaid : Prop := faceTurnsUptoRow.holds Try.pinned (OpenSpec.upto faceTurnsSpec)

end Rows
end Go.Proofs.Ytebplobagmjfeaa
