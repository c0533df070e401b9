/-
  No cell of these rows narrows 'for every input' (looked for: loops, veiled, ifaces, maps, wideKeys, modest, calm, conditions, laid).
  DERIVED. THE GIVEN ROWS OF THIS SEAT. 3 by the template 'for every input the law returns true; each argument reads behind the call as it read before'; 0 by the template 'total and deterministic' (their statements: YtfonljchocekgaaTotals.lean).
  GIVEN WITH THE SEED: the statements are not yours to turn. If you find one false, say at which input.
  Laid BY PROGRAM, IN A SANDBOX (cutbox-rows.mjs): the forced cells as the released guide's own fill.sh prints them over the translation e46e65d2a406636c… (all of the seat's roots in one cut). By AI agents, Wed Nov 11 2026. No macro, syntax, notation, axiom, sorry.
-/
import Derived.Test.YtfonljchocekgaaChecked
import GoSem.Claim
import GoSem.ClaimJoined
import GoSem.ClaimMapViews
import Derived.JoinedTies
import Derived.KernelRfl
namespace Go.Proofs.Ytfonljchocekgaa
/- THE CELL 'sum', in the pinned program and in every row, IS THE sha256 OF THE DUMP (.gsa) THAT YtfonljchocekgaaProg.lean LOADS. Nothing in Lean hashes anything: it is a label: what it is worth is what the hold of that sum in a sandbox is worth. -/
noncomputable def Try.pinned : Pinned := { name := "ytfonljchocekgaa", sum := "e46e65d2a406636cfb2a65353d420540b77652cec3eb9cf328239036d95d9bac", checked := Try.checked }
namespace Rows
def none {H : Type} : Left H := { results := [], args := [] }

/-- 'graticulelaw07.VarintOrders': WHATEVER THE INPUT: true; the input reads as it did. -/
def varintOrdersSpec : ChangeSpec := { name := "varintOrders", fn := fun _ => fun
  | [d1, d2, d3, d4, d5] => { results := [.lit (.bool true)], args := [d1, d2, d3, d4, d5] }
  | _ => none }
def varintOrdersRow : OpenClaim := { program := "ytfonljchocekgaa", sum := "e46e65d2a406636cfb2a65353d420540b77652cec3eb9cf328239036d95d9bac", func := "graticule/graticulelaw07.VarintOrders", spec := "varintOrders", apart := false }
def VarintOrdersSaid : Prop := varintOrdersRow.holds Try.pinned (OpenSpec.ofChange varintOrdersSpec)

/-- ITS FALSE NEIGHBOUR: 'it returns false'. Refute it at one input. -/
def varintOrdersWrong : ChangeSpec := { name := "varintOrders", fn := fun _ => fun
  | [d1, d2, d3, d4, d5] => { results := [.lit (.bool false)], args := [d1, d2, d3, d4, d5] }
  | _ => none }
def VarintOrdersWrongFalsely : Prop := varintOrdersRow.holds Try.pinned (OpenSpec.ofChange varintOrdersWrong)

/-- 'graticulelaw07.VarintReads': WHATEVER THE INPUT: true; the input reads as it did. -/
def varintReadsSpec : ChangeSpec := { name := "varintReads", fn := fun _ => fun
  | [d] => { results := [.lit (.bool true)], args := [d] }
  | _ => none }
def varintReadsRow : OpenClaim := { program := "ytfonljchocekgaa", sum := "e46e65d2a406636cfb2a65353d420540b77652cec3eb9cf328239036d95d9bac", func := "graticule/graticulelaw07.VarintReads", spec := "varintReads", unfollowed := true, recurses := true, apart := false }
def VarintReadsSaid : Prop := varintReadsRow.holds Try.pinned (OpenSpec.ofChange varintReadsSpec)

/-- ITS FALSE NEIGHBOUR: 'it returns false'. Refute it at one input. -/
def varintReadsWrong : ChangeSpec := { name := "varintReads", fn := fun _ => fun
  | [d] => { results := [.lit (.bool false)], args := [d] }
  | _ => none }
def VarintReadsWrongFalsely : Prop := varintReadsRow.holds Try.pinned (OpenSpec.ofChange varintReadsWrong)

/-- 'graticulelaw07.VarintBytes': WHATEVER THE INPUT: true; the input reads as it did. -/
def varintBytesSpec : ChangeSpec := { name := "varintBytes", fn := fun _ => fun
  | [d1, d2, d3] => { results := [.lit (.bool true)], args := [d1, d2, d3] }
  | _ => none }
def varintBytesRow : OpenClaim := { program := "ytfonljchocekgaa", sum := "e46e65d2a406636cfb2a65353d420540b77652cec3eb9cf328239036d95d9bac", func := "graticule/graticulelaw07.VarintBytes", spec := "varintBytes", unfollowed := true, recurses := true, apart := false }
def VarintBytesSaid : Prop := varintBytesRow.holds Try.pinned (OpenSpec.ofChange varintBytesSpec)

/-- ITS FALSE NEIGHBOUR: 'it returns false'. Refute it at one input. -/
def varintBytesWrong : ChangeSpec := { name := "varintBytes", fn := fun _ => fun
  | [d1, d2, d3] => { results := [.lit (.bool false)], args := [d1, d2, d3] }
  | _ => none }
def VarintBytesWrongFalsely : Prop := varintBytesRow.holds Try.pinned (OpenSpec.ofChange varintBytesWrong)

/- THE SECOND FORM. 'bulk': how many values and letters a reading holds, each counted each time it is reached (what is shared counts as often as it is met; a slice's spare places count too). A statement '..UptoSaid' is the law's where the arguments, and the package variables that the reading takes, are together of bulk at most 1048576: NARROWER than '..Said'. Prove '..Said' where nothing that the law and all that it calls make is longer than what came in: it says more and counts as full. Else prove '..UptoSaid'. A law counts once. -/
mutual
def uptoBulk {H : Type} : DataW H → Nat
  | .lit (.string bytes) => bytes.length + 1
  | .lit _ => 1
  | .nil => 1
  | .ptr d => uptoBulk d + 1
  | .slice elems spare => uptoBulkAll elems + uptoBulkAll spare + 1
  | .agg parts => uptoBulkAll parts + 1
  | .iface _ d => uptoBulk d + 1
  | .map entries => uptoBulkEntries entries + 1
  | .held _ => 1
def uptoBulkAll {H : Type} : List (DataW H) → Nat
  | [] => 0
  | d :: r => uptoBulk d + uptoBulkAll r
def uptoBulkEntries {H : Type} : List (Lit × DataW H) → Nat
  | [] => 0
  | x :: r => uptoBulkEntry x + uptoBulkEntries r
def uptoBulkEntry {H : Type} : Lit × DataW H → Nat
  | (.string bytes, d) => bytes.length + uptoBulk d + 1
  | (_, d) => uptoBulk d + 1
 end
def uptoSmall : (H : Type) → List (DataW H) → Bool := fun _ ds => decide (uptoBulkAll ds ≤ 1048576)
def OpenSpec.upto (s : _root_.Go.ChangeSpec) : _root_.Go.OpenSpec := { _root_.Go.OpenSpec.ofChange s with cond := some uptoSmall }

/-- 'graticulelaw07.VarintOrders', WHERE WHAT IT READS IS OF BULK AT MOST 1048576: true; the input reads as it did. -/
def varintOrdersUptoRow : OpenClaim := { program := "ytfonljchocekgaa", sum := "e46e65d2a406636cfb2a65353d420540b77652cec3eb9cf328239036d95d9bac", func := "graticule/graticulelaw07.VarintOrders", spec := "varintOrders", apart := false, narrowed := true }
def VarintOrdersUptoSaid : Prop := varintOrdersUptoRow.holds Try.pinned (OpenSpec.upto varintOrdersSpec)

/-- 'graticulelaw07.VarintReads', WHERE WHAT IT READS IS OF BULK AT MOST 1048576: true; the input reads as it did. -/
def varintReadsUptoRow : OpenClaim := { program := "ytfonljchocekgaa", sum := "e46e65d2a406636cfb2a65353d420540b77652cec3eb9cf328239036d95d9bac", func := "graticule/graticulelaw07.VarintReads", spec := "varintReads", unfollowed := true, recurses := true, apart := false, narrowed := true }
def VarintReadsUptoSaid : Prop := varintReadsUptoRow.holds Try.pinned (OpenSpec.upto varintReadsSpec)

/-- 'graticulelaw07.VarintBytes', WHERE WHAT IT READS IS OF BULK AT MOST 1048576: true; the input reads as it did. -/
def varintBytesUptoRow : OpenClaim := { program := "ytfonljchocekgaa", sum := "e46e65d2a406636cfb2a65353d420540b77652cec3eb9cf328239036d95d9bac", func := "graticule/graticulelaw07.VarintBytes", spec := "varintBytes", unfollowed := true, recurses := true, apart := false, narrowed := true }
def VarintBytesUptoSaid : Prop := varintBytesUptoRow.holds Try.pinned (OpenSpec.upto varintBytesSpec)

end Rows
end Go.Proofs.Ytfonljchocekgaa
