/-
  No cell of these rows narrows 'for every input' (looked for: loops, veiled, ifaces, maps, wideKeys, modest, calm, conditions, laid).
  DERIVED. THE GIVEN ROWS OF THIS SEAT. 4 by the template 'for every input the law returns true; each argument reads behind the call as it read before'; 0 by the template 'total and deterministic' (their statements: YtbjiamakchklpaaTotals.lean).
  GIVEN WITH THE SEED: the statements are not yours to turn. If you find one false, say at which input.
  Laid BY PROGRAM, IN A SANDBOX (cutbox-rows.mjs): the forced cells as the released guide's own fill.sh prints them over the translation aab3cadb91adf1ac… (all of the seat's roots in one cut). By AI agents, Wed Nov 11 2026. No macro, syntax, notation, axiom, sorry.
-/
import Derived.Test.YtbjiamakchklpaaChecked
import GoSem.Claim
import GoSem.ClaimJoined
import GoSem.ClaimMapViews
import Derived.JoinedTies
import Derived.KernelRfl
namespace Go.Proofs.Ytbjiamakchklpaa
/- THE CELL 'sum', in the pinned program and in every row, IS THE sha256 OF THE DUMP (.gsa) THAT YtbjiamakchklpaaProg.lean LOADS. Nothing in Lean hashes anything: it is a label: what it is worth is what the hold of that sum in a sandbox is worth. -/
noncomputable def Try.pinned : Pinned := { name := "ytbjiamakchklpaa", sum := "aab3cadb91adf1acf176d432e89b3ff733653b2e816721a3667a6fea008c1aa7", checked := Try.checked }
namespace Rows
def none {H : Type} : Left H := { results := [], args := [] }

/-- 'graticulelaw09.TextQuotes': WHATEVER THE INPUT: true; the input reads as it did. -/
def textQuotesSpec : ChangeSpec := { name := "textQuotes", fn := fun _ => fun
  | [d] => { results := [.lit (.bool true)], args := [d] }
  | _ => none }
def textQuotesRow : OpenClaim := { program := "ytbjiamakchklpaa", sum := "aab3cadb91adf1acf176d432e89b3ff733653b2e816721a3667a6fea008c1aa7", func := "graticule/graticulelaw09.TextQuotes", spec := "textQuotes", inPlace := ["internal/abi.NoEscape", "internal/bytealg.IndexByteString", "internal/bytealg.IndexString"], unfollowed := true, recurses := true, named := ["internal/bytealg.MaxLen"], apart := false }
def TextQuotesSaid : Prop := textQuotesRow.holds Try.pinned (OpenSpec.ofChange textQuotesSpec)

/-- ITS FALSE NEIGHBOUR: 'it returns false'. Refute it at one input. -/
def textQuotesWrong : ChangeSpec := { name := "textQuotes", fn := fun _ => fun
  | [d] => { results := [.lit (.bool false)], args := [d] }
  | _ => none }
def TextQuotesWrongFalsely : Prop := textQuotesRow.holds Try.pinned (OpenSpec.ofChange textQuotesWrong)

/-- 'graticulelaw09.TextWords': WHATEVER THE INPUT: true; the input reads as it did. -/
def textWordsSpec : ChangeSpec := { name := "textWords", fn := fun _ => fun
  | [d] => { results := [.lit (.bool true)], args := [d] }
  | _ => none }
def textWordsRow : OpenClaim := { program := "ytbjiamakchklpaa", sum := "aab3cadb91adf1acf176d432e89b3ff733653b2e816721a3667a6fea008c1aa7", func := "graticule/graticulelaw09.TextWords", spec := "textWords", inPlace := ["internal/bytealg.IndexByteString", "internal/bytealg.IndexString", "internal/abi.NoEscape"], unfollowed := true, recurses := true, named := ["internal/bytealg.MaxLen"], apart := false }
def TextWordsSaid : Prop := textWordsRow.holds Try.pinned (OpenSpec.ofChange textWordsSpec)

/-- ITS FALSE NEIGHBOUR: 'it returns false'. Refute it at one input. -/
def textWordsWrong : ChangeSpec := { name := "textWords", fn := fun _ => fun
  | [d] => { results := [.lit (.bool false)], args := [d] }
  | _ => none }
def TextWordsWrongFalsely : Prop := textWordsRow.holds Try.pinned (OpenSpec.ofChange textWordsWrong)

/-- 'graticulelaw09.TextParts': WHATEVER THE INPUT: true; the input reads as it did. -/
def textPartsSpec : ChangeSpec := { name := "textParts", fn := fun _ => fun
  | [d] => { results := [.lit (.bool true)], args := [d] }
  | _ => none }
def textPartsRow : OpenClaim := { program := "ytbjiamakchklpaa", sum := "aab3cadb91adf1acf176d432e89b3ff733653b2e816721a3667a6fea008c1aa7", func := "graticule/graticulelaw09.TextParts", spec := "textParts", inPlace := ["internal/abi.NoEscape", "internal/bytealg.IndexByteString", "internal/bytealg.IndexString"], unfollowed := true, recurses := true, named := ["internal/bytealg.MaxLen"], apart := false }
def TextPartsSaid : Prop := textPartsRow.holds Try.pinned (OpenSpec.ofChange textPartsSpec)

/-- ITS FALSE NEIGHBOUR: 'it returns false'. Refute it at one input. -/
def textPartsWrong : ChangeSpec := { name := "textParts", fn := fun _ => fun
  | [d] => { results := [.lit (.bool false)], args := [d] }
  | _ => none }
def TextPartsWrongFalsely : Prop := textPartsRow.holds Try.pinned (OpenSpec.ofChange textPartsWrong)

/-- 'graticulelaw09.TextRunes': WHATEVER THE INPUT: true; the input reads as it did. -/
def textRunesSpec : ChangeSpec := { name := "textRunes", fn := fun _ => fun
  | [d1, d2] => { results := [.lit (.bool true)], args := [d1, d2] }
  | _ => none }
def textRunesRow : OpenClaim := { program := "ytbjiamakchklpaa", sum := "aab3cadb91adf1acf176d432e89b3ff733653b2e816721a3667a6fea008c1aa7", func := "graticule/graticulelaw09.TextRunes", spec := "textRunes", inPlace := ["internal/abi.NoEscape", "internal/bytealg.IndexByteString", "internal/bytealg.IndexString"], unfollowed := true, recurses := true, named := ["internal/bytealg.MaxLen"], apart := false }
def TextRunesSaid : Prop := textRunesRow.holds Try.pinned (OpenSpec.ofChange textRunesSpec)

/-- ITS FALSE NEIGHBOUR: 'it returns false'. Refute it at one input. -/
def textRunesWrong : ChangeSpec := { name := "textRunes", fn := fun _ => fun
  | [d1, d2] => { results := [.lit (.bool false)], args := [d1, d2] }
  | _ => none }
def TextRunesWrongFalsely : Prop := textRunesRow.holds Try.pinned (OpenSpec.ofChange textRunesWrong)

/- THE SECOND FORM. 'bulk': how many values and letters a reading holds, each counted each time it is reached (what is shared counts as often as it is met; a slice's spare places count too). A statement '..UptoSaid' is the law's where the arguments, and the package variables that the reading takes, are together of bulk at most 1048576: NARROWER than '..Said'. Prove '..Said' where nothing that the law and all that it calls make is longer than what came in: it says more and counts as full. Else prove '..UptoSaid'. A law counts once. -/
mutual
def uptoBulk {H : Type} : DataW H → Nat
  | .lit (.string bytes) => bytes.length + 1
  | .lit _ => 1
  | .nil => 1
  | .ptr d => uptoBulk d + 1
  | .slice elems spare => uptoBulkAll elems + uptoBulkAll spare + 1
  | .agg parts => uptoBulkAll parts + 1
  | .iface _ d => uptoBulk d + 1
  | .map entries => uptoBulkEntries entries + 1
  | .held _ => 1
def uptoBulkAll {H : Type} : List (DataW H) → Nat
  | [] => 0
  | d :: r => uptoBulk d + uptoBulkAll r
def uptoBulkEntries {H : Type} : List (Lit × DataW H) → Nat
  | [] => 0
  | x :: r => uptoBulkEntry x + uptoBulkEntries r
def uptoBulkEntry {H : Type} : Lit × DataW H → Nat
  | (.string bytes, d) => bytes.length + uptoBulk d + 1
  | (_, d) => uptoBulk d + 1
 end
def uptoSmall : (H : Type) → List (DataW H) → Bool := fun _ ds => decide (uptoBulkAll ds ≤ 1048576)
def OpenSpec.upto (s : _root_.Go.ChangeSpec) : _root_.Go.OpenSpec := { _root_.Go.OpenSpec.ofChange s with cond := some uptoSmall }

/-- 'graticulelaw09.TextQuotes', WHERE WHAT IT READS IS OF BULK AT MOST 1048576: true; the input reads as it did. -/
def textQuotesUptoRow : OpenClaim := { program := "ytbjiamakchklpaa", sum := "aab3cadb91adf1acf176d432e89b3ff733653b2e816721a3667a6fea008c1aa7", func := "graticule/graticulelaw09.TextQuotes", spec := "textQuotes", inPlace := ["internal/abi.NoEscape", "internal/bytealg.IndexByteString", "internal/bytealg.IndexString"], unfollowed := true, recurses := true, named := ["internal/bytealg.MaxLen"], apart := false, narrowed := true }
def TextQuotesUptoSaid : Prop := textQuotesUptoRow.holds Try.pinned (OpenSpec.upto textQuotesSpec)

/-- 'graticulelaw09.TextWords', WHERE WHAT IT READS IS OF BULK AT MOST 1048576: true; the input reads as it did. -/
def textWordsUptoRow : OpenClaim := { program := "ytbjiamakchklpaa", sum := "aab3cadb91adf1acf176d432e89b3ff733653b2e816721a3667a6fea008c1aa7", func := "graticule/graticulelaw09.TextWords", spec := "textWords", inPlace := ["internal/bytealg.IndexByteString", "internal/bytealg.IndexString", "internal/abi.NoEscape"], unfollowed := true, recurses := true, named := ["internal/bytealg.MaxLen"], apart := false, narrowed := true }
def TextWordsUptoSaid : Prop := textWordsUptoRow.holds Try.pinned (OpenSpec.upto textWordsSpec)

/-- 'graticulelaw09.TextParts', WHERE WHAT IT READS IS OF BULK AT MOST 1048576: true; the input reads as it did. -/
def textPartsUptoRow : OpenClaim := { program := "ytbjiamakchklpaa", sum := "aab3cadb91adf1acf176d432e89b3ff733653b2e816721a3667a6fea008c1aa7", func := "graticule/graticulelaw09.TextParts", spec := "textParts", inPlace := ["internal/abi.NoEscape", "internal/bytealg.IndexByteString", "internal/bytealg.IndexString"], unfollowed := true, recurses := true, named := ["internal/bytealg.MaxLen"], apart := false, narrowed := true }
def TextPartsUptoSaid : Prop := textPartsUptoRow.holds Try.pinned (OpenSpec.upto textPartsSpec)

/-- 'graticulelaw09.TextRunes', WHERE WHAT IT READS IS OF BULK AT MOST 1048576: true; the input reads as it did. -/
def textRunesUptoRow : OpenClaim := { program := "ytbjiamakchklpaa", sum := "aab3cadb91adf1acf176d432e89b3ff733653b2e816721a3667a6fea008c1aa7", func := "graticule/graticulelaw09.TextRunes", spec := "textRunes", inPlace := ["internal/abi.NoEscape", "internal/bytealg.IndexByteString", "internal/bytealg.IndexString"], unfollowed := true, recurses := true, named := ["internal/bytealg.MaxLen"], apart := false, narrowed := true }
def TextRunesUptoSaid : Prop := textRunesUptoRow.holds Try.pinned (OpenSpec.upto textRunesSpec)

end Rows
end Go.Proofs.Ytbjiamakchklpaa
