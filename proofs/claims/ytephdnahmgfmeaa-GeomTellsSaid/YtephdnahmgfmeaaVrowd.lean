/-
  What a reader of rows hands back.
-/
import Derived.Test.YtephdnahmgfmeaaProg
import Derived.Test.YtephdnahmgfmeaaLib
import Derived.Test.YtephdnahmgfmeaaInfo
import Derived.Test.YtephdnahmgfmeaaVmath
namespace Go.Proofs.Ytephdnahmgfmeaa
open Go.RowKit Go.Vint

/-- What a row's reader hands back: the slice of the numbers, the place, the error. -/
def IsRowRes (B : Nat) (r : List Int × Int × Int) (e : Ending) (w' : World) : Prop :=
  ∃ v, e = .returned (.tuple #[v, .int .i64 r.2.1, .int .i64 r.2.2]) ∧ w'.ownsRow B 44 1 v r.1.length (r.1.map (Value.int .u64))
end Go.Proofs.Ytephdnahmgfmeaa
