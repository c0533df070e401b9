/-
  The values of integers.
-/
import Derived.Test.YtdginfjlelpkmaaLib
set_option linter.unusedVariables false
namespace Go
open Go.RowKit
def ins (l : List Int) : List Value := l.map (Value.int .i64)
theorem ins_len (l : List Int) : (ins l).length = l.length * 1 := by simp [ins]
theorem ins_one (l : List Int) : ∀ u ∈ ins l, u.oneCell' = true := ints_one .i64 l
end Go
