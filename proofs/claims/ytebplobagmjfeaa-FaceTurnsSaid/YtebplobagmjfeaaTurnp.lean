/-
  A ring, the other way round: in plain terms.
-/
import Derived.Test.YtebplobagmjfeaaPts
namespace Go
/-- The other way round. -/
def turnedP (l : List Pt) : List Pt := match l with | [] => [] | p :: t => p :: t.reverse
theorem turnedP_len (l : List Pt) : (turnedP l).length = l.length := by cases l <;> simp [turnedP]
theorem turnedP_map (f : Pt → Pt) (l : List Pt) : (turnedP l).map f = turnedP (l.map f) := by cases l <;> simp [turnedP]
theorem turnedP_all (f : Pt → Bool) (l : List Pt) : (turnedP l).all f = l.all f := by cases l <;> simp [turnedP]
end Go
