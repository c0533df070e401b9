/-
  graticulelaw09.Cut.
-/
import Derived.Test.YtbjiamakchklpaaTcut
set_option linter.unusedVariables false
set_option linter.unusedSimpArgs false
set_option maxRecDepth 100000
namespace Go.Proofs.Ytbjiamakchklpaa
open Go.RowKit

set_option maxHeartbeats 800000 in
theorem cutl_any (s : ByteArray) (hs : s.size ≤ maxLen) (w : World) :
    Calls Try.prog 7 #[.string s] w fun e w' => e = .returned (.string (s.extract 0 (min s.size 200))) ∧ w' = w := by
  have hs2 : s.size ≤ 9223372036854775807 := by unfold maxLen at hs; omega
  go_enter Try.func7, Try.ntmps7
  have hm : (min (s.size : Int) 200).toNat = min s.size 200 := by omega
  have h0 : 0 ≤ min (s.size : Int) 200 := by omega
  have h1 : min (s.size : Int) 200 ≤ (s.size : Int) := by omega
  go_wp2
  go_ret
  exact ⟨rfl, rfl⟩

end Go.Proofs.Ytbjiamakchklpaa
