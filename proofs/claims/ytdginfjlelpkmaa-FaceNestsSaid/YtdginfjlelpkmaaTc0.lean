/-
  table.Check of no attributes.
-/
import Derived.Test.YtdginfjlelpkmaaLib
import Derived.Test.YtdginfjlelpkmaaProg
set_option linter.unusedVariables false
set_option linter.unusedSimpArgs false
set_option maxRecDepth 100000
namespace Go.Proofs.Ytdginfjlelpkmaa
open Go.RowKit
set_option maxHeartbeats 1600000 in
theorem tcheck_none (a : Option Addr) (c : Nat) (w : World) :
    Calls Try.prog 28 #[.slice a 0 c] w fun e w' => e = .returned (.int .i64 0) ∧ Below w.heap.size w w' := by
  have hmm := @run_makeMap Try.prog
  go_enter Try.func28, Try.ntmps28
  go_wp2
  refine wp_loop_rounds 1 ?_
  rw [rounds_succ]
  go_wp2
  go_ret
  exact ⟨rfl, (Below.refl _ _).alloc (Nat.le_refl _) _⟩
end Go.Proofs.Ytdginfjlelpkmaa
