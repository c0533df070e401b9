/-
  graticulelaw01.Of.
-/
import Derived.Test.YtdginfjlelpkmaaPts
import Derived.Test.YtdginfjlelpkmaaProg
set_option linter.unusedVariables false
set_option linter.unusedSimpArgs false
namespace Go.Proofs.Ytdginfjlelpkmaa
open Go.RowKit
theorem lof_any (p : Pt) (w : World) :
    Calls Try.prog 13 #[p.val] w fun e w' => e = .returned p.val ∧ Below w.heap.size w w' := by
  obtain ⟨x, y⟩ := p
  dsimp only [Pt.val]
  go_enter Try.func13, Try.ntmps13
  go_wp2
  refine bodyPost_ret (v := .agg #[.int .i64 x, .int .i64 y]) (by simp [results, Try.results13, go_sem]) rfl ⟨rfl, ((Below.new _ _).alloc (by simp) _)⟩
end Go.Proofs.Ytdginfjlelpkmaa
