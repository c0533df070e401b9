/-
  graticuleref01.May.
-/
import Derived.Test.YtdginfjlelpkmaaPts
import Derived.Test.YtdginfjlelpkmaaLof
import Derived.BigRegion
import Derived.RegionTactic
import Derived.Maps.AppendAt
import Derived.Test.YtdginfjlelpkmaaInfo
import Derived.Test.YtdginfjlelpkmaaProg
set_option linter.unusedVariables false
set_option linter.unusedSimpArgs false
namespace Go.Proofs.Ytdginfjlelpkmaa
open Go.RowKit
theorem Try.infoRP : (Try.prog.info? 40).map (fun i => (i.zero, i.size, i.bytes)) = some (some (.agg #[.int .i64 0, .int .i64 0]), 2, 16) := by kernel_rfl

set_option maxHeartbeats 800000 in
theorem rmay_any (p : Pt) (w : World) :
    Calls Try.prog 38 #[p.val] w fun e w' => e = .returned (.bool (okPt p)) ∧ Below w.heap.size w w' := by
  obtain ⟨x, y⟩ := p
  dsimp only [Pt.val]
  obtain ⟨B, hB⟩ : ∃ B, okPt ⟨x, y⟩ = B := ⟨_, rfl⟩
  have hC : Hid (B = (decide (-16777216 ≤ x) && decide (x ≤ 16777216) && decide (-16777216 ≤ y) && decide (y ≤ 16777216))) := by
    refine Lib.hid ?_
    rw [← hB]
    simp [okPt, Bool.and_assoc]
  rw [hB]
  clear hB
  go_enter Try.func38, Try.ntmps38
  go_wp2
  all_goals (go_ret; refine ⟨ret_bool ?_, Below.new _ _⟩; rw [hC.out]; clear hC; first | (simp_all; done) | (simp_all; intros; omega))

end Go.Proofs.Ytdginfjlelpkmaa
