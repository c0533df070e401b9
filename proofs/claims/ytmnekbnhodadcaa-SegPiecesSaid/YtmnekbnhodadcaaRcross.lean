/-
  graticuleref01.Cross.
-/
import Derived.Test.YtmnekbnhodadcaaSgeo
import Derived.Test.YtmnekbnhodadcaaRmay
set_option linter.unusedVariables false
set_option linter.unusedSimpArgs false
set_option maxRecDepth 100000
namespace Go.Proofs.Ytmnekbnhodadcaa
open Go.RowKit

set_option maxHeartbeats 1600000 in
theorem rcross_any (a b c : Pt) (ha : okPt a = true) (hb : okPt b = true) (hc : okPt c = true) (w : World) :
    Calls Try.prog 14 #[a.val, b.val, c.val] w fun e w' => e = .returned (.int .i64 (crs a b c)) ∧ Below w.heap.size w w' := by
  obtain ⟨R, hR⟩ : ∃ R, crs a b c = R := ⟨_, rfl⟩
  rw [hR]
  rw [okPt_iff] at ha hb hc
  obtain ⟨ax, ay⟩ := a
  obtain ⟨bx, bY⟩ := b
  obtain ⟨cx, cy⟩ := c
  dsimp only [Pt.val, crs] at *
  have hE : Hid (ax * bY - bx * ay + bx * cy - cx * bY + cx * ay - ax * cy = R) := Lib.hid (by rw [← hR]; grind)
  clear hR
  have m1 := mul_bd ax bY 16777216 16777216 (by omega) (by omega) (by omega) (by omega)
  have m2 := mul_bd bx ay 16777216 16777216 (by omega) (by omega) (by omega) (by omega)
  have m3 := mul_bd bx cy 16777216 16777216 (by omega) (by omega) (by omega) (by omega)
  have m4 := mul_bd cx bY 16777216 16777216 (by omega) (by omega) (by omega) (by omega)
  have m5 := mul_bd cx ay 16777216 16777216 (by omega) (by omega) (by omega) (by omega)
  have m6 := mul_bd ax cy 16777216 16777216 (by omega) (by omega) (by omega) (by omega)
  simp only [Int.reduceMul, Int.reduceNeg] at m1 m2 m3 m4 m5 m6
  clear ha hb hc
  have hbl := ((Below.new w (.cells #[.int .i64 ax, .int .i64 ay] 26)).alloc (by simp) (.cells #[.int .i64 bx, .int .i64 bY] 26)).alloc (by simp; omega) (.cells #[.int .i64 cx, .int .i64 cy] 26)
  go_enter Try.func14, Try.ntmps14
  go_wp2
  go_ret
  exact ⟨ret_int hE.out, hbl⟩
end Go.Proofs.Ytmnekbnhodadcaa
