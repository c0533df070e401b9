/-
  graticuleref01.Cross.
-/
import Derived.Test.YtdginfjlelpkmaaSgeo
import Derived.Test.YtdginfjlelpkmaaRmay
set_option linter.unusedVariables false
set_option linter.unusedSimpArgs false
set_option maxRecDepth 100000
namespace Go
/-- Twice as far as a point may be. -/
def okW (p : Pt) : Prop := (-33554432 ≤ p.x ∧ p.x ≤ 33554432) ∧ -33554432 ≤ p.y ∧ p.y ≤ 33554432
theorem okW_of {p : Pt} (h : okPt p = true) : okW p := by
  rw [okPt_iff] at h
  unfold okW
  omega
end Go
namespace Go.Proofs.Ytdginfjlelpkmaa
open Go.RowKit

set_option maxHeartbeats 1600000 in
theorem rcross_wide (a b c : Pt) (ha : okW a) (hb : okW b) (hc : okW c) (w : World) :
    Calls Try.prog 71 #[a.val, b.val, c.val] w fun e w' => e = .returned (.int .i64 (crs a b c)) ∧ Below w.heap.size w w' := by
  obtain ⟨R, hR⟩ : ∃ R, crs a b c = R := ⟨_, rfl⟩
  rw [hR]
  unfold okW at ha hb hc
  obtain ⟨ax, ay⟩ := a
  obtain ⟨bx, bY⟩ := b
  obtain ⟨cx, cy⟩ := c
  dsimp only [Pt.val, crs] at *
  have hE : Hid (ax * bY - bx * ay + bx * cy - cx * bY + cx * ay - ax * cy = R) := Lib.hid (by rw [← hR]; grind)
  clear hR
  have m1 := mul_bd ax bY 33554432 33554432 (by omega) (by omega) (by omega) (by omega)
  have m2 := mul_bd bx ay 33554432 33554432 (by omega) (by omega) (by omega) (by omega)
  have m3 := mul_bd bx cy 33554432 33554432 (by omega) (by omega) (by omega) (by omega)
  have m4 := mul_bd cx bY 33554432 33554432 (by omega) (by omega) (by omega) (by omega)
  have m5 := mul_bd cx ay 33554432 33554432 (by omega) (by omega) (by omega) (by omega)
  have m6 := mul_bd ax cy 33554432 33554432 (by omega) (by omega) (by omega) (by omega)
  simp only [Int.reduceMul, Int.reduceNeg] at m1 m2 m3 m4 m5 m6
  clear ha hb hc
  have hbl := ((Below.new w (.cells #[.int .i64 ax, .int .i64 ay] 40)).alloc (by simp) (.cells #[.int .i64 bx, .int .i64 bY] 40)).alloc (by simp; omega) (.cells #[.int .i64 cx, .int .i64 cy] 40)
  go_enter Try.func71, Try.ntmps71
  go_wp2
  go_ret
  exact ⟨ret_int hE.out, hbl⟩
theorem rcross_any (a b c : Pt) (ha : okPt a = true) (hb : okPt b = true) (hc : okPt c = true) (w : World) :
    Calls Try.prog 71 #[a.val, b.val, c.val] w fun e w' => e = .returned (.int .i64 (crs a b c)) ∧ Below w.heap.size w w' :=
  rcross_wide a b c (okW_of ha) (okW_of hb) (okW_of hc) w
end Go.Proofs.Ytdginfjlelpkmaa
