/-
  exact.within, Right, Cross.
-/
import Derived.Test.YtdginfjlelpkmaaExr
set_option linter.unusedVariables false
set_option linter.unusedSimpArgs false
namespace Go.Proofs.Ytdginfjlelpkmaa
open Go.RowKit

set_option maxHeartbeats 800000 in
theorem xcross_any (a b c : Pt) (ha : okPt a = true) (hb : okPt b = true) (hc : okPt c = true) (w : World) :
    Calls Try.prog 53 #[a.val, b.val, c.val] w fun e w' => e = .returned (.int .i64 (crs a b c)) ∧ Below w.heap.size w w' := by
  have hall : ([a, b, c].all okPt) = true := by simp [ha, hb, hc]
  have hB := crs_bd a b c ha hb hc
  rw [okPt_iff] at ha hb hc
  have h1 := mul_bd (b.x - a.x) (c.y - a.y) 33554432 33554432 (by omega) (by omega) (by omega) (by omega)
  have h2 := mul_bd (b.y - a.y) (c.x - a.x) 33554432 33554432 (by omega) (by omega) (by omega) (by omega)
  simp only [Int.reduceMul, Int.reduceNeg] at h1 h2
  obtain ⟨z, hz⟩ : ∃ z, crs a b c = z := ⟨_, rfl⟩
  have HZ := Lib.hid hz
  have HALL := Lib.hid hall
  rw [hz] at hB ⊢
  clear hz hall
  have hri := fun W h => xright_any (some ⟨w.heap.size + 1 + 1 + 1, 0, none⟩) 3 [a, b, c] (by simp [maxLen]) W h
  rw [HALL.out] at hri
  have HRI := Lib.hid hri
  clear hri HALL
  obtain ⟨ax, ay⟩ := a
  obtain ⟨bx, bY⟩ := b
  obtain ⟨cx, cy⟩ := c
  dsimp only [Pt.val, crs] at *
  go_enter Try.func53, Try.ntmps53
  go_wp2_with fail
  refine (HRI.out _ (Rd.lit _ _ [.int .i64 ax, .int .i64 ay, .int .i64 bx, .int .i64 bY, .int .i64 cx, .int .i64 cy] _ (by simp))).mono ?_
  rintro e w1 ⟨rfl, hb1⟩
  have hA := ((((Blk.lit w w.heap.size [.int .i64 ax, .int .i64 ay] 37 rfl).alloc (.cells #[.int .i64 bx, .int .i64 bY] 37)).alloc (.cells #[.int .i64 cx, .int .i64 cy] 37)).alloc (.cells #[.int .i64 ax, .int .i64 ay, .int .i64 bx, .int .i64 bY, .int .i64 cx, .int .i64 cy] 37)).keep hb1
  have hB2 := (((Blk.lit (w.alloc (.cells #[.int .i64 ax, .int .i64 ay] 37)) (w.heap.size + 1) [.int .i64 bx, .int .i64 bY] 37 (by simp)).alloc (.cells #[.int .i64 cx, .int .i64 cy] 37)).alloc (.cells #[.int .i64 ax, .int .i64 ay, .int .i64 bx, .int .i64 bY, .int .i64 cx, .int .i64 cy] 37)).keep hb1
  have hC2 := ((Blk.lit ((w.alloc (.cells #[.int .i64 ax, .int .i64 ay] 37)).alloc (.cells #[.int .i64 bx, .int .i64 bY] 37)) (w.heap.size + 1 + 1) [.int .i64 cx, .int .i64 cy] 37 (by simp)).alloc (.cells #[.int .i64 ax, .int .i64 ay, .int .i64 bx, .int .i64 bY, .int .i64 cx, .int .i64 cy] 37)).keep hb1
  have a0 := hA.cell 0 rfl
  have a1 := hA.cell 1 rfl
  have b0 := hB2.cell 0 rfl
  have b1 := hB2.cell 1 rfl
  have c0 := hC2.cell 0 rfl
  have c1 := hC2.cell 1 rfl
  have hbl := ((((Below.new w (.cells #[.int .i64 ax, .int .i64 ay] 37)).alloc (by simp) (.cells #[.int .i64 bx, .int .i64 bY] 37)).alloc (by simp; omega) (.cells #[.int .i64 cx, .int .i64 cy] 37)).alloc (by simp; omega) (.cells #[.int .i64 ax, .int .i64 ay, .int .i64 bx, .int .i64 bY, .int .i64 cx, .int .i64 cy] 37)).trans (hb1.mono (by simp; omega))
  clear hA hB2 hC2 hb1 HRI
  go_wp2
  go_ret
  exact ⟨ret_int HZ.out, hbl⟩
end Go.Proofs.Ytdginfjlelpkmaa
