/-
  ring.beside: over, side, has.
-/
import Derived.Test.YtebplobagmjfeaaPk6
import Derived.Test.YtebplobagmjfeaaPk3
/- ring.beside: over, side, has. -/
set_option linter.unusedVariables false
set_option linter.unusedSimpArgs false
set_option maxRecDepth 100000
namespace Go
open Go.RowKit
def mwVal (m v : Pt) : Value := .agg #[.int .i64 m.x, .int .i64 m.y, .int .i64 v.x, .int .i64 v.y]
def besOver (m v : Pt) (y : Int) : Bool := if v.x < 0 then decide (m.y ≤ 2 * y) else decide (m.y < 2 * y)
def besN (m a b : Pt) : Int := (b.x - a.x) * (m.y - 2 * a.y) - (b.y - a.y) * (m.x - 2 * a.x)
def besSide (m v a b : Pt) : Int := if besN m a b = 0 then (b.x - a.x) * v.x + (b.y - a.y) * v.y else besN m a b
def besIn (n c d : Int) : Bool := decide (2 * min c d ≤ n) && decide (n ≤ 2 * max c d)
def besHas (m v a b : Pt) : Bool := !(decide ((b.x - a.x) * v.y = (b.y - a.y) * v.x) || !decide ((b.x - a.x) * (m.y - 2 * a.y) = (b.y - a.y) * (m.x - 2 * a.x))) && (besIn m.x a.x b.x && besIn m.y a.y b.y)
/-- What Beside makes of points that may be. -/
def mwOk (m v : Pt) : Prop := (-33554432 ≤ m.x ∧ m.x ≤ 33554432) ∧ (-33554432 ≤ m.y ∧ m.y ≤ 33554432) ∧ (-33554432 ≤ v.x ∧ v.x ≤ 33554432) ∧ (-33554432 ≤ v.y ∧ v.y ≤ 33554432)
end Go
namespace Go.Proofs.Ytebplobagmjfeaa
open Go.RowKit

set_option maxHeartbeats 800000 in
theorem bover_any (m v : Pt) (y : Int) (hy : -16777216 ≤ y ∧ y ≤ 16777216) (w : World) :
    Calls Try.prog 73 #[mwVal m v, .int .i64 y] w fun e w' => e = .returned (.bool (besOver m v y)) ∧ Below w.heap.size w w' := by
  have HB : Hid (besOver m v y = if v.x < 0 then decide (m.y ≤ 2 * y) else decide (m.y < 2 * y)) := Lib.hid rfl
  generalize besOver m v y = BB at *
  obtain ⟨mx, my⟩ := m
  obtain ⟨vx, vy⟩ := v
  dsimp only [mwVal] at *
  go_enter Try.func73, Try.ntmps73
  by_cases h : vx < 0
  · go_wp2
    go_ret
    exact ⟨by rw [HB.out, if_pos h]; simp, Below.new _ _⟩
  · go_wp2
    go_ret
    exact ⟨by rw [HB.out, if_neg (by omega)]; simp, Below.new _ _⟩

set_option maxHeartbeats 1600000 in
theorem bside_any (m v a b : Pt) (hm : mwOk m v) (ha : okPt a = true) (hb : okPt b = true) (w : World) :
    Calls Try.prog 74 #[mwVal m v, a.val, b.val] w fun e w' => e = .returned (.int .i64 (besSide m v a b)) ∧ Below w.heap.size w w' := by
  rw [okPt_iff] at ha hb
  obtain ⟨m1, m2, m3, m4⟩ := hm
  have h1 := mul_bd (b.x - a.x) (m.y - 2 * a.y) 33554432 67108864 (by omega) (by omega) (by omega) (by omega)
  have h2 := mul_bd (b.y - a.y) (m.x - 2 * a.x) 33554432 67108864 (by omega) (by omega) (by omega) (by omega)
  have h3 := mul_bd (b.x - a.x) v.x 33554432 33554432 (by omega) (by omega) (by omega) (by omega)
  have h4 := mul_bd (b.y - a.y) v.y 33554432 33554432 (by omega) (by omega) (by omega) (by omega)
  simp only [Int.reduceMul, Int.reduceNeg] at h1 h2 h3 h4
  have HN : Hid (besN m a b = (b.x - a.x) * (m.y - 2 * a.y) - (b.y - a.y) * (m.x - 2 * a.x)) := Lib.hid rfl
  have HS : Hid (besSide m v a b = if besN m a b = 0 then (b.x - a.x) * v.x + (b.y - a.y) * v.y else besN m a b) := Lib.hid rfl
  generalize besSide m v a b = SS at *
  generalize besN m a b = NN at *
  obtain ⟨mx, my⟩ := m
  obtain ⟨vx, vy⟩ := v
  obtain ⟨ax, ay⟩ := a
  obtain ⟨bx, bY⟩ := b
  dsimp only [mwVal, Pt.val] at *
  go_enter Try.func74, Try.ntmps74
  go_wp2
  have kM := ((Blk.lit w w.heap.size [.int .i64 mx, .int .i64 my, .int .i64 vx, .int .i64 vy] 125 rfl).alloc (.cells #[.int .i64 ax, .int .i64 ay] 37)).alloc (.cells #[.int .i64 bx, .int .i64 bY] 37)
  have kA := (Blk.lit (w.alloc (.cells #[.int .i64 mx, .int .i64 my, .int .i64 vx, .int .i64 vy] 125)) (w.heap.size + 1) [.int .i64 ax, .int .i64 ay] 37 (by simp)).alloc (.cells #[.int .i64 bx, .int .i64 bY] 37)
  have kB := Blk.lit ((w.alloc (.cells #[.int .i64 mx, .int .i64 my, .int .i64 vx, .int .i64 vy] 125)).alloc (.cells #[.int .i64 ax, .int .i64 ay] 37)) (w.heap.size + 1 + 1) [.int .i64 bx, .int .i64 bY] 37 (by simp)
  have hbl := ((Below.new w (.cells #[.int .i64 mx, .int .i64 my, .int .i64 vx, .int .i64 vy] 125)).alloc (by simp) (.cells #[.int .i64 ax, .int .i64 ay] 37)).alloc (by simp; omega) (.cells #[.int .i64 bx, .int .i64 bY] 37)
  generalize ((w.alloc (.cells #[.int .i64 mx, .int .i64 my, .int .i64 vx, .int .i64 vy] 125)).alloc (.cells #[.int .i64 ax, .int .i64 ay] 37)).alloc (.cells #[.int .i64 bx, .int .i64 bY] 37) = wA at *
  replace kM := Blk.drew kM
  replace kA := Blk.drew kA
  replace kB := Blk.drew kB
  replace hbl := hbl.drew
  refine wp_region_lit_txt [0, 1, 2, 3, 4, 5, 6, 7, 8, 9, 10, 11] (fun W => W = wA.drew) (by kernel_rfl) (by kernel_rfl) (by kernel_rfl) rfl ?_
  generalize wA.drew = wA at *
  have q0 := kM.cell 0 rfl
  have q1 := kM.cell 1 rfl
  have q2 := kM.cell 2 rfl
  have q3 := kM.cell 3 rfl
  have a0 := kA.cell 0 rfl
  have a1 := kA.cell 1 rfl
  have b0 := kB.cell 0 rfl
  have b1 := kB.cell 1 rfl
  (refine txt_light ?_ rfl rfl ?_ ?_; rotate_left; · (intro w' hS; (try dsimp only at hS); rw [hS]; go_simp; with_reducible rfl)); try simp only [Act.put, List.getElem_toArray, List.getElem_cons_succ, List.getElem_cons_zero, List.setIfInBounds_toArray, List.set_cons_zero, List.set_cons_succ]
  (refine txt_light ?_ rfl rfl ?_ ?_; rotate_left; · (intro w' hS; (try dsimp only at hS); rw [hS]; go_simp; with_reducible rfl)); try simp only [Act.put, List.getElem_toArray, List.getElem_cons_succ, List.getElem_cons_zero, List.setIfInBounds_toArray, List.set_cons_zero, List.set_cons_succ]
  (refine txt_light ?_ rfl rfl ?_ ?_; rotate_left; · (intro w' hS; (try dsimp only at hS); rw [hS]; go_simp; with_reducible rfl)); try simp only [Act.put, List.getElem_toArray, List.getElem_cons_succ, List.getElem_cons_zero, List.setIfInBounds_toArray, List.set_cons_zero, List.set_cons_succ]
  (refine txt_light ?_ rfl rfl ?_ ?_; rotate_left; · (intro w' hS; (try dsimp only at hS); rw [hS]; go_simp; with_reducible rfl)); try simp only [Act.put, List.getElem_toArray, List.getElem_cons_succ, List.getElem_cons_zero, List.setIfInBounds_toArray, List.set_cons_zero, List.set_cons_succ]
  (refine txt_light ?_ rfl rfl ?_ ?_; rotate_left; · (intro w' hS; (try dsimp only at hS); rw [hS]; go_simp; with_reducible rfl)); try simp only [Act.put, List.getElem_toArray, List.getElem_cons_succ, List.getElem_cons_zero, List.setIfInBounds_toArray, List.set_cons_zero, List.set_cons_succ]
  (refine txt_light ?_ rfl rfl ?_ ?_; rotate_left; · (intro w' hS; (try dsimp only at hS); rw [hS]; go_simp; with_reducible rfl)); try simp only [Act.put, List.getElem_toArray, List.getElem_cons_succ, List.getElem_cons_zero, List.setIfInBounds_toArray, List.set_cons_zero, List.set_cons_succ]
  (refine txt_light ?_ rfl rfl ?_ ?_; rotate_left; · (intro w' hS; (try dsimp only at hS); rw [hS]; go_simp; with_reducible rfl)); try simp only [Act.put, List.getElem_toArray, List.getElem_cons_succ, List.getElem_cons_zero, List.setIfInBounds_toArray, List.set_cons_zero, List.set_cons_succ]
  (refine txt_light ?_ rfl rfl ?_ ?_; rotate_left; · (intro w' hS; (try dsimp only at hS); rw [hS]; go_simp; with_reducible rfl)); try simp only [Act.put, List.getElem_toArray, List.getElem_cons_succ, List.getElem_cons_zero, List.setIfInBounds_toArray, List.set_cons_zero, List.set_cons_succ]
  (refine txt_light ?_ rfl rfl ?_ ?_; rotate_left; · (intro w' hS; (try dsimp only at hS); rw [hS]; go_simp; with_reducible rfl)); try simp only [Act.put, List.getElem_toArray, List.getElem_cons_succ, List.getElem_cons_zero, List.setIfInBounds_toArray, List.set_cons_zero, List.set_cons_succ]
  (refine txt_light ?_ rfl rfl ?_ ?_; rotate_left; · (intro w' hS; (try dsimp only at hS); rw [hS]; go_simp; with_reducible rfl)); try simp only [Act.put, List.getElem_toArray, List.getElem_cons_succ, List.getElem_cons_zero, List.setIfInBounds_toArray, List.set_cons_zero, List.set_cons_succ]
  (refine txt_light ?_ rfl rfl ?_ ?_; rotate_left; · (intro w' hS; (try dsimp only at hS); rw [hS]; go_simp; with_reducible rfl)); try simp only [Act.put, List.getElem_toArray, List.getElem_cons_succ, List.getElem_cons_zero, List.setIfInBounds_toArray, List.set_cons_zero, List.set_cons_succ]
  (refine txt_light ?_ rfl rfl ?_ ?_; rotate_left; · (intro w' hS; (try dsimp only at hS); rw [hS]; go_simp; with_reducible rfl)); try simp only [Act.put, List.getElem_toArray, List.getElem_cons_succ, List.getElem_cons_zero, List.setIfInBounds_toArray, List.set_cons_zero, List.set_cons_succ]
  refine txt_nil ?_
  by_cases hN : (bx - ax) * (my - 2 * ay) - (bY - ay) * (mx - 2 * ax) = 0
  · go_wp2
    go_ret
    exact ⟨ret_int (by rw [HS.out, HN.out, if_pos hN]), hbl⟩
  · go_wp2
    go_ret
    exact ⟨ret_int (by rw [HS.out, HN.out, if_neg hN]), hbl⟩

set_option maxHeartbeats 800000 in
theorem bin_any (n c d : Int) (hc : -16777216 ≤ c ∧ c ≤ 16777216) (hd : -16777216 ≤ d ∧ d ≤ 16777216) (w : World) :
    Calls Try.prog 80 #[.int .i64 n, .int .i64 c, .int .i64 d] w fun e w' => e = .returned (.bool (besIn n c d)) ∧ w' = w := by
  have HB : Hid (besIn n c d = (decide (2 * min c d ≤ n) && decide (n ≤ 2 * max c d))) := Lib.hid rfl
  generalize besIn n c d = BB at *
  go_enter Try.func80, Try.ntmps80
  by_cases h1 : d < c
  · have h2 : ¬ c < d := by omega
    have m1 : min c d = d := by omega
    have m2 : max c d = c := by omega
    rw [m1, m2] at HB
    by_cases h3 : 2 * d ≤ n
    · go_wp2
      go_ret
      exact ⟨by rw [HB.out]; simp [h3], rfl⟩
    · go_wp2
      go_ret
      exact ⟨by rw [HB.out]; simp; omega, rfl⟩
  · have m1 : min c d = c := by omega
    have m2 : max c d = d := by omega
    rw [m1, m2] at HB
    by_cases h2 : c < d
    · by_cases h3 : 2 * c ≤ n
      · go_wp2
        go_ret
        exact ⟨by rw [HB.out]; simp [h3], rfl⟩
      · go_wp2
        go_ret
        exact ⟨by rw [HB.out]; simp; omega, rfl⟩
    · obtain rfl : c = d := by omega
      by_cases h3 : 2 * c ≤ n
      · go_wp2
        go_ret
        exact ⟨by rw [HB.out]; simp [h3], rfl⟩
      · go_wp2
        go_ret
        exact ⟨by rw [HB.out]; simp; omega, rfl⟩

set_option maxHeartbeats 3200000 in
theorem bhas_any (m v a b : Pt) (hm : mwOk m v) (ha : okPt a = true) (hb : okPt b = true) (w : World) :
    Calls Try.prog 72 #[mwVal m v, a.val, b.val] w fun e w' => e = .returned (.bool (besHas m v a b)) ∧ Below w.heap.size w w' := by
  rw [okPt_iff] at ha hb
  obtain ⟨m1, m2, m3, m4⟩ := hm
  have h1 := mul_bd (b.x - a.x) (m.y - 2 * a.y) 33554432 67108864 (by omega) (by omega) (by omega) (by omega)
  have h2 := mul_bd (b.y - a.y) (m.x - 2 * a.x) 33554432 67108864 (by omega) (by omega) (by omega) (by omega)
  have h3 := mul_bd (b.x - a.x) v.y 33554432 33554432 (by omega) (by omega) (by omega) (by omega)
  have h4 := mul_bd (b.y - a.y) v.x 33554432 33554432 (by omega) (by omega) (by omega) (by omega)
  simp only [Int.reduceMul, Int.reduceNeg] at h1 h2 h3 h4
  have HH : Hid (besHas m v a b = (!(decide ((b.x - a.x) * v.y = (b.y - a.y) * v.x) || !decide ((b.x - a.x) * (m.y - 2 * a.y) = (b.y - a.y) * (m.x - 2 * a.x))) && (besIn m.x a.x b.x && besIn m.y a.y b.y))) := Lib.hid rfl
  have HX := Lib.hid (fun w => bin_any m.x a.x b.x ha.1 hb.1 w)
  have HY := Lib.hid (fun w => bin_any m.y a.y b.y ha.2 hb.2 w)
  generalize besHas m v a b = SS at *
  generalize besIn m.x a.x b.x = IX at *
  generalize besIn m.y a.y b.y = IY at *
  obtain ⟨mx, my⟩ := m
  obtain ⟨vx, vy⟩ := v
  obtain ⟨ax, ay⟩ := a
  obtain ⟨bx, bY⟩ := b
  dsimp only [mwVal, Pt.val] at *
  go_enter Try.func72, Try.ntmps72
  go_wp2
  have kM := ((Blk.lit w w.heap.size [.int .i64 mx, .int .i64 my, .int .i64 vx, .int .i64 vy] 125 rfl).alloc (.cells #[.int .i64 ax, .int .i64 ay] 37)).alloc (.cells #[.int .i64 bx, .int .i64 bY] 37)
  have kA := (Blk.lit (w.alloc (.cells #[.int .i64 mx, .int .i64 my, .int .i64 vx, .int .i64 vy] 125)) (w.heap.size + 1) [.int .i64 ax, .int .i64 ay] 37 (by simp)).alloc (.cells #[.int .i64 bx, .int .i64 bY] 37)
  have kB := Blk.lit ((w.alloc (.cells #[.int .i64 mx, .int .i64 my, .int .i64 vx, .int .i64 vy] 125)).alloc (.cells #[.int .i64 ax, .int .i64 ay] 37)) (w.heap.size + 1 + 1) [.int .i64 bx, .int .i64 bY] 37 (by simp)
  have hbl := ((Below.new w (.cells #[.int .i64 mx, .int .i64 my, .int .i64 vx, .int .i64 vy] 125)).alloc (by simp) (.cells #[.int .i64 ax, .int .i64 ay] 37)).alloc (by simp; omega) (.cells #[.int .i64 bx, .int .i64 bY] 37)
  generalize ((w.alloc (.cells #[.int .i64 mx, .int .i64 my, .int .i64 vx, .int .i64 vy] 125)).alloc (.cells #[.int .i64 ax, .int .i64 ay] 37)).alloc (.cells #[.int .i64 bx, .int .i64 bY] 37) = wA at *
  replace kM := Blk.drew kM
  replace kA := Blk.drew kA
  replace kB := Blk.drew kB
  replace hbl := hbl.drew
  refine wp_region_lit_txt [0, 1, 2, 3, 4, 5, 6, 7, 8, 9, 10, 11] (fun W => W = wA.drew) (by kernel_rfl) (by kernel_rfl) (by kernel_rfl) rfl ?_
  generalize wA.drew = wA at *
  have q0 := kM.cell 0 rfl
  have q1 := kM.cell 1 rfl
  have q2 := kM.cell 2 rfl
  have q3 := kM.cell 3 rfl
  have a0 := kA.cell 0 rfl
  have a1 := kA.cell 1 rfl
  have b0 := kB.cell 0 rfl
  have b1 := kB.cell 1 rfl
  (refine txt_light ?_ rfl rfl ?_ ?_; rotate_left; · (intro w' hS; (try dsimp only at hS); rw [hS]; go_simp; with_reducible rfl)); try simp only [Act.put, List.getElem_toArray, List.getElem_cons_succ, List.getElem_cons_zero, List.setIfInBounds_toArray, List.set_cons_zero, List.set_cons_succ]
  (refine txt_light ?_ rfl rfl ?_ ?_; rotate_left; · (intro w' hS; (try dsimp only at hS); rw [hS]; go_simp; with_reducible rfl)); try simp only [Act.put, List.getElem_toArray, List.getElem_cons_succ, List.getElem_cons_zero, List.setIfInBounds_toArray, List.set_cons_zero, List.set_cons_succ]
  (refine txt_light ?_ rfl rfl ?_ ?_; rotate_left; · (intro w' hS; (try dsimp only at hS); rw [hS]; go_simp; with_reducible rfl)); try simp only [Act.put, List.getElem_toArray, List.getElem_cons_succ, List.getElem_cons_zero, List.setIfInBounds_toArray, List.set_cons_zero, List.set_cons_succ]
  (refine txt_light ?_ rfl rfl ?_ ?_; rotate_left; · (intro w' hS; (try dsimp only at hS); rw [hS]; go_simp; with_reducible rfl)); try simp only [Act.put, List.getElem_toArray, List.getElem_cons_succ, List.getElem_cons_zero, List.setIfInBounds_toArray, List.set_cons_zero, List.set_cons_succ]
  (refine txt_light ?_ rfl rfl ?_ ?_; rotate_left; · (intro w' hS; (try dsimp only at hS); rw [hS]; go_simp; with_reducible rfl)); try simp only [Act.put, List.getElem_toArray, List.getElem_cons_succ, List.getElem_cons_zero, List.setIfInBounds_toArray, List.set_cons_zero, List.set_cons_succ]
  (refine txt_light ?_ rfl rfl ?_ ?_; rotate_left; · (intro w' hS; (try dsimp only at hS); rw [hS]; go_simp; with_reducible rfl)); try simp only [Act.put, List.getElem_toArray, List.getElem_cons_succ, List.getElem_cons_zero, List.setIfInBounds_toArray, List.set_cons_zero, List.set_cons_succ]
  (refine txt_light ?_ rfl rfl ?_ ?_; rotate_left; · (intro w' hS; (try dsimp only at hS); rw [hS]; go_simp; with_reducible rfl)); try simp only [Act.put, List.getElem_toArray, List.getElem_cons_succ, List.getElem_cons_zero, List.setIfInBounds_toArray, List.set_cons_zero, List.set_cons_succ]
  (refine txt_light ?_ rfl rfl ?_ ?_; rotate_left; · (intro w' hS; (try dsimp only at hS); rw [hS]; go_simp; with_reducible rfl)); try simp only [Act.put, List.getElem_toArray, List.getElem_cons_succ, List.getElem_cons_zero, List.setIfInBounds_toArray, List.set_cons_zero, List.set_cons_succ]
  (refine txt_light ?_ rfl rfl ?_ ?_; rotate_left; · (intro w' hS; (try dsimp only at hS); rw [hS]; go_simp; with_reducible rfl)); try simp only [Act.put, List.getElem_toArray, List.getElem_cons_succ, List.getElem_cons_zero, List.setIfInBounds_toArray, List.set_cons_zero, List.set_cons_succ]
  (refine txt_light ?_ rfl rfl ?_ ?_; rotate_left; · (intro w' hS; (try dsimp only at hS); rw [hS]; go_simp; with_reducible rfl)); try simp only [Act.put, List.getElem_toArray, List.getElem_cons_succ, List.getElem_cons_zero, List.setIfInBounds_toArray, List.set_cons_zero, List.set_cons_succ]
  (refine txt_light ?_ rfl rfl ?_ ?_; rotate_left; · (intro w' hS; (try dsimp only at hS); rw [hS]; go_simp; with_reducible rfl)); try simp only [Act.put, List.getElem_toArray, List.getElem_cons_succ, List.getElem_cons_zero, List.setIfInBounds_toArray, List.set_cons_zero, List.set_cons_succ]
  (refine txt_light ?_ rfl rfl ?_ ?_; rotate_left; · (intro w' hS; (try dsimp only at hS); rw [hS]; go_simp; with_reducible rfl)); try simp only [Act.put, List.getElem_toArray, List.getElem_cons_succ, List.getElem_cons_zero, List.setIfInBounds_toArray, List.set_cons_zero, List.set_cons_succ]
  refine txt_nil ?_
  by_cases e1 : (bx - ax) * vy = (bY - ay) * vx
  · go_wp2
    go_ret
    exact ⟨by rw [HH.out]; simp [e1], hbl⟩
  · by_cases e2 : (bx - ax) * (my - 2 * ay) = (bY - ay) * (mx - 2 * ax)
    · have hh : SS = (IX && IY) := by rw [HH.out]; simp [e1, e2]
      have HHH := Lib.hid hh
      clear hh HH
      go_wp2_with fail
      refine (HX.out _).mono ?_
      rintro e w1 ⟨rfl, rfl⟩
      cases IX with
      | false =>
        go_wp2
        go_ret
        exact ⟨by rw [HHH.out]; rfl, hbl⟩
      | true =>
        go_wp2_with fail
        refine (HY.out _).mono ?_
        rintro e w1 ⟨rfl, rfl⟩
        go_wp2
        go_ret
        exact ⟨by rw [HHH.out]; rfl, hbl⟩
    · have e3 : ((bx - ax) * (my - 2 * ay) != (bY - ay) * (mx - 2 * ax)) = true := by simp [e2]
      go_wp2
      go_ret
      exact ⟨by rw [HH.out]; simp [e1, e2], hbl⟩
end Go.Proofs.Ytebplobagmjfeaa
