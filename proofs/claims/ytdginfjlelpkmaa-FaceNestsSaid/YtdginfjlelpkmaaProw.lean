/-
  Rows of points in a block: read, and written in place.
-/
import Derived.Test.YtdginfjlelpkmaaPts
/- A ring, the other way round: in plain terms. -/
namespace Go
/-- The other way round. -/
def turnedP (l : List Pt) : List Pt := match l with | [] => [] | p :: t => p :: t.reverse
theorem turnedP_len (l : List Pt) : (turnedP l).length = l.length := by cases l <;> simp [turnedP]
theorem turnedP_map (f : Pt → Pt) (l : List Pt) : (turnedP l).map f = turnedP (l.map f) := by cases l <;> simp [turnedP]
theorem turnedP_all (f : Pt → Bool) (l : List Pt) : (turnedP l).all f = l.all f := by cases l <;> simp [turnedP]
end Go
set_option linter.unusedVariables false
set_option linter.unusedSimpArgs false
set_option maxRecDepth 100000
namespace Go
open Go.RowKit
theorem cellP {w : World} {g : Nat} {R : List Pt} {TL : List Value} {e : TypeId} (h : w.heap[g]? = some (.cells (pts R ++ TL).toArray e (0, 0))) (i : Nat) (hi : i < R.length) :
    w.cell? ⟨g, i * 2, none⟩ = some (.int .i64 R[i]!.x) ∧ w.cell? ⟨g, i * 2 + 1, none⟩ = some (.int .i64 R[i]!.y) := by
  have hb : Blk w g (pts R ++ TL) := ⟨_, h⟩
  have hl := pts_len R
  have g0 := pts_get R i 0 hi (by omega)
  have g1 := pts_get R i 1 hi (by omega)
  rw [getElem!_pos R i hi]
  constructor
  · refine hb.cell (i * 2) ?_
    rw [List.getElem?_append_left (by omega)]
    exact g0
  · refine hb.cell (i * 2 + 1) ?_
    rw [List.getElem?_append_left (by omega)]
    exact g1
theorem blkT_set {w : World} {b : Nat} {T : TypeId} {vs : List Value} (h : w.heap[b]? = some (.cells vs.toArray T (0, 0))) (i : Nat) (u : Value) : (w.setCell ⟨b, i, none⟩ u).heap[b]? = some (.cells (vs.set i u).toArray T (0, 0)) := by
  simp [World.setCell, Array.getElem?_modify, h]
theorem row_set (C D : List Pt) (q p : Pt) (TL : List Value) (kk : Nat) (hk : C.length = kk) :
    ((pts (C ++ q :: D) ++ TL).set (kk * 2) (.int .i64 p.x)).set (kk * 2 + 1) (.int .i64 p.y) = pts ((C ++ [p]) ++ D) ++ TL := by
  have e1 : pts (C ++ q :: D) ++ TL = pts C ++ (.int .i64 q.x :: .int .i64 q.y :: (pts D ++ TL)) := by simp [pts, Pt.cells]
  have e2 : pts ((C ++ [p]) ++ D) ++ TL = pts C ++ (.int .i64 p.x :: .int .i64 p.y :: (pts D ++ TL)) := by simp [pts, Pt.cells]
  have hl : (pts C).length = kk * 2 := by rw [pts_len, hk]
  rw [e1, e2, List.set_append_right _ _ (by omega), List.set_append_right _ _ (by omega), hl]
  simp
end Go
