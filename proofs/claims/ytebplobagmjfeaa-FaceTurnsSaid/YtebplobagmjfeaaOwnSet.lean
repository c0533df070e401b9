/-
  Owned rows of several cells an element, written in place.
-/
import Derived.Test.YtebplobagmjfeaaLib
set_option linter.unusedVariables false
set_option linter.unusedSimpArgs false
namespace Go
open Go.RowKit

theorem ownsRow_cur {W : World} {base g c n s : Nat} {e : TypeId} {xs : List Value} (h : W.ownsRow base e s (.slice (some ⟨g, 0, none⟩) n c) n xs) :
    ∃ cur : Array Value, W.heap[g]? = some (.cells cur e (0, 0)) ∧ n ≤ c ∧ c ≤ maxLen ∧ cur.size = c * s ∧ cur.toList.take (n * s) = xs ∧ xs.length = n * s ∧ base ≤ g := by
  obtain ⟨h1, h2⟩ := h
  rcases h2 with ⟨hv, _⟩ | ⟨g', cap, cur, hv, hb, hg, h3, h4, h5, h6⟩
  · cases hv
  · cases hv
    exact ⟨cur, hg, h3, h4, h5, h6, h1, hb⟩

theorem ownsRow_setS {W : World} {base g c n s i : Nat} {e : TypeId} {xs : List Value} (h : W.ownsRow base e s (.slice (some ⟨g, 0, none⟩) n c) n xs) (u : Value) :
    (W.setCell ⟨g, i, none⟩ u).ownsRow base e s (.slice (some ⟨g, 0, none⟩) n c) n (xs.set i u) := by
  obtain ⟨cur, hg, h3, h4, h5, h6, h1, hb⟩ := ownsRow_cur h
  refine ⟨by simpa using h1, .inr ⟨g, c, cur.setIfInBounds i u, rfl, hb, ?_, h3, h4, by simpa using h5, ?_⟩⟩
  · show (W.setCell ⟨g, i, none⟩ u).heap[g]? = _
    simp [World.setCell, Array.getElem?_modify, hg]
  · rw [← h6]
    simp [List.take_set]

theorem ownsRow_cellS {W : World} {base g c n s i : Nat} {e : TypeId} {xs : List Value} (h : W.ownsRow base e s (.slice (some ⟨g, 0, none⟩) n c) n xs) {v : Value} (hv : xs[i]? = some v) :
    W.cell? ⟨g, i, none⟩ = some v ∧ W.frozen? ⟨g, i, none⟩ = false ∧ g < W.heap.size := by
  obtain ⟨cur, hg, h3, h4, h5, h6, h1, hb⟩ := ownsRow_cur h
  refine ⟨?_, by simp [World.frozen?, hg], (Array.getElem?_eq_some_iff.1 hg).1⟩
  rw [cell_of_row W g i cur e (0, 0) hg]
  rw [← h6, List.getElem?_take] at hv
  split at hv
  · simpa using hv
  · cases hv

/-- A cut: where, and how far: p of w. -/
structure Cu where
  x : Int
  y : Int
  p : Int
  w : Int
instance : Inhabited Cu := ⟨⟨0, 0, 0, 0⟩⟩
def Cu.cells (c : Cu) : List Value := [.int .i64 c.x, .int .i64 c.y, .int .i64 c.p, .int .i64 c.w]
def Cu.val (c : Cu) : Value := .agg #[.int .i64 c.x, .int .i64 c.y, .int .i64 c.p, .int .i64 c.w]
def cus (l : List Cu) : List Value := l.flatMap Cu.cells
/-- How far one is, by the other's measure. -/
def cmpC (a b : Cu) : Int := a.p * b.w - b.p * a.w
def CuOk (c : Cu) : Prop := (0 ≤ c.p ∧ c.p ≤ 67108864) ∧ (1 ≤ c.w ∧ c.w ≤ 67108864)
end Go
