/-
  SnapNear, in plain terms: the lines rise; a point lies within half a unit of where it lay.
-/
import Derived.Test.YtoljdocfbgjnfaaZpathp
import Derived.Test.YtoljdocfbgjnfaaZcup
set_option linter.unusedVariables false
set_option linter.unusedSimpArgs false
namespace Go
open Go.RowKit Go.Srt
theorem linesF_rise (z b : Int) : (linesF z b).Pairwise (· < ·) := by
  unfold linesF
  split
  · rename_i h
    unfold linesB at h
    rw [Bool.and_eq_true, decide_eq_true_eq] at h
    exact compact_rise (rawL_pw h.2 _)
  · simp
theorem powD_cases {z : Int} (h : levelB z = true) : powD z = 1 ∨ powD z = 2 ∨ powD z = 4 ∨ powD z = 8 ∨ powD z = 16 := by
  rcases level_cases h with rfl | rfl | rfl | rfl | rfl <;> simp [powD]
theorem shift_near {v d : Int} (h : d = 1 ∨ d = 2 ∨ d = 4 ∨ d = 8 ∨ d = 16) : 2 * (d * shiftF v d - v) ≤ d ∧ 2 * (v - d * shiftF v d) ≤ d := by
  unfold shiftF
  rcases h with rfl | rfl | rfl | rfl | rfl <;> omega
theorem snap_ok {z : Int} (hz : levelB z = true) {p : Pt} (h : worldB p = true) : okPt (snapP p z) = true := by
  unfold worldB at h
  rw [decide_eq_true_eq] at h
  unfold okPt snapP shiftF
  rcases powD_cases hz with e | e | e | e | e <;> rw [e] <;> simp <;> omega
theorem ringF_M {z b : Int} {l : List Pt} (h : ringOk z b l = true) : ringF z b l = ringM (linesF z b) (l.map (snapP · z)) := by
  unfold ringF; rw [h]; rfl
theorem ringF_none {z b : Int} {l : List Pt} (h : ringOk z b l = false) : ringF z b l = [] := by
  unfold ringF; rw [h]; rfl
theorem ringOk_parts {z b : Int} {l : List Pt} (h : ringOk z b l = true) : linesB z b = true ∧ levelB z = true ∧ l.all worldB = true := by
  unfold ringOk at h
  rw [Bool.and_eq_true] at h
  refine ⟨h.1, ?_, h.2⟩
  have := h.1
  unfold linesB at this
  rw [Bool.and_eq_true] at this
  exact this.1
theorem ringF_next {z b : Int} {l : List Pt} (h : ringOk z b l = true) (i : Nat) (hi : i < (ringF z b l).length) :
    NoLine (linesF z b) (ringF z b l)[i]! (ringF z b l)[(i + 1) % (ringF z b l).length]! ∧ (1 < (ringF z b l).length → (ringF z b l)[i]! ≠ (ringF z b l)[(i + 1) % (ringF z b l).length]!) := by
  obtain ⟨h1, h2, h3⟩ := ringOk_parts h
  rw [ringF_M h] at hi ⊢
  refine ringM_next _ _ ?_ i hi
  rw [List.all_map, List.all_eq_true]
  intro p hp
  exact snap_ok h2 (List.all_eq_true.1 h3 p hp)
theorem ringF_len (z b : Int) (l : List Pt) : (ringF z b l).length ≤ l.length * 65 := by
  unfold ringF
  split
  · unfold ringL
    refine Nat.le_trans (edgeF_flat _ (linesF_len z b) _) ?_
    have := thinR_len (l.map (snapP · z))
    simp only [edges, List.length_map, List.length_range] at this ⊢
    omega
  · simp
end Go
