/-
  Numbers in order, each once: what Compact leaves of them rises.
-/
import Derived.Test.YtoljdocfbgjnfaaLib
import Derived.Test.YtoljdocfbgjnfaaZmerge
import Derived.Lib.SlicesCompact
set_option linter.unusedVariables false
set_option linter.unusedSimpArgs false
set_option maxRecDepth 100000
namespace Go
open Go.RowKit Go.Lib
theorem cup_inv {l : List Int} (hp : l.Pairwise (· ≤ ·)) : ∀ (k : Nat), k < l.length → ∃ Y, compactUpTo l.toArray (k + 1) = Y ++ [l[k]!] ∧ ∀ y ∈ Y, y < l[k]!
  | 0, h => ⟨[], by rw [compactUpTo_succ, if_pos (keeps_lt_one _ 0 (by omega))]; simp [compactUpTo], by simp⟩
  | k + 1, h => by
    obtain ⟨Y, hY, hlt⟩ := cup_inv hp k (by omega)
    have hle : l[k]! ≤ l[k + 1]! := by
      rw [getElem!_pos l k (by omega), getElem!_pos l (k + 1) h]
      exact List.pairwise_iff_getElem.1 hp k (k + 1) (by omega) h (by omega)
    have ea : l.toArray[k + 1]! = l[k + 1]! := by simp
    have eb : l.toArray[k]! = l[k]! := by simp
    by_cases q : l[k + 1]! = l[k]!
    · refine ⟨Y, ?_, ?_⟩
      · rw [compactUpTo_succ, keeps_neg (by omega) (by show l.toArray[k + 1]! = l.toArray[k]!; rw [ea, eb, q]), hY, q]; simp
      · rw [q]; exact hlt
    · refine ⟨Y ++ [l[k]!], ?_, ?_⟩
      · rw [compactUpTo_succ, keeps_pos (by show l.toArray[k + 1]! ≠ l.toArray[k]!; rw [ea, eb]; exact q), hY, ea]; simp
      · intro y hy
        rcases List.mem_append.1 hy with hy | hy
        · have := hlt y hy; omega
        · have := List.mem_singleton.1 hy; omega
/-- What the next number does to what is kept. -/
theorem cup_next {l : List Int} (hp : l.Pairwise (· ≤ ·)) (k : Nat) (h : k < l.length) :
    (compactUpTo l.toArray (k + 1) = compactUpTo l.toArray k ++ [l[k]!] ∧ ∀ y ∈ compactUpTo l.toArray k, y < l[k]!) ∨
    (compactUpTo l.toArray (k + 1) = compactUpTo l.toArray k ∧ ∃ Y, compactUpTo l.toArray k = Y ++ [l[k]!] ∧ ∀ y ∈ Y, y < l[k]!) := by
  have ea : l.toArray[k]! = l[k]! := by simp
  by_cases q : keeps l.toArray k = true
  · refine .inl ⟨by rw [compactUpTo_succ, if_pos q, ea], ?_⟩
    cases k with
    | zero => simp [compactUpTo]
    | succ k =>
      obtain ⟨Y, hY, hlt⟩ := cup_inv hp k (by omega)
      obtain ⟨Y2, hY2, hlt2⟩ := cup_inv hp (k + 1) h
      rw [compactUpTo_succ, if_pos q, ea] at hY2
      have := List.append_inj_left' hY2 rfl
      rw [this]; exact hlt2
  · refine .inr ⟨by rw [compactUpTo_succ, if_neg q]; simp, ?_⟩
    obtain ⟨Y2, hY2, hlt2⟩ := cup_inv hp k h
    rw [compactUpTo_succ, if_neg q, List.append_nil] at hY2
    exact ⟨Y2, hY2, hlt2⟩
theorem cup_rise {l : List Int} (hp : l.Pairwise (· ≤ ·)) : ∀ (k : Nat), k ≤ l.length → (compactUpTo l.toArray k).Pairwise (· < ·)
  | 0, _ => by simp [compactUpTo]
  | k + 1, h => by
    have ih := cup_rise hp k (by omega)
    rcases cup_next hp k (by omega) with ⟨e, hlt⟩ | ⟨e, -⟩
    · rw [e, List.pairwise_append]
      exact ⟨ih, by simp, fun x hx y hy => by have := List.mem_singleton.1 hy; subst this; exact hlt x hx⟩
    · rw [e]; exact ih
theorem compact_rise {l : List Int} (hp : l.Pairwise (· ≤ ·)) : (compact l).Pairwise (· < ·) := cup_rise hp l.length (Nat.le_refl _)
end Go
