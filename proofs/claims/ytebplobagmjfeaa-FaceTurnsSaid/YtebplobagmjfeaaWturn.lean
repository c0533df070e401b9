/-
  An edge the other way round (plain).
-/
import Derived.Test.YtebplobagmjfeaaRwind
set_option linter.unusedVariables false
set_option linter.unusedSimpArgs false
namespace Go
theorem crs_anti (a b p : Pt) : crs b a p = -crs a b p := by
  unfold crs
  have e1 : a.x - b.x = -(b.x - a.x) := by omega
  have e2 : a.y - b.y = -(b.y - a.y) := by omega
  have e3 : p.y - b.y = (p.y - a.y) - (b.y - a.y) := by omega
  have e4 : p.x - b.x = (p.x - a.x) - (b.x - a.x) := by omega
  rw [e1, e2, e3, e4]
  generalize b.x - a.x = u
  generalize b.y - a.y = v
  generalize p.x - a.x = s
  generalize p.y - a.y = t
  rw [Int.neg_mul, Int.neg_mul, Int.mul_sub, Int.mul_sub, Int.mul_comm v u]
  omega
theorem sg_minus (z : Int) : sg (-z) = -sg z := by
  unfold sg
  repeat' split
  all_goals omega
theorem windE_anti (p a b : Pt) : windE p (b, a) = -windE p (a, b) := by
  unfold windE
  dsimp only
  rw [crs_anti a b p]
  rw [sg_minus]
  generalize sg (crs a b p) = z
  by_cases c1 : a.y ≤ p.y ∧ p.y < b.y ∧ 0 < z
  · rw [if_pos c1, if_neg (by omega), if_pos ⟨c1.1, c1.2.1, by omega⟩]
  · rw [if_neg c1]
    by_cases c2 : b.y ≤ p.y ∧ p.y < a.y ∧ z < 0
    · rw [if_pos c2, if_pos ⟨c2.1, c2.2.1, by omega⟩]; rfl
    · rw [if_neg c2, if_neg (by omega), if_neg (by omega)]; rfl
theorem onX_symm (a b p : Pt) : onX b a p = onX a b p := by
  unfold onX boxB
  rw [crs_anti a b p, Int.min_comm b.x, Int.min_comm b.y, Int.max_comm b.x, Int.max_comm b.y]
  congr 1
  simp only [decide_eq_decide]
  omega
theorem offB_symm (a b p : Pt) : offB p (b, a) = offB p (a, b) := by
  unfold offB
  rw [onX_symm]
end Go
