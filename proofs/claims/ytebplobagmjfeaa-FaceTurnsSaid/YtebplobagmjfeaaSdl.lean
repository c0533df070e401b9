/-
  The sides of faces told together (plain).
-/
import Derived.Test.YtebplobagmjfeaaSides
set_option linter.unusedVariables false
set_option linter.unusedSimpArgs false
namespace Go
def Sd.up (n : Nat) (s : Sd) : Sd := ⟨s.f + n, s.r, s.a, s.b⟩
theorem faceSd_up (n i : Nat) (f : List (List Pt)) (m : Nat) : faceSd (i + n) f m = (faceSd i f m).map (Sd.up n) := by
  unfold faceSd
  rw [List.map_flatMap]
  congr 1
  funext k
  simp [ringSd, Sd.up, Function.comp_def]
theorem someSd_left (a b : List (List (List Pt))) (k : Nat) (h : k ≤ a.length) : someSd (a ++ b) k = someSd a k := by
  induction k with
  | zero => rfl
  | succ k ih =>
    rw [someSd_succ, someSd_succ, ih (by omega)]
    have e : (a ++ b)[k]! = a[k]! := by
      rw [getElem!_pos (a ++ b) k (by rw [List.length_append]; omega), getElem!_pos a k (by omega), List.getElem_append_left (by omega)]
    rw [e]
theorem someSd_right (a b : List (List (List Pt))) (k : Nat) (h : k ≤ b.length) : someSd (a ++ b) (a.length + k) = allSd a ++ (someSd b k).map (Sd.up a.length) := by
  induction k with
  | zero => rw [Nat.add_zero, someSd_left a b _ (Nat.le_refl _)]; simp [allSd, someSd]
  | succ k ih =>
    rw [← Nat.add_assoc, someSd_succ, ih (by omega), someSd_succ b k, List.map_append, List.append_assoc]
    have e : (a ++ b)[a.length + k]! = b[k]! := by
      rw [getElem!_pos (a ++ b) (a.length + k) (by rw [List.length_append]; omega), getElem!_pos b k (by omega), List.getElem_append_right (by omega)]
      simp
    rw [e, Nat.add_comm a.length k, faceSd_up]
/-- The sides of faces told together. -/
theorem allSd_append (a b : List (List (List Pt))) : allSd (a ++ b) = allSd a ++ (allSd b).map (Sd.up a.length) := by
  have := someSd_right a b b.length (Nat.le_refl _)
  unfold allSd at this ⊢
  rw [List.length_append]
  exact this
end Go
