/-
  Sums over a ring's edges, the other way round (plain).
-/
import Derived.Test.YtdginfjlelpkmaaRwind
import Derived.Test.YtdginfjlelpkmaaProw
/- An edge the other way round (plain). -/
set_option linter.unusedVariables false
set_option linter.unusedSimpArgs false
namespace Go
theorem crs_anti (a b p : Pt) : crs b a p = -crs a b p := by
  unfold crs
  have e1 : a.x - b.x = -(b.x - a.x) := by omega
  have e2 : a.y - b.y = -(b.y - a.y) := by omega
  have e3 : p.y - b.y = (p.y - a.y) - (b.y - a.y) := by omega
  have e4 : p.x - b.x = (p.x - a.x) - (b.x - a.x) := by omega
  rw [e1, e2, e3, e4]
  generalize b.x - a.x = u
  generalize b.y - a.y = v
  generalize p.x - a.x = s
  generalize p.y - a.y = t
  rw [Int.neg_mul, Int.neg_mul, Int.mul_sub, Int.mul_sub, Int.mul_comm v u]
  omega
theorem sg_minus (z : Int) : sg (-z) = -sg z := by
  unfold sg
  repeat' split
  all_goals omega
theorem windE_anti (p a b : Pt) : windE p (b, a) = -windE p (a, b) := by
  unfold windE
  dsimp only
  rw [crs_anti a b p]
  rw [sg_minus]
  generalize sg (crs a b p) = z
  by_cases c1 : a.y ≤ p.y ∧ p.y < b.y ∧ 0 < z
  · rw [if_pos c1, if_neg (by omega), if_pos ⟨c1.1, c1.2.1, by omega⟩]
  · rw [if_neg c1]
    by_cases c2 : b.y ≤ p.y ∧ p.y < a.y ∧ z < 0
    · rw [if_pos c2, if_pos ⟨c2.1, c2.2.1, by omega⟩]; rfl
    · rw [if_neg c2, if_neg (by omega), if_neg (by omega)]; rfl
theorem onX_symm (a b p : Pt) : onX b a p = onX a b p := by
  unfold onX boxB
  rw [crs_anti a b p, Int.min_comm b.x, Int.min_comm b.y, Int.max_comm b.x, Int.max_comm b.y]
  congr 1
  simp only [decide_eq_decide]
  omega
theorem offB_symm (a b p : Pt) : offB p (b, a) = offB p (a, b) := by
  unfold offB
  rw [onX_symm]
end Go
set_option linter.unusedVariables false
set_option linter.unusedSimpArgs false
namespace Go
def pl (f : Pt → Pt → Int) : List Pt → Int
  | a :: b :: t => f a b + pl f (b :: t)
  | _ => 0
theorem pl_snoc (f : Pt → Pt → Int) (x y : Pt) : ∀ l : List Pt, pl f (l ++ [x, y]) = pl f (l ++ [x]) + f x y
  | [] => by simp [pl]
  | [a] => by simp [pl]
  | a :: b :: l => by
    have := pl_snoc f x y (b :: l)
    simp only [List.cons_append, pl] at this ⊢
    rw [this]; omega
theorem pl_rev (f : Pt → Pt → Int) (hf : ∀ a b, f b a = -f a b) : ∀ l : List Pt, pl f l.reverse = -pl f l
  | [] => rfl
  | [a] => rfl
  | a :: b :: t => by
    have ih := pl_rev f hf (b :: t)
    rw [List.reverse_cons] at ih
    rw [List.reverse_cons, List.reverse_cons, List.append_assoc, List.singleton_append, pl_snoc, ih, hf a b]
    simp only [pl]
    omega
theorem pl_sum (f : Pt → Pt → Int) : ∀ c : List Pt, pl f c = ((List.range (c.length - 1)).map fun i => f c[i]! c[i + 1]!).sum
  | [] => rfl
  | [a] => rfl
  | a :: b :: t => by
    have ih := pl_sum f (b :: t)
    simp only [pl, ih]
    have e : (a :: b :: t).length - 1 = t.length + 1 := by simp
    rw [e, List.range_succ_eq_map, List.map_cons, List.sum_cons, List.map_map]
    congr 1
theorem edges_pl (f : Pt → Pt → Int) (p : Pt) (t : List Pt) : ((edges (p :: t)).map fun e => f e.1 e.2).sum = pl f (p :: t ++ [p]) := by
  rw [pl_sum]
  unfold edges
  rw [List.map_map]
  have e : (p :: t ++ [p]).length - 1 = (p :: t).length := by simp
  rw [e]
  congr 1
  apply List.map_congr_left
  intro i hi
  rw [List.mem_range] at hi
  have hi1 : i < (p :: t ++ [p]).length := by rw [List.length_append]; omega
  have hi2 : i + 1 < (p :: t ++ [p]).length := by rw [List.length_append]; simp at hi ⊢; omega
  have hm := Nat.mod_lt (i + 1) (show 0 < (p :: t).length by simp)
  have a1 : (p :: t)[i]! = (p :: t ++ [p])[i]! := by
    rw [getElem!_pos (p :: t) i hi, getElem!_pos (p :: t ++ [p]) i hi1, List.getElem_append_left hi]
  have a2 : (p :: t)[(i + 1) % (p :: t).length]! = (p :: t ++ [p])[i + 1]! := by
    rw [getElem!_pos (p :: t) _ hm, getElem!_pos (p :: t ++ [p]) _ hi2]
    by_cases h : i + 1 < (p :: t).length
    · rw [List.getElem_append_left h]
      congr 1
      exact Nat.mod_eq_of_lt h
    · have h' : i + 1 = (p :: t).length := by omega
      rw [List.getElem_append_right (by omega)]
      simp [h']
  simp only [Function.comp, a1, a2]
/-- The sum over the edges of the turned ring. -/
theorem edges_turned (f : Pt → Pt → Int) (hf : ∀ a b, f b a = -f a b) (l : List Pt) : ((edges (turnedP l)).map fun e => f e.1 e.2).sum = -((edges l).map fun e => f e.1 e.2).sum := by
  cases l with
  | nil => rfl
  | cons p t =>
    show ((edges (p :: t.reverse)).map fun e => f e.1 e.2).sum = _
    rw [edges_pl, edges_pl, ← pl_rev f hf]
    congr 1
    simp
theorem pl_rev_s (f : Pt → Pt → Int) (hf : ∀ a b, f b a = f a b) : ∀ l : List Pt, pl f l.reverse = pl f l
  | [] => rfl
  | [a] => rfl
  | a :: b :: t => by
    have ih := pl_rev_s f hf (b :: t)
    rw [List.reverse_cons] at ih
    rw [List.reverse_cons, List.reverse_cons, List.append_assoc, List.singleton_append, pl_snoc, ih, hf a b]
    simp only [pl]
    omega
theorem edges_turned_s (f : Pt → Pt → Int) (hf : ∀ a b, f b a = f a b) (l : List Pt) : ((edges (turnedP l)).map fun e => f e.1 e.2).sum = ((edges l).map fun e => f e.1 e.2).sum := by
  cases l with
  | nil => rfl
  | cons p t =>
    show ((edges (p :: t.reverse)).map fun e => f e.1 e.2).sum = _
    rw [edges_pl, edges_pl, ← pl_rev_s f hf]
    congr 1
    simp
theorem windS_sum (p : Pt) (l : List (Pt × Pt)) : windS p l = (l.map fun e => windE p (e.1, e.2)).sum := by
  induction l with
  | nil => rfl
  | cons e l ih => simp only [windS, List.map_cons, List.sum_cons, ih]
theorem windS_turned (p : Pt) (l : List Pt) : windS p (edges (turnedP l)) = -windS p (edges l) := by
  rw [windS_sum, windS_sum]
  exact edges_turned (fun a b => windE p (a, b)) (fun a b => windE_anti p a b) l
theorem off_sum (p : Pt) (l : List (Pt × Pt)) : 0 ≤ (l.map fun e => if offB p (e.1, e.2) then (0 : Int) else 1).sum ∧ (l.all (offB p) = true ↔ (l.map fun e => if offB p (e.1, e.2) then (0 : Int) else 1).sum = 0) := by
  induction l with
  | nil => simp
  | cons e l ih =>
    obtain ⟨h1, h2⟩ := ih
    simp only [List.map_cons, List.sum_cons, List.all_cons, Bool.and_eq_true, h2]
    generalize (l.map fun e => if offB p (e.1, e.2) then (0 : Int) else 1).sum = z at *
    have he : (e.1, e.2) = e := rfl
    rw [he]
    cases offB p e <;> simp <;> omega
theorem off_turned (p : Pt) (l : List Pt) : (edges (turnedP l)).all (offB p) = (edges l).all (offB p) := by
  rw [Bool.eq_iff_iff, (off_sum p _).2, (off_sum p _).2, edges_turned_s (fun a b => if offB p (a, b) then (0 : Int) else 1) (fun a b => by simp only [offB_symm]) l]
theorem windOk_turned (p : Pt) (l : List Pt) : windOk (turnedP l) p = windOk l p := by
  unfold windOk
  rw [off_turned, turnedP_all]
theorem windF_turned (p : Pt) (l : List Pt) : windF (turnedP l) p = -windF l p := by
  unfold windF
  rw [windOk_turned, windS_turned]
  split <;> simp
end Go
