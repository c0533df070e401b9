/-
  Classes and cuts, from whichever end: in plain terms.
-/
import Derived.Test.YtmnekbnhodadcaaScpl
import Derived.Test.YtmnekbnhodadcaaSclass
set_option linter.unusedVariables false
set_option linter.unusedSimpArgs false
namespace Go
open Go.RowKit Go.Srt
theorem sg_opp (n : Int) : sg (-n) = -sg n := by
  rcases Int.lt_trichotomy n 0 with h | h | h
  · rw [sg_neg h, sg_pos (by omega)]; rfl
  · rw [sg_z h, sg_z (by omega)]; rfl
  · rw [sg_pos h, sg_neg (by omega)]
theorem onP_ends {a b : Pt} (hab : a ≠ b) (p : Pt) : onP b a p = onP a b p := by
  have e : onP b a p = true ↔ onP a b p = true := by
    rw [onP_iff hab, onP_iff (Ne.symm hab), crs_swap]
    have h1 : dotP b a p = longP a b - dotP a b p := by unfold dotP longP; grind
    have h2 : longP b a = longP a b := by unfold longP; grind
    rw [h1, h2]
    omega
  cases h1 : onP b a p <;> cases h2 : onP a b p <;> simp_all
theorem onP_first {a b : Pt} (hab : a ≠ b) : onP a b a = true := by
  rw [onP_iff hab]
  have h1 : crs a b a = 0 := by unfold crs; grind
  have h2 : dotP a b a = 0 := by unfold dotP; grind
  have h3 : 0 ≤ longP a b := by
    have := sq_pos (b.x - a.x) (b.y - a.y) (pt_ne hab)
    unfold longP; omega
  omega
theorem onP_last {a b : Pt} (hab : a ≠ b) : onP a b b = true := by rw [← onP_ends hab]; exact onP_first (Ne.symm hab)
theorem rcls_ends (a b c d : Pt) (hab : a ≠ b) : rclsF b a c d = rclsF a b c d := by
  unfold rclsF
  rw [onP_ends hab, onP_ends hab, crs_swap a b c, crs_swap a b d, sg_opp, sg_opp]
  have e1 : ((b = c ∧ a = d) ∨ (b = d ∧ a = c)) ↔ ((a = c ∧ b = d) ∨ (a = d ∧ b = c)) := by
    constructor <;> (rintro (⟨h1, h2⟩ | ⟨h1, h2⟩) <;> simp [h1, h2])
  simp only [e1]
  have e2 : b2i (onP c d b) + b2i (onP c d a) = b2i (onP c d a) + b2i (onP c d b) := Int.add_comm _ _
  have e3 : b2i (onP c d b && (decide (b = c) || decide (b = d))) + b2i (onP c d a && (decide (a = c) || decide (a = d))) = b2i (onP c d a && (decide (a = c) || decide (a = d))) + b2i (onP c d b && (decide (b = c) || decide (b = d))) := Int.add_comm _ _
  have e4 : (-sg (crs a b c) ≠ -sg (crs a b d) ∧ sg (crs c d b) ≠ sg (crs c d a)) ↔ (sg (crs a b c) ≠ sg (crs a b d) ∧ sg (crs c d a) ≠ sg (crs c d b)) := by omega
  simp only [e2, e3, e4]
theorem rcls_segs (a b c d : Pt) (hab : a ≠ b) (hcd : c ≠ d) : rclsF c d a b = rclsF a b c d := by
  unfold rclsF
  have e1 : ((c = a ∧ d = b) ∨ (c = b ∧ d = a)) ↔ ((a = c ∧ b = d) ∨ (a = d ∧ b = c)) := by
    constructor <;> (rintro (⟨h1, h2⟩ | ⟨h1, h2⟩) <;> simp [h1, h2])
  simp only [e1]
  have k1 : (onP c d a && (decide (a = c) || decide (a = d))) = (decide (a = c) || decide (a = d)) := by
    by_cases h1 : a = c
    · subst h1; rw [onP_first hcd, Bool.true_and]
    · by_cases h2 : a = d
      · subst h2; rw [onP_last hcd, Bool.true_and]
      · simp [h1, h2]
  have k2 : (onP c d b && (decide (b = c) || decide (b = d))) = (decide (b = c) || decide (b = d)) := by
    by_cases h1 : b = c
    · subst h1; rw [onP_first hcd, Bool.true_and]
    · by_cases h2 : b = d
      · subst h2; rw [onP_last hcd, Bool.true_and]
      · simp [h1, h2]
  have k3 : (onP a b c && (decide (c = a) || decide (c = b))) = (decide (a = c) || decide (b = c)) := by
    by_cases h1 : c = a
    · subst h1; rw [onP_first hab, Bool.true_and]; simp [eq_comm]
    · by_cases h2 : c = b
      · subst h2; rw [onP_last hab, Bool.true_and]; simp [eq_comm]
      · simp [h1, h2, Ne.symm h1, Ne.symm h2]
  have k4 : (onP a b d && (decide (d = a) || decide (d = b))) = (decide (a = d) || decide (b = d)) := by
    by_cases h1 : d = a
    · subst h1; rw [onP_first hab, Bool.true_and]; simp [eq_comm]
    · by_cases h2 : d = b
      · subst h2; rw [onP_last hab, Bool.true_and]; simp [eq_comm]
      · simp [h1, h2, Ne.symm h1, Ne.symm h2]
  rw [k1, k2, k3, k4]
  have e2 : b2i (decide (a = c) || decide (b = c)) + b2i (decide (a = d) || decide (b = d)) = b2i (decide (a = c) || decide (a = d)) + b2i (decide (b = c) || decide (b = d)) := by
    have q1 : ¬ (a = c ∧ a = d) := fun h => hcd (h.1.symm.trans h.2)
    have q2 : ¬ (b = c ∧ b = d) := fun h => hcd (h.1.symm.trans h.2)
    have q3 : ¬ (a = c ∧ b = c) := fun h => hab (h.1.trans h.2.symm)
    have q4 : ¬ (a = d ∧ b = d) := fun h => hab (h.1.trans h.2.symm)
    by_cases h1 : a = c <;> by_cases h2 : a = d <;> by_cases h3 : b = c <;> by_cases h4 : b = d <;> simp [h1, h2, h3, h4, b2i] at * <;> simp_all
  rw [e2]
  have e3 : b2i (onP a b c) + b2i (onP a b d) + (b2i (onP c d a) + b2i (onP c d b)) = b2i (onP c d a) + b2i (onP c d b) + (b2i (onP a b c) + b2i (onP a b d)) := Int.add_comm _ _
  have e4 : (sg (crs c d a) ≠ sg (crs c d b) ∧ sg (crs a b c) ≠ sg (crs a b d)) ↔ (sg (crs a b c) ≠ sg (crs a b d) ∧ sg (crs c d a) ≠ sg (crs c d b)) := And.comm
  simp only [e3, e4]
theorem ok4 {a b c d : Pt} (h : [a, b, c, d].all okPt = true) : okPt a = true ∧ okPt b = true ∧ okPt c = true ∧ okPt d = true := by
  simpa only [List.all_cons, List.all_nil, Bool.and_true, Bool.and_eq_true] using h
theorem clsR_ends (a b c d : Pt) : clsR b a c d = clsR a b c d := by
  unfold clsR
  have e0 : [b, a, c, d].all okPt = [a, b, c, d].all okPt := by simp only [List.all_cons, List.all_nil]; cases okPt a <;> cases okPt b <;> rfl
  rw [e0]
  by_cases h : [a, b, c, d].all okPt = false
  · rw [if_pos h, if_pos h]
  · rw [if_neg h, if_neg h]
    have e1 : (b = a ∨ c = d) ↔ (a = b ∨ c = d) := by simp only [eq_comm (a := b)]
    simp only [e1]
    by_cases h2 : a = b ∨ c = d
    · rw [if_pos h2, if_pos h2]
    · rw [if_neg h2, if_neg h2]
      obtain ⟨h3, h4⟩ := not_or.1 h2
      obtain ⟨oa, ob, oc, od⟩ := ok4 ((Bool.not_eq_false _).mp h)
      rw [cls_eq b a c d ob oa oc od (Ne.symm h3) h4, cls_eq a b c d oa ob oc od h3 h4, rcls_ends a b c d h3]
theorem clsR_segs (a b c d : Pt) : clsR c d a b = clsR a b c d := by
  unfold clsR
  have e0 : [c, d, a, b].all okPt = [a, b, c, d].all okPt := by simp only [List.all_cons, List.all_nil]; cases okPt a <;> cases okPt b <;> cases okPt c <;> cases okPt d <;> rfl
  rw [e0]
  by_cases h : [a, b, c, d].all okPt = false
  · rw [if_pos h, if_pos h]
  · rw [if_neg h, if_neg h]
    have e1 : (c = d ∨ a = b) ↔ (a = b ∨ c = d) := Or.comm
    simp only [e1]
    by_cases h2 : a = b ∨ c = d
    · rw [if_pos h2, if_pos h2]
    · rw [if_neg h2, if_neg h2]
      obtain ⟨h3, h4⟩ := not_or.1 h2
      obtain ⟨oa, ob, oc, od⟩ := ok4 ((Bool.not_eq_false _).mp h)
      rw [cls_eq c d a b oc od oa ob h4 h3, cls_eq a b c d oa ob oc od h3 h4, rcls_segs a b c d h3 h4]

/-! Cuts, from the other end. -/
theorem at_ends (a b : Pt) (c : Int) : atF b a c = atF a b c := by
  unfold atF
  rcases Int.lt_trichotomy a.x b.x with h | h | h
  · have n1 : ¬ b.x < a.x := by omega
    simp only [h, n1, if_true, if_false]
  · have n1 : ¬ b.x < a.x := by omega
    have n2 : ¬ a.x < b.x := by omega
    simp only [n1, n2, if_false]
    rw [if_pos (by omega), if_pos (by omega)]
  · have n1 : ¬ a.x < b.x := by omega
    simp only [h, n1, if_true, if_false]
/-- The same cut, told from the other end. -/
def Cu.rev (c : Cu) : Cu := ⟨c.x, c.y, c.w - c.p, c.w⟩
theorem cutX_ends (a b : Pt) (c : Int) : cutX b a c = (cutX a b c).map Cu.rev := by
  unfold cutX
  rw [at_ends]
  by_cases h : (atF a b c).2 = true
  · rw [if_pos h, if_pos h]
    have := at_side h
    simp only [Option.map_some, Cu.rev, Option.some.injEq, Cu.mk.injEq, true_and]
    omega
  · rw [if_neg h, if_neg h]; rfl
theorem cutY_ends (a b : Pt) (c : Int) : cutY b a c = (cutY a b c).map Cu.rev := by
  unfold cutY
  rw [at_ends]
  by_cases h : (atF ⟨a.y, a.x⟩ ⟨b.y, b.x⟩ c).2 = true
  · rw [if_pos h, if_pos h]
    have := at_side h
    dsimp only at this
    simp only [Option.map_some, Cu.rev, Option.some.injEq, Cu.mk.injEq, true_and]
    omega
  · rw [if_neg h, if_neg h]; rfl
theorem cutRow_ends (a b : Pt) (xs ys : List Int) : cutRow b a xs ys = (cutRow a b xs ys).map Cu.rev := by
  unfold cutRow
  rw [List.map_append, List.map_filterMap, List.map_filterMap]
  congr 1
  · congr 1; funext c; exact cutX_ends a b c
  · congr 1; funext c; exact cutY_ends a b c
/-- The cuts in order, from a to b. -/
def cutSeq (a b : Pt) (xs ys : List Int) : List Cu := insC cmpC 0 (cutRow a b xs ys) ((cutRow a b xs ys).length - 1)
theorem cutSeq_ok (a b : Pt) (xs ys : List Int) : (cutSeq a b xs ys).Perm (cutRow a b xs ys) ∧ SR cmpC (cutSeq a b xs ys) 0 (cutSeq a b xs ys).length := by
  obtain ⟨p, s⟩ := ins_ok cmpOrd 0 (cutRow a b xs ys) (fun x hx => cutRow_ok hx) ((cutRow a b xs ys).length - 1) (by omega)
  refine ⟨p.prm, fun i j h1 h2 h3 => ?_⟩
  unfold cutSeq at h3
  rw [insC_len] at h3
  exact s i j h1 h2 (by omega)
theorem cmpC_rev (x y : Cu) : cmpC x.rev y.rev = cmpC y x := by
  unfold cmpC Cu.rev; dsimp only; grind
theorem SR_of_pairwise {c : Cu → Cu → Int} {l : List Cu} (h : l.Pairwise (fun x y => c x y ≤ 0)) : SR c l 0 l.length := by
  intro i j h1 h2 h3
  rw [List.pairwise_iff_getElem] at h
  have := h i j (by omega) h3 h2
  rwa [getElem!_pos l i (by omega), getElem!_pos l j h3]
theorem cutPts_ends (a b : Pt) (xs ys : List Int) : cutPts b a xs ys = (cutPts a b xs ys).reverse := by
  obtain ⟨p, s⟩ := cutSeq_ok a b xs ys
  have e := cutPts_of b a xs ys ((cutSeq a b xs ys).reverse.map Cu.rev) ?_ ?_
  · rw [← e, List.map_map, show Cu.at ∘ Cu.rev = Cu.at from rfl, List.map_reverse]; rfl
  · rw [cutRow_ends]
    exact ((List.reverse_perm _).trans p).map _
  · refine SR_of_pairwise ?_
    rw [List.pairwise_map, List.pairwise_reverse]
    exact s.pairwise.imp (fun {x y} h => by rw [cmpC_rev]; exact h)

/-- Neighbours that are the same, told once. -/
def ded : List Pt → List Pt
  | [] => []
  | [p] => [p]
  | p :: q :: l => if p = q then ded (q :: l) else p :: ded (q :: l)
theorem ded_cons (p : Pt) (l : List Pt) : ∃ t, ded (p :: l) = p :: t := by
  induction l generalizing p with
  | nil => exact ⟨[], rfl⟩
  | cons q l ih =>
    rw [ded]
    split
    · rename_i h; subst h; exact ih p
    · exact ⟨_, rfl⟩
theorem ded_snoc (l : List Pt) (p : Pt) : ∃ t, ded (l ++ [p]) = t ++ [p] := by
  induction l with
  | nil => exact ⟨[], rfl⟩
  | cons q l ih =>
    cases l with
    | nil =>
      rw [List.singleton_append, ded]
      split
      · exact ⟨[], rfl⟩
      · exact ⟨[q], rfl⟩
    | cons r l =>
      obtain ⟨t, ht⟩ := ih
      rw [List.cons_append, List.cons_append, ded, ← List.cons_append, ht]
      split
      · exact ⟨t, rfl⟩
      · exact ⟨q :: t, rfl⟩
theorem ded_two (l : List Pt) (p q : Pt) : ded (l ++ [p, q]) = if p = q then ded (l ++ [p]) else ded (l ++ [p]) ++ [q] := by
  induction l with
  | nil =>
    simp only [List.nil_append, ded]
    split
    · rename_i h; rw [h]
    · rfl
  | cons r l ih =>
    cases l with
    | nil =>
      simp only [List.nil_append, List.cons_append, ded] at ih ⊢
      by_cases h : r = p <;> by_cases h2 : p = q <;> simp [h, h2]
    | cons s l =>
      simp only [List.cons_append, ded] at ih ⊢
      by_cases h : r = s
      · rw [if_pos h, if_pos h]; exact ih
      · rw [if_neg h, if_neg h, ih]
        split <;> rfl
theorem ded_reverse (l : List Pt) : ded l.reverse = (ded l).reverse := by
  induction l with
  | nil => rfl
  | cons p l ih =>
    cases l with
    | nil => rfl
    | cons q l =>
      rw [List.reverse_cons, List.reverse_cons, List.append_assoc, List.singleton_append, ded_two, ded]
      rw [List.reverse_cons] at ih
      by_cases h : q = p
      · rw [if_pos h, if_pos h.symm, ih]
      · rw [if_neg h, if_neg (Ne.symm h), ih, List.reverse_cons]
def thStepP (s : Pt × List Pt) (c : Pt) : Pt × List Pt := if c = s.1 then s else (c, s.2 ++ [c])
theorem th_ded (a : Pt) (l : List Pt) : ∀ (o : List Pt) , (l.foldl thStepP (a, o)).2 = o ++ (ded (a :: l)).tail ∧ (l.foldl thStepP (a, o)).1 = (a :: l).getLast (by simp) := by
  induction l generalizing a with
  | nil => intro o; exact ⟨by simp [ded], rfl⟩
  | cons p l ih =>
    intro o
    rw [List.foldl_cons, thStepP]
    by_cases h : p = a
    · subst h
      rw [if_pos rfl]
      have := ih p o
      rw [ded, if_pos rfl]
      exact ⟨this.1, by rw [this.2]; rfl⟩
    · rw [if_neg h]
      have := ih p (o ++ [p])
      obtain ⟨t, ht⟩ := ded_cons p l
      rw [ded, if_neg (Ne.symm h), List.tail_cons]
      refine ⟨?_, by rw [this.2]; rfl⟩
      rw [this.1, ht]
      simp
/-- What thin leaves: the neighbours told once, without both ends. -/
theorem thinP_ded (a b : Pt) (l : List Pt) : thinP a b l = ((ded (a :: l ++ [b])).drop 1).dropLast := by
  obtain ⟨h1, h2⟩ := th_ded a l []
  have e : thinP a b l = if (l.foldl thStepP (a, [])).2 ≠ [] ∧ (l.foldl thStepP (a, [])).1 = b then (l.foldl thStepP (a, [])).2.dropLast else (l.foldl thStepP (a, [])).2 := rfl
  rw [e, h1, h2, List.nil_append]
  rw [show a :: l ++ [b] = (a :: l).dropLast ++ [(a :: l).getLast (by simp), b] by
    rw [show [(a :: l).getLast (by simp), b] = [(a :: l).getLast (by simp)] ++ [b] from rfl, ← List.append_assoc, List.dropLast_concat_getLast]]
  rw [ded_two, List.dropLast_concat_getLast]
  obtain ⟨t, ht⟩ := ded_cons a l
  rw [ht]
  by_cases h3 : (a :: l).getLast (by simp) = b
  · rw [if_pos h3]
    simp only [List.tail_cons, List.drop_succ_cons, List.drop_zero, h3, and_true]
    by_cases h4 : t = []
    · subst h4; simp
    · rw [if_pos h4]
  · rw [if_neg h3, if_neg (fun h => h3 h.2)]
    simp
theorem thinP_ends (a b : Pt) (l : List Pt) : thinP b a l.reverse = (thinP a b l).reverse := by
  rw [thinP_ded, thinP_ded]
  rw [show b :: l.reverse ++ [a] = (a :: l ++ [b]).reverse by simp, ded_reverse]
  generalize ded (a :: l ++ [b]) = d
  rw [List.drop_one, List.drop_one, List.tail_reverse, List.dropLast_reverse]
  congr 1
  cases d with
  | nil => rfl
  | cons x t => cases t <;> simp
theorem ded_len (l : List Pt) : (ded l).length ≤ l.length := by
  induction l with
  | nil => simp [ded]
  | cons p l ih =>
    cases l with
    | nil => simp [ded]
    | cons q l =>
      rw [ded]
      split
      · simp at ih ⊢; omega
      · simp at ih ⊢; omega
theorem cutsF_len (a b : Pt) (xs ys : List Int) : (cutsF a b xs ys).length ≤ xs.length + ys.length := by
  unfold cutsF
  rw [thinP_ded]
  have h1 := ded_len (a :: cutPts a b xs ys ++ [b])
  have h2 : (cutPts a b xs ys).length ≤ xs.length + ys.length := by
    unfold cutPts
    rw [List.length_map, insC_len]
    unfold cutRow
    rw [List.length_append]
    have := List.length_filterMap_le (cutX a b) xs
    have := List.length_filterMap_le (cutY a b) ys
    omega
  simp at h1 ⊢
  omega
theorem cutsF_ends (a b : Pt) (xs ys : List Int) : cutsF b a xs ys = (cutsF a b xs ys).reverse := by
  unfold cutsF
  rw [cutPts_ends, thinP_ends]
end Go
