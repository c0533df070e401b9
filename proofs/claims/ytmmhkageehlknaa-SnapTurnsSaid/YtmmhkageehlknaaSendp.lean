/-
  The cuts of a segment, from whichever end: in plain terms.
-/
import Derived.Test.YtmmhkageehlknaaScpl
set_option linter.unusedVariables false
set_option linter.unusedSimpArgs false
namespace Go
open Go.RowKit Go.Srt
theorem at_ends (a b : Pt) (c : Int) : atF b a c = atF a b c := by
  unfold atF
  rcases Int.lt_trichotomy a.x b.x with h | h | h
  · have n1 : ¬ b.x < a.x := by omega
    simp only [h, n1, if_true, if_false]
  · have n1 : ¬ b.x < a.x := by omega
    have n2 : ¬ a.x < b.x := by omega
    simp only [n1, n2, if_false]
    rw [if_pos (by omega), if_pos (by omega)]
  · have n1 : ¬ a.x < b.x := by omega
    simp only [h, n1, if_true, if_false]
/-- The same cut, told from the other end. -/
def Cu.rev (c : Cu) : Cu := ⟨c.x, c.y, c.w - c.p, c.w⟩
theorem cutX_ends (a b : Pt) (c : Int) : cutX b a c = (cutX a b c).map Cu.rev := by
  unfold cutX
  rw [at_ends]
  by_cases h : (atF a b c).2 = true
  · rw [if_pos h, if_pos h]
    have := at_side h
    simp only [Option.map_some, Cu.rev, Option.some.injEq, Cu.mk.injEq, true_and]
    omega
  · rw [if_neg h, if_neg h]; rfl
theorem cutY_ends (a b : Pt) (c : Int) : cutY b a c = (cutY a b c).map Cu.rev := by
  unfold cutY
  rw [at_ends]
  by_cases h : (atF ⟨a.y, a.x⟩ ⟨b.y, b.x⟩ c).2 = true
  · rw [if_pos h, if_pos h]
    have := at_side h
    dsimp only at this
    simp only [Option.map_some, Cu.rev, Option.some.injEq, Cu.mk.injEq, true_and]
    omega
  · rw [if_neg h, if_neg h]; rfl
theorem cutRow_ends (a b : Pt) (xs ys : List Int) : cutRow b a xs ys = (cutRow a b xs ys).map Cu.rev := by
  unfold cutRow
  rw [List.map_append, List.map_filterMap, List.map_filterMap]
  congr 1
  · congr 1; funext c; exact cutX_ends a b c
  · congr 1; funext c; exact cutY_ends a b c
/-- The cuts in order, from a to b. -/
def cutSeq (a b : Pt) (xs ys : List Int) : List Cu := insC cmpC 0 (cutRow a b xs ys) ((cutRow a b xs ys).length - 1)
theorem cutSeq_ok (a b : Pt) (xs ys : List Int) : (cutSeq a b xs ys).Perm (cutRow a b xs ys) ∧ SR cmpC (cutSeq a b xs ys) 0 (cutSeq a b xs ys).length := by
  obtain ⟨p, s⟩ := ins_ok cmpOrd 0 (cutRow a b xs ys) (fun x hx => cutRow_ok hx) ((cutRow a b xs ys).length - 1) (by omega)
  refine ⟨p.prm, fun i j h1 h2 h3 => ?_⟩
  unfold cutSeq at h3
  rw [insC_len] at h3
  exact s i j h1 h2 (by omega)
theorem cmpC_rev (x y : Cu) : cmpC x.rev y.rev = cmpC y x := by
  unfold cmpC Cu.rev; dsimp only; grind
theorem SR_of_pairwise {c : Cu → Cu → Int} {l : List Cu} (h : l.Pairwise (fun x y => c x y ≤ 0)) : SR c l 0 l.length := by
  intro i j h1 h2 h3
  rw [List.pairwise_iff_getElem] at h
  have := h i j (by omega) h3 h2
  rwa [getElem!_pos l i (by omega), getElem!_pos l j h3]
theorem cutPts_ends (a b : Pt) (xs ys : List Int) : cutPts b a xs ys = (cutPts a b xs ys).reverse := by
  obtain ⟨p, s⟩ := cutSeq_ok a b xs ys
  have e := cutPts_of b a xs ys ((cutSeq a b xs ys).reverse.map Cu.rev) ?_ ?_
  · rw [← e, List.map_map, show Cu.at ∘ Cu.rev = Cu.at from rfl, List.map_reverse]; rfl
  · rw [cutRow_ends]
    exact ((List.reverse_perm _).trans p).map _
  · refine SR_of_pairwise ?_
    rw [List.pairwise_map, List.pairwise_reverse]
    exact s.pairwise.imp (fun {x y} h => by rw [cmpC_rev]; exact h)

/-- Neighbours that are the same, told once. -/
def ded : List Pt → List Pt
  | [] => []
  | [p] => [p]
  | p :: q :: l => if p = q then ded (q :: l) else p :: ded (q :: l)
theorem ded_cons (p : Pt) (l : List Pt) : ∃ t, ded (p :: l) = p :: t := by
  induction l generalizing p with
  | nil => exact ⟨[], rfl⟩
  | cons q l ih =>
    rw [ded]
    split
    · rename_i h; subst h; exact ih p
    · exact ⟨_, rfl⟩
theorem ded_snoc (l : List Pt) (p : Pt) : ∃ t, ded (l ++ [p]) = t ++ [p] := by
  induction l with
  | nil => exact ⟨[], rfl⟩
  | cons q l ih =>
    cases l with
    | nil =>
      rw [List.singleton_append, ded]
      split
      · exact ⟨[], rfl⟩
      · exact ⟨[q], rfl⟩
    | cons r l =>
      obtain ⟨t, ht⟩ := ih
      rw [List.cons_append, List.cons_append, ded, ← List.cons_append, ht]
      split
      · exact ⟨t, rfl⟩
      · exact ⟨q :: t, rfl⟩
theorem ded_two (l : List Pt) (p q : Pt) : ded (l ++ [p, q]) = if p = q then ded (l ++ [p]) else ded (l ++ [p]) ++ [q] := by
  induction l with
  | nil =>
    simp only [List.nil_append, ded]
    split
    · rename_i h; rw [h]
    · rfl
  | cons r l ih =>
    cases l with
    | nil =>
      simp only [List.nil_append, List.cons_append, ded] at ih ⊢
      by_cases h : r = p <;> by_cases h2 : p = q <;> simp [h, h2]
    | cons s l =>
      simp only [List.cons_append, ded] at ih ⊢
      by_cases h : r = s
      · rw [if_pos h, if_pos h]; exact ih
      · rw [if_neg h, if_neg h, ih]
        split <;> rfl
theorem ded_reverse (l : List Pt) : ded l.reverse = (ded l).reverse := by
  induction l with
  | nil => rfl
  | cons p l ih =>
    cases l with
    | nil => rfl
    | cons q l =>
      rw [List.reverse_cons, List.reverse_cons, List.append_assoc, List.singleton_append, ded_two, ded]
      rw [List.reverse_cons] at ih
      by_cases h : q = p
      · rw [if_pos h, if_pos h.symm, ih]
      · rw [if_neg h, if_neg (Ne.symm h), ih, List.reverse_cons]
def thStepP (s : Pt × List Pt) (c : Pt) : Pt × List Pt := if c = s.1 then s else (c, s.2 ++ [c])
theorem th_ded (a : Pt) (l : List Pt) : ∀ (o : List Pt) , (l.foldl thStepP (a, o)).2 = o ++ (ded (a :: l)).tail ∧ (l.foldl thStepP (a, o)).1 = (a :: l).getLast (by simp) := by
  induction l generalizing a with
  | nil => intro o; exact ⟨by simp [ded], rfl⟩
  | cons p l ih =>
    intro o
    rw [List.foldl_cons, thStepP]
    by_cases h : p = a
    · subst h
      rw [if_pos rfl]
      have := ih p o
      rw [ded, if_pos rfl]
      exact ⟨this.1, by rw [this.2]; rfl⟩
    · rw [if_neg h]
      have := ih p (o ++ [p])
      obtain ⟨t, ht⟩ := ded_cons p l
      rw [ded, if_neg (Ne.symm h), List.tail_cons]
      refine ⟨?_, by rw [this.2]; rfl⟩
      rw [this.1, ht]
      simp
/-- What thin leaves: the neighbours told once, without both ends. -/
theorem thinP_ded (a b : Pt) (l : List Pt) : thinP a b l = ((ded (a :: l ++ [b])).drop 1).dropLast := by
  obtain ⟨h1, h2⟩ := th_ded a l []
  have e : thinP a b l = if (l.foldl thStepP (a, [])).2 ≠ [] ∧ (l.foldl thStepP (a, [])).1 = b then (l.foldl thStepP (a, [])).2.dropLast else (l.foldl thStepP (a, [])).2 := rfl
  rw [e, h1, h2, List.nil_append]
  rw [show a :: l ++ [b] = (a :: l).dropLast ++ [(a :: l).getLast (by simp), b] by
    rw [show [(a :: l).getLast (by simp), b] = [(a :: l).getLast (by simp)] ++ [b] from rfl, ← List.append_assoc, List.dropLast_concat_getLast]]
  rw [ded_two, List.dropLast_concat_getLast]
  obtain ⟨t, ht⟩ := ded_cons a l
  rw [ht]
  by_cases h3 : (a :: l).getLast (by simp) = b
  · rw [if_pos h3]
    simp only [List.tail_cons, List.drop_succ_cons, List.drop_zero, h3, and_true]
    by_cases h4 : t = []
    · subst h4; simp
    · rw [if_pos h4]
  · rw [if_neg h3, if_neg (fun h => h3 h.2)]
    simp
theorem thinP_ends (a b : Pt) (l : List Pt) : thinP b a l.reverse = (thinP a b l).reverse := by
  rw [thinP_ded, thinP_ded]
  rw [show b :: l.reverse ++ [a] = (a :: l ++ [b]).reverse by simp, ded_reverse]
  generalize ded (a :: l ++ [b]) = d
  rw [List.drop_one, List.drop_one, List.tail_reverse, List.dropLast_reverse]
  congr 1
  cases d with
  | nil => rfl
  | cons x t => cases t <;> simp
theorem ded_len (l : List Pt) : (ded l).length ≤ l.length := by
  induction l with
  | nil => simp [ded]
  | cons p l ih =>
    cases l with
    | nil => simp [ded]
    | cons q l =>
      rw [ded]
      split
      · simp at ih ⊢; omega
      · simp at ih ⊢; omega
theorem cutsF_len (a b : Pt) (xs ys : List Int) : (cutsF a b xs ys).length ≤ xs.length + ys.length := by
  unfold cutsF
  rw [thinP_ded]
  have h1 := ded_len (a :: cutPts a b xs ys ++ [b])
  have h2 : (cutPts a b xs ys).length ≤ xs.length + ys.length := by
    unfold cutPts
    rw [List.length_map, insC_len]
    unfold cutRow
    rw [List.length_append]
    have := List.length_filterMap_le (cutX a b) xs
    have := List.length_filterMap_le (cutY a b) ys
    omega
  simp at h1 ⊢
  omega
theorem cutsF_ends (a b : Pt) (xs ys : List Int) : cutsF b a xs ys = (cutsF a b xs ys).reverse := by
  unfold cutsF
  rw [cutPts_ends, thinP_ends]
end Go
