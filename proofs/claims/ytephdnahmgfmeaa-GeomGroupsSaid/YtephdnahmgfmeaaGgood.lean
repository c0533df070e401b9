/-
  Groups, plain: what the loops of the law check of them.
-/
import Derived.Test.YtephdnahmgfmeaaGroups
set_option linter.unusedVariables false
set_option linter.unusedSimpArgs false
namespace Go

/-- Groups of numbers from s up to e, each begun by one that f marks. -/
def Grps (f : Nat → Bool) : List (List Int) → Nat → Nat → Prop
  | [], s, e => s = e
  | g :: t, s, e => g ≠ [] ∧ (∀ k, k < g.length → g[k]? = some ((s + k : Nat) : Int) ∧ f (s + k) = decide (k = 0)) ∧ Grps f t (s + g.length) e

theorem Grps.le {f : Nat → Bool} (G : List (List Int)) : ∀ {s e : Nat}, Grps f G s e → s ≤ e := by
  induction G with
  | nil => intro s e h; exact Nat.le_of_eq h
  | cons g t ih => intro s e h; have := ih h.2.2; omega

theorem Grps.append {f : Nat → Bool} (A B : List (List Int)) : ∀ {s e : Nat}, Grps f (A ++ B) s e ↔ ∃ m, Grps f A s m ∧ Grps f B m e := by
  induction A with
  | nil =>
    intro s e
    constructor
    · intro h; exact ⟨s, rfl, h⟩
    · rintro ⟨m, h1, h2⟩
      have h1 : s = m := h1
      subst h1; exact h2
  | cons g t ih =>
    intro s e
    constructor
    · rintro ⟨h1, h2, h3⟩
      obtain ⟨m, h4, h5⟩ := ih.1 h3
      exact ⟨m, ⟨h1, h2, h4⟩, h5⟩
    · rintro ⟨m, ⟨h1, h2, h3⟩, h4⟩
      exact ⟨h1, h2, ih.2 ⟨m, h3, h4⟩⟩

theorem grps_gto (f : Nat → Bool) (n : Nat) : ∃ s, s ≤ n ∧ (∀ j, j < s → f j = false) ∧ (s < n → f s = true) ∧ Grps f (gto f n) s n := by
  induction n with
  | zero => exact ⟨0, Nat.le_refl _, fun j h => absurd h (Nat.not_lt_zero _), fun h => absurd h (Nat.lt_irrefl _), rfl⟩
  | succ n ih =>
    obtain ⟨s, hs, h1, h2, h3⟩ := ih
    rw [gto]
    cases hf : f n with
    | true =>
      refine ⟨s, by omega, h1, ?_, ?_⟩
      · intro h
        by_cases hn : s < n
        · exact h2 hn
        · obtain rfl : s = n := by omega
          exact hf
      · unfold gstep
        rw [if_pos rfl]
        refine (Grps.append _ _).2 ⟨n, h3, by simp, ?_, by simp [Grps]⟩
        intro k hk
        obtain rfl : k = 0 := by simpa using hk
        exact ⟨by simp, by simpa using hf⟩
    | false =>
      unfold gstep
      rw [if_neg (by simp)]
      generalize gto f n = G at *
      rcases List.eq_nil_or_concat G with rfl | ⟨A, g, rfl⟩
      · have h3 : s = n := h3
        subst h3
        refine ⟨s + 1, Nat.le_refl _, ?_, fun h => absurd h (Nat.lt_irrefl _), ?_⟩
        · intro j hj
          by_cases h : j < s
          · exact h1 j h
          · obtain rfl : j = s := by omega
            exact hf
        · simp [Grps]
      · rw [List.concat_eq_append] at *
        obtain ⟨m, h4, h5, h6, h7⟩ := (Grps.append _ _).1 h3
        have h7 : m + g.length = n := h7
        have hg : 0 < g.length := List.length_pos_iff.2 h5
        have hl := Grps.le _ h4
        refine ⟨s, by omega, h1, fun _ => h2 (by omega), ?_⟩
        have e1 : (A ++ [g])[(A ++ [g]).length - 1]? = some g := by simp
        rw [e1]
        simp only
        have e2 : (A ++ [g]).set ((A ++ [g]).length - 1) (g ++ [(n : Int)]) = A ++ [g ++ [(n : Int)]] := by simp
        rw [e2]
        refine (Grps.append _ _).2 ⟨m, h4, by simp, ?_, ?_⟩
        · intro k hk
          by_cases hk2 : k < g.length
          · rw [List.getElem?_append_left hk2]; exact h6 k hk2
          · obtain rfl : k = g.length := by simp at hk; omega
            rw [h7]
            refine ⟨by simp, ?_⟩
            rw [hf, decide_eq_false (by omega)]
        · show m + (g ++ [(n : Int)]).length = n + 1
          simp; omega

/-- Where the first loop ends. -/
theorem grps_start {f : Nat → Bool} {n s k : Nat} (hs : s ≤ n) (h1 : ∀ j, j < s → f j = false) (h2 : s < n → f s = true) (hk : k ≤ n) (h3 : ∀ j, j < k → f j = false) (h4 : k < n → f k = true) : k = s := by
  rcases Nat.lt_trichotomy k s with h | h | h
  · have := h1 k h
    rw [h4 (by omega)] at this; cases this
  · exact h
  · have := h3 s h
    rw [h2 (by omega)] at this; cases this
end Go
