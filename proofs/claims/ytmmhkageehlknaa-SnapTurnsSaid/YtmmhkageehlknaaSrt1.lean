/-
  Sorting by blocks, in plain terms.
-/
import Derived.Test.YtmmhkageehlknaaSrt0
set_option linter.unusedVariables false
set_option linter.unusedSimpArgs false
namespace Go.Srt
variable {α : Type} [Inhabited α]
/-- From s on, each block is in order. -/
def Bl (c : α → α → Int) (l : List α) (bs n s : Nat) : Prop := ∀ j, SR c l (s + j * bs) (min (s + j * bs + bs) n)
/-- The first q blocks are in order. -/
def Dn (c : α → α → Int) (l : List α) (B q : Nat) : Prop := ∀ j, j < q → SR c l (j * B) (j * B + B)
theorem SR.less {c : α → α → Int} {l : List α} {a b a' b' : Nat} (h : SR c l a b) (ha : a ≤ a') (hb : b' ≤ b) : SR c l a' b' := fun i j h1 h2 h3 => h i j (by omega) h2 (by omega)
theorem Bl.head {c : α → α → Int} {l : List α} {bs n s : Nat} (h : Bl c l bs n s) : SR c l s (min (s + bs) n) := by
  have := h 0; rwa [Nat.zero_mul, Nat.add_zero] at this
theorem Bl.second {c : α → α → Int} {l : List α} {bs n s : Nat} (h : Bl c l bs n s) : SR c l (s + bs) (min (s + bs + bs) n) := by
  have := h 1; rwa [Nat.one_mul] at this
theorem Bl.step {c : α → α → Int} {l l' : List α} {bs n s t : Nat} (h : Bl c l bs n s) (ht : t = s + (bs + bs)) (he : ∀ i, t ≤ i → l'[i]! = l[i]!) : Bl c l' bs n t := by
  intro j
  have := h (j + 2)
  rw [show s + (j + 2) * bs = t + j * bs by rw [ht, Nat.add_mul]; omega] at this
  exact this.congr (fun i h1 _ => he i (by omega))
theorem Dn.step {c : α → α → Int} {l l' : List α} {B q A : Nat} (h : Dn c l B q) (hA : A = q * B) (he : ∀ i, i < A → l'[i]! = l[i]!) (hs : SR c l' A (A + B)) : Dn c l' B (q + 1) := by
  intro j hj
  by_cases hq : j = q
  · subst hq; rw [← hA]; exact hs
  · have h1 : j * B + B ≤ q * B := by
      have := Nat.mul_le_mul_right B (show j + 1 ≤ q by omega)
      rw [Nat.add_mul] at this; omega
    exact (h j (by omega)).congr (fun i _ h2 => he i (by omega))
theorem Dn.fin {c : α → α → Int} {l l' : List α} {B q A n : Nat} (h : Dn c l B q) (hA : A = q * B) (he : ∀ i, i < A → l'[i]! = l[i]!) (hs : SR c l' A n) (hn : n ≤ A + B) : Bl c l' B n 0 := by
  intro j
  rw [Nat.zero_add]
  rcases Nat.lt_trichotomy j q with hj | hj | hj
  · have h1 : j * B + B ≤ q * B := by
      have := Nat.mul_le_mul_right B (show j + 1 ≤ q by omega)
      rw [Nat.add_mul] at this; omega
    exact ((h j hj).congr (fun i _ h2 => he i (by omega))).less (Nat.le_refl _) (by omega)
  · subst hj; rw [← hA]; exact hs.less (Nat.le_refl _) (by omega)
  · have h1 : q * B + B ≤ j * B := by
      have := Nat.mul_le_mul_right B (show q + 1 ≤ j by omega)
      rw [Nat.add_mul] at this; omega
    intro x y h2 h3 h4
    omega
end Go.Srt
