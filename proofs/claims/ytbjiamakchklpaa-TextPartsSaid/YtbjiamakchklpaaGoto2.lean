/-
  A scope with jumps to two labels: back to one, forward to another.
-/
import Derived.Test.YtbjiamakchklpaaLib
set_option linter.unusedVariables false
set_option linter.unusedSimpArgs false
namespace Go
open Go.RowKit
/-- As Q; by a goto to any label l: J l. -/
def Exit.jumps (J : Nat → Act → World → Prop) (Q : Exit → Act → World → Prop) : Exit → Act → World → Prop
  | .goto l, a, w => J l a w
  | e, a, w => Q e a w
section
variable {P : Program} {a : Act} {w : World} {Q : Exit → Act → World → Prop}
theorem wp_scope_many {c : Code} (rest : Nat → Code) (J : Nat → Act → World → Prop) (μ : Nat → Act → World → Nat) (hf : ∀ l a w, J l a w → findLabel c l = some (rest l))
    (first : c.wp P (Exit.jumps J Q) a w)
    (pass : ∀ l a w, J l a w → (rest l).wp P (Exit.jumps (fun l' a' w' => J l' a' w' ∧ μ l' a' w' < μ l a w) Q) a w) : (Code.scope c).wp P Q a w := by
  intro b k cs
  have key : ∀ n l a w, μ l a w = n → J l a w → ∃ e a' w', Q e a' w' ∧ Arrives P (lone (b.at a (.code (rest l) :: .inScope c :: k)) cs w) b k cs e a' w' := by
    intro n
    induction n using Nat.strongRecOn with
    | _ n ih =>
      intro l a w hn hJ
      obtain ⟨e, a₁, w₁, hq, harr⟩ := pass l a w hJ b (.inScope c :: k) cs
      cases e with
      | normal => exact ⟨.normal, a₁, w₁, hq, Steps.trans harr (.one step_inScope)⟩
      | exit id => exact ⟨.exit id, a₁, w₁, hq, fun k' hk => harr k' (by simp [exitTo, hk])⟩
      | goto l' =>
        obtain ⟨hJ', hlt⟩ := hq
        obtain ⟨e₂, a₂, w₂, hq₂, harr₂⟩ := ih _ (by omega) l' a₁ w₁ rfl hJ'
        have hg : gotoIn l' (.inScope c :: k) = some (.code (rest l') :: .inScope c :: k) := by simp [gotoIn, hf _ _ _ hJ']
        exact ⟨e₂, a₂, w₂, hq₂, .of_steps (harr _ hg) harr₂⟩
      | ret => exact ⟨_, a₁, w₁, hq, harr⟩
      | panic ch => exact ⟨_, a₁, w₁, hq, harr⟩
      | outgrown => exact ⟨_, a₁, w₁, hq, harr⟩
  obtain ⟨e, a₁, w₁, hq, harr⟩ := first b (.inScope c :: k) cs
  cases e with
  | normal => exact ⟨.normal, a₁, w₁, hq, .head step_scope (Steps.trans harr (.one step_inScope))⟩
  | exit id => exact ⟨.exit id, a₁, w₁, hq, fun k' hk => .head step_scope (harr k' (by simp [exitTo, hk]))⟩
  | goto l' =>
    have hJ' : J l' a₁ w₁ := hq
    have hg : gotoIn l' (.inScope c :: k) = some (.code (rest l') :: .inScope c :: k) := by simp [gotoIn, hf _ _ _ hJ']
    obtain ⟨e₂, a₂, w₂, hq₂, harr₂⟩ := key _ l' a₁ w₁ rfl hJ'
    exact ⟨e₂, a₂, w₂, hq₂, .of_steps (.head step_scope (harr _ hg)) harr₂⟩
  | ret => exact ⟨_, a₁, w₁, hq, .of_steps (.one step_scope) harr⟩
  | panic ch => exact ⟨_, a₁, w₁, hq, .of_steps (.one step_scope) harr⟩
  | outgrown => exact ⟨_, a₁, w₁, hq, .of_steps (.one step_scope) harr⟩
end
/-- As Q; by a goto to l: J; to b: B. -/
def Exit.two (l b : Nat) (J B : Act → World → Prop) (Q : Exit → Act → World → Prop) : Exit → Act → World → Prop
  | .goto l', a, w => if l' = l then J a w else if l' = b then B a w else False
  | e, a, w => Q e a w
section
variable {l b : Nat} {J B : Act → World → Prop} {Q : Exit → Act → World → Prop} {a : Act} {w : World}
@[go_sem] theorem Exit.two_normal : Exit.two l b J B Q .normal a w = Q .normal a w := rfl
@[go_sem] theorem Exit.two_exit (id : Nat) : Exit.two l b J B Q (.exit id) a w = Q (.exit id) a w := rfl
@[go_sem] theorem Exit.two_ret : Exit.two l b J B Q .ret a w = Q .ret a w := rfl
@[go_sem] theorem Exit.two_panic (ch : List PanicEntry) : Exit.two l b J B Q (.panic ch) a w = Q (.panic ch) a w := rfl
end
/-- Back to l (what holds there, with a measure: I), forward to b: the walk from b on is that of the code behind it. -/
theorem wp_goto_two {P : Program} {a : Act} {w : World} {Q : Exit → Act → World → Prop} {c rest restb : Code} (l b : Nat) (hlb : l ≠ b) (I : Nat → Act → World → Prop) (hf : findLabel c l = some (.seq .skip rest)) (hb : findLabel c b = some restb)
    (pass : ∀ n a w, I n a w → ∀ J B : Act → World → Prop, (∀ k a' w', k < n → I k a' w' → J a' w') → Hid (∀ a' w', restb.wp P (Exit.two l b (fun _ _ => False) (fun _ _ => False) Q) a' w' → B a' w') → rest.wp P (Exit.two l b J B Q) a w)
    (first : ∀ J B : Act → World → Prop, Hid (∀ n a w, I n a w → rest.wp P (Exit.two l b J B Q) a w) → Hid (∀ a' w', restb.wp P (Exit.two l b (fun _ _ => False) (fun _ _ => False) Q) a' w' → B a' w') → c.wp P (Exit.two l b J B Q) a w) : (Code.scope c).wp P Q a w := by
  have hlb' : ¬ b = l := fun h => hlb h.symm
  refine wp_scope_many (fun m => if m = l then .seq .skip rest else restb) (fun m a w => (m = l ∧ ∃ n, I n a w) ∨ (m = b ∧ restb.wp P (Exit.two l b (fun _ _ => False) (fun _ _ => False) Q) a w)) (fun m a w => if m = l then 1 + leastOf (fun n => I n a w) else 0) ?_ ?_ ?_
  · rintro m a w (⟨rfl, _⟩ | ⟨rfl, _⟩)
    · simpa using hf
    · simpa [hlb'] using hb
  · refine wp_mono (first (fun a w => ∃ n, I n a w) (fun a w => restb.wp P (Exit.two l b (fun _ _ => False) (fun _ _ => False) Q) a w) (Lib.hid fun n a w h => pass n a w h _ _ (fun k a' w' _ h => ⟨k, h⟩) (Lib.hid fun _ _ h => h)) (Lib.hid fun _ _ h => h)) ?_
    intro e a' w' hq
    cases e with
    | goto m =>
      by_cases h1 : m = l
      · subst h1
        have : ∃ n, I n a' w' := by simpa [Exit.two] using hq
        exact Or.inl ⟨rfl, this⟩
      · by_cases h2 : m = b
        · subst h2
          refine Or.inr ⟨rfl, ?_⟩
          have h3 : (if m = l then _ else if m = m then _ else False) := hq
          rwa [if_neg h1, if_pos rfl] at h3
        · have h3 : (if m = l then _ else if m = b then _ else False) := hq
          rw [if_neg h1, if_neg h2] at h3
          exact h3.elim
    | _ => exact hq
  · rintro m a w (⟨rfl, hI⟩ | ⟨rfl, hB⟩)
    · simp only [if_pos]
      refine wp_seq (wp_skip ?_)
      refine wp_mono (pass _ a w (leastOf_spec hI).1 (fun a' w' => ∃ k, k < leastOf (fun n => I n a w) ∧ I k a' w') (fun a w => restb.wp P (Exit.two m b (fun _ _ => False) (fun _ _ => False) Q) a w) (fun k a' w' hk h => ⟨k, hk, h⟩) (Lib.hid fun _ _ h => h)) ?_
      intro e a' w' hq
      cases e with
      | goto x =>
        by_cases h1 : x = m
        · subst h1
          have h3 : ∃ k, k < leastOf (fun n => I n a w) ∧ I k a' w' := by simpa [Exit.two] using hq
          obtain ⟨k, hk, hIk⟩ := h3
          refine ⟨Or.inl ⟨rfl, k, hIk⟩, ?_⟩
          have := (leastOf_spec (p := fun n => I n a' w') ⟨k, hIk⟩).2 k hIk
          simp only [if_pos]
          omega
        · by_cases h2 : x = b
          · subst h2
            have h3 : (if x = m then _ else if x = x then _ else False) := hq
            rw [if_neg h1, if_pos rfl] at h3
            refine ⟨Or.inr ⟨rfl, h3⟩, ?_⟩
            simp only [if_neg hlb', if_pos]
            omega
          · have h3 : (if x = m then _ else if x = b then _ else False) := hq
            rw [if_neg h1, if_neg h2] at h3
            exact h3.elim
      | _ => exact hq
    · simp only [if_neg hlb']
      refine wp_mono hB ?_
      intro e a' w' hq
      cases e with
      | goto x =>
        have h3 : (if x = l then False else if x = m then False else False) := hq
        split at h3
        · exact h3.elim
        · split at h3 <;> exact h3.elim
      | _ => exact hq
end Go
