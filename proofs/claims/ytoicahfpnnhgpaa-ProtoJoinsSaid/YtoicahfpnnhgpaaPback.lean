/-
  What was written is read again: plain.
-/
import Derived.Test.YtoicahfpnnhgpaaPall
import Derived.Test.YtoicahfpnnhgpaaPwrite
set_option linter.unusedVariables false
set_option linter.unusedSimpArgs false
namespace Go.Proto
open Go.Vint

theorem le_low (k : Nat) : ∀ (n : Int), 0 ≤ n → n < 256 ^ k → le (low n k) = n := by
  induction k with
  | zero => intro n h0 h1; simp at h1; simp [low, le]; omega
  | succ k ih =>
    intro n h0 h1
    rw [low, le, ih (n / 256) (by omega) (by rw [Int.pow_succ] at h1; omega)]
    omega

theorem prd_fby (f : Fld) (hc : chk f = 0) (h0 : 0 ≤ f.n) (h1 : f.n ≤ 18446744073709551615) (hl : f.bs.length ≤ 1000000) (t : List Int) : prd (fby f ++ t) = (f, ((fby f).length : Int), 0) := by
  obtain ⟨num, kind, n, bs⟩ := f
  dsimp only at h0 h1 hl
  unfold chk at hc
  dsimp only at hc
  split at hc
  · omega
  · rename_i a1
    split at hc
    · omega
    · rename_i a2
      split at hc
      · omega
      · rename_i a3
        split at hc
        · omega
        · rename_i a4
          have hkey : rd (vb (8 * num + kind) ++ (tail ⟨num, kind, n, bs⟩ ++ t)) = (8 * num + kind, ((vb (8 * num + kind)).length : Int), 0) := rd_vb _ (by omega) (by omega) _
          unfold fby
          dsimp only
          rw [List.append_assoc]
          unfold prd
          rw [hkey]
          obtain ⟨K, hK⟩ : ∃ K, vb (8 * num + kind) = K := ⟨_, rfl⟩
          rw [hK]
          have hd : (K ++ (tail ⟨num, kind, n, bs⟩ ++ t)).drop K.length = tail ⟨num, kind, n, bs⟩ ++ t := List.drop_left
          simp only [if_true]
          rw [if_neg (by omega)]
          unfold body
          simp only [Int.toNat_natCast]
          rw [hd]
          have hm : (8 * num + kind) % 8 = kind := by omega
          have hq : (8 * num + kind) / 8 = num := by omega
          rw [hm, hq]
          rcases (by omega : kind = 0 ∨ kind = 1 ∨ kind = 2 ∨ kind = 5) with rfl | rfl | rfl | rfl
          · have hbs : bs = [] := by
              by_cases h : bs = []
              · exact h
              · exact absurd (Or.inr ⟨by decide, h⟩) a3
            subst hbs
            simp only [tail, if_true, true_or]
            rw [rd_vb n h0 h1]
            simp
          · have hbs : bs = [] := by
              by_cases h : bs = []
              · exact h
              · exact absurd (Or.inr ⟨by decide, h⟩) a3
            subst hbs
            have ht : tail ⟨num, 1, n, []⟩ = low n 8 := by simp [tail]
            rw [ht, if_neg (by omega), if_pos rfl]
            rw [if_neg (by simp [low_len]; omega)]
            have : (low n 8 ++ t).take 8 = low n 8 := by rw [List.take_append_of_le_length (by rw [low_len]; omega), List.take_of_length_le (by rw [low_len]; omega)]
            rw [this, le_low 8 n h0 (by omega)]
            simp [low_len]
          · have hn : n = 0 := by
              by_cases h : 0 < n
              · exact absurd (Or.inl ⟨rfl, h⟩) a3
              · omega
            subst hn
            have ht : tail ⟨num, 2, 0, bs⟩ = vb bs.length ++ bs := by simp [tail]
            rw [ht, if_pos (by omega), List.append_assoc, rd_vb (bs.length : Int) (by omega) (by omega)]
            simp only [if_true]
            rw [if_neg (by omega)]
            simp only [Int.toNat_natCast]
            rw [if_neg (by simp; omega)]
            have hdd : (K ++ (vb (bs.length : Int) ++ (bs ++ t))).drop (K.length + (vb (bs.length : Int)).length) = bs ++ t := by
              rw [← List.drop_drop, List.drop_left, List.drop_left]
            rw [hdd, List.take_left]
            simp
            omega
          · have hbs : bs = [] := by
              by_cases h : bs = []
              · exact h
              · exact absurd (Or.inr ⟨by decide, h⟩) a3
            subst hbs
            have hn4 : n < 256 ^ 4 := by
              by_cases h : 4294967295 < n
              · exact absurd ⟨rfl, h⟩ a4
              · omega
            have ht : tail ⟨num, 5, n, []⟩ = low n 4 := by simp [tail]
            rw [ht, if_neg (by omega), if_neg (by omega), if_pos rfl]
            rw [if_neg (by simp [low_len]; omega)]
            have : (low n 4 ++ t).take 4 = low n 4 := by rw [List.take_append_of_le_length (by rw [low_len]; omega), List.take_of_length_le (by rw [low_len]; omega)]
            rw [this, le_low 4 n h0 hn4]
            simp [low_len]

theorem fby_pos (f : Fld) : 1 ≤ (fby f).length := by
  unfold fby
  rw [List.length_append]
  have := vb_pos (8 * f.num + f.kind)
  omega

theorem fbys_len_ge (l : List Fld) : l.length ≤ (l.flatMap fby).length := by
  induction l with
  | nil => simp
  | cons f l ih => rw [List.flatMap_cons, List.length_append, List.length_cons]; have := fby_pos f; omega

theorem pallF_fby : ∀ (l acc : List Fld) (f : Nat), l.length < f → (∀ x ∈ l, chk x = 0 ∧ 0 ≤ x.n ∧ x.n ≤ 18446744073709551615 ∧ x.bs.length ≤ 1000000) →
    pallF f (acc.flatMap fby ++ l.flatMap fby) (acc.flatMap fby).length acc = (acc ++ l, 0, 0) := by
  intro l
  induction l with
  | nil =>
    intro acc f hf _
    obtain ⟨f, rfl⟩ : ∃ g, f = g + 1 := ⟨f - 1, by simp at hf; omega⟩
    rw [pallF_end _ _ _ _ (by simp)]
    simp
  | cons x l ih =>
    intro acc f hf hx
    obtain ⟨f, rfl⟩ : ∃ g, f = g + 1 := ⟨f - 1, by simp at hf; omega⟩
    obtain ⟨c1, c2, c3, c4⟩ := hx x (by simp)
    have hd : (acc.flatMap fby ++ (x :: l).flatMap fby).drop (acc.flatMap fby).length = fby x ++ l.flatMap fby := by rw [List.drop_left, List.flatMap_cons]
    have hp := prd_fby x c1 c2 c3 c4 (l.flatMap fby)
    rw [pallF_step f _ _ _ (by rw [List.length_append, List.flatMap_cons, List.length_append]; have := fby_pos x; omega) (by rw [hd, hp])]
    rw [hd, hp]
    have := ih (acc ++ [x]) f (by simp at hf; omega) (fun y hy => hx y (by simp [hy]))
    simp only [List.flatMap_append, List.flatMap_cons, List.flatMap_nil, List.append_nil, List.length_append, List.append_assoc] at this
    simp only [Int.toNat_natCast, List.flatMap_cons]
    rw [this]
    simp

theorem pall_fby (l : List Fld) (hx : ∀ x ∈ l, chk x = 0 ∧ 0 ≤ x.n ∧ x.n ≤ 18446744073709551615 ∧ x.bs.length ≤ 1000000) : pall (l.flatMap fby) = (l, 0, 0) := by
  have := pallF_fby l [] ((l.flatMap fby).length + 1) (by have := fbys_len_ge l; omega) hx
  simpa [pall] using this

theorem low_bd (k : Nat) : ∀ (n : Int), ∀ x ∈ low n k, 0 ≤ x ∧ x ≤ 255 := by
  induction k with
  | zero => intro n x hx; simp [low] at hx
  | succ k ih =>
    intro n x hx
    rw [low] at hx
    rcases List.mem_cons.1 hx with rfl | hx
    · omega
    · exact ih _ x hx

theorem fby_bd (f : Fld) (hc : chk f = 0) (h0 : 0 ≤ f.n) (hb : ∀ x ∈ f.bs, 0 ≤ x ∧ x ≤ 255) : ∀ x ∈ fby f, 0 ≤ x ∧ x ≤ 255 := by
  have hk : 0 ≤ 8 * f.num + f.kind := by
    unfold chk at hc
    split at hc
    · omega
    · split at hc
      · omega
      · omega
  intro x hx
  unfold fby tail at hx
  rcases List.mem_append.1 hx with hx | hx
  · exact vb_bd _ hk x hx
  · split at hx
    · exact vb_bd _ h0 x hx
    · split at hx
      · exact low_bd _ _ x hx
      · split at hx
        · exact low_bd _ _ x hx
        · rcases List.mem_append.1 hx with hx | hx
          · exact vb_bd _ (by omega) x hx
          · exact hb x hx

end Go.Proto
namespace Go.Proto
theorem pwrF_zero : ∀ (l : List Fld) (acc : List Int), (pwrF acc l).2 = 0 → ∀ f ∈ l, chk f = 0 := by
  intro l
  induction l with
  | nil => intro acc _ f hf; simp at hf
  | cons g l ih =>
    intro acc h f hf
    rw [pwrF] at h
    by_cases hg : chk g = 0
    · rw [if_pos hg] at h
      rcases List.mem_cons.1 hf with rfl | hf
      · exact hg
      · exact ih _ h f hf
    · rw [if_neg hg] at h
      exact absurd h hg
theorem fbys_len (l : List Fld) (m : Nat) (hm : m ≤ 1000000) (h : ∀ f ∈ l, chk f = 0 ∧ 0 ≤ f.n ∧ f.n ≤ 18446744073709551615 ∧ f.bs.length ≤ m) : (l.flatMap fby).length ≤ (m + 20) * l.length := by
  induction l with
  | nil => simp
  | cons f l ih =>
    obtain ⟨a1, a2, a3, a4⟩ := h f (by simp)
    have h1 := fby_len f a1 a2 a3 (by omega)
    have h2 := ih (fun g hg => h g (by simp [hg]))
    rw [List.flatMap_cons, List.length_append, List.length_cons, Nat.mul_succ]
    omega
end Go.Proto
