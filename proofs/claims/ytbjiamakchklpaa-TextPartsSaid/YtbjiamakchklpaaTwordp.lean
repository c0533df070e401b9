/-
  Plain: a line's first word.
-/
import Derived.Test.YtbjiamakchklpaaTunqp
import Derived.Test.YtbjiamakchklpaaTcount
import Derived.Lib.IndexLaws
set_option linter.unusedVariables false
set_option linter.unusedSimpArgs false
set_option maxRecDepth 100000
namespace Go
open Go.RowKit
theorem unqF_le (s : ByteArray) : ∀ (f p : Nat) (acc : List UInt8), (unqF s f p acc).2.2 = 0 → p < (unqF s f p acc).2.1 ∧ (unqF s f p acc).2.1 ≤ s.size := by
  intro f
  induction f with
  | zero => intro p acc h; cases h
  | succ f ih =>
    intro p acc h
    by_cases hp : p < s.size
    · have hw := decode_wid hp
      have he := esc_ok (s.extract (p + 1) s.size)
      have hes := esc_err (s.extract (p + 1) s.size)
      unfold unqF at h ⊢
      rw [if_pos hp] at h ⊢
      split
      · rename_i h1; rw [if_pos h1] at h; cases h
      · rename_i h1
        rw [if_neg h1] at h
        split
        · dsimp only; omega
        · rename_i h2
          rw [if_neg h2] at h
          split
          · rename_i h3
            rw [if_pos h3] at h
            split
            · rename_i h4
              rw [if_pos h4] at h
              have := ih _ _ h
              have hk := he h4
              omega
            · rename_i h4
              rw [if_neg h4] at h
              exact absurd h h4
          · rename_i h3
            rw [if_neg h3] at h
            split
            · rename_i h4; rw [if_pos h4] at h; cases h
            · rename_i h4
              rw [if_neg h4] at h
              have := ih _ _ h
              omega
    · rw [unqF_end s _ p acc hp] at h; cases h
theorem unquoteF_le (s : ByteArray) (h : (unquoteF s).2.2 = 0) : 1 < (unquoteF s).2.1 ∧ (unquoteF s).2.1 ≤ s.size := by
  unfold unquoteF at h ⊢
  split
  · rename_i h1; rw [if_pos h1] at h; cases h
  · rename_i h1
    rw [if_neg h1] at h
    split
    · rename_i h2; rw [if_pos h2] at h; cases h
    · rename_i h2
      rw [if_neg h2] at h
      exact unqF_le s _ _ _ h
theorem unqF_err (s : ByteArray) : ∀ (f p : Nat) (acc : List UInt8), (unqF s f p acc).2.2 ≤ 13 := by
  intro f
  induction f with
  | zero => intro p acc; simp [unqF]
  | succ f ih =>
    intro p acc
    have hes := esc_err (s.extract (p + 1) s.size)
    unfold unqF
    repeat' split
    all_goals first | exact ih _ _ | (dsimp only; omega)
/-- How far a line's first word goes, where it is not quoted. -/
def endF (t : ByteArray) : Nat := if Lib.indexByte t.data.toList 32 < 0 then t.size else (Lib.indexByte t.data.toList 32).toNat
theorem idx_cases (t : ByteArray) (c : UInt8) : (Lib.indexByte t.data.toList c = -1 ∧ ∀ k, k < t.size → byt t k ≠ c.toNat) ∨ (∃ n : Nat, Lib.indexByte t.data.toList c = (n : Int) ∧ n < t.size ∧ byt t n = c.toNat ∧ ∀ k, k < n → byt t k ≠ c.toNat) := by
  have hge := Lib.indexByte_ge t.data.toList c
  rcases Int.lt_or_le (Lib.indexByte t.data.toList c) 0 with h | h
  · have h1 : Lib.indexByte t.data.toList c = -1 := by omega
    refine .inl ⟨h1, fun k hk hb => ?_⟩
    exact Lib.indexByte_none h1 k (get_byt.2 ⟨hk, hb⟩)
  · obtain ⟨n, hn⟩ : ∃ n : Nat, Lib.indexByte t.data.toList c = n := ⟨_, (Int.toNat_of_nonneg h).symm⟩
    obtain ⟨h1, h2⟩ := Lib.indexByte_some hn
    have h3 := get_byt.1 h1
    refine .inr ⟨n, hn, h3.1, h3.2, fun k hk hb => ?_⟩
    exact h2 k hk (get_byt.2 ⟨by omega, hb⟩)
theorem endF_spec (t : ByteArray) : endF t ≤ t.size ∧ (∀ k, k < endF t → byt t k ≠ 32) ∧ (endF t < t.size → byt t (endF t) = 32) := by
  unfold endF
  rcases idx_cases t 32 with ⟨h1, h2⟩ | ⟨n, h1, h2, h3, h4⟩
  · rw [h1, if_pos (by decide)]
    exact ⟨Nat.le_refl _, h2, fun h => absurd h (Nat.lt_irrefl _)⟩
  · rw [h1, if_neg (by omega), Int.toNat_natCast]
    exact ⟨Nat.le_of_lt h2, h4, fun _ => h3⟩
theorem endF_unique (t : ByteArray) (n : Nat) (h1 : n ≤ t.size) (h2 : ∀ k, k < n → byt t k ≠ 32) (h3 : n < t.size → byt t n = 32) : n = endF t := by
  obtain ⟨g1, g2, g3⟩ := endF_spec t
  rcases Nat.lt_trichotomy n (endF t) with h | h | h
  · exact absurd (h3 (by omega)) (g2 n h)
  · exact h
  · exact absurd (g3 (by omega)) (h2 _ h)
/-- Is there a '"' ahead of a place? -/
def has34 (t : ByteArray) (n : Nat) : Bool := decide (∃ k, k < n ∧ byt t k = 34)
theorem pre_size (t : ByteArray) (n : Nat) (h : n ≤ t.size) : (t.extract 0 n).size = n := by
  simp [ByteArray.size_extract]; omega
theorem pre_get (t : ByteArray) (n k : Nat) (h : n ≤ t.size) (hk : k < n) : (t.extract 0 n).get! k = t.get! k := by
  have h1 : k < (t.extract 0 n).size := by rw [pre_size t n h]; omega
  have e1 := get_lt h1
  have e2 := get_lt (s := t) (i := k) (by omega)
  have : (t.extract 0 n).data.toList[k]? = t.data.toList[k]? := by
    rw [Array.getElem?_toList, Array.getElem?_toList, ByteArray.data_extract, Array.getElem?_extract]
    have hs : t.data.size = t.size := rfl
    rw [hs, if_pos (by omega), Nat.zero_add]
  rw [this, e2] at e1
  exact (Option.some.inj e1).symm
theorem pre_byt (t : ByteArray) (n k : Nat) (h : n ≤ t.size) (hk : k < n) : byt (t.extract 0 n) k = byt t k := by
  unfold byt; rw [pre_get t n k h hk]
theorem has34_eq (t : ByteArray) (n : Nat) (h : n ≤ t.size) : decide (0 ≤ Lib.indexByte (t.extract 0 n).data.toList 34) = has34 t n := by
  unfold has34
  rw [decide_eq_decide]
  have hs := pre_size t n h
  rcases idx_cases (t.extract 0 n) 34 with ⟨h1, h2⟩ | ⟨m, h1, h2, h3, h4⟩
  · rw [h1]
    constructor
    · intro h; omega
    · rintro ⟨k, hk, hb⟩
      exact absurd (by rw [pre_byt t n k h hk]; exact hb) (h2 k (by omega))
  · rw [h1]
    constructor
    · intro _; rw [hs] at h2; exact ⟨m, h2, by rw [← pre_byt t n m h h2]; exact h3⟩
    · intro _; omega
/-- A line's first word: its text, was it quoted, its bytes, the error. -/
def wordF (t : ByteArray) : List UInt8 × Bool × Nat × Nat :=
  if 0 < t.size ∧ byt t 0 = 34 then
    (if (unquoteF t).2.2 ≠ 0 then ([], false, 0, (unquoteF t).2.2)
     else if (unquoteF t).2.1 < t.size ∧ byt t (unquoteF t).2.1 ≠ 32 then ([], false, 0, 3)
     else ((unquoteF t).1, true, (unquoteF t).2.1, 0))
  else if endF t = 0 ∨ has34 t (endF t) = true then ([], false, 0, 3)
  else if rightF (t.extract 0 (endF t)) = false then ([], false, 0, 13)
  else ((t.extract 0 (endF t)).data.toList, false, endF t, 0)
theorem pre_34 (t : ByteArray) : Lib.hasPrefix t.data.toList [34] = decide (0 < t.size ∧ byt t 0 = 34) := by
  unfold Lib.hasPrefix
  have hb : t.data.toList[0]? = some 34 ↔ 0 < t.size ∧ byt t 0 = 34 := by
    rw [get_byt]; exact Iff.rfl
  cases hl : t.data.toList with
  | nil =>
    rw [hl] at hb
    have hn : ¬ (0 < t.size ∧ byt t 0 = 34) := fun h => by have := hb.2 h; simp at this
    simp [List.isPrefixOf, hn]
  | cons x l =>
    rw [hl] at hb
    simp only [List.getElem?_cons_zero, Option.some.injEq] at hb
    simp only [List.isPrefixOf, Bool.and_true]
    rw [Bool.eq_iff_iff, decide_eq_true_eq, ← hb, beq_iff_eq]
    exact eq_comm
end Go
