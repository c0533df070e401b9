/-
  Runes of a text: the model's decoding and the document's first rune, in plain terms.
-/
import Derived.Test.YtbjiamakchklpaaLib
import Derived.Laws.RangeAny
set_option linter.unusedVariables false
set_option linter.unusedSimpArgs false
namespace Go
open Go.RowKit
/-- The byte at a place, as a number. -/
def byt (s : ByteArray) (i : Nat) : Nat := (s.get! i).toNat
theorem byt_lt (s : ByteArray) (i : Nat) : byt s i < 256 := (s.get! i).toNat_lt
/-- Is there a byte that goes on with a rune? -/
def cont (s : ByteArray) (i : Nat) : Bool := decide (i < s.size) && decide (128 ≤ byt s i) && decide (byt s i < 192)
/-- Where no rune begins. -/
def badAt (s : ByteArray) (i : Nat) : Bool := decide (Utf8.decode s i = (65533, 1))
/-- The document's first rune from a place on, and how many bytes it has; (0, 0): there is none. -/
def firstF (s : ByteArray) (i : Nat) : Nat × Nat := if badAt s i then (0, 0) else Utf8.decode s i
theorem cont_eq (s : ByteArray) (i : Nat) : (decide (i < s.size) && ((s.get! i).toNat / 64 == 2)) = cont s i := by
  have h := byt_lt s i
  unfold cont byt at *
  rw [Bool.and_assoc]
  congr 1
  rw [Bool.eq_iff_iff]
  simp
  omega
theorem decode_eq (s : ByteArray) (i : Nat) : Utf8.decode s i =
    (if byt s i < 128 then (byt s i, 1)
     else if 192 ≤ byt s i ∧ byt s i < 224 ∧ cont s (i + 1) = true then (if 128 ≤ (byt s i - 192) * 64 + (byt s (i + 1) - 128) then ((byt s i - 192) * 64 + (byt s (i + 1) - 128), 2) else (65533, 1))
     else if 224 ≤ byt s i ∧ byt s i < 240 ∧ cont s (i + 1) = true ∧ cont s (i + 2) = true then
       (if 2048 ≤ (byt s i - 224) * 4096 + (byt s (i + 1) - 128) * 64 + (byt s (i + 2) - 128) ∧ ¬ (55296 ≤ (byt s i - 224) * 4096 + (byt s (i + 1) - 128) * 64 + (byt s (i + 2) - 128) ∧ (byt s i - 224) * 4096 + (byt s (i + 1) - 128) * 64 + (byt s (i + 2) - 128) ≤ 57343)
        then ((byt s i - 224) * 4096 + (byt s (i + 1) - 128) * 64 + (byt s (i + 2) - 128), 3) else (65533, 1))
     else if 240 ≤ byt s i ∧ byt s i < 248 ∧ cont s (i + 1) = true ∧ cont s (i + 2) = true ∧ cont s (i + 3) = true then
       (if 65536 ≤ (byt s i - 240) * 262144 + (byt s (i + 1) - 128) * 4096 + (byt s (i + 2) - 128) * 64 + (byt s (i + 3) - 128) ∧ (byt s i - 240) * 262144 + (byt s (i + 1) - 128) * 4096 + (byt s (i + 2) - 128) * 64 + (byt s (i + 3) - 128) ≤ 1114111
        then ((byt s i - 240) * 262144 + (byt s (i + 1) - 128) * 4096 + (byt s (i + 2) - 128) * 64 + (byt s (i + 3) - 128), 4) else (65533, 1))
     else (65533, 1)) := by
  have h0 := byt_lt s i
  have h1 := byt_lt s (i + 1)
  have h2 := byt_lt s (i + 2)
  have h3 := byt_lt s (i + 3)
  unfold Utf8.decode
  simp only [cont_eq, Nat.add_zero, Utf8.runeError]
  show (if (byt s i) < 128 then _ else _) = _
  have hm : ∀ k, cont s k = true → 128 ≤ byt s k ∧ byt s k < 192 := by
    intro k h
    unfold cont at h
    simp only [Bool.and_eq_true, decide_eq_true_eq] at h
    omega
  by_cases c0 : byt s i < 128
  · rw [if_pos c0, if_pos c0]; rfl
  rw [if_neg c0, if_neg c0]
  by_cases c1 : 192 ≤ byt s i ∧ byt s i < 224 ∧ cont s (i + 1) = true
  · rw [if_pos c1]
    have d1 : ((s.get! i).toNat / 32 == 6 && cont s (i + 1)) = true := by
      rw [c1.2.2, Bool.and_true, beq_iff_eq]; show byt s i / 32 = 6; omega
    rw [if_pos d1]
    have := hm _ c1.2.2
    show (if byt s i % 32 * 64 + byt s (i + 1) % 64 ≥ 128 then (byt s i % 32 * 64 + byt s (i + 1) % 64, 2) else (65533, 1)) = _
    rw [show byt s i % 32 * 64 + byt s (i + 1) % 64 = (byt s i - 192) * 64 + (byt s (i + 1) - 128) by omega]
  · rw [if_neg c1]
    have d1 : ¬ ((s.get! i).toNat / 32 == 6 && cont s (i + 1)) = true := by
      intro h
      rw [Bool.and_eq_true, beq_iff_eq] at h
      have hb : byt s i / 32 = 6 := h.1
      exact c1 ⟨by omega, by omega, h.2⟩
    rw [if_neg d1]
    by_cases c2 : 224 ≤ byt s i ∧ byt s i < 240 ∧ cont s (i + 1) = true ∧ cont s (i + 2) = true
    · rw [if_pos c2]
      have d2 : ((s.get! i).toNat / 16 == 14 && cont s (i + 1) && cont s (i + 2)) = true := by
        rw [c2.2.2.1, c2.2.2.2, Bool.and_true, Bool.and_true, beq_iff_eq]; show byt s i / 16 = 14; omega
      rw [if_pos d2]
      have e1 := hm _ c2.2.2.1
      have e2 := hm _ c2.2.2.2
      show (if (decide (byt s i % 16 * 4096 + byt s (i + 1) % 64 * 64 + byt s (i + 2) % 64 ≥ 2048) && Utf8.valid ((byt s i % 16 * 4096 + byt s (i + 1) % 64 * 64 + byt s (i + 2) % 64 : Nat) : Int)) = true then (byt s i % 16 * 4096 + byt s (i + 1) % 64 * 64 + byt s (i + 2) % 64, 3) else (65533, 1)) = _
      rw [show byt s i % 16 * 4096 + byt s (i + 1) % 64 * 64 + byt s (i + 2) % 64 = (byt s i - 224) * 4096 + (byt s (i + 1) - 128) * 64 + (byt s (i + 2) - 128) by omega]
      have hb : (byt s i - 224) * 4096 + (byt s (i + 1) - 128) * 64 + (byt s (i + 2) - 128) < 65536 := by omega
      generalize (byt s i - 224) * 4096 + (byt s (i + 1) - 128) * 64 + (byt s (i + 2) - 128) = r at *
      congr 1
      rw [Bool.and_eq_true]
      simp only [Utf8.valid, decide_eq_true_eq, Bool.or_eq_true, Bool.and_eq_true, ge_iff_le, eq_iff_iff]
      omega
    · rw [if_neg c2]
      have d2 : ¬ ((s.get! i).toNat / 16 == 14 && cont s (i + 1) && cont s (i + 2)) = true := by
        intro h
        rw [Bool.and_eq_true, Bool.and_eq_true, beq_iff_eq] at h
        have hb : byt s i / 16 = 14 := h.1.1
        exact c2 ⟨by omega, by omega, h.1.2, h.2⟩
      rw [if_neg d2]
      by_cases c3 : 240 ≤ byt s i ∧ byt s i < 248 ∧ cont s (i + 1) = true ∧ cont s (i + 2) = true ∧ cont s (i + 3) = true
      · rw [if_pos c3]
        have d3 : ((s.get! i).toNat / 8 == 30 && cont s (i + 1) && cont s (i + 2) && cont s (i + 3)) = true := by
          rw [c3.2.2.1, c3.2.2.2.1, c3.2.2.2.2, Bool.and_true, Bool.and_true, Bool.and_true, beq_iff_eq]; show byt s i / 8 = 30; omega
        rw [if_pos d3]
        have e1 := hm _ c3.2.2.1
        have e2 := hm _ c3.2.2.2.1
        have e3 := hm _ c3.2.2.2.2
        show (if (decide (byt s i % 8 * 262144 + byt s (i + 1) % 64 * 4096 + byt s (i + 2) % 64 * 64 + byt s (i + 3) % 64 ≥ 65536) && Utf8.valid ((byt s i % 8 * 262144 + byt s (i + 1) % 64 * 4096 + byt s (i + 2) % 64 * 64 + byt s (i + 3) % 64 : Nat) : Int)) = true then (byt s i % 8 * 262144 + byt s (i + 1) % 64 * 4096 + byt s (i + 2) % 64 * 64 + byt s (i + 3) % 64, 4) else (65533, 1)) = _
        rw [show byt s i % 8 * 262144 + byt s (i + 1) % 64 * 4096 + byt s (i + 2) % 64 * 64 + byt s (i + 3) % 64 = (byt s i - 240) * 262144 + (byt s (i + 1) - 128) * 4096 + (byt s (i + 2) - 128) * 64 + (byt s (i + 3) - 128) by omega]
        generalize (byt s i - 240) * 262144 + (byt s (i + 1) - 128) * 4096 + (byt s (i + 2) - 128) * 64 + (byt s (i + 3) - 128) = r at *
        congr 1
        rw [Bool.and_eq_true]
        simp only [Utf8.valid, decide_eq_true_eq, Bool.or_eq_true, Bool.and_eq_true, ge_iff_le, eq_iff_iff]
        omega
      · rw [if_neg c3]
        have d3 : ¬ ((s.get! i).toNat / 8 == 30 && cont s (i + 1) && cont s (i + 2) && cont s (i + 3)) = true := by
          intro h
          rw [Bool.and_eq_true, Bool.and_eq_true, Bool.and_eq_true, beq_iff_eq] at h
          have hb : byt s i / 8 = 30 := h.1.1.1
          exact c3 ⟨by omega, by omega, h.1.1.2, h.1.2, h.2⟩
        rw [if_neg d3]
end Go
