/-
  Fields of messages: plain functions, and what they obey.
-/
import Derived.Test.YtoicahfpnnhgpaaVmath
namespace Go.Proto
open Go.Vint

/-- The number that bytes make, the lowest first. -/
def le : List Int → Int
  | [] => 0
  | x :: l => x + 256 * le l

/-- A field: number, kind, value, bytes. -/
structure Fld where
  num : Int
  kind : Int
  n : Int
  bs : List Int

def Fld.zero : Fld := ⟨0, 0, 0, []⟩

/-- What a field's kind makes of what stands behind its key at place p. -/
def body (b : List Int) (key : Int) (p : Nat) : Fld × Int × Int :=
  if key % 8 = 0 ∨ key % 8 = 2 then
    if (rd (b.drop p)).2.2 = 0 then
      if key % 8 = 0 then (⟨key / 8, 0, (rd (b.drop p)).1, []⟩, (p : Int) + (rd (b.drop p)).2.1, 0)
      else if (b.length : Int) - ((p : Int) + (rd (b.drop p)).2.1) < (rd (b.drop p)).1 then (Fld.zero, 0, 4)
      else (⟨key / 8, 2, 0, (b.drop (p + (rd (b.drop p)).2.1.toNat)).take (rd (b.drop p)).1.toNat⟩, (p : Int) + (rd (b.drop p)).2.1 + (rd (b.drop p)).1, 0)
    else (Fld.zero, 0, (rd (b.drop p)).2.2)
  else if key % 8 = 1 then (if (b.length : Int) - p < 8 then (Fld.zero, 0, 4) else (⟨key / 8, 1, le ((b.drop p).take 8), []⟩, (p : Int) + 8, 0))
  else if key % 8 = 5 then (if (b.length : Int) - p < 4 then (Fld.zero, 0, 4) else (⟨key / 8, 5, le ((b.drop p).take 4), []⟩, (p : Int) + 4, 0))
  else (Fld.zero, 0, 14)

/-- The field that bytes begin with, how many these are, the error. -/
def prd (b : List Int) : Fld × Int × Int :=
  if (rd b).2.2 = 0 then (if (rd b).1 / 8 < 1 ∨ 536870911 < (rd b).1 / 8 then (Fld.zero, 0, 5) else body b (rd b).1 (rd b).2.1.toNat)
  else (Fld.zero, 0, (rd b).2.2)

theorem le_bd (l : List Int) (h : ∀ x ∈ l, 0 ≤ x ∧ x ≤ 255) : 0 ≤ le l ∧ le l < 256 ^ l.length := by
  induction l with
  | nil => simp [le]
  | cons x l ih =>
    have hx := h x (by simp)
    have := ih (fun y hy => h y (by simp [hy]))
    simp only [le, List.length_cons, Int.pow_succ]
    omega

theorem le_drop (l : List Int) (i : Nat) (h : i < l.length) : le (l.drop i) = l[i] + 256 * le (l.drop (i + 1)) := by
  rw [List.drop_eq_getElem_cons h, le]

theorem le_8 (l : List Int) (h : ∀ x ∈ l, 0 ≤ x ∧ x ≤ 255) (k : Nat) (hk : l.length ≤ k) (h8 : k ≤ 8) : 0 ≤ le l ∧ le l < 256 ^ k := by
  have h1 := le_bd l h
  have h2 : (256 : Int) ^ l.length ≤ 256 ^ k := by
    obtain ⟨d, rfl⟩ : ∃ d, k = l.length + d := ⟨k - l.length, by omega⟩
    rw [Int.pow_add]
    have h3 : (1 : Int) ≤ 256 ^ d := Int.pow_pos (by decide)
    have h4 : (0 : Int) ≤ 256 ^ l.length := Int.le_of_lt (Int.pow_pos (by decide))
    have := Int.mul_le_mul_of_nonneg_left h3 h4
    simpa using this
  omega
end Go.Proto
