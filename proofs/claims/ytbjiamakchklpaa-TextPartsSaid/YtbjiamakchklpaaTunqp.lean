/-
  Plain: the text whose quoted form comes first.
-/
import Derived.Test.YtbjiamakchklpaaTenc
import Derived.Test.YtbjiamakchklpaaTesc
set_option linter.unusedVariables false
set_option linter.unusedSimpArgs false
set_option maxRecDepth 100000
namespace Go
open Go.RowKit
/-- From a place on, what has been read so far in front: the text, the bytes, the error. -/
def unqF (s : ByteArray) : Nat → Nat → List UInt8 → List UInt8 × Nat × Nat
  | 0, _, _ => ([], 0, 4)
  | f + 1, p, acc =>
    if p < s.size then
      if badAt s p then ([], 0, 13)
      else if (Utf8.decode s p).1 = 34 then (acc, p + 1, 0)
      else if (Utf8.decode s p).1 = 92 then
        (if (escF (s.extract (p + 1) s.size)).2.2 = 0 then unqF s f (p + 1 + (escF (s.extract (p + 1) s.size)).2.1) (acc ++ [(escF (s.extract (p + 1) s.size)).1.toUInt8])
         else ([], 0, (escF (s.extract (p + 1) s.size)).2.2))
      else if (Utf8.decode s p).1 < 32 ∨ (Utf8.decode s p).1 = 127 then ([], 0, 3)
      else unqF s f (p + (Utf8.decode s p).2) (acc ++ bts s p (Utf8.decode s p).2)
    else ([], 0, 4)
/-- The text whose quoted form comes first. -/
def unquoteF (s : ByteArray) : List UInt8 × Nat × Nat :=
  if s.size = 0 then ([], 0, 4) else if byt s 0 ≠ 34 then ([], 0, 3) else unqF s s.size 1 []
theorem unqF_end (s : ByteArray) (f p : Nat) (acc : List UInt8) (h : ¬ p < s.size) : unqF s f p acc = ([], 0, 4) := by
  cases f <;> simp [unqF, h]
theorem unqF_bad {s : ByteArray} {f p : Nat} {acc : List UInt8} (h : p < s.size) (h1 : badAt s p = true) : unqF s (f + 1) p acc = ([], 0, 13) := by
  simp [unqF, h, h1]
theorem unqF_shut {s : ByteArray} {f p : Nat} {acc : List UInt8} (h : p < s.size) (h1 : badAt s p = false) (h2 : (Utf8.decode s p).1 = 34) : unqF s (f + 1) p acc = (acc, p + 1, 0) := by
  simp [unqF, h, h1, h2]
theorem unqF_esc {s : ByteArray} {f p : Nat} {acc : List UInt8} (h : p < s.size) (h1 : badAt s p = false) (h2 : (Utf8.decode s p).1 = 92) : unqF s (f + 1) p acc =
    (if (escF (s.extract (p + 1) s.size)).2.2 = 0 then unqF s f (p + 1 + (escF (s.extract (p + 1) s.size)).2.1) (acc ++ [(escF (s.extract (p + 1) s.size)).1.toUInt8])
         else ([], 0, (escF (s.extract (p + 1) s.size)).2.2)) := by
  simp [unqF, h, h1, h2]
theorem unqF_low {s : ByteArray} {f p : Nat} {acc : List UInt8} (h : p < s.size) (h1 : badAt s p = false) (h2 : (Utf8.decode s p).1 ≠ 34) (h3 : (Utf8.decode s p).1 ≠ 92) (h4 : (Utf8.decode s p).1 < 32 ∨ (Utf8.decode s p).1 = 127) : unqF s (f + 1) p acc = ([], 0, 3) := by
  simp [unqF, h, h1, h2, h3, h4]
theorem unqF_on {s : ByteArray} {f p : Nat} {acc : List UInt8} (h : p < s.size) (h1 : badAt s p = false) (h2 : (Utf8.decode s p).1 ≠ 34) (h3 : (Utf8.decode s p).1 ≠ 92) (h4 : ¬ ((Utf8.decode s p).1 < 32 ∨ (Utf8.decode s p).1 = 127)) : unqF s (f + 1) p acc = unqF s f (p + (Utf8.decode s p).2) (acc ++ bts s p (Utf8.decode s p).2) := by
  simp [unqF, h, h1, h2, h3, h4]
theorem form_four (r : Nat) (hr : r < 256) (h : (formF r).length = 4) : r < 32 ∨ r = 127 := by
  have : ∀ r : Fin 256, (formF r.val).length = 4 → r.val < 32 ∨ r.val = 127 := by decide +kernel
  exact this ⟨r, hr⟩ h
theorem esc_ok (t : ByteArray) (h : (escF t).2.2 = 0) : (escF t).1 < 128 ∧ 1 ≤ (escF t).2.1 ∧ (escF t).2.1 ≤ t.size ∧ (escF t).2.1 ≤ 3 := by
  have b1 := hexP_bd (byt t 1)
  have b2 := hexP_bd (byt t 2)
  revert h
  unfold escF
  split
  · intro h; cases h
  split
  · intro _; dsimp only; omega
  split
  · intro _; dsimp only; omega
  split
  · intro _; dsimp only; omega
  split
  · intro h; cases h
  split
  · intro h; cases h
  split
  · intro h; cases h
  split
  · intro h; cases h
  split
  · intro h; cases h
  split
  · rename_i e
    intro _
    have hl := congrArg List.length e
    have h3 : (t.extract 0 3).data.toList.length = 3 := by
      have : (t.extract 0 3).data.toList.length = (t.extract 0 3).size := Array.length_toList
      rw [this, ByteArray.size_extract]; omega
    rw [List.length_cons, h3] at hl
    have := form_four _ (by omega) hl
    dsimp only
    omega
  · intro h; cases h
theorem esc_err (t : ByteArray) : (escF t).2.2 = 0 ∨ (escF t).2.2 = 3 ∨ (escF t).2.2 = 4 := by
  unfold escF
  repeat' split
  all_goals simp
theorem enc_low (r : Nat) (h : r < 128) : Lib.encodeRune (r : Int) = [r.toUInt8] := by
  unfold Lib.encodeRune
  rw [Lib.encodeRuneZ_one (by omega) (by omega)]
  simp
end Go
