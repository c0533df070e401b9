/-
  text.form, graticuleref09.form.
-/
import Derived.Test.YtbjiamakchklpaaTbad
import Derived.Lib.RuneBytes
import Derived.WalkSpells
import Derived.Laws.Shifts
set_option linter.unusedVariables false
set_option linter.unusedSimpArgs false
set_option maxRecDepth 100000
namespace Go
open Go.RowKit
def hexD (n : Nat) : UInt8 := if n < 10 then UInt8.ofNat (48 + n) else UInt8.ofNat (87 + n)
/-- The form of a rune that doesn't stand for itself; []: it does. -/
def formR (r : Nat) : List UInt8 :=
  if r = 92 then [92, 92] else if r = 34 then [92, 34] else if r = 10 then [92, 110] else if r = 9 then [92, 116]
  else if r < 32 ∨ r = 127 then [92, 120, hexD (r / 16), hexD (r % 16)] else []
/-- A rune's form, in quotes. -/
def formF (r : Nat) : List UInt8 := if formR r = [] then Lib.encodeRune r else formR r
theorem enc_eq (r : Nat) (hr : r ≤ 1114111) : (⟨(Lib.encodeRune (r : Int)).toArray⟩ : ByteArray) = Utf8.encode (r : Int) := by
  unfold Lib.encodeRune Utf8.encode Utf8.valid
  by_cases h1 : r ≤ 127
  · rw [Lib.encodeRuneZ_one (by omega) (by omega)]
    have hc : (if ((0 ≤ (r : Int) && (r : Int) < 0xD800) || (0xE000 ≤ (r : Int) && (r : Int) ≤ 0x10FFFF)) then (r : Int).toNat else Utf8.runeError) = r := by
      rw [if_pos (by simp; omega)]; omega
    simp only [hc]
    rw [if_pos (by omega)]
    simp [Nat.toUInt8]
  · by_cases h2 : r ≤ 2047
    · rw [Lib.encodeRuneZ_two (by omega) (by omega)]
      have hc : (if ((0 ≤ (r : Int) && (r : Int) < 0xD800) || (0xE000 ≤ (r : Int) && (r : Int) ≤ 0x10FFFF)) then (r : Int).toNat else Utf8.runeError) = r := by
        rw [if_pos (by simp; omega)]; omega
      simp only [hc]
      rw [if_neg (by omega), if_pos (by omega)]
      have e1 : (192 + (r : Int) / 64).toNat = 0xC0 + r / 64 := by omega
      have e2 : (128 + (r : Int) % 64).toNat = 0x80 + r % 64 := by omega
      simp only [List.map_cons, List.map_nil, e1, e2, Nat.toUInt8]
    · by_cases h3 : (2048 ≤ r ∧ r < 55296) ∨ (57343 < r ∧ r ≤ 65535)
      · rw [Lib.encodeRuneZ_three (by omega)]
        have hc : (if ((0 ≤ (r : Int) && (r : Int) < 0xD800) || (0xE000 ≤ (r : Int) && (r : Int) ≤ 0x10FFFF)) then (r : Int).toNat else Utf8.runeError) = r := by
          rw [if_pos (by simp; omega)]; omega
        simp only [hc]
        rw [if_neg (by omega), if_neg (by omega), if_pos (by omega)]
        have e1 : (224 + (r : Int) / 4096).toNat = 0xE0 + r / 4096 := by omega
        have e2 : (128 + (r : Int) / 64 % 64).toNat = 0x80 + r / 64 % 64 := by omega
        have e3 : (128 + (r : Int) % 64).toNat = 0x80 + r % 64 := by omega
        simp only [List.map_cons, List.map_nil, e1, e2, e3, Nat.toUInt8]
      · by_cases h4 : 65536 ≤ r
        · rw [Lib.encodeRuneZ_four (by omega) (by omega)]
          have hc : (if ((0 ≤ (r : Int) && (r : Int) < 0xD800) || (0xE000 ≤ (r : Int) && (r : Int) ≤ 0x10FFFF)) then (r : Int).toNat else Utf8.runeError) = r := by
            rw [if_pos (by simp; omega)]; omega
          simp only [hc]
          rw [if_neg (by omega), if_neg (by omega), if_neg (by omega)]
          have e1 : (240 + (r : Int) / 262144).toNat = 0xF0 + r / 262144 := by omega
          have e2 : (128 + (r : Int) / 4096 % 64).toNat = 0x80 + r / 4096 % 64 := by omega
          have e3 : (128 + (r : Int) / 64 % 64).toNat = 0x80 + r / 64 % 64 := by omega
          have e4 : (128 + (r : Int) % 64).toNat = 0x80 + r % 64 := by omega
          simp only [List.map_cons, List.map_nil, e1, e2, e3, e4, Nat.toUInt8]
        · have hc : (if ((0 ≤ (r : Int) && (r : Int) < 0xD800) || (0xE000 ≤ (r : Int) && (r : Int) ≤ 0x10FFFF)) then (r : Int).toNat else Utf8.runeError) = 65533 := by
            rw [if_neg (by simp; omega)]; rfl
          simp only [hc]
          have : Lib.encodeRuneZ (r : Int) = [239, 191, 189] := by
            unfold Lib.encodeRuneZ
            rw [if_neg (by omega), if_neg (by omega), if_neg (by omega), if_neg (by omega)]
          rw [this]
          rfl
end Go
namespace Go.Proofs.Ytbjiamakchklpaa
open Go.RowKit

set_option maxHeartbeats 12800000 in
theorem form_low (r : Nat) (hr : r < 32 ∨ r = 127) (w : World) :
    Calls Try.prog 24 #[.int .i32 (r : Int)] w fun e w' => e = .returned (.string ⟨(formR r).toArray⟩) ∧ ∃ n, w' = w.drewN n := by
  have : r = 0 ∨ r = 1 ∨ r = 2 ∨ r = 3 ∨ r = 4 ∨ r = 5 ∨ r = 6 ∨ r = 7 ∨ r = 8 ∨ r = 9 ∨ r = 10 ∨ r = 11 ∨ r = 12 ∨ r = 13 ∨ r = 14 ∨ r = 15 ∨ r = 16 ∨ r = 17 ∨ r = 18 ∨ r = 19 ∨ r = 20 ∨ r = 21 ∨ r = 22 ∨ r = 23 ∨ r = 24 ∨ r = 25 ∨ r = 26 ∨ r = 27 ∨ r = 28 ∨ r = 29 ∨ r = 30 ∨ r = 31 ∨ r = 127 := by omega
  clear hr
  go_enter Try.func24, Try.ntmps24
  rcases this with rfl | rfl | rfl | rfl | rfl | rfl | rfl | rfl | rfl | rfl | rfl | rfl | rfl | rfl | rfl | rfl | rfl | rfl | rfl | rfl | rfl | rfl | rfl | rfl | rfl | rfl | rfl | rfl | rfl | rfl | rfl | rfl | rfl
  · have q1 : IntKind.i32.wrap (0 + 1) = 1 := by decide
    have q2 : IntKind.i32.wrap (0 + 1) = 1 := by decide
    have q3 : IntKind.i32.wrap 1 = 1 := by decide
    have q4 : IntKind.i32.wrap 1 = 1 := by decide
    have b1 : bits .and .i32 0 15 = 0 := by decide +kernel
    go_wp2
    go_quiet (fail)
    go_wp2
    go_ret
    exact ⟨by first | rfl | decide +kernel, nq, rfl⟩
  · have q1 : IntKind.i32.wrap (0 + 1) = 1 := by decide
    have q2 : IntKind.i32.wrap (1 + 1) = 2 := by decide
    have q3 : IntKind.i32.wrap 1 = 1 := by decide
    have q4 : IntKind.i32.wrap 2 = 2 := by decide
    have b1 : bits .and .i32 1 15 = 1 := by decide +kernel
    go_wp2
    go_quiet (fail)
    go_wp2
    go_ret
    exact ⟨by first | rfl | decide +kernel, nq, rfl⟩
  · have q1 : IntKind.i32.wrap (0 + 1) = 1 := by decide
    have q2 : IntKind.i32.wrap (2 + 1) = 3 := by decide
    have q3 : IntKind.i32.wrap 1 = 1 := by decide
    have q4 : IntKind.i32.wrap 3 = 3 := by decide
    have b1 : bits .and .i32 2 15 = 2 := by decide +kernel
    go_wp2
    go_quiet (fail)
    go_wp2
    go_ret
    exact ⟨by first | rfl | decide +kernel, nq, rfl⟩
  · have q1 : IntKind.i32.wrap (0 + 1) = 1 := by decide
    have q2 : IntKind.i32.wrap (3 + 1) = 4 := by decide
    have q3 : IntKind.i32.wrap 1 = 1 := by decide
    have q4 : IntKind.i32.wrap 4 = 4 := by decide
    have b1 : bits .and .i32 3 15 = 3 := by decide +kernel
    go_wp2
    go_quiet (fail)
    go_wp2
    go_ret
    exact ⟨by first | rfl | decide +kernel, nq, rfl⟩
  · have q1 : IntKind.i32.wrap (0 + 1) = 1 := by decide
    have q2 : IntKind.i32.wrap (4 + 1) = 5 := by decide
    have q3 : IntKind.i32.wrap 1 = 1 := by decide
    have q4 : IntKind.i32.wrap 5 = 5 := by decide
    have b1 : bits .and .i32 4 15 = 4 := by decide +kernel
    go_wp2
    go_quiet (fail)
    go_wp2
    go_ret
    exact ⟨by first | rfl | decide +kernel, nq, rfl⟩
  · have q1 : IntKind.i32.wrap (0 + 1) = 1 := by decide
    have q2 : IntKind.i32.wrap (5 + 1) = 6 := by decide
    have q3 : IntKind.i32.wrap 1 = 1 := by decide
    have q4 : IntKind.i32.wrap 6 = 6 := by decide
    have b1 : bits .and .i32 5 15 = 5 := by decide +kernel
    go_wp2
    go_quiet (fail)
    go_wp2
    go_ret
    exact ⟨by first | rfl | decide +kernel, nq, rfl⟩
  · have q1 : IntKind.i32.wrap (0 + 1) = 1 := by decide
    have q2 : IntKind.i32.wrap (6 + 1) = 7 := by decide
    have q3 : IntKind.i32.wrap 1 = 1 := by decide
    have q4 : IntKind.i32.wrap 7 = 7 := by decide
    have b1 : bits .and .i32 6 15 = 6 := by decide +kernel
    go_wp2
    go_quiet (fail)
    go_wp2
    go_ret
    exact ⟨by first | rfl | decide +kernel, nq, rfl⟩
  · have q1 : IntKind.i32.wrap (0 + 1) = 1 := by decide
    have q2 : IntKind.i32.wrap (7 + 1) = 8 := by decide
    have q3 : IntKind.i32.wrap 1 = 1 := by decide
    have q4 : IntKind.i32.wrap 8 = 8 := by decide
    have b1 : bits .and .i32 7 15 = 7 := by decide +kernel
    go_wp2
    go_quiet (fail)
    go_wp2
    go_ret
    exact ⟨by first | rfl | decide +kernel, nq, rfl⟩
  · have q1 : IntKind.i32.wrap (0 + 1) = 1 := by decide
    have q2 : IntKind.i32.wrap (8 + 1) = 9 := by decide
    have q3 : IntKind.i32.wrap 1 = 1 := by decide
    have q4 : IntKind.i32.wrap 9 = 9 := by decide
    have b1 : bits .and .i32 8 15 = 8 := by decide +kernel
    go_wp2
    go_quiet (fail)
    go_wp2
    go_ret
    exact ⟨by first | rfl | decide +kernel, nq, rfl⟩
  · go_wp2
    go_ret
    exact ⟨rfl, 0, rfl⟩
  · go_wp2
    go_ret
    exact ⟨rfl, 0, rfl⟩
  · have q1 : IntKind.i32.wrap (0 + 1) = 1 := by decide
    have q2 : IntKind.i32.wrap (11 + 1) = 12 := by decide
    have q3 : IntKind.i32.wrap 1 = 1 := by decide
    have q4 : IntKind.i32.wrap 12 = 12 := by decide
    have b1 : bits .and .i32 11 15 = 11 := by decide +kernel
    go_wp2
    go_quiet (fail)
    go_wp2
    go_ret
    exact ⟨by first | rfl | decide +kernel, nq, rfl⟩
  · have q1 : IntKind.i32.wrap (0 + 1) = 1 := by decide
    have q2 : IntKind.i32.wrap (12 + 1) = 13 := by decide
    have q3 : IntKind.i32.wrap 1 = 1 := by decide
    have q4 : IntKind.i32.wrap 13 = 13 := by decide
    have b1 : bits .and .i32 12 15 = 12 := by decide +kernel
    go_wp2
    go_quiet (fail)
    go_wp2
    go_ret
    exact ⟨by first | rfl | decide +kernel, nq, rfl⟩
  · have q1 : IntKind.i32.wrap (0 + 1) = 1 := by decide
    have q2 : IntKind.i32.wrap (13 + 1) = 14 := by decide
    have q3 : IntKind.i32.wrap 1 = 1 := by decide
    have q4 : IntKind.i32.wrap 14 = 14 := by decide
    have b1 : bits .and .i32 13 15 = 13 := by decide +kernel
    go_wp2
    go_quiet (fail)
    go_wp2
    go_ret
    exact ⟨by first | rfl | decide +kernel, nq, rfl⟩
  · have q1 : IntKind.i32.wrap (0 + 1) = 1 := by decide
    have q2 : IntKind.i32.wrap (14 + 1) = 15 := by decide
    have q3 : IntKind.i32.wrap 1 = 1 := by decide
    have q4 : IntKind.i32.wrap 15 = 15 := by decide
    have b1 : bits .and .i32 14 15 = 14 := by decide +kernel
    go_wp2
    go_quiet (fail)
    go_wp2
    go_ret
    exact ⟨by first | rfl | decide +kernel, nq, rfl⟩
  · have q1 : IntKind.i32.wrap (0 + 1) = 1 := by decide
    have q2 : IntKind.i32.wrap (15 + 1) = 16 := by decide
    have q3 : IntKind.i32.wrap 1 = 1 := by decide
    have q4 : IntKind.i32.wrap 16 = 16 := by decide
    have b1 : bits .and .i32 15 15 = 15 := by decide +kernel
    go_wp2
    go_quiet (fail)
    go_wp2
    go_ret
    exact ⟨by first | rfl | decide +kernel, nq, rfl⟩
  · have q1 : IntKind.i32.wrap (1 + 1) = 2 := by decide
    have q2 : IntKind.i32.wrap (0 + 1) = 1 := by decide
    have q3 : IntKind.i32.wrap 2 = 2 := by decide
    have q4 : IntKind.i32.wrap 1 = 1 := by decide
    have b1 : bits .and .i32 16 15 = 0 := by decide +kernel
    go_wp2
    go_quiet (fail)
    go_wp2
    go_ret
    exact ⟨by first | rfl | decide +kernel, nq, rfl⟩
  · have q1 : IntKind.i32.wrap (1 + 1) = 2 := by decide
    have q2 : IntKind.i32.wrap (1 + 1) = 2 := by decide
    have q3 : IntKind.i32.wrap 2 = 2 := by decide
    have q4 : IntKind.i32.wrap 2 = 2 := by decide
    have b1 : bits .and .i32 17 15 = 1 := by decide +kernel
    go_wp2
    go_quiet (fail)
    go_wp2
    go_ret
    exact ⟨by first | rfl | decide +kernel, nq, rfl⟩
  · have q1 : IntKind.i32.wrap (1 + 1) = 2 := by decide
    have q2 : IntKind.i32.wrap (2 + 1) = 3 := by decide
    have q3 : IntKind.i32.wrap 2 = 2 := by decide
    have q4 : IntKind.i32.wrap 3 = 3 := by decide
    have b1 : bits .and .i32 18 15 = 2 := by decide +kernel
    go_wp2
    go_quiet (fail)
    go_wp2
    go_ret
    exact ⟨by first | rfl | decide +kernel, nq, rfl⟩
  · have q1 : IntKind.i32.wrap (1 + 1) = 2 := by decide
    have q2 : IntKind.i32.wrap (3 + 1) = 4 := by decide
    have q3 : IntKind.i32.wrap 2 = 2 := by decide
    have q4 : IntKind.i32.wrap 4 = 4 := by decide
    have b1 : bits .and .i32 19 15 = 3 := by decide +kernel
    go_wp2
    go_quiet (fail)
    go_wp2
    go_ret
    exact ⟨by first | rfl | decide +kernel, nq, rfl⟩
  · have q1 : IntKind.i32.wrap (1 + 1) = 2 := by decide
    have q2 : IntKind.i32.wrap (4 + 1) = 5 := by decide
    have q3 : IntKind.i32.wrap 2 = 2 := by decide
    have q4 : IntKind.i32.wrap 5 = 5 := by decide
    have b1 : bits .and .i32 20 15 = 4 := by decide +kernel
    go_wp2
    go_quiet (fail)
    go_wp2
    go_ret
    exact ⟨by first | rfl | decide +kernel, nq, rfl⟩
  · have q1 : IntKind.i32.wrap (1 + 1) = 2 := by decide
    have q2 : IntKind.i32.wrap (5 + 1) = 6 := by decide
    have q3 : IntKind.i32.wrap 2 = 2 := by decide
    have q4 : IntKind.i32.wrap 6 = 6 := by decide
    have b1 : bits .and .i32 21 15 = 5 := by decide +kernel
    go_wp2
    go_quiet (fail)
    go_wp2
    go_ret
    exact ⟨by first | rfl | decide +kernel, nq, rfl⟩
  · have q1 : IntKind.i32.wrap (1 + 1) = 2 := by decide
    have q2 : IntKind.i32.wrap (6 + 1) = 7 := by decide
    have q3 : IntKind.i32.wrap 2 = 2 := by decide
    have q4 : IntKind.i32.wrap 7 = 7 := by decide
    have b1 : bits .and .i32 22 15 = 6 := by decide +kernel
    go_wp2
    go_quiet (fail)
    go_wp2
    go_ret
    exact ⟨by first | rfl | decide +kernel, nq, rfl⟩
  · have q1 : IntKind.i32.wrap (1 + 1) = 2 := by decide
    have q2 : IntKind.i32.wrap (7 + 1) = 8 := by decide
    have q3 : IntKind.i32.wrap 2 = 2 := by decide
    have q4 : IntKind.i32.wrap 8 = 8 := by decide
    have b1 : bits .and .i32 23 15 = 7 := by decide +kernel
    go_wp2
    go_quiet (fail)
    go_wp2
    go_ret
    exact ⟨by first | rfl | decide +kernel, nq, rfl⟩
  · have q1 : IntKind.i32.wrap (1 + 1) = 2 := by decide
    have q2 : IntKind.i32.wrap (8 + 1) = 9 := by decide
    have q3 : IntKind.i32.wrap 2 = 2 := by decide
    have q4 : IntKind.i32.wrap 9 = 9 := by decide
    have b1 : bits .and .i32 24 15 = 8 := by decide +kernel
    go_wp2
    go_quiet (fail)
    go_wp2
    go_ret
    exact ⟨by first | rfl | decide +kernel, nq, rfl⟩
  · have q1 : IntKind.i32.wrap (1 + 1) = 2 := by decide
    have q2 : IntKind.i32.wrap (9 + 1) = 10 := by decide
    have q3 : IntKind.i32.wrap 2 = 2 := by decide
    have q4 : IntKind.i32.wrap 10 = 10 := by decide
    have b1 : bits .and .i32 25 15 = 9 := by decide +kernel
    go_wp2
    go_quiet (fail)
    go_wp2
    go_ret
    exact ⟨by first | rfl | decide +kernel, nq, rfl⟩
  · have q1 : IntKind.i32.wrap (1 + 1) = 2 := by decide
    have q2 : IntKind.i32.wrap (10 + 1) = 11 := by decide
    have q3 : IntKind.i32.wrap 2 = 2 := by decide
    have q4 : IntKind.i32.wrap 11 = 11 := by decide
    have b1 : bits .and .i32 26 15 = 10 := by decide +kernel
    go_wp2
    go_quiet (fail)
    go_wp2
    go_ret
    exact ⟨by first | rfl | decide +kernel, nq, rfl⟩
  · have q1 : IntKind.i32.wrap (1 + 1) = 2 := by decide
    have q2 : IntKind.i32.wrap (11 + 1) = 12 := by decide
    have q3 : IntKind.i32.wrap 2 = 2 := by decide
    have q4 : IntKind.i32.wrap 12 = 12 := by decide
    have b1 : bits .and .i32 27 15 = 11 := by decide +kernel
    go_wp2
    go_quiet (fail)
    go_wp2
    go_ret
    exact ⟨by first | rfl | decide +kernel, nq, rfl⟩
  · have q1 : IntKind.i32.wrap (1 + 1) = 2 := by decide
    have q2 : IntKind.i32.wrap (12 + 1) = 13 := by decide
    have q3 : IntKind.i32.wrap 2 = 2 := by decide
    have q4 : IntKind.i32.wrap 13 = 13 := by decide
    have b1 : bits .and .i32 28 15 = 12 := by decide +kernel
    go_wp2
    go_quiet (fail)
    go_wp2
    go_ret
    exact ⟨by first | rfl | decide +kernel, nq, rfl⟩
  · have q1 : IntKind.i32.wrap (1 + 1) = 2 := by decide
    have q2 : IntKind.i32.wrap (13 + 1) = 14 := by decide
    have q3 : IntKind.i32.wrap 2 = 2 := by decide
    have q4 : IntKind.i32.wrap 14 = 14 := by decide
    have b1 : bits .and .i32 29 15 = 13 := by decide +kernel
    go_wp2
    go_quiet (fail)
    go_wp2
    go_ret
    exact ⟨by first | rfl | decide +kernel, nq, rfl⟩
  · have q1 : IntKind.i32.wrap (1 + 1) = 2 := by decide
    have q2 : IntKind.i32.wrap (14 + 1) = 15 := by decide
    have q3 : IntKind.i32.wrap 2 = 2 := by decide
    have q4 : IntKind.i32.wrap 15 = 15 := by decide
    have b1 : bits .and .i32 30 15 = 14 := by decide +kernel
    go_wp2
    go_quiet (fail)
    go_wp2
    go_ret
    exact ⟨by first | rfl | decide +kernel, nq, rfl⟩
  · have q1 : IntKind.i32.wrap (1 + 1) = 2 := by decide
    have q2 : IntKind.i32.wrap (15 + 1) = 16 := by decide
    have q3 : IntKind.i32.wrap 2 = 2 := by decide
    have q4 : IntKind.i32.wrap 16 = 16 := by decide
    have b1 : bits .and .i32 31 15 = 15 := by decide +kernel
    go_wp2
    go_quiet (fail)
    go_wp2
    go_ret
    exact ⟨by first | rfl | decide +kernel, nq, rfl⟩
  · have q1 : IntKind.i32.wrap (7 + 1) = 8 := by decide
    have q2 : IntKind.i32.wrap (15 + 1) = 16 := by decide
    have q3 : IntKind.i32.wrap 8 = 8 := by decide
    have q4 : IntKind.i32.wrap 16 = 16 := by decide
    have b1 : bits .and .i32 127 15 = 15 := by decide +kernel
    go_wp2
    go_quiet (fail)
    go_wp2
    go_ret
    exact ⟨by first | rfl | decide +kernel, nq, rfl⟩

set_option maxHeartbeats 1600000 in
theorem form_any (r : Nat) (hr : r ≤ 1114111) (w : World) :
    Calls Try.prog 24 #[.int .i32 (r : Int)] w fun e w' => e = .returned (.string ⟨(formF r).toArray⟩) ∧ ∃ n, w' = w.drewN n := by
  by_cases hl : r < 32 ∨ r = 127
  · have hf : formF r = formR r := by
      unfold formF
      rw [if_neg]
      unfold formR
      repeat' split
      all_goals first | simp | (exfalso; omega)
    rw [hf]
    exact form_low r hl w
  · by_cases h1 : r = 92
    · subst h1
      go_enter Try.func24, Try.ntmps24
      go_wp2
      go_ret
      exact ⟨rfl, 0, rfl⟩
    · by_cases h2 : r = 34
      · subst h2
        go_enter Try.func24, Try.ntmps24
        go_wp2
        go_ret
        exact ⟨rfl, 0, rfl⟩
      · have hf : formF r = Lib.encodeRune r := by
          have h0 : formR r = [] := by
            unfold formR
            rw [if_neg h1, if_neg h2, if_neg (by omega), if_neg (by omega), if_neg hl]
          unfold formF
          rw [if_pos h0]
        have HF := Lib.hid hf
        clear hf
        have e1 : ((r : Int) == 92) = false := by rw [beq_eq_false_iff_ne]; omega
        have e2 : ((r : Int) == 34) = false := by rw [beq_eq_false_iff_ne]; omega
        have e3 : ((r : Int) == 10) = false := by rw [beq_eq_false_iff_ne]; omega
        have e4 : ((r : Int) == 9) = false := by rw [beq_eq_false_iff_ne]; omega
        have e5 : ((r : Int) == 127) = false := by rw [beq_eq_false_iff_ne]; omega
        have e6 : ¬ (r : Int) < 32 := by omega
        go_enter Try.func24, Try.ntmps24
        go_wp2
        go_ret
        exact ⟨by rw [HF.out, ← enc_eq r hr]; rfl, 0, rfl⟩
end Go.Proofs.Ytbjiamakchklpaa
