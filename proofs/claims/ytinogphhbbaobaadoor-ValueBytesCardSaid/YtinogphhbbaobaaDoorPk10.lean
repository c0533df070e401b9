/-
  text.form, graticuleref09.form. text.Quote. value.Print.
-/
import Derived.Test.YtinogphhbbaobaaDoorPk6
import Derived.Lib.RuneBytes
import Derived.WalkSpells
import Derived.Laws.Shifts
import Derived.Test.YtinogphhbbaobaaDoorPk9
/- text.form, graticuleref09.form. -/
set_option linter.unusedVariables false
set_option linter.unusedSimpArgs false
set_option maxRecDepth 100000
namespace Go
open Go.RowKit
def hexD (n : Nat) : UInt8 := if n < 10 then UInt8.ofNat (48 + n) else UInt8.ofNat (87 + n)
def formR (r : Nat) : List UInt8 :=
  if r = 92 then [92, 92] else if r = 34 then [92, 34] else if r = 10 then [92, 110] else if r = 9 then [92, 116]
  else if r < 32 ∨ r = 127 then [92, 120, hexD (r / 16), hexD (r % 16)] else []
def formF (r : Nat) : List UInt8 := if formR r = [] then Lib.encodeRune r else formR r
theorem enc_eq (r : Nat) (hr : r ≤ 1114111) : (⟨(Lib.encodeRune (r : Int)).toArray⟩ : ByteArray) = Utf8.encode (r : Int) := by
  unfold Lib.encodeRune Utf8.encode Utf8.valid
  by_cases h1 : r ≤ 127
  · rw [Lib.encodeRuneZ_one (by omega) (by omega)]; have hc : (if ((0 ≤ (r : Int) && (r : Int) < 0xD800) || (0xE000 ≤ (r : Int) && (r : Int) ≤ 0x10FFFF)) then (r : Int).toNat else Utf8.runeError) = r := by
      rw [if_pos (by simp; omega)]; omega
    simp only [hc]; rw [if_pos (by omega)]; simp [Nat.toUInt8]
  · by_cases h2 : r ≤ 2047
    · rw [Lib.encodeRuneZ_two (by omega) (by omega)]; have hc : (if ((0 ≤ (r : Int) && (r : Int) < 0xD800) || (0xE000 ≤ (r : Int) && (r : Int) ≤ 0x10FFFF)) then (r : Int).toNat else Utf8.runeError) = r := by
        rw [if_pos (by simp; omega)]; omega
      simp only [hc]; rw [if_neg (by omega), if_pos (by omega)]; have e1 : (192 + (r : Int) / 64).toNat = 0xC0 + r / 64 := by omega
      have e2 : (128 + (r : Int) % 64).toNat = 0x80 + r % 64 := by omega
      simp only [List.map_cons, List.map_nil, e1, e2, Nat.toUInt8]
    · by_cases h3 : (2048 ≤ r ∧ r < 55296) ∨ (57343 < r ∧ r ≤ 65535)
      · rw [Lib.encodeRuneZ_three (by omega)]; have hc : (if ((0 ≤ (r : Int) && (r : Int) < 0xD800) || (0xE000 ≤ (r : Int) && (r : Int) ≤ 0x10FFFF)) then (r : Int).toNat else Utf8.runeError) = r := by
          rw [if_pos (by simp; omega)]; omega
        simp only [hc]; rw [if_neg (by omega), if_neg (by omega), if_pos (by omega)]; have e1 : (224 + (r : Int) / 4096).toNat = 0xE0 + r / 4096 := by omega
        have e2 : (128 + (r : Int) / 64 % 64).toNat = 0x80 + r / 64 % 64 := by omega
        have e3 : (128 + (r : Int) % 64).toNat = 0x80 + r % 64 := by omega
        simp only [List.map_cons, List.map_nil, e1, e2, e3, Nat.toUInt8]
      · by_cases h4 : 65536 ≤ r
        · rw [Lib.encodeRuneZ_four (by omega) (by omega)]; have hc : (if ((0 ≤ (r : Int) && (r : Int) < 0xD800) || (0xE000 ≤ (r : Int) && (r : Int) ≤ 0x10FFFF)) then (r : Int).toNat else Utf8.runeError) = r := by
            rw [if_pos (by simp; omega)]; omega
          simp only [hc]; rw [if_neg (by omega), if_neg (by omega), if_neg (by omega)]; have e1 : (240 + (r : Int) / 262144).toNat = 0xF0 + r / 262144 := by omega
          have e2 : (128 + (r : Int) / 4096 % 64).toNat = 0x80 + r / 4096 % 64 := by omega
          have e3 : (128 + (r : Int) / 64 % 64).toNat = 0x80 + r / 64 % 64 := by omega
          have e4 : (128 + (r : Int) % 64).toNat = 0x80 + r % 64 := by omega
          simp only [List.map_cons, List.map_nil, e1, e2, e3, e4, Nat.toUInt8]
        · have hc : (if ((0 ≤ (r : Int) && (r : Int) < 0xD800) || (0xE000 ≤ (r : Int) && (r : Int) ≤ 0x10FFFF)) then (r : Int).toNat else Utf8.runeError) = 65533 := by
            rw [if_neg (by simp; omega)]; rfl
          simp only [hc]; have : Lib.encodeRuneZ (r : Int) = [239, 191, 189] := by
            unfold Lib.encodeRuneZ; rw [if_neg (by omega), if_neg (by omega), if_neg (by omega), if_neg (by omega)]
          rw [this]
          rfl
end Go
namespace Go.Proofs.YtinogphhbbaobaaDoor
open Go.RowKit

set_option maxHeartbeats 12800000 in
theorem form_low (r : Nat) (hr : r < 32 ∨ r = 127) (w : World) :
    Calls Tryd.prog 49 #[.int .i32 (r : Int)] w fun e w' => e = .returned (.string ⟨(formR r).toArray⟩) ∧ ∃ n, w' = w.drewN n := by
  have : r = 0 ∨ r = 1 ∨ r = 2 ∨ r = 3 ∨ r = 4 ∨ r = 5 ∨ r = 6 ∨ r = 7 ∨ r = 8 ∨ r = 9 ∨ r = 10 ∨ r = 11 ∨ r = 12 ∨ r = 13 ∨ r = 14 ∨ r = 15 ∨ r = 16 ∨ r = 17 ∨ r = 18 ∨ r = 19 ∨ r = 20 ∨ r = 21 ∨ r = 22 ∨ r = 23 ∨ r = 24 ∨ r = 25 ∨ r = 26 ∨ r = 27 ∨ r = 28 ∨ r = 29 ∨ r = 30 ∨ r = 31 ∨ r = 127 := by omega
  clear hr
  go_enter Tryd.func49, Tryd.ntmps49
  rcases this with rfl | rfl | rfl | rfl | rfl | rfl | rfl | rfl | rfl | rfl | rfl | rfl | rfl | rfl | rfl | rfl | rfl | rfl | rfl | rfl | rfl | rfl | rfl | rfl | rfl | rfl | rfl | rfl | rfl | rfl | rfl | rfl | rfl
  · have q1 : IntKind.i32.wrap (0 + 1) = 1 := by decide
    have q2 : IntKind.i32.wrap (0 + 1) = 1 := by decide
    have q3 : IntKind.i32.wrap 1 = 1 := by decide
    have q4 : IntKind.i32.wrap 1 = 1 := by decide
    have b1 : bits .and .i32 0 15 = 0 := by decide +kernel
    go_wp2
    go_quiet (fail)
    go_wp2; go_ret; exact ⟨by first | rfl | decide +kernel, nq, rfl⟩
  · have q1 : IntKind.i32.wrap (0 + 1) = 1 := by decide
    have q2 : IntKind.i32.wrap (1 + 1) = 2 := by decide
    have q3 : IntKind.i32.wrap 1 = 1 := by decide
    have q4 : IntKind.i32.wrap 2 = 2 := by decide
    have b1 : bits .and .i32 1 15 = 1 := by decide +kernel
    go_wp2
    go_quiet (fail)
    go_wp2; go_ret; exact ⟨by first | rfl | decide +kernel, nq, rfl⟩
  · have q1 : IntKind.i32.wrap (0 + 1) = 1 := by decide
    have q2 : IntKind.i32.wrap (2 + 1) = 3 := by decide
    have q3 : IntKind.i32.wrap 1 = 1 := by decide
    have q4 : IntKind.i32.wrap 3 = 3 := by decide
    have b1 : bits .and .i32 2 15 = 2 := by decide +kernel
    go_wp2
    go_quiet (fail)
    go_wp2; go_ret; exact ⟨by first | rfl | decide +kernel, nq, rfl⟩
  · have q1 : IntKind.i32.wrap (0 + 1) = 1 := by decide
    have q2 : IntKind.i32.wrap (3 + 1) = 4 := by decide
    have q3 : IntKind.i32.wrap 1 = 1 := by decide
    have q4 : IntKind.i32.wrap 4 = 4 := by decide
    have b1 : bits .and .i32 3 15 = 3 := by decide +kernel
    go_wp2
    go_quiet (fail)
    go_wp2; go_ret; exact ⟨by first | rfl | decide +kernel, nq, rfl⟩
  · have q1 : IntKind.i32.wrap (0 + 1) = 1 := by decide
    have q2 : IntKind.i32.wrap (4 + 1) = 5 := by decide
    have q3 : IntKind.i32.wrap 1 = 1 := by decide
    have q4 : IntKind.i32.wrap 5 = 5 := by decide
    have b1 : bits .and .i32 4 15 = 4 := by decide +kernel
    go_wp2
    go_quiet (fail)
    go_wp2; go_ret; exact ⟨by first | rfl | decide +kernel, nq, rfl⟩
  · have q1 : IntKind.i32.wrap (0 + 1) = 1 := by decide
    have q2 : IntKind.i32.wrap (5 + 1) = 6 := by decide
    have q3 : IntKind.i32.wrap 1 = 1 := by decide
    have q4 : IntKind.i32.wrap 6 = 6 := by decide
    have b1 : bits .and .i32 5 15 = 5 := by decide +kernel
    go_wp2
    go_quiet (fail)
    go_wp2; go_ret; exact ⟨by first | rfl | decide +kernel, nq, rfl⟩
  · have q1 : IntKind.i32.wrap (0 + 1) = 1 := by decide
    have q2 : IntKind.i32.wrap (6 + 1) = 7 := by decide
    have q3 : IntKind.i32.wrap 1 = 1 := by decide
    have q4 : IntKind.i32.wrap 7 = 7 := by decide
    have b1 : bits .and .i32 6 15 = 6 := by decide +kernel
    go_wp2
    go_quiet (fail)
    go_wp2; go_ret; exact ⟨by first | rfl | decide +kernel, nq, rfl⟩
  · have q1 : IntKind.i32.wrap (0 + 1) = 1 := by decide
    have q2 : IntKind.i32.wrap (7 + 1) = 8 := by decide
    have q3 : IntKind.i32.wrap 1 = 1 := by decide
    have q4 : IntKind.i32.wrap 8 = 8 := by decide
    have b1 : bits .and .i32 7 15 = 7 := by decide +kernel
    go_wp2
    go_quiet (fail)
    go_wp2; go_ret; exact ⟨by first | rfl | decide +kernel, nq, rfl⟩
  · have q1 : IntKind.i32.wrap (0 + 1) = 1 := by decide
    have q2 : IntKind.i32.wrap (8 + 1) = 9 := by decide
    have q3 : IntKind.i32.wrap 1 = 1 := by decide
    have q4 : IntKind.i32.wrap 9 = 9 := by decide
    have b1 : bits .and .i32 8 15 = 8 := by decide +kernel
    go_wp2
    go_quiet (fail)
    go_wp2; go_ret; exact ⟨by first | rfl | decide +kernel, nq, rfl⟩
  · go_wp2; go_ret; exact ⟨rfl, 0, rfl⟩
  · go_wp2; go_ret; exact ⟨rfl, 0, rfl⟩
  · have q1 : IntKind.i32.wrap (0 + 1) = 1 := by decide
    have q2 : IntKind.i32.wrap (11 + 1) = 12 := by decide
    have q3 : IntKind.i32.wrap 1 = 1 := by decide
    have q4 : IntKind.i32.wrap 12 = 12 := by decide
    have b1 : bits .and .i32 11 15 = 11 := by decide +kernel
    go_wp2
    go_quiet (fail)
    go_wp2; go_ret; exact ⟨by first | rfl | decide +kernel, nq, rfl⟩
  · have q1 : IntKind.i32.wrap (0 + 1) = 1 := by decide
    have q2 : IntKind.i32.wrap (12 + 1) = 13 := by decide
    have q3 : IntKind.i32.wrap 1 = 1 := by decide
    have q4 : IntKind.i32.wrap 13 = 13 := by decide
    have b1 : bits .and .i32 12 15 = 12 := by decide +kernel
    go_wp2
    go_quiet (fail)
    go_wp2; go_ret; exact ⟨by first | rfl | decide +kernel, nq, rfl⟩
  · have q1 : IntKind.i32.wrap (0 + 1) = 1 := by decide
    have q2 : IntKind.i32.wrap (13 + 1) = 14 := by decide
    have q3 : IntKind.i32.wrap 1 = 1 := by decide
    have q4 : IntKind.i32.wrap 14 = 14 := by decide
    have b1 : bits .and .i32 13 15 = 13 := by decide +kernel
    go_wp2
    go_quiet (fail)
    go_wp2; go_ret; exact ⟨by first | rfl | decide +kernel, nq, rfl⟩
  · have q1 : IntKind.i32.wrap (0 + 1) = 1 := by decide
    have q2 : IntKind.i32.wrap (14 + 1) = 15 := by decide
    have q3 : IntKind.i32.wrap 1 = 1 := by decide
    have q4 : IntKind.i32.wrap 15 = 15 := by decide
    have b1 : bits .and .i32 14 15 = 14 := by decide +kernel
    go_wp2
    go_quiet (fail)
    go_wp2; go_ret; exact ⟨by first | rfl | decide +kernel, nq, rfl⟩
  · have q1 : IntKind.i32.wrap (0 + 1) = 1 := by decide
    have q2 : IntKind.i32.wrap (15 + 1) = 16 := by decide
    have q3 : IntKind.i32.wrap 1 = 1 := by decide
    have q4 : IntKind.i32.wrap 16 = 16 := by decide
    have b1 : bits .and .i32 15 15 = 15 := by decide +kernel
    go_wp2
    go_quiet (fail)
    go_wp2; go_ret; exact ⟨by first | rfl | decide +kernel, nq, rfl⟩
  · have q1 : IntKind.i32.wrap (1 + 1) = 2 := by decide
    have q2 : IntKind.i32.wrap (0 + 1) = 1 := by decide
    have q3 : IntKind.i32.wrap 2 = 2 := by decide
    have q4 : IntKind.i32.wrap 1 = 1 := by decide
    have b1 : bits .and .i32 16 15 = 0 := by decide +kernel
    go_wp2
    go_quiet (fail)
    go_wp2; go_ret; exact ⟨by first | rfl | decide +kernel, nq, rfl⟩
  · have q1 : IntKind.i32.wrap (1 + 1) = 2 := by decide
    have q2 : IntKind.i32.wrap (1 + 1) = 2 := by decide
    have q3 : IntKind.i32.wrap 2 = 2 := by decide
    have q4 : IntKind.i32.wrap 2 = 2 := by decide
    have b1 : bits .and .i32 17 15 = 1 := by decide +kernel
    go_wp2
    go_quiet (fail)
    go_wp2; go_ret; exact ⟨by first | rfl | decide +kernel, nq, rfl⟩
  · have q1 : IntKind.i32.wrap (1 + 1) = 2 := by decide
    have q2 : IntKind.i32.wrap (2 + 1) = 3 := by decide
    have q3 : IntKind.i32.wrap 2 = 2 := by decide
    have q4 : IntKind.i32.wrap 3 = 3 := by decide
    have b1 : bits .and .i32 18 15 = 2 := by decide +kernel
    go_wp2
    go_quiet (fail)
    go_wp2; go_ret; exact ⟨by first | rfl | decide +kernel, nq, rfl⟩
  · have q1 : IntKind.i32.wrap (1 + 1) = 2 := by decide
    have q2 : IntKind.i32.wrap (3 + 1) = 4 := by decide
    have q3 : IntKind.i32.wrap 2 = 2 := by decide
    have q4 : IntKind.i32.wrap 4 = 4 := by decide
    have b1 : bits .and .i32 19 15 = 3 := by decide +kernel
    go_wp2
    go_quiet (fail)
    go_wp2; go_ret; exact ⟨by first | rfl | decide +kernel, nq, rfl⟩
  · have q1 : IntKind.i32.wrap (1 + 1) = 2 := by decide
    have q2 : IntKind.i32.wrap (4 + 1) = 5 := by decide
    have q3 : IntKind.i32.wrap 2 = 2 := by decide
    have q4 : IntKind.i32.wrap 5 = 5 := by decide
    have b1 : bits .and .i32 20 15 = 4 := by decide +kernel
    go_wp2
    go_quiet (fail)
    go_wp2; go_ret; exact ⟨by first | rfl | decide +kernel, nq, rfl⟩
  · have q1 : IntKind.i32.wrap (1 + 1) = 2 := by decide
    have q2 : IntKind.i32.wrap (5 + 1) = 6 := by decide
    have q3 : IntKind.i32.wrap 2 = 2 := by decide
    have q4 : IntKind.i32.wrap 6 = 6 := by decide
    have b1 : bits .and .i32 21 15 = 5 := by decide +kernel
    go_wp2
    go_quiet (fail)
    go_wp2; go_ret; exact ⟨by first | rfl | decide +kernel, nq, rfl⟩
  · have q1 : IntKind.i32.wrap (1 + 1) = 2 := by decide
    have q2 : IntKind.i32.wrap (6 + 1) = 7 := by decide
    have q3 : IntKind.i32.wrap 2 = 2 := by decide
    have q4 : IntKind.i32.wrap 7 = 7 := by decide
    have b1 : bits .and .i32 22 15 = 6 := by decide +kernel
    go_wp2
    go_quiet (fail)
    go_wp2; go_ret; exact ⟨by first | rfl | decide +kernel, nq, rfl⟩
  · have q1 : IntKind.i32.wrap (1 + 1) = 2 := by decide
    have q2 : IntKind.i32.wrap (7 + 1) = 8 := by decide
    have q3 : IntKind.i32.wrap 2 = 2 := by decide
    have q4 : IntKind.i32.wrap 8 = 8 := by decide
    have b1 : bits .and .i32 23 15 = 7 := by decide +kernel
    go_wp2
    go_quiet (fail)
    go_wp2; go_ret; exact ⟨by first | rfl | decide +kernel, nq, rfl⟩
  · have q1 : IntKind.i32.wrap (1 + 1) = 2 := by decide
    have q2 : IntKind.i32.wrap (8 + 1) = 9 := by decide
    have q3 : IntKind.i32.wrap 2 = 2 := by decide
    have q4 : IntKind.i32.wrap 9 = 9 := by decide
    have b1 : bits .and .i32 24 15 = 8 := by decide +kernel
    go_wp2
    go_quiet (fail)
    go_wp2; go_ret; exact ⟨by first | rfl | decide +kernel, nq, rfl⟩
  · have q1 : IntKind.i32.wrap (1 + 1) = 2 := by decide
    have q2 : IntKind.i32.wrap (9 + 1) = 10 := by decide
    have q3 : IntKind.i32.wrap 2 = 2 := by decide
    have q4 : IntKind.i32.wrap 10 = 10 := by decide
    have b1 : bits .and .i32 25 15 = 9 := by decide +kernel
    go_wp2
    go_quiet (fail)
    go_wp2; go_ret; exact ⟨by first | rfl | decide +kernel, nq, rfl⟩
  · have q1 : IntKind.i32.wrap (1 + 1) = 2 := by decide
    have q2 : IntKind.i32.wrap (10 + 1) = 11 := by decide
    have q3 : IntKind.i32.wrap 2 = 2 := by decide
    have q4 : IntKind.i32.wrap 11 = 11 := by decide
    have b1 : bits .and .i32 26 15 = 10 := by decide +kernel
    go_wp2
    go_quiet (fail)
    go_wp2; go_ret; exact ⟨by first | rfl | decide +kernel, nq, rfl⟩
  · have q1 : IntKind.i32.wrap (1 + 1) = 2 := by decide
    have q2 : IntKind.i32.wrap (11 + 1) = 12 := by decide
    have q3 : IntKind.i32.wrap 2 = 2 := by decide
    have q4 : IntKind.i32.wrap 12 = 12 := by decide
    have b1 : bits .and .i32 27 15 = 11 := by decide +kernel
    go_wp2
    go_quiet (fail)
    go_wp2; go_ret; exact ⟨by first | rfl | decide +kernel, nq, rfl⟩
  · have q1 : IntKind.i32.wrap (1 + 1) = 2 := by decide
    have q2 : IntKind.i32.wrap (12 + 1) = 13 := by decide
    have q3 : IntKind.i32.wrap 2 = 2 := by decide
    have q4 : IntKind.i32.wrap 13 = 13 := by decide
    have b1 : bits .and .i32 28 15 = 12 := by decide +kernel
    go_wp2
    go_quiet (fail)
    go_wp2; go_ret; exact ⟨by first | rfl | decide +kernel, nq, rfl⟩
  · have q1 : IntKind.i32.wrap (1 + 1) = 2 := by decide
    have q2 : IntKind.i32.wrap (13 + 1) = 14 := by decide
    have q3 : IntKind.i32.wrap 2 = 2 := by decide
    have q4 : IntKind.i32.wrap 14 = 14 := by decide
    have b1 : bits .and .i32 29 15 = 13 := by decide +kernel
    go_wp2
    go_quiet (fail)
    go_wp2; go_ret; exact ⟨by first | rfl | decide +kernel, nq, rfl⟩
  · have q1 : IntKind.i32.wrap (1 + 1) = 2 := by decide
    have q2 : IntKind.i32.wrap (14 + 1) = 15 := by decide
    have q3 : IntKind.i32.wrap 2 = 2 := by decide
    have q4 : IntKind.i32.wrap 15 = 15 := by decide
    have b1 : bits .and .i32 30 15 = 14 := by decide +kernel
    go_wp2
    go_quiet (fail)
    go_wp2; go_ret; exact ⟨by first | rfl | decide +kernel, nq, rfl⟩
  · have q1 : IntKind.i32.wrap (1 + 1) = 2 := by decide
    have q2 : IntKind.i32.wrap (15 + 1) = 16 := by decide
    have q3 : IntKind.i32.wrap 2 = 2 := by decide
    have q4 : IntKind.i32.wrap 16 = 16 := by decide
    have b1 : bits .and .i32 31 15 = 15 := by decide +kernel
    go_wp2
    go_quiet (fail)
    go_wp2; go_ret; exact ⟨by first | rfl | decide +kernel, nq, rfl⟩
  · have q1 : IntKind.i32.wrap (7 + 1) = 8 := by decide
    have q2 : IntKind.i32.wrap (15 + 1) = 16 := by decide
    have q3 : IntKind.i32.wrap 8 = 8 := by decide
    have q4 : IntKind.i32.wrap 16 = 16 := by decide
    have b1 : bits .and .i32 127 15 = 15 := by decide +kernel
    go_wp2
    go_quiet (fail)
    go_wp2; go_ret; exact ⟨by first | rfl | decide +kernel, nq, rfl⟩

set_option maxHeartbeats 1600000 in
theorem form_any (r : Nat) (hr : r ≤ 1114111) (w : World) :
    Calls Tryd.prog 49 #[.int .i32 (r : Int)] w fun e w' => e = .returned (.string ⟨(formF r).toArray⟩) ∧ ∃ n, w' = w.drewN n := by
  by_cases hl : r < 32 ∨ r = 127
  · have hf : formF r = formR r := by
      unfold formF; rw [if_neg]; unfold formR
      repeat' split
      all_goals first | simp | (exfalso; omega)
    rw [hf]; exact form_low r hl w
  · by_cases h1 : r = 92
    · subst h1
      go_enter Tryd.func49, Tryd.ntmps49
      go_wp2; go_ret; exact ⟨rfl, 0, rfl⟩
    · by_cases h2 : r = 34
      · subst h2
        go_enter Tryd.func49, Tryd.ntmps49
        go_wp2; go_ret; exact ⟨rfl, 0, rfl⟩
      · have hf : formF r = Lib.encodeRune r := by
          have h0 : formR r = [] := by
            unfold formR; rw [if_neg h1, if_neg h2, if_neg (by omega), if_neg (by omega), if_neg hl]
          unfold formF; rw [if_pos h0]
        have HF := Lib.hid hf; clear hf; have e1 : ((r : Int) == 92) = false := by rw [beq_eq_false_iff_ne]; omega
        have e2 : ((r : Int) == 34) = false := by rw [beq_eq_false_iff_ne]; omega
        have e3 : ((r : Int) == 10) = false := by rw [beq_eq_false_iff_ne]; omega
        have e4 : ((r : Int) == 9) = false := by rw [beq_eq_false_iff_ne]; omega
        have e5 : ((r : Int) == 127) = false := by rw [beq_eq_false_iff_ne]; omega
        have e6 : ¬ (r : Int) < 32 := by omega
        go_enter Tryd.func49, Tryd.ntmps49
        go_wp2; go_ret; exact ⟨by rw [HF.out, ← enc_eq r hr]; rfl, 0, rfl⟩
end Go.Proofs.YtinogphhbbaobaaDoor
/- text.Quote. -/
set_option linter.unusedVariables false
set_option linter.unusedSimpArgs false
set_option maxRecDepth 100000
namespace Go
open Go.RowKit
def formsF (l : List (Nat × Nat)) : List UInt8 := l.flatMap (fun x => formF x.1)
def quoteF (s : ByteArray) : List UInt8 := [34] ++ formsF (runesF s) ++ [34]
theorem formF_len (r : Nat) : (formF r).length ≤ 4 := by
  unfold formF
  split
  · have := Lib.runeCells_le (r : Int); rw [Lib.runeCells_length] at this; exact this.2
  · unfold formR
    repeat' split
    all_goals simp
theorem forms_snoc (l : List (Nat × Nat)) (x : Nat × Nat) : formsF (l ++ [x]) = formsF l ++ formF x.1 := by simp [formsF]
theorem forms_len (l : List (Nat × Nat)) : (formsF l).length ≤ 4 * l.length := by
  induction l with
  | nil => simp [formsF]
  | cons x l ih =>
    have := formF_len x.1; simp only [formsF, List.flatMap_cons, List.length_append, List.length_cons] at *; omega
end Go
namespace Go.Proofs.YtinogphhbbaobaaDoor
open Go.RowKit

set_option maxHeartbeats 3200000 in
theorem quote_any (s : ByteArray) (hs : s.size ≤ 100000) (w : World) :
    Calls Tryd.prog 32 #[.string s] w fun e w' => e = .returned (.tuple #[.string ⟨(if rightF s then quoteF s else []).toArray⟩, .int .i64 (if rightF s then 0 else 13)]) ∧ Below w.heap.size w w' := by
  have hc := Lib.hid (right_any s (by unfold maxLen; omega)); obtain ⟨T, hT⟩ : ∃ T : Bool, rightF s = T := ⟨_, rfl⟩; rw [hT] at hc ⊢; have HT := Lib.hid hT; clear hT
  go_enter Tryd.func32, Tryd.ntmps32
  go_wp2_with fail
  refine (hc.out _).mono ?_; rintro e w1 ⟨rfl, hb1⟩; have hs1 := hb1.size
  cases T with
  | false =>
    clear hc HT; go_wp2; refine bodyPost_ret (v := .tuple #[.string ⟨#[]⟩, .int .i64 13]) (by simp [results, Tryd.results32, go_sem]) rfl ⟨rfl, hb1⟩
  | true =>
    clear hc HT; have hI0 : Lib.IsBuilderF 93 5 w1.heap.size w1.heap.size (Lib.byteCells []) (w1.alloc (.cells #[.pointer none, .slice none 0 0] 93)) := Lib.IsBuilderF.of (Lib.fresh_isBuilder 93 5 w1); have hbA : Below w1.heap.size w1 (w1.alloc (.cells #[.pointer none, .slice none 0 0] 93)) := Below.new _ _
    go_wp2_with (go_at_call 47; refine (Tryd.Builder_WriteByte_k w1.heap.size w1.heap.size _ 34 _ hI0 (by rw [Lib.byteCells_length]; simp) (by simp)).mono ?_)
    rintro e w2 ⟨rfl, h2, b2, k2⟩; have hB2 := hbA.trans b2; have hK : w1.heap.size < w2.heap.size := by
      have := b2.size; simp at this; omega
    have hI2 : Lib.IsBuilderF 93 5 w1.heap.size w1.heap.size (Lib.byteCells [34]) w2 := Or.inr h2; have hI3 := hI2.alloc (.stringIter s 0); have hit3 : (w2.alloc (.stringIter s 0)).heap[w2.heap.size]? = some (.stringIter s 0) := heap_alloc_new w2 _; have hB3 := hB2.alloc (Nat.le_of_lt hK) (.stringIter s 0); obtain ⟨KI, hKI⟩ : ∃ k, w2.heap.size = k := ⟨_, rfl⟩; rw [hKI] at hit3 hK; clear h2 k2 hbA hI0 b2 hI2 hB2; go_wp2
    go_loopw [] (fun wr => ∃ (p f : Nat) (pre : List (Nat × Nat)), Lib.IsBuilderF 93 5 w1.heap.size w1.heap.size (Lib.byteCells (34 :: formsF pre)) wr ∧ wr.heap[KI]? = some (.stringIter s p) ∧ Below w1.heap.size w1 wr ∧ Hid (runesF s = pre ++ rl s f p) ∧ s.size ≤ p + f ∧ p ≤ s.size ∧ pre.length ≤ p) (fun wr => s.size - wr.iterPos KI)
    case atStart => exact ⟨0, s.size, [], hI3, hit3, hB3, Lib.hid rfl, by omega, by omega, by simp⟩
    case round =>
      clear hI3 hit3 hB3; obtain ⟨p, f, pre, hI, hit, hbw, HR, hpf, hps, hpl⟩ := hrel; have hsz : KI < wr.heap.size := (Array.getElem?_eq_some_iff.1 hit).1
      by_cases hp : p < s.size
      · obtain ⟨f, rfl⟩ : ∃ g, f = g + 1 := ⟨f - 1, by omega⟩; have hnx : ∀ ty, (Instr.next (.pointer (some ⟨KI, 0, none⟩)) true ty).run Tryd.prog wr = _ := fun ty => Lib.run_next_any_at wr KI s p ty hit hp; have hwd := decode_wid hp; rw [rl_step s f p hp] at HR; have hI2 := hI.iterAt hit (p + (Utf8.decode s p).2); have hit2 := Lib.iterAt_heap wr KI s p (p + (Utf8.decode s p).2) hit; have hbw2 := Lib.below_iterAt hbw (k := KI) (by omega) s (p + (Utf8.decode s p).2); have hsz2 := Lib.iterAt_size wr KI s (p + (Utf8.decode s p).2); obtain ⟨W, hW⟩ : ∃ W, p + (Utf8.decode s p).2 = W := ⟨_, rfl⟩; rw [hW] at hnx HR hI2 hit2 hbw2 hsz2; obtain ⟨R, hR⟩ : ∃ R, (Utf8.decode s p).1 = R := ⟨_, rfl⟩; rw [hR] at hnx HR hwd; have hform := Lib.hid (form_any R hwd.2.2.2); have hfl := formF_len R; have hfs := forms_len pre; have hWb : p < W ∧ W ≤ s.size := by omega
        have HSN : Hid (formsF (pre ++ [(R, p)]) = formsF pre ++ formF R) := Lib.hid (forms_snoc pre (R, p)); clear hwd hR hW hI hbw; obtain ⟨FR, hFR⟩ : ∃ FR, formF R = FR := ⟨_, rfl⟩; rw [hFR] at hform hfl HSN; clear hFR
        go_wp2_with fail
        refine (hform.out _).mono ?_; rintro e w3 ⟨rfl, n, rfl⟩; have hI3 : Lib.IsBuilderF 93 5 w1.heap.size w1.heap.size (Lib.byteCells (34 :: formsF pre)) ((wr.iterAt KI s W).drewN n) := hI2; have hit3 : ((wr.iterAt KI s W).drewN n).heap[KI]? = some (.stringIter s W) := hit2; have hbw3 : Below w1.heap.size w1 ((wr.iterAt KI s W).drewN n) := below_drewN hbw2 n; have hsz3 : ((wr.iterAt KI s W).drewN n).heap.size = wr.heap.size := hsz2; generalize (wr.iterAt KI s W).drewN n = w3 at *; clear hI2 hit2 hbw2 hsz2 hform hnx
        go_wp2_with (go_at_call 48; refine (Tryd.Builder_WriteString_k w1.heap.size w1.heap.size _ ⟨FR.toArray⟩ _ hI3 (by rw [Lib.byteCells_length]; simp [ByteArray.size]; omega) (by omega)).mono ?_)
        rintro e w4 ⟨rfl, h4, b4, k4⟩; have hit4 := k4.iter hit3 (by omega); go_wp2; go_roundw
        case rel =>
          refine ⟨W, f, pre ++ [(R, p)], ?_, hit4, hbw3.trans b4, Lib.hid (by rw [HR.out, List.append_assoc]; rfl), by omega, by omega, by simp; omega⟩; have e1 : Lib.byteCells (34 :: formsF (pre ++ [(R, p)])) = Lib.byteCells (34 :: formsF pre) ++ Lib.strCells ⟨FR.toArray⟩ := by
            rw [HSN.out, ← List.cons_append, Lib.byteCells_append]
            congr 1
          rw [e1]; exact Or.inr h4
        case measure =>
          simp only [World.iterPos, hit4, hit]; omega
      · have hnx : ∀ ty, (Instr.next (.pointer (some ⟨KI, 0, none⟩)) true ty).run Tryd.prog wr = _ := fun ty => Lib.run_next_end_at wr KI s p ty hit hp; rw [rl_end s f p hp, List.append_nil] at HR; have hfs := forms_len pre; have hQ : Hid (quoteF s = (34 :: formsF pre) ++ [34]) := Lib.hid (by unfold quoteF; rw [HR.out]; rfl); obtain ⟨Q, hQQ⟩ : ∃ Q, quoteF s = Q := ⟨_, rfl⟩; rw [hQQ] at hQ; have HQQ := Lib.hid hQQ; clear hQQ; clear HR
        go_wp2_with (go_at_call 47; refine (Tryd.Builder_WriteByte_k w1.heap.size w1.heap.size _ 34 _ hI (by rw [Lib.byteCells_length]; simp; omega) (by omega)).mono ?_)
        rintro e w5 ⟨rfl, h5, b5, k5⟩; have hsz5 := b5.size; have hI6 : Lib.IsBuilderF 93 5 w1.heap.size w1.heap.size (Lib.byteCells Q) w5 := by
          rw [hQ.out, Lib.byteCells_append]; exact Or.inr h5
        go_wp2_with (go_at_call 50; refine (Tryd.Builder_String_any_k w1.heap.size w1.heap.size Q _ hI6 (by omega)).mono ?_)
        rintro e w6 ⟨rfl, _, b6, _⟩; go_wp2; refine bodyPost_ret (v := .tuple #[.string ⟨Q.toArray⟩, .int .i64 0]) (by simp [results, Tryd.results32, go_sem]) rfl ⟨by rw [HQQ.out], hb1.trans (((hbw.trans b5).trans b6).mono hs1)⟩
end Go.Proofs.YtinogphhbbaobaaDoor
/- value.Print. -/
set_option linter.unusedVariables false
set_option linter.unusedSimpArgs false
set_option maxRecDepth 100000
namespace Go
open Go.RowKit
def prnF (v : VV) : ByteArray :=
  if v.1 = 1 then ⟨(quoteF v.2.1).toArray⟩ else if v.1 = 2 then ⟨#[117]⟩ ++ ⟨(Lib.itoa v.2.2).toArray⟩
  else if v.1 = 3 then (if 0 ≤ v.2.2 then ⟨#[43]⟩ ++ ⟨(Lib.itoa v.2.2).toArray⟩ else ⟨(Lib.itoa v.2.2).toArray⟩)
  else if v.2.2 = 1 then ⟨#[121, 101, 115]⟩ else ⟨#[110, 111]⟩
theorem vE_right (v : VV) (h : vE v = 0) (hk : v.1 = 1) : rightF v.2.1 = true := by
  unfold vE vcF at h; rw [if_pos hk] at h
  split at h
  · omega
  · cases hr : rightF v.2.1 with
    | true => rfl
    | false => rw [hr] at h; simp at h
end Go
namespace Go.Proofs.YtinogphhbbaobaaDoor
open Go.RowKit

set_option maxHeartbeats 2000000 in
theorem print_bad (v : VV) (ht : v.2.1.size ≤ maxLen) (hE : vE v ≠ 0) (w : World) :
    Calls Tryd.prog 16 #[vVal v] w fun e w' => e = .returned (.tuple #[.string ⟨#[]⟩, .int .i64 (vE v)]) ∧ Below w.heap.size w w' := by
  obtain ⟨k, t, n⟩ := v; have HCK := Lib.hid (fun W => vchk_any k n t ht W); obtain ⟨E, hE2⟩ : ∃ E, vE (k, t, n) = E := ⟨_, rfl⟩; have hE3 : vcF k t n = E := hE2; rw [hE3] at HCK; rw [hE2] at hE ⊢; have hE' : (E != 0) = true := by simpa using hE
  dsimp only [vVal]; have hb0 := Below.new w (.cells #[.int .i64 k, .string t, .int .i64 n] 23); clear hE2 hE3
  go_enter Tryd.func16, Tryd.ntmps16
  go_wp2_with fail
  refine (HCK.out _).mono ?_; rintro e w1 ⟨rfl, hb1⟩; have hbw := hb0.trans (hb1.mono hb0.size); clear hb0 hb1 HCK; go_wp2; refine bodyPost_ret (v := .tuple #[.string ⟨#[]⟩, .int .i64 E]) (by simp [results, Tryd.results16, go_sem]) rfl ⟨rfl, hbw⟩

set_option maxHeartbeats 4000000 in
theorem print_good (v : VV) (hE : vE v = 0) (w : World) (htab : TabOk w) :
    Calls Tryd.prog 16 #[vVal v] w fun e w' => e = .returned (.tuple #[.string (prnF v), .int .i64 0]) ∧ Below w.heap.size w w' := by
  have hz := vE_zero v hE; have hri := vE_right v hE; obtain ⟨k, t, n⟩ := v; dsimp only at hz hri; have hts : t.size ≤ 64 := by
    rcases hz with h | h | h | h
    · exact h.2.2
    · rw [h.2.1]; simp [ByteArray.size]
    · rw [h.2.1]; simp [ByteArray.size]
    · rw [h.2.1]; simp [ByteArray.size]
  have HCK := Lib.hid (fun W => vchk_any k n t (by unfold maxLen; omega) W); have hE3 : vcF k t n = 0 := hE; rw [hE3] at HCK; dsimp only [vVal]; have hb0 := Below.new w (.cells #[.int .i64 k, .string t, .int .i64 n] 23); have k0 := Blk.lit w w.heap.size [.int .i64 k, .string t, .int .i64 n] 23 rfl; have HT := Lib.hid (fun W (h : Below w.heap.size w W) => (Joins.tab_stays (B := w.heap.size) (by kernel_rfl : Tryd.prog.globalNamed "internal/strconv.uint64pow10" = some 0) htab h (Nat.le_refl _) : TabOk W))
  clear hE hE3 htab; have HQ := Lib.hid (fun W => quote_any t (by omega) W); have HP := Lib.hid (prnF.eq_1 (k, t, n)); dsimp only at HP; generalize prnF (k, t, n) = PV at *
  go_enter Tryd.func16, Tryd.ntmps16
  go_wp2_with fail
  refine (HCK.out _).mono ?_; rintro e w1 ⟨rfl, hb1⟩; have k1 := k0.keep hb1; have hbw := hb0.trans (hb1.mono hb0.size); have x0 := k1.cell 0 rfl; have x1 := k1.cell 1 rfl; have x2 := k1.cell 2 rfl; have hs1 := hbw.size; clear k0 hb1 hb0 HCK
  rcases hz with ⟨rfl, rfl, h3⟩ | ⟨rfl, rfl, h3, h4⟩ | ⟨rfl, rfl, h3, h4⟩ | ⟨rfl, rfl, h3, h4⟩
  · rw [hri rfl] at HQ; simp only [if_true] at HQ
    go_wp2_with fail
    refine (HQ.out _).mono ?_; rintro e w2 ⟨rfl, hb2⟩; have hbz := hbw.trans (hb2.mono hs1); go_wp2; refine bodyPost_ret (v := .tuple #[.string ⟨(quoteF t).toArray⟩, .int .i64 0]) (by simp [results, Tryd.results16, go_sem]) rfl ⟨by rw [HP.out]; simp, hbz⟩
  · go_wp2_with fail
    refine (digits_any n (by omega) (by omega) _ (HT.out _ hbw)).mono ?_; rintro e w2 ⟨rfl, hb2⟩; have hlen : ¬ 9223372036854775807 < 1 + (Lib.itoa n).length := by have := Lib.itoa_length_le n (by omega) (by omega); omega
    have hbz := hbw.trans (hb2.mono hs1); go_wp2; refine bodyPost_ret (v := .tuple #[.string (⟨#[117]⟩ ++ ⟨(Lib.itoa n).toArray⟩), .int .i64 0]) (by simp [results, Tryd.results16, go_sem]) rfl ⟨by rw [HP.out]; simp, hbz⟩
  · by_cases hn : 0 ≤ n
    · go_wp2_with fail
      refine (digits_any n (by omega) (by omega) _ (HT.out _ hbw)).mono ?_; rintro e w2 ⟨rfl, hb2⟩; have hlen : ¬ 9223372036854775807 < 1 + (Lib.itoa n).length := by have := Lib.itoa_length_le n (by omega) (by omega); omega
      have hbz := hbw.trans (hb2.mono hs1); go_wp2; refine bodyPost_ret (v := .tuple #[.string (⟨#[43]⟩ ++ ⟨(Lib.itoa n).toArray⟩), .int .i64 0]) (by simp [results, Tryd.results16, go_sem]) rfl ⟨by rw [HP.out]; simp [hn]; try (intro h; exfalso; omega), hbz⟩
    · go_wp2_with fail
      refine (digits_any n (by omega) (by omega) _ (HT.out _ hbw)).mono ?_; rintro e w2 ⟨rfl, hb2⟩; have hlen : ¬ 9223372036854775807 < 1 + (Lib.itoa n).length := by have := Lib.itoa_length_le n (by omega) (by omega); omega
      have hbz := hbw.trans (hb2.mono hs1); go_wp2; refine bodyPost_ret (v := .tuple #[.string ⟨(Lib.itoa n).toArray⟩, .int .i64 0]) (by simp [results, Tryd.results16, go_sem]) rfl ⟨by rw [HP.out]; simp [hn]; try (intro h; exfalso; omega), hbz⟩
  · have kS := Blk.lit w1 w1.heap.size [.string ⟨#[110, 111]⟩, .string ⟨#[121, 101, 115]⟩] 9 rfl; have hbz := hbw.alloc hs1 (.cells #[.string ⟨#[110, 111]⟩, .string ⟨#[121, 101, 115]⟩] 9); have y2 := (k1.alloc (.cells #[.string ⟨#[110, 111]⟩, .string ⟨#[121, 101, 115]⟩] 9)).cell 2 rfl
    rcases (by omega : n = 0 ∨ n = 1) with rfl | rfl
    · have s0 := kS.cell 0 rfl; go_wp2; refine bodyPost_ret (v := .tuple #[.string ⟨#[110, 111]⟩, .int .i64 0]) (by simp [results, Tryd.results16, go_sem]) rfl ⟨by rw [HP.out]; simp, hbz⟩
    · have s1 := kS.cell 1 rfl; go_wp2; refine bodyPost_ret (v := .tuple #[.string ⟨#[121, 101, 115]⟩, .int .i64 0]) (by simp [results, Tryd.results16, go_sem]) rfl ⟨by rw [HP.out]; simp, hbz⟩
end Go.Proofs.YtinogphhbbaobaaDoor
