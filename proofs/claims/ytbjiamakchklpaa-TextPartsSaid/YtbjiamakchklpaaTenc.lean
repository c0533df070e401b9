/-
  Plain: a rune's bytes are those that it was read from.
-/
import Derived.Test.YtbjiamakchklpaaTbad
import Derived.Lib.RuneBytes
import Derived.Lib.Small
set_option linter.unusedVariables false
set_option linter.unusedSimpArgs false
namespace Go
open Go.RowKit
def bts (s : ByteArray) (p k : Nat) : List UInt8 := (s.extract p (p + k)).data.toList
theorem bts_eq (s : ByteArray) (p k : Nat) (h : p + k ≤ s.size) : bts s p k = (List.range k).map (fun i => s.get! (p + i)) := by
  unfold bts
  rw [ByteArray.data_extract, Array.toList_extract]
  apply List.ext_getElem?
  intro i
  rw [List.extract_eq_drop_take', List.getElem?_drop, List.getElem?_take, List.getElem?_map]
  by_cases hi : i < k
  · rw [if_pos (by omega), get_lt (by omega), List.getElem?_range hi]; rfl
  · rw [if_neg (by omega), List.getElem?_eq_none (by simpa using hi)]; rfl
theorem bts_len (s : ByteArray) (p k : Nat) (h : p + k ≤ s.size) : (bts s p k).length = k := by rw [bts_eq s p k h]; simp
theorem byt_u8 (s : ByteArray) (i : Nat) : s.get! i = (byt s i).toUInt8 := by unfold byt; simp
theorem enc_dec {s : ByteArray} {p : Nat} (h : p < s.size) (hb : badAt s p = false) : Lib.encodeRune ((Utf8.decode s p).1 : Int) = bts s p (Utf8.decode s p).2 ∧ Lib.runeLen ((Utf8.decode s p).1 : Int) = ((Utf8.decode s p).2 : Int) := by
  have hw := decode_wid h
  rw [bts_eq s p _ hw.2.1]
  have hbd : ¬ Utf8.decode s p = (65533, 1) := by
    unfold badAt at hb
    simpa using hb
  revert hbd
  have h0 := byt_lt s p
  have c1 := cont_iff s (p + 1)
  have c2 := cont_iff s (p + 2)
  have c3 := cont_iff s (p + 3)
  rw [decode_eq]
  split
  · intro _
    refine ⟨?_, ?_⟩
    · unfold Lib.encodeRune
      rw [Lib.encodeRuneZ_one (by omega) (by omega)]
      simp [List.range_succ, byt_u8]
    · unfold Lib.runeLen
      rw [if_neg (by omega), if_pos (by dsimp only; omega)]; rfl
  · split
    · rename_i h1 h2
      obtain ⟨a1, a2, a3⟩ := h2
      have d1 := c1.1 a3
      split
      · intro _
        refine ⟨?_, ?_⟩
        · unfold Lib.encodeRune
          dsimp only
          rw [Lib.encodeRuneZ_two (by omega) (by omega)]
          simp only [List.range_succ, List.range_zero, List.map_cons, List.map_nil, List.map_append, List.nil_append, List.cons_append, byt_u8, Nat.add_zero]
          simp only [List.cons.injEq, and_true]
          exact ⟨congrArg Nat.toUInt8 (by omega), congrArg Nat.toUInt8 (by omega)⟩
        · unfold Lib.runeLen
          dsimp only
          rw [if_neg (by omega), if_neg (by omega), if_pos (by omega)]; rfl
      · intro hh; exact absurd rfl hh
    · split
      · rename_i h1 h2 h3
        obtain ⟨a1, a2, a3, a4⟩ := h3
        have d1 := c1.1 a3
        have d2 := c2.1 a4
        split
        · intro _
          refine ⟨?_, ?_⟩
          · unfold Lib.encodeRune
            dsimp only
            rw [Lib.encodeRuneZ_three (by omega)]
            simp only [List.range_succ, List.range_zero, List.map_cons, List.map_nil, List.map_append, List.nil_append, List.cons_append, byt_u8, Nat.add_zero]
            simp only [List.cons.injEq, and_true]
            exact ⟨congrArg Nat.toUInt8 (by omega), congrArg Nat.toUInt8 (by omega), congrArg Nat.toUInt8 (by omega)⟩
          · unfold Lib.runeLen
            dsimp only
            rw [if_neg (by omega), if_neg (by omega), if_neg (by omega), if_neg (by omega), if_pos (by omega)]; rfl
        · intro hh; exact absurd rfl hh
      · split
        · rename_i h1 h2 h3 h4
          obtain ⟨a1, a2, a3, a4, a5⟩ := h4
          have d1 := c1.1 a3
          have d2 := c2.1 a4
          have d3 := c3.1 a5
          split
          · intro _
            refine ⟨?_, ?_⟩
            · unfold Lib.encodeRune
              dsimp only
              rw [Lib.encodeRuneZ_four (by omega) (by omega)]
              simp only [List.range_succ, List.range_zero, List.map_cons, List.map_nil, List.map_append, List.nil_append, List.cons_append, byt_u8, Nat.add_zero]
              simp only [List.cons.injEq, and_true]
              exact ⟨congrArg Nat.toUInt8 (by omega), congrArg Nat.toUInt8 (by omega), congrArg Nat.toUInt8 (by omega), congrArg Nat.toUInt8 (by omega)⟩
            · unfold Lib.runeLen
              dsimp only
              rw [if_neg (by omega), if_neg (by omega), if_neg (by omega), if_neg (by omega), if_neg (by omega), if_pos (by omega)]; rfl
          · intro hh; exact absurd rfl hh
        · intro hh; exact absurd rfl hh
end Go
