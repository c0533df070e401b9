/-
  Plain: a rune's bytes are those that it was read from. Plain: a text's first rune. text.escaped. Plain: the document's quoted form. Plain: the text whose quoted form comes first.
-/
import Derived.Test.YtkfgbjjelcigcaaGreatDoorPk1
import Derived.Lib.RuneBytes
import Derived.Lib.Small
import Derived.Test.YtkfgbjjelcigcaaGreatDoorPk3
/- Plain: a rune's bytes are those that it was read from. -/
set_option linter.unusedVariables false
set_option linter.unusedSimpArgs false
namespace Go
open Go.RowKit
def bts (s : ByteArray) (p k : Nat) : List UInt8 := (s.extract p (p + k)).data.toList
theorem bts_eq (s : ByteArray) (p k : Nat) (h : p + k ≤ s.size) : bts s p k = (List.range k).map (fun i => s.get! (p + i)) := by
  unfold bts; rw [ByteArray.data_extract, Array.toList_extract]; apply List.ext_getElem?; intro i; rw [List.extract_eq_drop_take', List.getElem?_drop, List.getElem?_take, List.getElem?_map]
  by_cases hi : i < k
  · rw [if_pos (by omega), get_lt (by omega), List.getElem?_range hi]; rfl
  · rw [if_neg (by omega), List.getElem?_eq_none (by simpa using hi)]; rfl
theorem bts_len (s : ByteArray) (p k : Nat) (h : p + k ≤ s.size) : (bts s p k).length = k := by rw [bts_eq s p k h]; simp
theorem byt_u8 (s : ByteArray) (i : Nat) : s.get! i = (byt s i).toUInt8 := by unfold byt; simp
theorem enc_dec {s : ByteArray} {p : Nat} (h : p < s.size) (hb : badAt s p = false) : Lib.encodeRune ((Utf8.decode s p).1 : Int) = bts s p (Utf8.decode s p).2 ∧ Lib.runeLen ((Utf8.decode s p).1 : Int) = ((Utf8.decode s p).2 : Int) := by
  have hw := decode_wid h; rw [bts_eq s p _ hw.2.1]; have hbd : ¬ Utf8.decode s p = (65533, 1) := by
    unfold badAt at hb
    simpa using hb
  revert hbd
  have h0 := byt_lt s p; have c1 := cont_iff s (p + 1); have c2 := cont_iff s (p + 2); have c3 := cont_iff s (p + 3); rw [decode_eq]
  split
  · intro _; refine ⟨?_, ?_⟩
    · unfold Lib.encodeRune; rw [Lib.encodeRuneZ_one (by omega) (by omega)]; simp [List.range_succ, byt_u8]
    · unfold Lib.runeLen; rw [if_neg (by omega), if_pos (by dsimp only; omega)]; rfl
  · split
    · rename_i h1 h2; obtain ⟨a1, a2, a3⟩ := h2; have d1 := c1.1 a3
      split
      · intro _; refine ⟨?_, ?_⟩
        · unfold Lib.encodeRune; dsimp only; rw [Lib.encodeRuneZ_two (by omega) (by omega)]; simp only [List.range_succ, List.range_zero, List.map_cons, List.map_nil, List.map_append, List.nil_append, List.cons_append, byt_u8, Nat.add_zero]; simp only [List.cons.injEq, and_true]; exact ⟨congrArg Nat.toUInt8 (by omega), congrArg Nat.toUInt8 (by omega)⟩
        · unfold Lib.runeLen; dsimp only; rw [if_neg (by omega), if_neg (by omega), if_pos (by omega)]; rfl
      · intro hh; exact absurd rfl hh
    · split
      · rename_i h1 h2 h3; obtain ⟨a1, a2, a3, a4⟩ := h3; have d1 := c1.1 a3; have d2 := c2.1 a4
        split
        · intro _; refine ⟨?_, ?_⟩
          · unfold Lib.encodeRune; dsimp only; rw [Lib.encodeRuneZ_three (by omega)]; simp only [List.range_succ, List.range_zero, List.map_cons, List.map_nil, List.map_append, List.nil_append, List.cons_append, byt_u8, Nat.add_zero]; simp only [List.cons.injEq, and_true]; exact ⟨congrArg Nat.toUInt8 (by omega), congrArg Nat.toUInt8 (by omega), congrArg Nat.toUInt8 (by omega)⟩
          · unfold Lib.runeLen; dsimp only; rw [if_neg (by omega), if_neg (by omega), if_neg (by omega), if_neg (by omega), if_pos (by omega)]; rfl
        · intro hh; exact absurd rfl hh
      · split
        · rename_i h1 h2 h3 h4; obtain ⟨a1, a2, a3, a4, a5⟩ := h4; have d1 := c1.1 a3; have d2 := c2.1 a4; have d3 := c3.1 a5
          split
          · intro _; refine ⟨?_, ?_⟩
            · unfold Lib.encodeRune; dsimp only; rw [Lib.encodeRuneZ_four (by omega) (by omega)]; simp only [List.range_succ, List.range_zero, List.map_cons, List.map_nil, List.map_append, List.nil_append, List.cons_append, byt_u8, Nat.add_zero]; simp only [List.cons.injEq, and_true]; exact ⟨congrArg Nat.toUInt8 (by omega), congrArg Nat.toUInt8 (by omega), congrArg Nat.toUInt8 (by omega), congrArg Nat.toUInt8 (by omega)⟩
            · unfold Lib.runeLen; dsimp only; rw [if_neg (by omega), if_neg (by omega), if_neg (by omega), if_neg (by omega), if_neg (by omega), if_pos (by omega)]; rfl
          · intro hh; exact absurd rfl hh
        · intro hh; exact absurd rfl hh
end Go
/- Plain: a text's first rune. -/
set_option linter.unusedVariables false
set_option linter.unusedSimpArgs false
set_option maxRecDepth 100000
namespace Go
open Go.RowKit
def firstT (t : ByteArray) : Nat × Nat := if t.size = 0 then (0, 0) else firstF t 0
theorem byt_get {t : ByteArray} {k : Nat} (h : k < t.size) : (t[k]'h).toNat = byt t k := by
  unfold byt
  congr 1
  show t[k] = t.data[k]!; rw [getElem!_pos t.data k h]; rfl
def partR (t : ByteArray) (r0 : Nat) : Nat → Nat
  | 0 => r0
  | k + 1 => 64 * partR t r0 k + byt t (k + 1) - 128
theorem firstF_eq (t : ByteArray) (i : Nat) : firstF t i =
    (if byt t i < 128 then (byt t i, 1)
     else if 192 ≤ byt t i ∧ byt t i < 224 ∧ cont t (i + 1) = true then (if 128 ≤ (byt t i - 192) * 64 + (byt t (i + 1) - 128) then ((byt t i - 192) * 64 + (byt t (i + 1) - 128), 2) else (0, 0))
     else if 224 ≤ byt t i ∧ byt t i < 240 ∧ cont t (i + 1) = true ∧ cont t (i + 2) = true then
       (if 2048 ≤ (byt t i - 224) * 4096 + (byt t (i + 1) - 128) * 64 + (byt t (i + 2) - 128) ∧ ¬ (55296 ≤ (byt t i - 224) * 4096 + (byt t (i + 1) - 128) * 64 + (byt t (i + 2) - 128) ∧ (byt t i - 224) * 4096 + (byt t (i + 1) - 128) * 64 + (byt t (i + 2) - 128) ≤ 57343)
        then ((byt t i - 224) * 4096 + (byt t (i + 1) - 128) * 64 + (byt t (i + 2) - 128), 3) else (0, 0))
     else if 240 ≤ byt t i ∧ byt t i < 248 ∧ cont t (i + 1) = true ∧ cont t (i + 2) = true ∧ cont t (i + 3) = true then
       (if 65536 ≤ (byt t i - 240) * 262144 + (byt t (i + 1) - 128) * 4096 + (byt t (i + 2) - 128) * 64 + (byt t (i + 3) - 128) ∧ (byt t i - 240) * 262144 + (byt t (i + 1) - 128) * 4096 + (byt t (i + 2) - 128) * 64 + (byt t (i + 3) - 128) ≤ 1114111
        then ((byt t i - 240) * 262144 + (byt t (i + 1) - 128) * 4096 + (byt t (i + 2) - 128) * 64 + (byt t (i + 3) - 128), 4) else (0, 0))
     else (0, 0)) := by
  have h0 := byt_lt t i; unfold firstF badAt; rw [decode_eq]
  repeat' split
  all_goals simp_all
  all_goals omega
theorem first_none {t : ByteArray} (h1 : 128 ≤ byt t 0) (h2 : ¬ (192 ≤ byt t 0 ∧ byt t 0 < 248)) : firstF t 0 = (0, 0) := by
  rw [firstF_eq, if_neg (by omega), if_neg (by omega), if_neg (by omega), if_neg (by omega)]
theorem first_one {t : ByteArray} (h : byt t 0 < 128) : firstF t 0 = (byt t 0, 1) := by
  rw [firstF_eq, if_pos (by omega)]
theorem first_cut2 {t : ByteArray} (h1 : 192 ≤ byt t 0) (h2 : byt t 0 < 224) (h : ¬ (cont t 1 = true)) : firstF t 0 = (0, 0) := by
  rw [firstF_eq, if_neg (by omega)]; rw [if_neg (by intro hh; exact h (by simpa using hh.2.2))]; rw [if_neg (by omega)]; rw [if_neg (by omega)]
theorem first_all2 {t : ByteArray} (h1 : 192 ≤ byt t 0) (h2 : byt t 0 < 224) (h : cont t 1 = true) : firstF t 0 = if 128 ≤ partR t (byt t 0 - 192) 1 ∧ partR t (byt t 0 - 192) 1 ≤ 1114111 ∧ ¬ (55296 ≤ partR t (byt t 0 - 192) 1 ∧ partR t (byt t 0 - 192) 1 ≤ 57343) then (partR t (byt t 0 - 192) 1, 2) else (0, 0) := by
  have c1 := (cont_iff t 1).1 h; have e : partR t (byt t 0 - 192) 1 = (byt t 0 - 192) * 64 + (byt t 1 - 128) := by simp only [partR, Nat.zero_add, Nat.reduceAdd]; omega
  rw [e, firstF_eq, if_neg (by omega)]; rw [if_pos ⟨h1, h2, by simpa using h⟩]; simp only [Nat.zero_add]
  split <;> split <;> first | rfl | omega
theorem first_cut3 {t : ByteArray} (h1 : 224 ≤ byt t 0) (h2 : byt t 0 < 240) (h : ¬ (cont t 1 = true ∧ cont t 2 = true)) : firstF t 0 = (0, 0) := by
  rw [firstF_eq, if_neg (by omega)]; rw [if_neg (by omega)]; rw [if_neg (by intro hh; exact h (by simpa using hh.2.2))]; rw [if_neg (by omega)]
theorem first_all3 {t : ByteArray} (h1 : 224 ≤ byt t 0) (h2 : byt t 0 < 240) (h : cont t 1 = true ∧ cont t 2 = true) : firstF t 0 = if 2048 ≤ partR t (byt t 0 - 224) 2 ∧ partR t (byt t 0 - 224) 2 ≤ 1114111 ∧ ¬ (55296 ≤ partR t (byt t 0 - 224) 2 ∧ partR t (byt t 0 - 224) 2 ≤ 57343) then (partR t (byt t 0 - 224) 2, 3) else (0, 0) := by
  have c1 := (cont_iff t 1).1 h.1; have c2 := (cont_iff t 2).1 h.2; have e : partR t (byt t 0 - 224) 2 = (byt t 0 - 224) * 4096 + (byt t 1 - 128) * 64 + (byt t 2 - 128) := by simp only [partR, Nat.zero_add, Nat.reduceAdd]; omega
  rw [e, firstF_eq, if_neg (by omega)]; rw [if_neg (by omega)]; rw [if_pos ⟨h1, h2, by simpa using h⟩]; simp only [Nat.zero_add]
  split <;> split <;> first | rfl | omega
theorem first_cut4 {t : ByteArray} (h1 : 240 ≤ byt t 0) (h2 : byt t 0 < 248) (h : ¬ (cont t 1 = true ∧ cont t 2 = true ∧ cont t 3 = true)) : firstF t 0 = (0, 0) := by
  rw [firstF_eq, if_neg (by omega)]; rw [if_neg (by omega)]; rw [if_neg (by omega)]; rw [if_neg (by intro hh; exact h (by simpa using hh.2.2))]
theorem first_all4 {t : ByteArray} (h1 : 240 ≤ byt t 0) (h2 : byt t 0 < 248) (h : cont t 1 = true ∧ cont t 2 = true ∧ cont t 3 = true) : firstF t 0 = if 65536 ≤ partR t (byt t 0 - 240) 3 ∧ partR t (byt t 0 - 240) 3 ≤ 1114111 ∧ ¬ (55296 ≤ partR t (byt t 0 - 240) 3 ∧ partR t (byt t 0 - 240) 3 ≤ 57343) then (partR t (byt t 0 - 240) 3, 4) else (0, 0) := by
  have c1 := (cont_iff t 1).1 h.1; have c2 := (cont_iff t 2).1 h.2.1; have c3 := (cont_iff t 3).1 h.2.2; have e : partR t (byt t 0 - 240) 3 = (byt t 0 - 240) * 262144 + (byt t 1 - 128) * 4096 + (byt t 2 - 128) * 64 + (byt t 3 - 128) := by simp only [partR, Nat.zero_add, Nat.reduceAdd]; omega
  rw [e, firstF_eq, if_neg (by omega)]; rw [if_neg (by omega)]; rw [if_neg (by omega)]; rw [if_pos ⟨h1, h2, by simpa using h⟩]; simp only [Nat.zero_add]
  split <;> split <;> first | rfl | omega
end Go
/- text.escaped. -/
set_option linter.unusedVariables false
set_option linter.unusedSimpArgs false
set_option maxRecDepth 100000
namespace Go
open Go.RowKit
def hexP (c : Nat) : Int := if 48 ≤ c ∧ c ≤ 57 then (c : Int) - 48 else if 97 ≤ c ∧ c ≤ 102 then (c : Int) - 87 else -1
def escF (t : ByteArray) : Nat × Nat × Nat :=
  if t.size = 0 then (0, 0, 4) else
  if byt t 0 = 92 ∨ byt t 0 = 34 then (byt t 0, 1, 0) else
  if byt t 0 = 110 then (10, 1, 0) else
  if byt t 0 = 116 then (9, 1, 0) else
  if byt t 0 ≠ 120 then (0, 0, 3) else
  if t.size = 1 then (0, 0, 4) else
  if hexP (byt t 1) < 0 then (0, 0, 3) else
  if t.size = 2 then (0, 0, 4) else
  if hexP (byt t 2) < 0 then (0, 0, 3) else
  if formF (hexP (byt t 1) * 16 + hexP (byt t 2)).toNat = 92 :: (t.extract 0 3).data.toList then ((hexP (byt t 1) * 16 + hexP (byt t 2)).toNat, 3, 0) else (0, 0, 3)
theorem empty_dec (s : ByteArray) : s.toList.isEmpty = decide (s.size = 0) := by
  rw [ByteArray.toList_eq]; obtain ⟨⟨l⟩⟩ := s
  cases l <;> simp [ByteArray.size]
theorem esc_app (u : ByteArray) : ((⟨#[92]⟩ : ByteArray) ++ u).toList = 92 :: u.data.toList := by
  rw [ByteArray.toList_eq, ByteArray.data_append]; simp
theorem index_hex (c : Nat) (hc : c < 256) : Lib.indexByte [48, 49, 50, 51, 52, 53, 54, 55, 56, 57, 97, 98, 99, 100, 101, 102] (c : Int).toNat.toUInt8 = hexP c := by
  have : ∀ c : Fin 256, Lib.indexByte [48, 49, 50, 51, 52, 53, 54, 55, 56, 57, 97, 98, 99, 100, 101, 102] ((c.val : Nat) : Int).toNat.toUInt8 = hexP c.val := by decide +kernel
  exact this ⟨c, hc⟩
theorem hexP_bd (c : Nat) : -1 ≤ hexP c ∧ hexP c < 16 := by
  unfold hexP
  split
  · omega
  · split <;> omega
theorem hex_or (x y : Nat) (hx : x < 16) (hy : y < 16) : bits .or .i32 (16 * (x : Int)) (y : Int) = ((16 * x + y : Nat) : Int) := by
  have : ∀ x : Fin 16, ∀ y : Fin 16, bits .or .i32 (16 * (x.val : Int)) (y.val : Int) = ((16 * x.val + y.val : Nat) : Int) := by decide +kernel
  exact this ⟨x, hx⟩ ⟨y, hy⟩
theorem hex_shl (x : Nat) (hx : x < 16) : IntKind.i32.wrap ((x : Int) * 16) = ((16 * x : Nat) : Int) := by
  have : ∀ x : Fin 16, IntKind.i32.wrap ((x.val : Int) * 16) = ((16 * x.val : Nat) : Int) := by decide +kernel
  exact this ⟨x, hx⟩
end Go
namespace Go.Proofs.YtkfgbjjelcigcaaGreatDoor
open Go.RowKit

set_option maxHeartbeats 800000 in
theorem find_any (c : Nat) (hc : c < 256) (w : World) :
    Calls Tryz.prog 106 #[.int .u8 (c : Int)] w fun e w' => e = .returned (.int .i32 (hexP c)) ∧ w' = w := by
  have HC := Lib.hid (fun w => Tryz.strings_IndexByte ⟨#[48, 49, 50, 51, 52, 53, 54, 55, 56, 57, 97, 98, 99, 100, 101, 102]⟩ (c : Int) w); have e1 : (⟨#[48, 49, 50, 51, 52, 53, 54, 55, 56, 57, 97, 98, 99, 100, 101, 102]⟩ : ByteArray).data.toList = [48, 49, 50, 51, 52, 53, 54, 55, 56, 57, 97, 98, 99, 100, 101, 102] := rfl; rw [e1] at HC; have hb := hexP_bd c; rw [index_hex c hc] at HC; have hw : IntKind.i32.wrap (hexP c) = hexP c := by
    have : ∀ x : Fin 17, IntKind.i32.wrap ((x.val : Int) - 1) = (x.val : Int) - 1 := by decide +kernel
    have h2 := this ⟨(hexP c + 1).toNat, by omega⟩; dsimp only at h2; rw [show (((hexP c + 1).toNat : Nat) : Int) - 1 = hexP c by omega] at h2; exact h2
  generalize hexP c = X at *
  go_enter Tryz.func106, Tryz.ntmps106
  go_wp2_with fail
  refine (HC.out _).mono ?_; rintro e w1 ⟨rfl, rfl⟩; go_wp2; go_ret; exact ⟨rfl, rfl⟩

set_option maxHeartbeats 1600000 in
theorem esc_any (t : ByteArray) (hs : t.size ≤ maxLen) (w : World) :
    Calls Tryz.prog 91 #[.string t] w fun e w' => e = .returned (.tuple #[.int .i32 (escF t).1, .int .i64 (escF t).2.1, .int .i64 (escF t).2.2]) ∧ ∃ n, w' = w.drewN n := by
  have hs2 : t.size ≤ 9223372036854775807 := by unfold maxLen at hs; omega
  have hF := Lib.hid (escF.eq_1 t); generalize escF t = R at *; obtain ⟨R1, R2, R3⟩ := R; dsimp only
  go_enter Tryz.func91, Tryz.ntmps91
  by_cases h0 : t.size = 0
  · have hR := hF.out; rw [if_pos h0] at hR
    cases hR
    clear hF; have ht : t = ⟨#[]⟩ := by
      apply ByteArray.ext; exact Array.eq_empty_of_size_eq_zero h0
    subst ht; go_wp2; refine bodyPost_ret (v := .tuple #[.int .i32 0, .int .i64 0, .int .i64 4]) (by simp [results, Tryz.results91, go_sem]) rfl ⟨rfl, 0, rfl⟩
  · have hpos : 0 < t.size := by omega
    have hg0 := byt_get hpos; have hb0 := byt_lt t 0; have hte : t.toList.isEmpty = false := by rw [empty_dec]; simp [h0]
    have hR := hF.out; rw [if_neg h0] at hR; replace hF := Lib.hid hR; clear hR; have HD : Hid (∀ k, k < t.size → byt t k < 256) := Lib.hid (fun k _ => byt_lt t k); obtain ⟨c, hc⟩ : ∃ c, byt t 0 = c := ⟨_, rfl⟩; rw [hc] at hF hg0 hb0
    by_cases c1 : c = 92 ∨ c = 34
    · have hR := hF.out; rw [if_pos c1] at hR
      cases hR
      clear hF hc
      rcases c1 with rfl | rfl
      · go_wp2; refine bodyPost_ret (v := .tuple #[.int .i32 92, .int .i64 1, .int .i64 0]) (by simp [results, Tryz.results91, go_sem]) rfl ⟨rfl, 0, rfl⟩
      · go_wp2; refine bodyPost_ret (v := .tuple #[.int .i32 34, .int .i64 1, .int .i64 0]) (by simp [results, Tryz.results91, go_sem]) rfl ⟨rfl, 0, rfl⟩
    · have hR := hF.out; rw [if_neg c1] at hR; replace hF := Lib.hid hR; clear hR; have d1 : ((c : Int) == 92) = false := by rw [beq_eq_false_iff_ne]; omega
      have d2 : ((c : Int) == 34) = false := by rw [beq_eq_false_iff_ne]; omega
      by_cases c2 : c = 110
      · have hR := hF.out; rw [if_pos c2] at hR
        cases hR
        clear hF hc c1 d1 d2; subst c2; go_wp2; refine bodyPost_ret (v := .tuple #[.int .i32 10, .int .i64 1, .int .i64 0]) (by simp [results, Tryz.results91, go_sem]) rfl ⟨rfl, 0, rfl⟩
      by_cases c3 : c = 116
      · have hR := hF.out; rw [if_neg c2, if_pos c3] at hR
        cases hR
        clear hF hc c1 c2 d1 d2; subst c3; go_wp2; refine bodyPost_ret (v := .tuple #[.int .i32 9, .int .i64 1, .int .i64 0]) (by simp [results, Tryz.results91, go_sem]) rfl ⟨rfl, 0, rfl⟩
      have d3 : ((c : Int) == 110) = false := by rw [beq_eq_false_iff_ne]; omega
      have d4 : ((c : Int) == 116) = false := by rw [beq_eq_false_iff_ne]; omega
      by_cases c4 : c ≠ 120
      · have hR := hF.out; rw [if_neg c2, if_neg c3, if_pos c4] at hR
        cases hR
        have d5 : ((c : Int) == 120) = false := by rw [beq_eq_false_iff_ne]; omega
        clear hF hc c1 c2 c3; go_wp2; refine bodyPost_ret (v := .tuple #[.int .i32 0, .int .i64 0, .int .i64 3]) (by simp [results, Tryz.results91, go_sem]) rfl ⟨rfl, 0, rfl⟩
      have hR := hF.out; rw [if_neg c2, if_neg c3, if_neg c4] at hR; replace hF := Lib.hid hR; have c5 : c = 120 := by omega
      clear hR c1 c2 c3 c4 d1 d2 d3 d4; subst c5; have HFI := Lib.hid find_any; clear hc; go_wp2
      go_loopw [6] (fun i wr => ∃ k : Nat, i = .int .i64 (k : Int) ∧ wr = w ∧ 1 ≤ k ∧ k ≤ 3 ∧ Hid (∀ j, 1 ≤ j → j < k → j < t.size ∧ 0 ≤ hexP (byt t j))) (fun i _ => 3 - (intOf i).toNat)
      case atStart => exact ⟨1, rfl, rfl, by omega, by omega, Lib.hid (fun j h1 h2 => by omega)⟩
      case round =>
        obtain ⟨k, rfl, rfl, hk1, hk3, HJ⟩ := hrel
        by_cases hk : k = 3
        · subst hk; obtain ⟨s1, x1⟩ := HJ.out 1 (by omega) (by omega); obtain ⟨s2, x2⟩ := HJ.out 2 (by omega) (by omega); have g1 := byt_get s1; have g2 := byt_get s2; have hR := hF.out; rw [if_neg (by omega), if_neg (by omega), if_neg (by omega), if_neg (by omega)] at hR; replace hF := Lib.hid hR; have b1 := hexP_bd (byt t 1); have b2 := hexP_bd (byt t 2); have HF1 := HFI.out _ (byt_lt t 1); have HF2 := HFI.out _ (byt_lt t 2); clear hR HFI HD HJ; generalize byt t 1 = c1 at *; generalize byt t 2 = c2 at *; obtain ⟨X, hX⟩ : ∃ X : Nat, hexP c1 = (X : Int) := ⟨(hexP c1).toNat, by omega⟩; obtain ⟨Y, hY⟩ : ∃ Y : Nat, hexP c2 = (Y : Int) := ⟨(hexP c2).toNat, by omega⟩; rw [hX] at b1 HF1; rw [hY] at b2 HF2; have HF1 := Lib.hid HF1; have HF2 := Lib.hid HF2; have hX16 : X < 16 := by omega
          have hY16 : Y < 16 := by omega
          have r1 := hex_shl X hX16; have r2 := hex_or X Y hX16 hY16; have hZ : ((X : Int) * 16 + (Y : Int)).toNat = 16 * X + Y := by omega
          have hR := hF.out; rw [hX, hY, hZ] at hR; clear hX hY x1 x2 hF; have HFM := Lib.hid (form_any (16 * X + Y) (by omega)); have hZb : 16 * X + Y < 256 := by omega
          generalize 16 * X + Y = Z at *; have hF := Lib.hid hR; clear hR hZ; go_wp2
          go_quiet (first | (refine Calls.quiet_of_same (HF1.out _)) | (refine Calls.quiet_of_same (HF2.out _)))
          have HW1 : Hid (∃ n, wr.drewN nq = wr.drewN n) := Lib.hid ⟨nq, rfl⟩; have l3 : (3 : Int) ≤ (t.size : Int) := by omega
          generalize wr.drewN nq = w1 at *; go_wp2; have l4 : ¬ 9223372036854775807 < 1 + min 3 t.size := by omega
          go_quiet (refine Calls.quiet_of (HFM.out _))
          go_wp2
          · rename_i hq; have hn : ¬ formF Z = 92 :: (t.extract 0 3).data.toList := by
              rw [esc_app] at hq
              simpa using hq
            have hR := hF.out; rw [if_neg hn] at hR
            cases hR
            obtain ⟨m, hm⟩ := HW1.out; refine bodyPost_ret (v := .tuple #[.int .i32 0, .int .i64 0, .int .i64 3]) (by simp [results, Tryz.results91, go_sem]) rfl ⟨rfl, m + nq, by rw [hm, World.drewN_drewN]⟩
          · rename_i hq; have hn : formF Z = 92 :: (t.extract 0 3).data.toList := by
              rw [esc_app] at hq
              simpa using hq
            have hR := hF.out; rw [if_pos hn] at hR
            cases hR
            obtain ⟨m, hm⟩ := HW1.out; refine bodyPost_ret (v := .tuple #[.int .i32 (R1 : Int), .int .i64 3, .int .i64 0]) (by simp [results, Tryz.results91, go_sem]) rfl ⟨rfl, m + nq, by rw [hm, World.drewN_drewN]⟩
        · by_cases hsk : k = t.size
          · have hR := hF.out; have e1 : ((k : Int) == (t.size : Int)) = true := by rw [beq_iff_eq]; omega
            have e2 : (k : Int) ≤ 2 := by omega
            by_cases k1 : k = 1
            · subst k1; rw [if_pos (by omega)] at hR
              cases hR
              clear hF HFI HD HJ; go_wp2; refine bodyPost_ret (v := .tuple #[.int .i32 0, .int .i64 0, .int .i64 4]) (by simp [results, Tryz.results91, go_sem]) rfl ⟨rfl, 0, rfl⟩
            · have k2 : k = 2 := by omega
              subst k2; obtain ⟨s1, x1⟩ := HJ.out 1 (by omega) (by omega); rw [if_neg (by omega), if_neg (by omega), if_pos (by omega)] at hR
              cases hR
              clear hF HFI HD HJ; go_wp2; refine bodyPost_ret (v := .tuple #[.int .i32 0, .int .i64 0, .int .i64 4]) (by simp [results, Tryz.results91, go_sem]) rfl ⟨rfl, 0, rfl⟩
          · by_cases hsz : k < t.size
            · have hg := byt_get hsz; have hsz2 : (k : Int) < (t.size : Int) := by omega
              have HF1 := HFI.out _ (byt_lt t k); have e1 : ((k : Int) == (t.size : Int)) = false := by rw [beq_eq_false_iff_ne]; omega
              have e2 : (k : Int) ≤ 2 := by omega
              by_cases hx : hexP (byt t k) < 0
              · have hR := hF.out; have HR : Hid (R1 = 0 ∧ R2 = 0 ∧ R3 = 3) := by
                  by_cases k1 : k = 1
                  · subst k1; rw [if_neg (by omega), if_pos (by omega)] at hR
                    cases hR
                    exact Lib.hid ⟨rfl, rfl, rfl⟩
                  · have k2 : k = 2 := by omega
                    subst k2; obtain ⟨s1, x1⟩ := HJ.out 1 (by omega) (by omega); rw [if_neg (by omega), if_neg (by omega), if_neg (by omega), if_pos (by omega)] at hR
                    cases hR
                    exact Lib.hid ⟨rfl, rfl, rfl⟩
                obtain ⟨rfl, rfl, rfl⟩ := HR.out; generalize byt t k = c at *; generalize hexP c = X at *; have HF1 := Lib.hid HF1; clear hR hF HFI HD HJ HR
                go_wp2_with fail
                refine (HF1.out _).mono ?_; rintro e w1 ⟨rfl, rfl⟩; go_wp2; refine bodyPost_ret (v := .tuple #[.int .i32 0, .int .i64 0, .int .i64 3]) (by simp [results, Tryz.results91, go_sem]) rfl ⟨rfl, 0, rfl⟩
              · have HJ2 : Hid (∀ j, 1 ≤ j → j < k + 1 → j < t.size ∧ 0 ≤ hexP (byt t j)) := Lib.hid (fun j h1 h2 => by
                  by_cases hj : j = k
                  · subst hj; exact ⟨hsz, by omega⟩
                  · exact HJ.out j h1 (by omega))
                generalize byt t k = c at *; generalize hexP c = X at *; have HF1 := Lib.hid HF1; clear HFI HD HJ
                go_wp2_with fail
                refine (HF1.out _).mono ?_; rintro e w1 ⟨rfl, rfl⟩; go_wp2; go_roundw
                case rel => exact ⟨k + 1, val_int (by omega), trivial, by omega, by omega, HJ2⟩
                case measure => simp [intOf]; omega
            · exfalso
              by_cases k1 : k = 1
              · omega
              · have k2 : k = 2 := by omega
                subst k2; obtain ⟨s1, x1⟩ := HJ.out 1 (by omega) (by omega); omega
end Go.Proofs.YtkfgbjjelcigcaaGreatDoor
/- Plain: the document's quoted form. -/
set_option linter.unusedVariables false
set_option linter.unusedSimpArgs false
set_option maxRecDepth 100000
namespace Go
open Go.RowKit
def formB (b : UInt8) : List UInt8 := if formR b.toNat = [] then [b] else formR b.toNat
def rquoteF (s : ByteArray) : List UInt8 := 34 :: s.data.toList.flatMap formB ++ [34]
theorem bts_one (s : ByteArray) (i : Nat) (h : i < s.size) : (s.extract i (i + 1)).data.toList = [s.get! i] := by
  have := bts_eq s i 1 (by omega); unfold bts at this; rw [this]; simp [List.range_succ]
theorem take_flat (s : ByteArray) (i : Nat) (h : i < s.size) : (s.data.toList.take (i + 1)).flatMap formB = (s.data.toList.take i).flatMap formB ++ formB (s.get! i) := by
  rw [List.take_add_one, get_lt h]; simp
theorem formR_len (r : Nat) : (formR r).length ≤ 4 := by
  unfold formR
  repeat' split
  all_goals simp
end Go
/- Plain: the text whose quoted form comes first. -/
set_option linter.unusedVariables false
set_option linter.unusedSimpArgs false
set_option maxRecDepth 100000
namespace Go
open Go.RowKit
def unqF (s : ByteArray) : Nat → Nat → List UInt8 → List UInt8 × Nat × Nat
  | 0, _, _ => ([], 0, 4)
  | f + 1, p, acc =>
    if p < s.size then
      if badAt s p then ([], 0, 13)
      else if (Utf8.decode s p).1 = 34 then (acc, p + 1, 0)
      else if (Utf8.decode s p).1 = 92 then
        (if (escF (s.extract (p + 1) s.size)).2.2 = 0 then unqF s f (p + 1 + (escF (s.extract (p + 1) s.size)).2.1) (acc ++ [(escF (s.extract (p + 1) s.size)).1.toUInt8])
         else ([], 0, (escF (s.extract (p + 1) s.size)).2.2))
      else if (Utf8.decode s p).1 < 32 ∨ (Utf8.decode s p).1 = 127 then ([], 0, 3)
      else unqF s f (p + (Utf8.decode s p).2) (acc ++ bts s p (Utf8.decode s p).2)
    else ([], 0, 4)
def unquoteF (s : ByteArray) : List UInt8 × Nat × Nat :=
  if s.size = 0 then ([], 0, 4) else if byt s 0 ≠ 34 then ([], 0, 3) else unqF s s.size 1 []
theorem unqF_end (s : ByteArray) (f p : Nat) (acc : List UInt8) (h : ¬ p < s.size) : unqF s f p acc = ([], 0, 4) := by
  cases f <;> simp [unqF, h]
theorem unqF_bad {s : ByteArray} {f p : Nat} {acc : List UInt8} (h : p < s.size) (h1 : badAt s p = true) : unqF s (f + 1) p acc = ([], 0, 13) := by
  simp [unqF, h, h1]
theorem unqF_shut {s : ByteArray} {f p : Nat} {acc : List UInt8} (h : p < s.size) (h1 : badAt s p = false) (h2 : (Utf8.decode s p).1 = 34) : unqF s (f + 1) p acc = (acc, p + 1, 0) := by
  simp [unqF, h, h1, h2]
theorem unqF_esc {s : ByteArray} {f p : Nat} {acc : List UInt8} (h : p < s.size) (h1 : badAt s p = false) (h2 : (Utf8.decode s p).1 = 92) : unqF s (f + 1) p acc =
    (if (escF (s.extract (p + 1) s.size)).2.2 = 0 then unqF s f (p + 1 + (escF (s.extract (p + 1) s.size)).2.1) (acc ++ [(escF (s.extract (p + 1) s.size)).1.toUInt8])
         else ([], 0, (escF (s.extract (p + 1) s.size)).2.2)) := by
  simp [unqF, h, h1, h2]
theorem unqF_low {s : ByteArray} {f p : Nat} {acc : List UInt8} (h : p < s.size) (h1 : badAt s p = false) (h2 : (Utf8.decode s p).1 ≠ 34) (h3 : (Utf8.decode s p).1 ≠ 92) (h4 : (Utf8.decode s p).1 < 32 ∨ (Utf8.decode s p).1 = 127) : unqF s (f + 1) p acc = ([], 0, 3) := by
  simp [unqF, h, h1, h2, h3, h4]
theorem unqF_on {s : ByteArray} {f p : Nat} {acc : List UInt8} (h : p < s.size) (h1 : badAt s p = false) (h2 : (Utf8.decode s p).1 ≠ 34) (h3 : (Utf8.decode s p).1 ≠ 92) (h4 : ¬ ((Utf8.decode s p).1 < 32 ∨ (Utf8.decode s p).1 = 127)) : unqF s (f + 1) p acc = unqF s f (p + (Utf8.decode s p).2) (acc ++ bts s p (Utf8.decode s p).2) := by
  simp [unqF, h, h1, h2, h3, h4]
theorem form_four (r : Nat) (hr : r < 256) (h : (formF r).length = 4) : r < 32 ∨ r = 127 := by
  have : ∀ r : Fin 256, (formF r.val).length = 4 → r.val < 32 ∨ r.val = 127 := by decide +kernel
  exact this ⟨r, hr⟩ h
theorem esc_ok (t : ByteArray) (h : (escF t).2.2 = 0) : (escF t).1 < 128 ∧ 1 ≤ (escF t).2.1 ∧ (escF t).2.1 ≤ t.size ∧ (escF t).2.1 ≤ 3 := by
  have b1 := hexP_bd (byt t 1); have b2 := hexP_bd (byt t 2)
  revert h
  unfold escF
  split
  · intro h; cases h
  split
  · intro _; dsimp only; omega
  split
  · intro _; dsimp only; omega
  split
  · intro _; dsimp only; omega
  split
  · intro h; cases h
  split
  · intro h; cases h
  split
  · intro h; cases h
  split
  · intro h; cases h
  split
  · intro h; cases h
  split
  · rename_i e; intro _; have hl := congrArg List.length e; have h3 : (t.extract 0 3).data.toList.length = 3 := by
      have : (t.extract 0 3).data.toList.length = (t.extract 0 3).size := Array.length_toList; rw [this, ByteArray.size_extract]; omega
    rw [List.length_cons, h3] at hl; have := form_four _ (by omega) hl; dsimp only; omega
  · intro h; cases h
theorem esc_err (t : ByteArray) : (escF t).2.2 = 0 ∨ (escF t).2.2 = 3 ∨ (escF t).2.2 = 4 := by
  unfold escF
  repeat' split
  all_goals simp
theorem enc_low (r : Nat) (h : r < 128) : Lib.encodeRune (r : Int) = [r.toUInt8] := by
  unfold Lib.encodeRune; rw [Lib.encodeRuneZ_one (by omega) (by omega)]; simp
end Go
