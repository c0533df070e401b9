/-
  graticuleref09.form. Plain: a rune's bytes are those that it was read from. text.escaped. graticuleref09.Quote. Plain: the text whose quoted form comes first.
-/
import Derived.Test.YtinogphhbbaobaaDoorPk10
import Derived.Test.YtinogphhbbaobaaDoorPk11
import Derived.Test.YtinogphhbbaobaaDoorPk1
import Derived.Test.YtinogphhbbaobaaDoorPk3
import Derived.Test.YtinogphhbbaobaaDoorPk6
import Derived.Lib.RuneBytes
import Derived.Lib.Small
/- graticuleref09.form. -/
set_option linter.unusedVariables false
set_option linter.unusedSimpArgs false
set_option maxRecDepth 100000
namespace Go
open Go.RowKit
theorem hex_at (k : Nat) (h : k < 16) : ((⟨#[48, 49, 50, 51, 52, 53, 54, 55, 56, 57, 97, 98, 99, 100, 101, 102]⟩ : ByteArray)[k]'(by simpa [ByteArray.size] using h)).toNat = (hexD k).toNat := by
  have : ∀ k : Fin 16, ((⟨#[48, 49, 50, 51, 52, 53, 54, 55, 56, 57, 97, 98, 99, 100, 101, 102]⟩ : ByteArray)[k.val]'(by simp [ByteArray.size])).toNat = (hexD k.val).toNat := by decide +kernel
  exact this ⟨k, h⟩
theorem nums_of (l : List UInt8) : strOfNums (l.map (fun c => (c.toNat : Int))) = ⟨l.toArray⟩ := by
  apply ByteArray.ext; apply Array.ext'; rw [strOfNums_data, List.map_map]; have : l.map ((fun n : Int => UInt8.ofNat n.toNat) ∘ fun c : UInt8 => (c.toNat : Int)) = l.map id := List.map_congr_left (fun c _ => by simp); rw [this, List.map_id]
end Go
namespace Go.Proofs.YtinogphhbbaobaaDoor
open Go.RowKit
theorem conv_lit (w : World) (l : List UInt8) (n : Nat) (hn : l.length = n) : (convert 25 9 (.slice (some ⟨w.heap.size, 0, none⟩) n n)).run Tryd.prog (w.alloc (.cells (l.map (fun c => Value.int .u8 (c.toNat : Int))).toArray 5)) = .ok (.string ⟨l.toArray⟩) (w.alloc (.cells (l.map (fun c => Value.int .u8 (c.toNat : Int))).toArray 5)) := by
  have hr := Rd.new w (l.map (fun c => Value.int .u8 (c.toNat : Int))) 5; have h := run_convert_rd (P := Tryd.prog) (w.alloc (.cells (l.map (fun c => Value.int .u8 (c.toNat : Int))).toArray 5)) 25 5 9 Tryd.underlying25 Tryd.underlying5 Tryd.underlying9 (some ⟨w.heap.size, 0, none⟩) n (l.map (fun c => (c.toNat : Int))) (by rw [List.map_map]; exact hr); rw [nums_of, List.length_map, hn] at h; exact h

set_option maxHeartbeats 1600000 in
theorem rform_two (r : Nat) (c : Nat) (h : r = 92 ∧ c = 92 ∨ r = 34 ∧ c = 34 ∨ r = 10 ∧ c = 110 ∨ r = 9 ∧ c = 116) (w : World) :
    Calls Tryd.prog 61 #[.int .i64 (r : Int)] w fun e w' => e = .returned (.string ⟨(formR r).toArray⟩) ∧ Below w.heap.size w w' := by
  have hcv : ∀ l : List UInt8, l.length = 2 → (convert 25 9 (.slice (some ⟨w.heap.size, 0, none⟩) 2 2)).run Tryd.prog (w.alloc (.cells (l.map (fun c => Value.int .u8 (c.toNat : Int))).toArray 5)) = _ := fun l hl => conv_lit w l 2 hl; have HB := Lib.hid (Below.new w)
  go_enter Tryd.func61, Tryd.ntmps61
  rcases h with ⟨rfl, rfl⟩ | ⟨rfl, rfl⟩ | ⟨rfl, rfl⟩ | ⟨rfl, rfl⟩
  · have h1 : (convert 25 9 (.slice (some ⟨w.heap.size, 0, none⟩) 2 2)).run Tryd.prog (w.alloc (.cells #[.int .u8 92, .int .u8 92] 5)) = .ok (.string ⟨#[92, 92]⟩) (w.alloc (.cells #[.int .u8 92, .int .u8 92] 5)) := hcv [92, 92] rfl; clear hcv; go_wp2; go_ret; exact ⟨rfl, HB.out _⟩
  · have h1 : (convert 25 9 (.slice (some ⟨w.heap.size, 0, none⟩) 2 2)).run Tryd.prog (w.alloc (.cells #[.int .u8 92, .int .u8 34] 5)) = .ok (.string ⟨#[92, 34]⟩) (w.alloc (.cells #[.int .u8 92, .int .u8 34] 5)) := hcv [92, 34] rfl; clear hcv; go_wp2; go_ret; exact ⟨rfl, HB.out _⟩
  · have h1 : (convert 25 9 (.slice (some ⟨w.heap.size, 0, none⟩) 2 2)).run Tryd.prog (w.alloc (.cells #[.int .u8 92, .int .u8 110] 5)) = .ok (.string ⟨#[92, 110]⟩) (w.alloc (.cells #[.int .u8 92, .int .u8 110] 5)) := hcv [92, 110] rfl; clear hcv; go_wp2; go_ret; exact ⟨rfl, HB.out _⟩
  · have h1 : (convert 25 9 (.slice (some ⟨w.heap.size, 0, none⟩) 2 2)).run Tryd.prog (w.alloc (.cells #[.int .u8 92, .int .u8 116] 5)) = .ok (.string ⟨#[92, 116]⟩) (w.alloc (.cells #[.int .u8 92, .int .u8 116] 5)) := hcv [92, 116] rfl; clear hcv; go_wp2; go_ret; exact ⟨rfl, HB.out _⟩

set_option maxHeartbeats 1600000 in
theorem rform_any (r : Nat) (hr : r ≤ 255) (w : World) :
    Calls Tryd.prog 61 #[.int .i64 (r : Int)] w fun e w' => e = .returned (.string ⟨(formR r).toArray⟩) ∧ Below w.heap.size w w' := by
  by_cases h1 : r = 92
  · exact rform_two r 92 (.inl ⟨h1, rfl⟩) w
  by_cases h2 : r = 34
  · exact rform_two r 34 (.inr (.inl ⟨h2, rfl⟩)) w
  by_cases h3 : r = 10
  · exact rform_two r 110 (.inr (.inr (.inl ⟨h3, rfl⟩))) w
  by_cases h4 : r = 9
  · exact rform_two r 116 (.inr (.inr (.inr ⟨h4, rfl⟩))) w
  have e1 : ((r : Int) == 92) = false := by rw [beq_eq_false_iff_ne]; omega
  have e2 : ((r : Int) == 34) = false := by rw [beq_eq_false_iff_ne]; omega
  have e3 : ((r : Int) == 10) = false := by rw [beq_eq_false_iff_ne]; omega
  have e4 : ((r : Int) == 9) = false := by rw [beq_eq_false_iff_ne]; omega
  have HB := Lib.hid (Below.new w)
  by_cases h5 : r < 32 ∨ r = 127
  · have hf : Hid (formR r = [92, 120, hexD (r / 16), hexD (r % 16)]) := Lib.hid (by unfold formR; rw [if_neg h1, if_neg h2, if_neg h3, if_neg h4, if_pos h5]); have hk1 : r / 16 < 16 := by omega
    have hk2 : r % 16 < 16 := by omega
    have hx1 := hex_at (r / 16) hk1; have hx2 := hex_at (r % 16) hk2; have t1 : IntKind.i64.wrap ((r : Int) / 16) = ((r / 16 : Nat) : Int) := by
      rw [IntWalk.i64_in _ (by omega)]; omega
    have t2 : (r : Int).tmod 16 = ((r % 16 : Nat) : Int) := by
      rw [Int.tmod_eq_emod_of_nonneg (by omega)]; omega
    have l3 : ((r / 16 : Nat) : Int) < 16 := by omega
    have l4 : ((r % 16 : Nat) : Int) < 16 := by omega
    have hcv := Lib.hid (fun w => conv_lit w [92, 120, hexD (r / 16), hexD (r % 16)] 4 rfl); generalize formR r = F at *; generalize hexD (r / 16) = d1 at *; generalize hexD (r % 16) = d2 at *; generalize r / 16 = k1 at *; generalize r % 16 = k2 at *
    go_enter Tryd.func61, Tryd.ntmps61
    by_cases h6 : r < 32
    · have l1 : (r : Int) < 32 := by omega
      go_wp2; refine wp_region_lit_txt [0, 1, 2, 3, 4, 5] (fun _ => True) (by kernel_rfl) (by kernel_rfl) (by kernel_rfl) trivial ?_
      iterate 6 ((refine txt_light ?_ rfl rfl ?_ ?_; rotate_left; · (intro w' hS; (try dsimp only at hS); go_simp; with_reducible rfl)); try simp only [Act.put, List.setIfInBounds_toArray, List.set_cons_zero, List.set_cons_succ])
      have hb1 := (Below.refl w.heap.size w).drew; have hs1 : w.heap.size ≤ w.drew.heap.size := Nat.le_refl _; generalize w.drew = w1 at *; have h1 : (convert 25 9 (.slice (some ⟨w1.heap.size, 0, none⟩) 4 4)).run Tryd.prog (w1.alloc (.cells #[.int .u8 92, .int .u8 120, .int .u8 (d1.toNat : Int), .int .u8 (d2.toNat : Int)] 5)) = .ok (.string ⟨#[92, 120, d1, d2]⟩) (w1.alloc (.cells #[.int .u8 92, .int .u8 120, .int .u8 (d1.toNat : Int), .int .u8 (d2.toNat : Int)] 5)) := hcv.out w1; refine txt_heavy rfl rfl (fun K hK => ?_); go_step; refine hK.out _ _ trivial ?_; clear hK K
      try simp only [Act.put, List.setIfInBounds_toArray, List.set_cons_zero, List.set_cons_succ]
      refine txt_heavy rfl rfl (fun K hK => ?_); go_step; refine hK.out _ _ trivial ?_; clear hK K
      try simp only [Act.put, List.setIfInBounds_toArray, List.set_cons_zero, List.set_cons_succ]
      refine txt_heavy rfl rfl (fun K hK => ?_); go_step; refine hK.out _ _ trivial ?_; clear hK K
      try simp only [Act.put, List.setIfInBounds_toArray, List.set_cons_zero, List.set_cons_succ]
      refine txt_nil ?_; go_wp2; go_ret; exact ⟨(congrArg (fun F : List UInt8 => Ending.returned (.string ⟨F.toArray⟩)) hf.out).symm, hb1.alloc hs1 _⟩
    · have l1 : ¬ (r : Int) < 32 := by omega
      have l2 : ((r : Int) == 127) = true := by rw [beq_iff_eq]; omega
      go_wp2; refine wp_region_lit_txt [0, 1, 2, 3, 4, 5] (fun _ => True) (by kernel_rfl) (by kernel_rfl) (by kernel_rfl) trivial ?_
      iterate 6 ((refine txt_light ?_ rfl rfl ?_ ?_; rotate_left; · (intro w' hS; (try dsimp only at hS); go_simp; with_reducible rfl)); try simp only [Act.put, List.setIfInBounds_toArray, List.set_cons_zero, List.set_cons_succ])
      have hb1 := (Below.refl w.heap.size w).drew; have hs1 : w.heap.size ≤ w.drew.heap.size := Nat.le_refl _; generalize w.drew = w1 at *; have h1 : (convert 25 9 (.slice (some ⟨w1.heap.size, 0, none⟩) 4 4)).run Tryd.prog (w1.alloc (.cells #[.int .u8 92, .int .u8 120, .int .u8 (d1.toNat : Int), .int .u8 (d2.toNat : Int)] 5)) = .ok (.string ⟨#[92, 120, d1, d2]⟩) (w1.alloc (.cells #[.int .u8 92, .int .u8 120, .int .u8 (d1.toNat : Int), .int .u8 (d2.toNat : Int)] 5)) := hcv.out w1; refine txt_heavy rfl rfl (fun K hK => ?_); go_step; refine hK.out _ _ trivial ?_; clear hK K
      try simp only [Act.put, List.setIfInBounds_toArray, List.set_cons_zero, List.set_cons_succ]
      refine txt_heavy rfl rfl (fun K hK => ?_); go_step; refine hK.out _ _ trivial ?_; clear hK K
      try simp only [Act.put, List.setIfInBounds_toArray, List.set_cons_zero, List.set_cons_succ]
      refine txt_heavy rfl rfl (fun K hK => ?_); go_step; refine hK.out _ _ trivial ?_; clear hK K
      try simp only [Act.put, List.setIfInBounds_toArray, List.set_cons_zero, List.set_cons_succ]
      refine txt_nil ?_; go_wp2; go_ret; exact ⟨(congrArg (fun F : List UInt8 => Ending.returned (.string ⟨F.toArray⟩)) hf.out).symm, hb1.alloc hs1 _⟩
  · have hf : Hid (formR r = []) := Lib.hid (by unfold formR; rw [if_neg h1, if_neg h2, if_neg h3, if_neg h4, if_neg h5]); have l1 : ¬ (r : Int) < 32 := by omega
    have l2 : ((r : Int) == 127) = false := by rw [beq_eq_false_iff_ne]; omega
    generalize formR r = F at *
    go_enter Tryd.func61, Tryd.ntmps61
    go_wp2; go_ret; exact ⟨(congrArg (fun F : List UInt8 => Ending.returned (.string ⟨F.toArray⟩)) hf.out).symm, Below.refl _ _⟩
end Go.Proofs.YtinogphhbbaobaaDoor
/- Plain: a rune's bytes are those that it was read from. -/
set_option linter.unusedVariables false
set_option linter.unusedSimpArgs false
namespace Go
open Go.RowKit
def bts (s : ByteArray) (p k : Nat) : List UInt8 := (s.extract p (p + k)).data.toList
theorem bts_eq (s : ByteArray) (p k : Nat) (h : p + k ≤ s.size) : bts s p k = (List.range k).map (fun i => s.get! (p + i)) := by
  unfold bts; rw [ByteArray.data_extract, Array.toList_extract]; apply List.ext_getElem?; intro i; rw [List.extract_eq_drop_take', List.getElem?_drop, List.getElem?_take, List.getElem?_map]
  by_cases hi : i < k
  · rw [if_pos (by omega), get_lt (by omega), List.getElem?_range hi]; rfl
  · rw [if_neg (by omega), List.getElem?_eq_none (by simpa using hi)]; rfl
theorem bts_len (s : ByteArray) (p k : Nat) (h : p + k ≤ s.size) : (bts s p k).length = k := by rw [bts_eq s p k h]; simp
theorem byt_u8 (s : ByteArray) (i : Nat) : s.get! i = (byt s i).toUInt8 := by unfold byt; simp
theorem enc_dec {s : ByteArray} {p : Nat} (h : p < s.size) (hb : badAt s p = false) : Lib.encodeRune ((Utf8.decode s p).1 : Int) = bts s p (Utf8.decode s p).2 ∧ Lib.runeLen ((Utf8.decode s p).1 : Int) = ((Utf8.decode s p).2 : Int) := by
  have hw := decode_wid h; rw [bts_eq s p _ hw.2.1]; have hbd : ¬ Utf8.decode s p = (65533, 1) := by
    unfold badAt at hb
    simpa using hb
  revert hbd
  have h0 := byt_lt s p; have c1 := cont_iff s (p + 1); have c2 := cont_iff s (p + 2); have c3 := cont_iff s (p + 3); rw [decode_eq]
  split
  · intro _; refine ⟨?_, ?_⟩
    · unfold Lib.encodeRune; rw [Lib.encodeRuneZ_one (by omega) (by omega)]; simp [List.range_succ, byt_u8]
    · unfold Lib.runeLen; rw [if_neg (by omega), if_pos (by dsimp only; omega)]; rfl
  · split
    · rename_i h1 h2; obtain ⟨a1, a2, a3⟩ := h2; have d1 := c1.1 a3
      split
      · intro _; refine ⟨?_, ?_⟩
        · unfold Lib.encodeRune; dsimp only; rw [Lib.encodeRuneZ_two (by omega) (by omega)]; simp only [List.range_succ, List.range_zero, List.map_cons, List.map_nil, List.map_append, List.nil_append, List.cons_append, byt_u8, Nat.add_zero]; simp only [List.cons.injEq, and_true]; exact ⟨congrArg Nat.toUInt8 (by omega), congrArg Nat.toUInt8 (by omega)⟩
        · unfold Lib.runeLen; dsimp only; rw [if_neg (by omega), if_neg (by omega), if_pos (by omega)]; rfl
      · intro hh; exact absurd rfl hh
    · split
      · rename_i h1 h2 h3; obtain ⟨a1, a2, a3, a4⟩ := h3; have d1 := c1.1 a3; have d2 := c2.1 a4
        split
        · intro _; refine ⟨?_, ?_⟩
          · unfold Lib.encodeRune; dsimp only; rw [Lib.encodeRuneZ_three (by omega)]; simp only [List.range_succ, List.range_zero, List.map_cons, List.map_nil, List.map_append, List.nil_append, List.cons_append, byt_u8, Nat.add_zero]; simp only [List.cons.injEq, and_true]; exact ⟨congrArg Nat.toUInt8 (by omega), congrArg Nat.toUInt8 (by omega), congrArg Nat.toUInt8 (by omega)⟩
          · unfold Lib.runeLen; dsimp only; rw [if_neg (by omega), if_neg (by omega), if_neg (by omega), if_neg (by omega), if_pos (by omega)]; rfl
        · intro hh; exact absurd rfl hh
      · split
        · rename_i h1 h2 h3 h4; obtain ⟨a1, a2, a3, a4, a5⟩ := h4; have d1 := c1.1 a3; have d2 := c2.1 a4; have d3 := c3.1 a5
          split
          · intro _; refine ⟨?_, ?_⟩
            · unfold Lib.encodeRune; dsimp only; rw [Lib.encodeRuneZ_four (by omega) (by omega)]; simp only [List.range_succ, List.range_zero, List.map_cons, List.map_nil, List.map_append, List.nil_append, List.cons_append, byt_u8, Nat.add_zero]; simp only [List.cons.injEq, and_true]; exact ⟨congrArg Nat.toUInt8 (by omega), congrArg Nat.toUInt8 (by omega), congrArg Nat.toUInt8 (by omega), congrArg Nat.toUInt8 (by omega)⟩
            · unfold Lib.runeLen; dsimp only; rw [if_neg (by omega), if_neg (by omega), if_neg (by omega), if_neg (by omega), if_neg (by omega), if_pos (by omega)]; rfl
          · intro hh; exact absurd rfl hh
        · intro hh; exact absurd rfl hh
end Go
/- text.escaped. -/
set_option linter.unusedVariables false
set_option linter.unusedSimpArgs false
set_option maxRecDepth 100000
namespace Go
open Go.RowKit
def hexP (c : Nat) : Int := if 48 ≤ c ∧ c ≤ 57 then (c : Int) - 48 else if 97 ≤ c ∧ c ≤ 102 then (c : Int) - 87 else -1
def escF (t : ByteArray) : Nat × Nat × Nat :=
  if t.size = 0 then (0, 0, 4) else
  if byt t 0 = 92 ∨ byt t 0 = 34 then (byt t 0, 1, 0) else
  if byt t 0 = 110 then (10, 1, 0) else
  if byt t 0 = 116 then (9, 1, 0) else
  if byt t 0 ≠ 120 then (0, 0, 3) else
  if t.size = 1 then (0, 0, 4) else
  if hexP (byt t 1) < 0 then (0, 0, 3) else
  if t.size = 2 then (0, 0, 4) else
  if hexP (byt t 2) < 0 then (0, 0, 3) else
  if formF (hexP (byt t 1) * 16 + hexP (byt t 2)).toNat = 92 :: (t.extract 0 3).data.toList then ((hexP (byt t 1) * 16 + hexP (byt t 2)).toNat, 3, 0) else (0, 0, 3)
theorem empty_dec (s : ByteArray) : s.toList.isEmpty = decide (s.size = 0) := by
  rw [ByteArray.toList_eq]; obtain ⟨⟨l⟩⟩ := s
  cases l <;> simp [ByteArray.size]
theorem esc_app (u : ByteArray) : ((⟨#[92]⟩ : ByteArray) ++ u).toList = 92 :: u.data.toList := by
  rw [ByteArray.toList_eq, ByteArray.data_append]; simp
theorem index_hex (c : Nat) (hc : c < 256) : Lib.indexByte [48, 49, 50, 51, 52, 53, 54, 55, 56, 57, 97, 98, 99, 100, 101, 102] (c : Int).toNat.toUInt8 = hexP c := by
  have : ∀ c : Fin 256, Lib.indexByte [48, 49, 50, 51, 52, 53, 54, 55, 56, 57, 97, 98, 99, 100, 101, 102] ((c.val : Nat) : Int).toNat.toUInt8 = hexP c.val := by decide +kernel
  exact this ⟨c, hc⟩
theorem hexP_bd (c : Nat) : -1 ≤ hexP c ∧ hexP c < 16 := by
  unfold hexP
  split
  · omega
  · split <;> omega
theorem hex_or (x y : Nat) (hx : x < 16) (hy : y < 16) : bits .or .i32 (16 * (x : Int)) (y : Int) = ((16 * x + y : Nat) : Int) := by
  have : ∀ x : Fin 16, ∀ y : Fin 16, bits .or .i32 (16 * (x.val : Int)) (y.val : Int) = ((16 * x.val + y.val : Nat) : Int) := by decide +kernel
  exact this ⟨x, hx⟩ ⟨y, hy⟩
theorem hex_shl (x : Nat) (hx : x < 16) : IntKind.i32.wrap ((x : Int) * 16) = ((16 * x : Nat) : Int) := by
  have : ∀ x : Fin 16, IntKind.i32.wrap ((x.val : Int) * 16) = ((16 * x.val : Nat) : Int) := by decide +kernel
  exact this ⟨x, hx⟩
end Go
namespace Go.Proofs.YtinogphhbbaobaaDoor
open Go.RowKit

set_option maxHeartbeats 800000 in
theorem find_any (c : Nat) (hc : c < 256) (w : World) :
    Calls Tryd.prog 69 #[.int .u8 (c : Int)] w fun e w' => e = .returned (.int .i32 (hexP c)) ∧ w' = w := by
  have HC := Lib.hid (fun w => Tryd.strings_IndexByte ⟨#[48, 49, 50, 51, 52, 53, 54, 55, 56, 57, 97, 98, 99, 100, 101, 102]⟩ (c : Int) w); have e1 : (⟨#[48, 49, 50, 51, 52, 53, 54, 55, 56, 57, 97, 98, 99, 100, 101, 102]⟩ : ByteArray).data.toList = [48, 49, 50, 51, 52, 53, 54, 55, 56, 57, 97, 98, 99, 100, 101, 102] := rfl; rw [e1] at HC; have hb := hexP_bd c; rw [index_hex c hc] at HC; have hw : IntKind.i32.wrap (hexP c) = hexP c := by
    have : ∀ x : Fin 17, IntKind.i32.wrap ((x.val : Int) - 1) = (x.val : Int) - 1 := by decide +kernel
    have h2 := this ⟨(hexP c + 1).toNat, by omega⟩; dsimp only at h2; rw [show (((hexP c + 1).toNat : Nat) : Int) - 1 = hexP c by omega] at h2; exact h2
  generalize hexP c = X at *
  go_enter Tryd.func69, Tryd.ntmps69
  go_wp2_with fail
  refine (HC.out _).mono ?_; rintro e w1 ⟨rfl, rfl⟩; go_wp2; go_ret; exact ⟨rfl, rfl⟩

set_option maxHeartbeats 1600000 in
theorem esc_any (t : ByteArray) (hs : t.size ≤ maxLen) (w : World) :
    Calls Tryd.prog 54 #[.string t] w fun e w' => e = .returned (.tuple #[.int .i32 (escF t).1, .int .i64 (escF t).2.1, .int .i64 (escF t).2.2]) ∧ ∃ n, w' = w.drewN n := by
  have hs2 : t.size ≤ 9223372036854775807 := by unfold maxLen at hs; omega
  have hF := Lib.hid (escF.eq_1 t); generalize escF t = R at *; obtain ⟨R1, R2, R3⟩ := R; dsimp only
  go_enter Tryd.func54, Tryd.ntmps54
  by_cases h0 : t.size = 0
  · have hR := hF.out; rw [if_pos h0] at hR
    cases hR
    clear hF; have ht : t = ⟨#[]⟩ := by
      apply ByteArray.ext; exact Array.eq_empty_of_size_eq_zero h0
    subst ht; go_wp2; refine bodyPost_ret (v := .tuple #[.int .i32 0, .int .i64 0, .int .i64 4]) (by simp [results, Tryd.results54, go_sem]) rfl ⟨rfl, 0, rfl⟩
  · have hpos : 0 < t.size := by omega
    have hg0 := byt_get hpos; have hb0 := byt_lt t 0; have hte : t.toList.isEmpty = false := by rw [empty_dec]; simp [h0]
    have hR := hF.out; rw [if_neg h0] at hR; replace hF := Lib.hid hR; clear hR; have HD : Hid (∀ k, k < t.size → byt t k < 256) := Lib.hid (fun k _ => byt_lt t k); obtain ⟨c, hc⟩ : ∃ c, byt t 0 = c := ⟨_, rfl⟩; rw [hc] at hF hg0 hb0
    by_cases c1 : c = 92 ∨ c = 34
    · have hR := hF.out; rw [if_pos c1] at hR
      cases hR
      clear hF hc
      rcases c1 with rfl | rfl
      · go_wp2; refine bodyPost_ret (v := .tuple #[.int .i32 92, .int .i64 1, .int .i64 0]) (by simp [results, Tryd.results54, go_sem]) rfl ⟨rfl, 0, rfl⟩
      · go_wp2; refine bodyPost_ret (v := .tuple #[.int .i32 34, .int .i64 1, .int .i64 0]) (by simp [results, Tryd.results54, go_sem]) rfl ⟨rfl, 0, rfl⟩
    · have hR := hF.out; rw [if_neg c1] at hR; replace hF := Lib.hid hR; clear hR; have d1 : ((c : Int) == 92) = false := by rw [beq_eq_false_iff_ne]; omega
      have d2 : ((c : Int) == 34) = false := by rw [beq_eq_false_iff_ne]; omega
      by_cases c2 : c = 110
      · have hR := hF.out; rw [if_pos c2] at hR
        cases hR
        clear hF hc c1 d1 d2; subst c2; go_wp2; refine bodyPost_ret (v := .tuple #[.int .i32 10, .int .i64 1, .int .i64 0]) (by simp [results, Tryd.results54, go_sem]) rfl ⟨rfl, 0, rfl⟩
      by_cases c3 : c = 116
      · have hR := hF.out; rw [if_neg c2, if_pos c3] at hR
        cases hR
        clear hF hc c1 c2 d1 d2; subst c3; go_wp2; refine bodyPost_ret (v := .tuple #[.int .i32 9, .int .i64 1, .int .i64 0]) (by simp [results, Tryd.results54, go_sem]) rfl ⟨rfl, 0, rfl⟩
      have d3 : ((c : Int) == 110) = false := by rw [beq_eq_false_iff_ne]; omega
      have d4 : ((c : Int) == 116) = false := by rw [beq_eq_false_iff_ne]; omega
      by_cases c4 : c ≠ 120
      · have hR := hF.out; rw [if_neg c2, if_neg c3, if_pos c4] at hR
        cases hR
        have d5 : ((c : Int) == 120) = false := by rw [beq_eq_false_iff_ne]; omega
        clear hF hc c1 c2 c3; go_wp2; refine bodyPost_ret (v := .tuple #[.int .i32 0, .int .i64 0, .int .i64 3]) (by simp [results, Tryd.results54, go_sem]) rfl ⟨rfl, 0, rfl⟩
      have hR := hF.out; rw [if_neg c2, if_neg c3, if_neg c4] at hR; replace hF := Lib.hid hR; have c5 : c = 120 := by omega
      clear hR c1 c2 c3 c4 d1 d2 d3 d4; subst c5; have HFI := Lib.hid find_any; clear hc; go_wp2
      go_loopw [6] (fun i wr => ∃ k : Nat, i = .int .i64 (k : Int) ∧ wr = w ∧ 1 ≤ k ∧ k ≤ 3 ∧ Hid (∀ j, 1 ≤ j → j < k → j < t.size ∧ 0 ≤ hexP (byt t j))) (fun i _ => 3 - (intOf i).toNat)
      case atStart => exact ⟨1, rfl, rfl, by omega, by omega, Lib.hid (fun j h1 h2 => by omega)⟩
      case round =>
        obtain ⟨k, rfl, rfl, hk1, hk3, HJ⟩ := hrel
        by_cases hk : k = 3
        · subst hk; obtain ⟨s1, x1⟩ := HJ.out 1 (by omega) (by omega); obtain ⟨s2, x2⟩ := HJ.out 2 (by omega) (by omega); have g1 := byt_get s1; have g2 := byt_get s2; have hR := hF.out; rw [if_neg (by omega), if_neg (by omega), if_neg (by omega), if_neg (by omega)] at hR; replace hF := Lib.hid hR; have b1 := hexP_bd (byt t 1); have b2 := hexP_bd (byt t 2); have HF1 := HFI.out _ (byt_lt t 1); have HF2 := HFI.out _ (byt_lt t 2); clear hR HFI HD HJ; generalize byt t 1 = c1 at *; generalize byt t 2 = c2 at *; obtain ⟨X, hX⟩ : ∃ X : Nat, hexP c1 = (X : Int) := ⟨(hexP c1).toNat, by omega⟩; obtain ⟨Y, hY⟩ : ∃ Y : Nat, hexP c2 = (Y : Int) := ⟨(hexP c2).toNat, by omega⟩; rw [hX] at b1 HF1; rw [hY] at b2 HF2; have HF1 := Lib.hid HF1; have HF2 := Lib.hid HF2; have hX16 : X < 16 := by omega
          have hY16 : Y < 16 := by omega
          have r1 := hex_shl X hX16; have r2 := hex_or X Y hX16 hY16; have hZ : ((X : Int) * 16 + (Y : Int)).toNat = 16 * X + Y := by omega
          have hR := hF.out; rw [hX, hY, hZ] at hR; clear hX hY x1 x2 hF; have HFM := Lib.hid (form_any (16 * X + Y) (by omega)); have hZb : 16 * X + Y < 256 := by omega
          generalize 16 * X + Y = Z at *; have hF := Lib.hid hR; clear hR hZ; go_wp2
          go_quiet (first | (refine Calls.quiet_of_same (HF1.out _)) | (refine Calls.quiet_of_same (HF2.out _)))
          have HW1 : Hid (∃ n, wr.drewN nq = wr.drewN n) := Lib.hid ⟨nq, rfl⟩; have l3 : (3 : Int) ≤ (t.size : Int) := by omega
          generalize wr.drewN nq = w1 at *; go_wp2; have l4 : ¬ 9223372036854775807 < 1 + min 3 t.size := by omega
          go_quiet (refine Calls.quiet_of (HFM.out _))
          go_wp2
          · rename_i hq; have hn : ¬ formF Z = 92 :: (t.extract 0 3).data.toList := by
              rw [esc_app] at hq
              simpa using hq
            have hR := hF.out; rw [if_neg hn] at hR
            cases hR
            obtain ⟨m, hm⟩ := HW1.out; refine bodyPost_ret (v := .tuple #[.int .i32 0, .int .i64 0, .int .i64 3]) (by simp [results, Tryd.results54, go_sem]) rfl ⟨rfl, m + nq, by rw [hm, World.drewN_drewN]⟩
          · rename_i hq; have hn : formF Z = 92 :: (t.extract 0 3).data.toList := by
              rw [esc_app] at hq
              simpa using hq
            have hR := hF.out; rw [if_pos hn] at hR
            cases hR
            obtain ⟨m, hm⟩ := HW1.out; refine bodyPost_ret (v := .tuple #[.int .i32 (R1 : Int), .int .i64 3, .int .i64 0]) (by simp [results, Tryd.results54, go_sem]) rfl ⟨rfl, m + nq, by rw [hm, World.drewN_drewN]⟩
        · by_cases hsk : k = t.size
          · have hR := hF.out; have e1 : ((k : Int) == (t.size : Int)) = true := by rw [beq_iff_eq]; omega
            have e2 : (k : Int) ≤ 2 := by omega
            by_cases k1 : k = 1
            · subst k1; rw [if_pos (by omega)] at hR
              cases hR
              clear hF HFI HD HJ; go_wp2; refine bodyPost_ret (v := .tuple #[.int .i32 0, .int .i64 0, .int .i64 4]) (by simp [results, Tryd.results54, go_sem]) rfl ⟨rfl, 0, rfl⟩
            · have k2 : k = 2 := by omega
              subst k2; obtain ⟨s1, x1⟩ := HJ.out 1 (by omega) (by omega); rw [if_neg (by omega), if_neg (by omega), if_pos (by omega)] at hR
              cases hR
              clear hF HFI HD HJ; go_wp2; refine bodyPost_ret (v := .tuple #[.int .i32 0, .int .i64 0, .int .i64 4]) (by simp [results, Tryd.results54, go_sem]) rfl ⟨rfl, 0, rfl⟩
          · by_cases hsz : k < t.size
            · have hg := byt_get hsz; have hsz2 : (k : Int) < (t.size : Int) := by omega
              have HF1 := HFI.out _ (byt_lt t k); have e1 : ((k : Int) == (t.size : Int)) = false := by rw [beq_eq_false_iff_ne]; omega
              have e2 : (k : Int) ≤ 2 := by omega
              by_cases hx : hexP (byt t k) < 0
              · have hR := hF.out; have HR : Hid (R1 = 0 ∧ R2 = 0 ∧ R3 = 3) := by
                  by_cases k1 : k = 1
                  · subst k1; rw [if_neg (by omega), if_pos (by omega)] at hR
                    cases hR
                    exact Lib.hid ⟨rfl, rfl, rfl⟩
                  · have k2 : k = 2 := by omega
                    subst k2; obtain ⟨s1, x1⟩ := HJ.out 1 (by omega) (by omega); rw [if_neg (by omega), if_neg (by omega), if_neg (by omega), if_pos (by omega)] at hR
                    cases hR
                    exact Lib.hid ⟨rfl, rfl, rfl⟩
                obtain ⟨rfl, rfl, rfl⟩ := HR.out; generalize byt t k = c at *; generalize hexP c = X at *; have HF1 := Lib.hid HF1; clear hR hF HFI HD HJ HR
                go_wp2_with fail
                refine (HF1.out _).mono ?_; rintro e w1 ⟨rfl, rfl⟩; go_wp2; refine bodyPost_ret (v := .tuple #[.int .i32 0, .int .i64 0, .int .i64 3]) (by simp [results, Tryd.results54, go_sem]) rfl ⟨rfl, 0, rfl⟩
              · have HJ2 : Hid (∀ j, 1 ≤ j → j < k + 1 → j < t.size ∧ 0 ≤ hexP (byt t j)) := Lib.hid (fun j h1 h2 => by
                  by_cases hj : j = k
                  · subst hj; exact ⟨hsz, by omega⟩
                  · exact HJ.out j h1 (by omega))
                generalize byt t k = c at *; generalize hexP c = X at *; have HF1 := Lib.hid HF1; clear HFI HD HJ
                go_wp2_with fail
                refine (HF1.out _).mono ?_; rintro e w1 ⟨rfl, rfl⟩; go_wp2; go_roundw
                case rel => exact ⟨k + 1, val_int (by omega), trivial, by omega, by omega, HJ2⟩
                case measure => simp [intOf]; omega
            · exfalso
              by_cases k1 : k = 1
              · omega
              · have k2 : k = 2 := by omega
                subst k2; obtain ⟨s1, x1⟩ := HJ.out 1 (by omega) (by omega); omega
end Go.Proofs.YtinogphhbbaobaaDoor
/- graticuleref09.Quote. -/
set_option linter.unusedVariables false
set_option linter.unusedSimpArgs false
set_option maxRecDepth 100000
namespace Go
open Go.RowKit
def formB (b : UInt8) : List UInt8 := if formR b.toNat = [] then [b] else formR b.toNat
def rquoteF (s : ByteArray) : List UInt8 := 34 :: s.data.toList.flatMap formB ++ [34]
theorem bts_one (s : ByteArray) (i : Nat) (h : i < s.size) : (s.extract i (i + 1)).data.toList = [s.get! i] := by
  have := bts_eq s i 1 (by omega); unfold bts at this; rw [this]; simp [List.range_succ]
theorem take_flat (s : ByteArray) (i : Nat) (h : i < s.size) : (s.data.toList.take (i + 1)).flatMap formB = (s.data.toList.take i).flatMap formB ++ formB (s.get! i) := by
  rw [List.take_add_one, get_lt h]; simp
theorem formR_len (r : Nat) : (formR r).length ≤ 4 := by
  unfold formR
  repeat' split
  all_goals simp
end Go
namespace Go.Proofs.YtinogphhbbaobaaDoor
open Go.RowKit

set_option maxHeartbeats 1600000 in
theorem rquote_any (s : ByteArray) (hs : s.size ≤ 100000) (w : World) :
    Calls Tryd.prog 40 #[.string s] w fun e w' => e = .returned (.string ⟨(rquoteF s).toArray⟩) ∧ Below w.heap.size w w' := by
  have hQ : Hid (∀ q : ByteArray, q.data.toList = rquoteF s → q = ⟨(rquoteF s).toArray⟩) := Lib.hid (fun q h => by
    apply ByteArray.ext; rw [← h])
  have hR : Hid (rquoteF s = (34 :: s.data.toList.flatMap formB) ++ [34]) := Lib.hid rfl; generalize rquoteF s = Q at *; have hcv := Lib.hid (fun w => conv_lit w [34] 1 rfl); have hl : s.data.toList.length = s.size := Array.length_toList; have h0 : (convert 25 9 (.slice (some ⟨w.heap.size, 0, none⟩) 1 1)).run Tryd.prog (w.alloc (.cells #[.int .u8 34] 5)) = .ok (.string ⟨#[34]⟩) (w.alloc (.cells #[.int .u8 34] 5)) := hcv.out w; have hb0 := Below.new w (.cells #[.int .u8 34] 5)
  go_enter Tryd.func40, Tryd.ntmps40
  go_wp2
  go_loopw [3, 4] (fun o i wr => ∃ (k : Nat) (q : ByteArray), o = .string q ∧ i = .int .i64 (k : Int) ∧ k ≤ s.size ∧ q.size ≤ 1 + 4 * k ∧ Hid (q.data.toList = 34 :: (s.data.toList.take k).flatMap formB) ∧ Below w.heap.size w wr) (fun _ i _ => s.size - (intOf i).toNat)
  case atStart => exact ⟨0, ⟨#[34]⟩, rfl, rfl, by omega, by simp [ByteArray.size], Lib.hid rfl, hb0⟩
  case round =>
    clear h0 hb0; obtain ⟨k, q, rfl, rfl, hk, hq, HQ, hb⟩ := hrel
    by_cases hp : k < s.size
    · have hpi : (k : Int) < (s.size : Int) := by omega
      have hpi2 : (k : Int) ≤ (s.size : Int) := by omega
      have hpi3 : (k : Int) + 1 ≤ (s.size : Int) := by omega
      have hg := byt_get hp; have hbl := byt_lt s k; have hf := rform_any (byt s k) (by omega); have hfl := formR_len (byt s k); have hB : Hid (formB (s.get! k) = if formR (byt s k) = [] then [s.get! k] else formR (byt s k)) := Lib.hid rfl; have hone := bts_one s k hp; have hst := Lib.hid (take_flat s k hp); generalize byt s k = c at *; generalize formR c = F at *; have HF := Lib.hid hf; clear hf
      go_wp2_with fail
      refine (HF.out _).mono ?_; rintro e w1 ⟨rfl, hb1⟩; have hb2 := hb.trans (hb1.mono hb.size)
      by_cases hF0 : F = []
      · subst hF0; have hte : (⟨([] : List UInt8).toArray⟩ : ByteArray).toList.isEmpty = true := by rw [empty_dec]; rfl
        have hx := hB.out; rw [if_pos rfl] at hx; have hes : (s.extract k (k + 1)).size = 1 := by rw [ByteArray.size_extract]; omega
        obtain ⟨E, hE⟩ : ∃ E, s.extract k (k + 1) = E := ⟨_, rfl⟩; rw [hE] at hone hes; have hl4 : ¬ 9223372036854775807 < q.size + E.size := by omega
        have hqs : (q ++ E).size = q.size + E.size := ByteArray.size_append; have HQ2 : Hid ((q ++ E).data.toList = 34 :: (s.data.toList.take (k + 1)).flatMap formB) := Lib.hid (by
          rw [ByteArray.data_append, Array.toList_append, HQ.out, hone, hst.out, hx]; rfl)
        clear HF hB hst hone hx; go_wp2; go_roundw
        case rel => exact ⟨k + 1, q ++ E, rfl, val_int (by omega), by omega, by rw [hqs]; omega, HQ2, hb2⟩
        case measure => simp [intOf]; omega
      · have hte : F.isEmpty = false := by simpa using hF0
        have hx := hB.out; rw [if_neg hF0] at hx; have hes : (⟨F.toArray⟩ : ByteArray).size = F.length := by simp [ByteArray.size]
        have hl4 : ¬ 9223372036854775807 < q.size + F.length := by omega
        have hqs : (q ++ ⟨F.toArray⟩).size = q.size + (⟨F.toArray⟩ : ByteArray).size := ByteArray.size_append; have HQ2 : Hid ((q ++ ⟨F.toArray⟩).data.toList = 34 :: (s.data.toList.take (k + 1)).flatMap formB) := Lib.hid (by
          rw [ByteArray.data_append, Array.toList_append, HQ.out, hst.out, hx]; rfl)
        clear HF hB hst hone hx; go_wp2; go_roundw
        case rel => exact ⟨k + 1, q ++ ⟨F.toArray⟩, rfl, val_int (by omega), by omega, by rw [hqs]; omega, HQ2, hb2⟩
        case measure => simp [intOf]; omega
    · have hke : k = s.size := by omega
      subst hke; have h1 : (convert 25 9 (.slice (some ⟨wr.heap.size, 0, none⟩) 1 1)).run Tryd.prog (wr.alloc (.cells #[.int .u8 34] 5)) = .ok (.string ⟨#[34]⟩) (wr.alloc (.cells #[.int .u8 34] 5)) := hcv.out wr; have hl4 : ¬ 9223372036854775807 < q.size + 1 := by omega
      have hq2 : Hid (q ++ ⟨#[34]⟩ = ⟨Q.toArray⟩) := Lib.hid (hQ.out _ (by
        rw [ByteArray.data_append, Array.toList_append, HQ.out, hR.out, List.take_of_length_le (Nat.le_of_eq hl)]))
      have hbe := hb.alloc hb.size (.cells #[.int .u8 34] 5); clear HQ hQ hR hcv; go_wp2; go_ret; exact ⟨congrArg (fun x => Ending.returned (.string x)) hq2.out, hbe⟩
end Go.Proofs.YtinogphhbbaobaaDoor
/- Plain: the text whose quoted form comes first. -/
set_option linter.unusedVariables false
set_option linter.unusedSimpArgs false
set_option maxRecDepth 100000
namespace Go
open Go.RowKit
def unqF (s : ByteArray) : Nat → Nat → List UInt8 → List UInt8 × Nat × Nat
  | 0, _, _ => ([], 0, 4)
  | f + 1, p, acc =>
    if p < s.size then
      if badAt s p then ([], 0, 13)
      else if (Utf8.decode s p).1 = 34 then (acc, p + 1, 0)
      else if (Utf8.decode s p).1 = 92 then
        (if (escF (s.extract (p + 1) s.size)).2.2 = 0 then unqF s f (p + 1 + (escF (s.extract (p + 1) s.size)).2.1) (acc ++ [(escF (s.extract (p + 1) s.size)).1.toUInt8])
         else ([], 0, (escF (s.extract (p + 1) s.size)).2.2))
      else if (Utf8.decode s p).1 < 32 ∨ (Utf8.decode s p).1 = 127 then ([], 0, 3)
      else unqF s f (p + (Utf8.decode s p).2) (acc ++ bts s p (Utf8.decode s p).2)
    else ([], 0, 4)
def unquoteF (s : ByteArray) : List UInt8 × Nat × Nat :=
  if s.size = 0 then ([], 0, 4) else if byt s 0 ≠ 34 then ([], 0, 3) else unqF s s.size 1 []
theorem unqF_end (s : ByteArray) (f p : Nat) (acc : List UInt8) (h : ¬ p < s.size) : unqF s f p acc = ([], 0, 4) := by
  cases f <;> simp [unqF, h]
theorem unqF_bad {s : ByteArray} {f p : Nat} {acc : List UInt8} (h : p < s.size) (h1 : badAt s p = true) : unqF s (f + 1) p acc = ([], 0, 13) := by
  simp [unqF, h, h1]
theorem unqF_shut {s : ByteArray} {f p : Nat} {acc : List UInt8} (h : p < s.size) (h1 : badAt s p = false) (h2 : (Utf8.decode s p).1 = 34) : unqF s (f + 1) p acc = (acc, p + 1, 0) := by
  simp [unqF, h, h1, h2]
theorem unqF_esc {s : ByteArray} {f p : Nat} {acc : List UInt8} (h : p < s.size) (h1 : badAt s p = false) (h2 : (Utf8.decode s p).1 = 92) : unqF s (f + 1) p acc =
    (if (escF (s.extract (p + 1) s.size)).2.2 = 0 then unqF s f (p + 1 + (escF (s.extract (p + 1) s.size)).2.1) (acc ++ [(escF (s.extract (p + 1) s.size)).1.toUInt8])
         else ([], 0, (escF (s.extract (p + 1) s.size)).2.2)) := by
  simp [unqF, h, h1, h2]
theorem unqF_low {s : ByteArray} {f p : Nat} {acc : List UInt8} (h : p < s.size) (h1 : badAt s p = false) (h2 : (Utf8.decode s p).1 ≠ 34) (h3 : (Utf8.decode s p).1 ≠ 92) (h4 : (Utf8.decode s p).1 < 32 ∨ (Utf8.decode s p).1 = 127) : unqF s (f + 1) p acc = ([], 0, 3) := by
  simp [unqF, h, h1, h2, h3, h4]
theorem unqF_on {s : ByteArray} {f p : Nat} {acc : List UInt8} (h : p < s.size) (h1 : badAt s p = false) (h2 : (Utf8.decode s p).1 ≠ 34) (h3 : (Utf8.decode s p).1 ≠ 92) (h4 : ¬ ((Utf8.decode s p).1 < 32 ∨ (Utf8.decode s p).1 = 127)) : unqF s (f + 1) p acc = unqF s f (p + (Utf8.decode s p).2) (acc ++ bts s p (Utf8.decode s p).2) := by
  simp [unqF, h, h1, h2, h3, h4]
theorem form_four (r : Nat) (hr : r < 256) (h : (formF r).length = 4) : r < 32 ∨ r = 127 := by
  have : ∀ r : Fin 256, (formF r.val).length = 4 → r.val < 32 ∨ r.val = 127 := by decide +kernel
  exact this ⟨r, hr⟩ h
theorem esc_ok (t : ByteArray) (h : (escF t).2.2 = 0) : (escF t).1 < 128 ∧ 1 ≤ (escF t).2.1 ∧ (escF t).2.1 ≤ t.size ∧ (escF t).2.1 ≤ 3 := by
  have b1 := hexP_bd (byt t 1); have b2 := hexP_bd (byt t 2)
  revert h
  unfold escF
  split
  · intro h; cases h
  split
  · intro _; dsimp only; omega
  split
  · intro _; dsimp only; omega
  split
  · intro _; dsimp only; omega
  split
  · intro h; cases h
  split
  · intro h; cases h
  split
  · intro h; cases h
  split
  · intro h; cases h
  split
  · intro h; cases h
  split
  · rename_i e; intro _; have hl := congrArg List.length e; have h3 : (t.extract 0 3).data.toList.length = 3 := by
      have : (t.extract 0 3).data.toList.length = (t.extract 0 3).size := Array.length_toList; rw [this, ByteArray.size_extract]; omega
    rw [List.length_cons, h3] at hl; have := form_four _ (by omega) hl; dsimp only; omega
  · intro h; cases h
theorem esc_err (t : ByteArray) : (escF t).2.2 = 0 ∨ (escF t).2.2 = 3 ∨ (escF t).2.2 = 4 := by
  unfold escF
  repeat' split
  all_goals simp
theorem enc_low (r : Nat) (h : r < 128) : Lib.encodeRune (r : Int) = [r.toUInt8] := by
  unfold Lib.encodeRune; rw [Lib.encodeRuneZ_one (by omega) (by omega)]; simp
end Go
