/-
  Bits of bytes and words, as arithmetic. varint.Read. Fields of messages: plain functions, and what they obey.
-/
import Derived.WalkKit
import Derived.Lib.EndianBits
import Derived.Lib.Zigzag
import Derived.Test.YtjggoajfilnfjaaGreatProg
import Derived.Test.YtjggoajfilnfjaaGreatPk1
namespace Go

theorem or128_fin : ∀ x : Fin 256, bits .or .u8 (x.val : Int) 128 = 128 + (x.val : Int) % 128 := by decide +kernel
theorem u8_or128' (x : Int) (h0 : 0 ≤ x) (h1 : x < 256) : bits .or .u8 x 128 = 128 + x % 128 := by
 have := or128_fin ⟨x.toNat, by omega⟩
 simpa [Int.toNat_of_nonneg h0] using this
theorem and127_fin : ∀ x : Fin 256, bits .and .u8 (x.val : Int) 127 = (x.val : Int) % 128 := by decide +kernel
theorem u8_and127 (x : Int) (h0 : 0 ≤ x) (h1 : x < 256) : bits .and .u8 x 127 = x % 128 := by
 have := and127_fin ⟨x.toNat, by omega⟩
 simpa [Int.toNat_of_nonneg h0] using this

theorem u64_or_low (i : Nat) (y x : Int) (hi : i ≤ 64) (hy0 : 0 ≤ y) (hy : y < 2 ^ i) (hx0 : 0 ≤ x) (hx : x % 2 ^ i = 0) (hx1 : x < 18446744073709551616) : bits .or .u64 y x = y + x := by
 have h2 : (2 : Int) ^ i ≤ 2 ^ 64 := by
  have : (2 : Nat) ^ i ≤ 2 ^ 64 := Nat.pow_le_pow_right (by decide) hi
  exact_mod_cast this
 exact bits_join_low .u64 64 (by decide) wraps_u64 i y x hy0 hy (by omega) hx0 hx (by simpa using hx1)

theorem acc_step (v x : Int) (i : Nat) (hi : i ≤ 9) (hv0 : 0 ≤ v) (hv : v < 128 ^ i) (hx0 : 0 ≤ x) (hx : x ≤ 255) (h9 : i = 9 → x ≤ 1) :
  bits BinOp.or IntKind.u64 v (IntKind.u64.wrap (IntKind.u64.wrap (bits BinOp.and IntKind.u8 x 127) * 2 ^ (7 * i))) = v + 128 ^ i * (x % 128) := by
 rw [u8_and127 x hx0 (by omega), IntWalk.u64_in (x % 128) (by omega)]
 rcases (by omega : i = 0 ∨ i = 1 ∨ i = 2 ∨ i = 3 ∨ i = 4 ∨ i = 5 ∨ i = 6 ∨ i = 7 ∨ i = 8 ∨ i = 9) with rfl | rfl | rfl | rfl | rfl | rfl | rfl | rfl | rfl | rfl <;>
  (simp at hv; simp at h9; (try simp only [Nat.reduceMul, Int.reducePow]); rw [IntWalk.u64_in _ (by omega)])
 ·rw [u64_or_low 0 _ _ (by omega) hv0 (by omega) (by omega) (by omega) (by omega)]; omega
 ·rw [u64_or_low 7 _ _ (by omega) hv0 (by omega) (by omega) (by omega) (by omega)]; omega
 ·rw [u64_or_low 14 _ _ (by omega) hv0 (by omega) (by omega) (by omega) (by omega)]; omega
 ·rw [u64_or_low 21 _ _ (by omega) hv0 (by omega) (by omega) (by omega) (by omega)]; omega
 ·rw [u64_or_low 28 _ _ (by omega) hv0 (by omega) (by omega) (by omega) (by omega)]; omega
 ·rw [u64_or_low 35 _ _ (by omega) hv0 (by omega) (by omega) (by omega) (by omega)]; omega
 ·rw [u64_or_low 42 _ _ (by omega) hv0 (by omega) (by omega) (by omega) (by omega)]; omega
 ·rw [u64_or_low 49 _ _ (by omega) hv0 (by omega) (by omega) (by omega) (by omega)]; omega
 ·rw [u64_or_low 56 _ _ (by omega) hv0 (by omega) (by omega) (by omega) (by omega)]; omega
 ·rw [u64_or_low 63 _ _ (by omega) hv0 (by omega) (by omega) (by omega) (by omega)]; omega
theorem bits_xor_comm (k : IntKind) (x y : Int) : bits .xor k x y = bits .xor k y x := by simp only [bits, BitVec.xor_comm]

theorem u64_xor0 (x : Int) (h0 : 0 ≤ x) (h1 : x < 18446744073709551616) : bits .xor .u64 x 0 = x := by
 have := bits_xor_u64_nat x.toNat 0 (by omega) (by decide)
 simpa [Int.toNat_of_nonneg h0] using this

theorem i64_xor0 (x : Int) (h0 : 0 ≤ x) (h1 : x < 9223372036854775808) : bits .xor .i64 x 0 = x := by
 show IntKind.i64.wrap ((BitVec.ofInt 64 x ^^^ BitVec.ofInt 64 0).toNat : Int) = _; have h2 : (BitVec.ofInt 64 x).toNat = x.toNat := by
  obtain ⟨m, rfl⟩ := Int.eq_ofNat_of_zero_le h0; rw [BitVec.ofInt_natCast, BitVec.toNat_ofNat]; exact Nat.mod_eq_of_lt (by omega)
 rw [BitVec.toNat_xor, h2]; simp; rw [IntWalk.i64_in _ (by omega)]; omega

theorem zig_nonneg (n : Int) (h0 : 0 ≤ n) (h1 : n ≤ 9223372036854775807) : bits BinOp.xor IntKind.u64 (IntKind.u64.wrap (IntKind.u64.wrap n * 2)) (IntKind.u64.wrap (n / 9223372036854775808)) = 2 * n := by
 have e : n / 9223372036854775808 = 0 := by omega
 rw [e, IntWalk.u64_in n (by omega), IntWalk.u64_in (n * 2) (by omega), IntWalk.u64_in 0 (by omega), u64_xor0 _ (by omega) (by omega)]; omega

theorem zig_neg (n : Int) (h0 : n < 0) (h1 : -9223372036854775808 ≤ n) : bits BinOp.xor IntKind.u64 (IntKind.u64.wrap (IntKind.u64.wrap n * 2)) (IntKind.u64.wrap (n / 9223372036854775808)) = -2 * n - 1 := by
 have e : n / 9223372036854775808 = -1 := by omega
 have e1 : IntKind.u64.wrap (-1) = IntKind.u64.max := by decide
 rw [e, e1, bits_xor_comm, Lib.zigzag_neg h1 h0]; unfold Lib.zigzag; rw [if_neg (by omega)]; omega

theorem u64_and1 (x : Int) (h0 : 0 ≤ x) (h1 : x < 18446744073709551616) : bits .and .u64 x 1 = x % 2 := Lib.u64_and1 x h0 h1

theorem zag_bits (u : Int) (h0 : 0 ≤ u) (h1 : u ≤ 18446744073709551615) : bits .xor .i64 (u / 2) (-(u % 2)) = if u % 2 = 1 then -(u / 2) - 1 else u / 2 := by
 split
 ·rename_i h; rw [h, bits_xor_comm]; have := Lib.i64_not (u / 2).toNat (by omega); rw [Int.toNat_of_nonneg (by omega)] at this; exact this
 ·have h : u % 2 = 0 := by omega
  rw [h]; exact i64_xor0 _ (by omega) (by omega)
theorem u64_and7 (x : Int) (h0 : 0 ≤ x) (h1 : x < 18446744073709551616) : bits .and .u64 x 7 = x % 8 := by
 have h := bits_mask .u64 64 (by decide) wraps_u64 3 (by decide) x h0 (by omega)
 simpa using h
theorem u64_or_hi (i : Nat) (x y : Int) (hi : i ≤ 64) (hx0 : 0 ≤ x) (hx : x % 2 ^ i = 0) (hx1 : x < 18446744073709551616) (hy0 : 0 ≤ y) (hy : y < 2 ^ i) : bits .or .u64 x y = x + y := by
 have h2 : (2 : Int) ^ i ≤ 2 ^ 64 := by
  have : (2 : Nat) ^ i ≤ 2 ^ 64 := Nat.pow_le_pow_right (by decide) hi
  exact_mod_cast this
 exact bits_join .u64 64 (by decide) wraps_u64 i x y hx0 hx (by simpa using hx1) hy0 hy (by omega)
end Go
namespace Go.Proofs.YtjggoajfilnfjaaGreat
open Go.RowKit Go.Vint

def Rd3 (r : Int × Int × Int) : Ending := .returned (.tuple #[.int .u64 r.1, .int .i64 r.2.1, .int .i64 r.2.2])

theorem vread_any (a : Option Addr) (c : Nat) (L : List Int) (hb : ∀ x ∈ L, 0 ≤ x ∧ x ≤ 255) (hlen : L.length ≤ 140737488355328) (w : World) (hr : Rd w a (L.map (Value.int .u8))) :
  Calls Tryz.prog 106 #[.slice a L.length c] w fun e w' => e = Rd3 (rd L) ∧ w = w' := by
 go_enter Tryz.func106, Tryz.ntmps106
 go_wp2; refine wp_goto_pre 0 (fun n a' w' => ∃ (i : Nat) (v : Int) (u7 u8 u9 u10 u11 u12 u13 u14 u15 u16 u17 u18 u19 u20 u21 u22 u23 u24 u25 u26 u27 u28 u29 u30 u31 u32 u33 u34 u35 u36 u37 u38 u39 u40 u41 u42 u43 u44 u45 u46 u47 u48 u49 u50 u51 u52 u53 u54 u55 : Value),
  (w' = w ∧ n = 10 - i ∧ i ≤ 10 ∧ i ≤ L.length ∧ (∀ j, j < i → 128 ≤ L.getD j 0) ∧ (i ≤ 9 → v = val (L.take i))) ∧
  a' = { tmps := #[.slice a L.length c, undef, .int .u64 0, .int .i64 0, .int .i64 0, .int .u64 v, .int .i64 (i : Nat), u7, u8, u9, u10, u11, u12, u13, u14, u15, u16, u17, u18, u19, u20, u21, u22, u23, u24, u25, u26, u27, u28, u29, u30, u31, u32, u33, u34, u35, u36, u37, u38, u39, u40, u41, u42, u43, u44, u45, u46, u47, u48, u49, u50, u51, u52, u53, u54, u55], defers := [] }) rfl ?_ ?_
 ·rintro n a' w' ⟨i, v, u7, u8, u9, u10, u11, u12, u13, u14, u15, u16, u17, u18, u19, u20, u21, u22, u23, u24, u25, u26, u27, u28, u29, u30, u31, u32, u33, u34, u35, u36, u37, u38, u39, u40, u41, u42, u43, u44, u45, u46, u47, u48, u49, u50, u51, u52, u53, u54, u55, ⟨rfl, hn, hi, hil, hge, hv⟩, rfl⟩ J hJ; have HN := Lib.hid hn; have HG := Lib.hid hge; have HV := Lib.hid hv; have HJ := Lib.hid hJ; clear hn hge hv hJ
  by_cases h10 : i = 10
  ·subst h10; go_wp2
   go_ret3
   refine ⟨?_, rfl⟩; rw [rd_range L hil HG.out]; rfl
  ·by_cases hend : i = L.length
   ·subst hend; go_wp2
    go_ret3
    refine ⟨?_, rfl⟩; rw [rd_end L HG.out (by omega)]; rfl
   ·have hlt : i < L.length := by omega
    obtain ⟨b, off, rfl, hcell, _⟩ := hr.at (i := i) (v := .int .u8 L[i]) (by simp [hlt]); have hx := hb L[i] (by simp); have HX : Hid (L.getD i 0 = L[i]) := by show _ = _; simp [hlt]
    by_cases hc : 128 ≤ L[i]
    ·go_wp2
     go_step3
     show (0 : Nat) = 0 ∧ J _ _; refine ⟨rfl, HJ.out (10 - (i + 1)) _ _ (by rw [HN.out]; omega) ⟨i + 1, _, _, _, _, _, _, _, _, _, _, _, _, _, _, _, _, _, _, _, _, _, _, _, _, _, _, _, _, _, _, _, _, _, _, _, _, _, _, _, _, _, _, _, _, _, _, _, _, _, _, ⟨rfl, rfl, by omega, by omega, ?_, ?_⟩, rfl⟩⟩
     ·intro j hj
      by_cases h : j = i
      ·subst h; rw [HX.out]; exact hc
      ·exact HG.out j (by omega)
     ·intro h9; rw [HV.out (by omega), List.take_succ_eq_append_getElem hlt, val_snoc]; have hv := val_bd (L.take i); have hl : (L.take i).length = i := by simp; omega
      rw [hl] at hv ⊢; exact acc_step _ _ i (by omega) hv.1 hv.2 hx.1 hx.2 (by omega)
    ·have HR := Lib.hid (rd_at L i (by omega) HG.out hlt (by rw [HX.out]; omega)); have HA : Hid ((i = 9 → L[i] ≤ 1) → bits BinOp.or IntKind.u64 v (IntKind.u64.wrap (IntKind.u64.wrap (bits BinOp.and IntKind.u8 L[i] 127) * 2 ^ (7 * i))) = val (L.take (i + 1))) := by
      intro h9; rw [HV.out (by omega), List.take_succ_eq_append_getElem hlt, val_snoc]; have hv := val_bd (L.take i); have hl : (L.take i).length = i := by simp; omega
      rw [hl] at hv ⊢; exact acc_step _ _ i (by omega) hv.1 hv.2 hx.1 hx.2 h9
     by_cases h9 : i = 9
     ·subst h9
      by_cases h1 : 1 < L[9]
      ·go_wp2
       go_ret3
       refine ⟨?_, rfl⟩; rw [HR.out, HX.out, if_pos ⟨by decide, h1⟩]; rfl
      ·by_cases h0 : L[9] = 0
       ·have hb0 : (L[9] == 0) = true := by simp [h0]
        have H0 := Lib.hid h0; clear h0; go_wp2
        go_ret3
        refine ⟨?_, rfl⟩; rw [HR.out, HX.out, if_neg (by omega), if_pos ⟨by omega, H0.out⟩]; rfl
       ·have hb0 : (L[9] == 0) = false := by simp [h0]
        go_wp2
        go_ret3
        refine ⟨?_, rfl⟩; rw [HR.out, HX.out, if_neg (by omega), if_neg (by omega), ← HA.out (by omega)]; rfl
     ·by_cases hi0 : i = 0
      ·have hi1 : i ≤ 0 := by omega
       clear hi0; go_wp2
       go_ret3
       refine ⟨?_, rfl⟩; rw [HR.out, if_neg (by omega), if_neg (by omega), ← HA.out (by omega)]; rfl
      ·by_cases h0 : L[i] = 0
       ·have hb0 : (L[i] == 0) = true := by simp [h0]
        have H0 := Lib.hid h0; clear h0; go_wp2
        go_ret3
        refine ⟨?_, rfl⟩; rw [HR.out, HX.out, if_neg (by omega), if_pos ⟨by omega, H0.out⟩]; rfl
       ·have hb0 : (L[i] == 0) = false := by simp [h0]
        go_wp2
        go_ret3
        refine ⟨?_, rfl⟩; rw [HR.out, HX.out, if_neg (by omega), if_neg (by omega), ← HA.out (by omega)]; rfl
 ·intro J hJ; go_wp2
  go_step3
  go_step; go_step; exact hJ.out 10 _ _ ⟨0, 0, _, _, _, _, _, _, _, _, _, _, _, _, _, _, _, _, _, _, _, _, _, _, _, _, _, _, _, _, _, _, _, _, _, _, _, _, _, _, _, _, _, _, _, _, _, _, _, _, _, ⟨rfl, rfl, by omega, by omega, fun j h => by omega, fun _ => rfl⟩, rfl⟩
end Go.Proofs.YtjggoajfilnfjaaGreat
namespace Go.Proto
open Go.Vint

def le : List Int → Int
 | [] => 0
 | x :: l => x + 256 * le l

structure Fld where
 num : Int
 kind : Int
 n : Int
 bs : List Int

def Fld.zero : Fld := ⟨0, 0, 0, []⟩

def body (b : List Int) (key : Int) (p : Nat) : Fld × Int × Int :=
 if key % 8 = 0 ∨ key % 8 = 2 then
  if (rd (b.drop p)).2.2 = 0 then
   if key % 8 = 0 then (⟨key / 8, 0, (rd (b.drop p)).1, []⟩, (p : Int) + (rd (b.drop p)).2.1, 0)
   else if (b.length : Int) - ((p : Int) + (rd (b.drop p)).2.1) < (rd (b.drop p)).1 then (Fld.zero, 0, 4)
   else (⟨key / 8, 2, 0, (b.drop (p + (rd (b.drop p)).2.1.toNat)).take (rd (b.drop p)).1.toNat⟩, (p : Int) + (rd (b.drop p)).2.1 + (rd (b.drop p)).1, 0)
  else (Fld.zero, 0, (rd (b.drop p)).2.2)
 else if key % 8 = 1 then (if (b.length : Int) - p < 8 then (Fld.zero, 0, 4) else (⟨key / 8, 1, le ((b.drop p).take 8), []⟩, (p : Int) + 8, 0))
 else if key % 8 = 5 then (if (b.length : Int) - p < 4 then (Fld.zero, 0, 4) else (⟨key / 8, 5, le ((b.drop p).take 4), []⟩, (p : Int) + 4, 0))
 else (Fld.zero, 0, 14)

def prd (b : List Int) : Fld × Int × Int :=
 if (rd b).2.2 = 0 then (if (rd b).1 / 8 < 1 ∨ 536870911 < (rd b).1 / 8 then (Fld.zero, 0, 5) else body b (rd b).1 (rd b).2.1.toNat)
 else (Fld.zero, 0, (rd b).2.2)

theorem le_bd (l : List Int) (h : ∀ x ∈ l, 0 ≤ x ∧ x ≤ 255) : 0 ≤ le l ∧ le l < 256 ^ l.length := by
 induction l with
 | nil => simp [le]
 | cons x l ih =>
  have hx := h x (by simp); have := ih (fun y hy => h y (by simp [hy])); simp only [le, List.length_cons, Int.pow_succ]; omega

theorem le_drop (l : List Int) (i : Nat) (h : i < l.length) : le (l.drop i) = l[i] + 256 * le (l.drop (i + 1)) := by
 rw [List.drop_eq_getElem_cons h, le]

theorem le_8 (l : List Int) (h : ∀ x ∈ l, 0 ≤ x ∧ x ≤ 255) (k : Nat) (hk : l.length ≤ k) (h8 : k ≤ 8) : 0 ≤ le l ∧ le l < 256 ^ k := by
 have h1 := le_bd l h; have h2 : (256 : Int) ^ l.length ≤ 256 ^ k := by
  obtain ⟨d, rfl⟩ : ∃ d, k = l.length + d := ⟨k - l.length, by omega⟩; rw [Int.pow_add]; have h3 : (1 : Int) ≤ 256 ^ d := Int.pow_pos (by decide); have h4 : (0 : Int) ≤ 256 ^ l.length := Int.le_of_lt (Int.pow_pos (by decide)); have := Int.mul_le_mul_of_nonneg_left h3 h4
  simpa using this
 omega
end Go.Proto
