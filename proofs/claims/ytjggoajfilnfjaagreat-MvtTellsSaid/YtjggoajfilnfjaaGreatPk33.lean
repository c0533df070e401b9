/-
  graticuleref09.First. graticuleref09.Runes.
-/
import Derived.Test.YtjggoajfilnfjaaGreatPk32
import Derived.Test.YtjggoajfilnfjaaGreatPk5
import Derived.Test.YtjggoajfilnfjaaGreatPk8
set_option linter.unusedVariables false
set_option linter.unusedSimpArgs false
set_option maxRecDepth 100000
namespace Go.Proofs.YtjggoajfilnfjaaGreat
open Go.RowKit

set_option maxHeartbeats 3200000 in
theorem first_any (t : ByteArray) (ht : t.size ≤ maxLen) (w : World) :
  Calls Tryz.prog 75 #[.string t] w fun e w' => e = .returned (.tuple #[.int .i64 ((firstT t).1 : Nat), .int .i64 ((firstT t).2 : Nat)]) ∧ w' = w := by
 have hF : Hid (firstT t = if t.size = 0 then (0, 0) else firstF t 0) := Lib.hid rfl; generalize firstT t = R at *; obtain ⟨R1, R2⟩ := R; dsimp only
 go_enter Tryz.func75, Tryz.ntmps75
 by_cases h0 : t.size = 0
 ·have hR := hF.out; rw [if_pos h0] at hR
  cases hR
  clear hF; go_wp2; refine bodyPost_ret (v := .tuple #[.int .i64 0, .int .i64 0]) (by simp [results, Tryz.results75, go_sem]) rfl ⟨rfl, rfl⟩
 ·have hpos : 0 < t.size := by omega
  have hsn : ((t.size : Int) == 0) = false := by rw [beq_eq_false_iff_ne]; omega
  have hF : Hid ((R1, R2) = firstF t 0) := Lib.hid (by have := hF.out; rwa [if_neg h0] at this); have hg0 := byt_get hpos; have hb0 := byt_lt t 0; have HZ : Hid (firstF t 0 = (0, 0) → R1 = 0 ∧ R2 = 0) := Lib.hid (fun h => by have := hF.out; rw [h] at this; cases this; exact ⟨rfl, rfl⟩)
  by_cases c1 : byt t 0 < 128
  ·have hR := hF.out; rw [first_one c1] at hR
   cases hR
   generalize byt t 0 = c at *; clear hF HZ; go_wp2; refine bodyPost_ret (v := .tuple #[.int .i64 (c : Int), .int .i64 1]) (by simp [results, Tryz.results75, go_sem]) rfl ⟨rfl, rfl⟩
  ·by_cases c0 : ¬ (192 ≤ byt t 0 ∧ byt t 0 < 248)
   ·obtain ⟨rfl, rfl⟩ := HZ.out (first_none (by omega) c0); clear hF HZ; generalize byt t 0 = c at *
    by_cases c5 : c < 192
    ·have d1 : ¬ (c : Int) < 128 := by omega
     have d2 : ¬ 192 ≤ (c : Int) := by omega
     have d3 : ¬ 224 ≤ (c : Int) := by omega
     have d4 : ¬ 240 ≤ (c : Int) := by omega
     clear c0; go_wp2; refine bodyPost_ret (v := .tuple #[.int .i64 0, .int .i64 0]) (by simp [results, Tryz.results75, go_sem]) rfl ⟨rfl, rfl⟩
    ·have d1 : ¬ (c : Int) < 128 := by omega
     have d2 : ¬ (c : Int) < 224 := by omega
     have d3 : ¬ (c : Int) < 240 := by omega
     have d4 : ¬ (c : Int) < 248 := by omega
     clear c0; go_wp2; refine bodyPost_ret (v := .tuple #[.int .i64 0, .int .i64 0]) (by simp [results, Tryz.results75, go_sem]) rfl ⟨rfl, rfl⟩
   ·have c0 : 192 ≤ byt t 0 ∧ byt t 0 < 248 := by omega
    by_cases c2 : byt t 0 < 224
    ·have HA := Lib.hid (fun h => first_all2 (t := t) (by omega) (by omega) h); have HC := Lib.hid (fun h => HZ.out (first_cut2 (t := t) (by omega) (by omega) h)); have HN : Hid (∀ k, ¬ cont t k = true ↔ ¬ (k < t.size ∧ 128 ≤ byt t k ∧ byt t k < 192)) := Lib.hid (fun k => not_congr (cont_iff t k)); have HY : Hid (∀ k, cont t k = true ↔ (k < t.size ∧ 128 ≤ byt t k ∧ byt t k < 192)) := Lib.hid (fun k => cont_iff t k); obtain ⟨P, hP⟩ : ∃ P, partR t (byt t 0 - 192) = P := ⟨_, rfl⟩; rw [hP] at HA; have HP0 : Hid (((P 0 : Nat) : Int) = (byt t 0 : Int) - 192) := Lib.hid (by rw [← hP]; show ((byt t 0 - 192 : Nat) : Int) = _; omega); have HP1 : Hid (∀ k, P (k + 1) = 64 * P k + byt t (k + 1) - 128) := Lib.hid (fun k => by rw [← hP]; rfl); clear hP HZ; generalize byt t 0 = c at *; have d0 : ¬ (c : Int) < 128 := by omega
     have d1 : 192 ≤ (c : Int) := by omega
     have d2 : (c : Int) < 224 := by omega
     have d3 : ¬ 224 ≤ (c : Int) := by omega
     have d4 : ¬ 240 ≤ (c : Int) := by omega
     have wb : IntKind.i64.wrap ((c : Int) - 192) = (P 0 : Int) := by rw [HP0.out]; exact IntWalk.i64_in _ (by omega)
     have hP0 : (P 0 : Nat) < 32 := by have := HP0.out; omega
     clear HP0 c0 c1
     by_cases hsz : t.size < 2
     ·have hszi : (t.size : Int) < 2 := by omega
      obtain ⟨rfl, rfl⟩ := HC.out (by
       intro hh; have h9 := (HY.out 1).1 hh; omega)
      clear hF HA HC HN HY HP1; go_wp2; refine bodyPost_ret (v := .tuple #[.int .i64 0, .int .i64 0]) (by simp [results, Tryz.results75, go_sem]) rfl ⟨rfl, rfl⟩
     ·have hszi : ¬ (t.size : Int) < 2 := by omega
      go_wp2
      go_loopw [6, 8] (fun r i wr => ∃ k : Nat, wr = w ∧ k < 2 ∧ r = .int .i64 (P k : Int) ∧ i = .int .i64 ((k : Int) + 1) ∧ Hid (∀ j, 1 ≤ j → j ≤ k → cont t j = true) ∧ P k < 32 * 64 ^ k) (fun _ i _ => 2 - (intOf i).toNat)
      case atStart => exact ⟨0, rfl, by omega, rfl, rfl, Lib.hid (fun j h1 h2 => by omega), hP0⟩
      case round =>
       obtain ⟨k, rfl, hk, rfl, rfl, HJ, hPk⟩ := hrel; obtain rfl | rfl : k = 0 ∨ k = 1 := by omega
       ·have hkl : 1 < t.size := by omega
        have hgk := byt_get hkl; have hbk := byt_lt t 1; have hPk : P 0 < 32 := hPk; have HK := HY.out 1; have HQ : P 1 = 64 * P 0 + byt t 1 - 128 := HP1.out 0; have hgi : (1 : Int) < (t.size : Int) := by omega
        generalize byt t 1 = q at *; have HW : Hid (∀ h : cont t 1 = true, 128 ≤ q ∧ q < 192) := Lib.hid (fun h => (HK.1 h).2)
        by_cases e1 : q < 128
        ·have f1 : (q : Int) < 128 := by omega
         obtain ⟨rfl, rfl⟩ := HC.out (by intro hh; have h9 := HW.out hh; omega); clear hF HA HC HN HY HP1 HK HQ HJ HW; go_wp2; refine bodyPost_ret (v := .tuple #[.int .i64 0, .int .i64 0]) (by simp [results, Tryz.results75, go_sem]) rfl ⟨rfl, rfl⟩
        ·by_cases e2 : 192 ≤ q
         ·have f1 : ¬ (q : Int) < 128 := by omega
          have f2 : 192 ≤ (q : Int) := by omega
          obtain ⟨rfl, rfl⟩ := HC.out (by intro hh; have h9 := HW.out hh; omega); clear hF HA HC HN HY HP1 HK HQ HJ HW; go_wp2; refine bodyPost_ret (v := .tuple #[.int .i64 0, .int .i64 0]) (by simp [results, Tryz.results75, go_sem]) rfl ⟨rfl, rfl⟩
         ·have f1 : ¬ (q : Int) < 128 := by omega
          have f2 : ¬ 192 ≤ (q : Int) := by omega
          have hck : cont t 1 = true := HK.2 ⟨hkl, by omega, by omega⟩; obtain ⟨Q0, hQ0⟩ : ∃ Q, P 0 = Q := ⟨_, rfl⟩; rw [hQ0] at HQ hPk; have v1 : IntKind.i64.wrap (64 * (Q0 : Int)) = 64 * (Q0 : Int) := IntWalk.i64_in _ (by omega); have v2 : IntKind.i64.wrap (64 * (Q0 : Int) + (q : Int)) = 64 * (Q0 : Int) + (q : Int) := IntWalk.i64_in _ (by omega); have v3 : IntKind.i64.wrap (64 * (Q0 : Int) + (q : Int) - 128) = (P 1 : Int) := by
           rw [HQ, IntWalk.i64_in _ (by omega)]; omega
          have hPn : P 1 < 32 * 64 ^ 1 := by
           have : P 1 < 2048 := by rw [HQ]; omega
           exact this
          have HJ2 : Hid (∀ j, 1 ≤ j → j ≤ 1 → cont t j = true) := Lib.hid (fun j h1 h2 => by
           by_cases h : j = 1
           ·rw [h]; exact hck
           ·exact HJ.out j h1 (by omega))
          clear hF HA HC HN HY HP1 HK HQ HJ HW hck; go_wp2; go_roundw
          case rel => exact ⟨1, by simp, by omega, rfl, rfl, HJ2, hPn⟩
          case measure => simp [intOf]
       ·have hPk : P 1 < 2048 := hPk; have hA := HA.out (HJ.out 1 (by omega) (by omega)); have hFF := hF.out; rw [hA] at hFF; obtain ⟨M, hM⟩ : ∃ M, P 1 = M := ⟨_, rfl⟩; rw [hM] at hFF hPk ⊢; have HFF := Lib.hid hFF; clear hA hFF hF HA HC HN HY HP1 HJ hM; have gi : ¬ ((1 : Int) + 1 < 2) := by decide
        by_cases g1 : M < 128
        ·have i1 : (M : Int) < 128 := by omega
         have hz := HFF.out; rw [if_neg (by omega)] at hz
         cases hz
         clear HFF; go_wp2; refine bodyPost_ret (v := .tuple #[.int .i64 0, .int .i64 0]) (by simp [results, Tryz.results75, go_sem]) rfl ⟨rfl, rfl⟩
        ·have i1 : ¬ (M : Int) < 128 := by omega
         by_cases g2 : 1114111 < M
         ·have i2 : 1114111 < (M : Int) := by omega
          have hz := HFF.out; rw [if_neg (by omega)] at hz
          cases hz
          clear HFF; go_wp2; refine bodyPost_ret (v := .tuple #[.int .i64 0, .int .i64 0]) (by simp [results, Tryz.results75, go_sem]) rfl ⟨rfl, rfl⟩
         ·have i2 : ¬ 1114111 < (M : Int) := by omega
          by_cases g3 : 55296 ≤ M
          ·have i3 : 55296 ≤ (M : Int) := by omega
           by_cases g4 : M ≤ 57343
           ·have i4 : (M : Int) ≤ 57343 := by omega
            have hz := HFF.out; rw [if_neg (by omega)] at hz
            cases hz
            clear HFF; go_wp2; refine bodyPost_ret (v := .tuple #[.int .i64 0, .int .i64 0]) (by simp [results, Tryz.results75, go_sem]) rfl ⟨rfl, rfl⟩
           ·have i4 : ¬ (M : Int) ≤ 57343 := by omega
            have hz := HFF.out; rw [if_pos (by omega)] at hz
            cases hz
            clear HFF; go_wp2; refine bodyPost_ret (v := .tuple #[.int .i64 (R1 : Int), .int .i64 2]) (by simp [results, Tryz.results75, go_sem]) rfl ⟨rfl, rfl⟩
          ·have i3 : ¬ 55296 ≤ (M : Int) := by omega
           have hz := HFF.out; rw [if_pos (by omega)] at hz
           cases hz
           clear HFF; go_wp2; refine bodyPost_ret (v := .tuple #[.int .i64 (R1 : Int), .int .i64 2]) (by simp [results, Tryz.results75, go_sem]) rfl ⟨rfl, rfl⟩
    ·by_cases c3 : byt t 0 < 240
     ·have HA := Lib.hid (fun h => first_all3 (t := t) (by omega) (by omega) h); have HC := Lib.hid (fun h => HZ.out (first_cut3 (t := t) (by omega) (by omega) h)); have HN : Hid (∀ k, ¬ cont t k = true ↔ ¬ (k < t.size ∧ 128 ≤ byt t k ∧ byt t k < 192)) := Lib.hid (fun k => not_congr (cont_iff t k)); have HY : Hid (∀ k, cont t k = true ↔ (k < t.size ∧ 128 ≤ byt t k ∧ byt t k < 192)) := Lib.hid (fun k => cont_iff t k); obtain ⟨P, hP⟩ : ∃ P, partR t (byt t 0 - 224) = P := ⟨_, rfl⟩; rw [hP] at HA; have HP0 : Hid (((P 0 : Nat) : Int) = (byt t 0 : Int) - 224) := Lib.hid (by rw [← hP]; show ((byt t 0 - 224 : Nat) : Int) = _; omega); have HP1 : Hid (∀ k, P (k + 1) = 64 * P k + byt t (k + 1) - 128) := Lib.hid (fun k => by rw [← hP]; rfl); clear hP HZ; generalize byt t 0 = c at *; have d0 : ¬ (c : Int) < 128 := by omega
      have d1 : 192 ≤ (c : Int) := by omega
      have d2 : ¬ (c : Int) < 224 := by omega
      have d3 : 224 ≤ (c : Int) := by omega
      have d4 : (c : Int) < 240 := by omega
      have d5 : ¬ 240 ≤ (c : Int) := by omega
      have wb : IntKind.i64.wrap ((c : Int) - 224) = (P 0 : Int) := by rw [HP0.out]; exact IntWalk.i64_in _ (by omega)
      have hP0 : (P 0 : Nat) < 32 := by have := HP0.out; omega
      clear HP0 c0 c1
      by_cases hsz : t.size < 3
      ·have hszi : (t.size : Int) < 3 := by omega
       obtain ⟨rfl, rfl⟩ := HC.out (by
        intro hh; have h9 := (HY.out 2).1 hh.2; omega)
       clear hF HA HC HN HY HP1; go_wp2; refine bodyPost_ret (v := .tuple #[.int .i64 0, .int .i64 0]) (by simp [results, Tryz.results75, go_sem]) rfl ⟨rfl, rfl⟩
      ·have hszi : ¬ (t.size : Int) < 3 := by omega
       go_wp2
       go_loopw [6, 8] (fun r i wr => ∃ k : Nat, wr = w ∧ k < 3 ∧ r = .int .i64 (P k : Int) ∧ i = .int .i64 ((k : Int) + 1) ∧ Hid (∀ j, 1 ≤ j → j ≤ k → cont t j = true) ∧ P k < 32 * 64 ^ k) (fun _ i _ => 3 - (intOf i).toNat)
       case atStart => exact ⟨0, rfl, by omega, rfl, rfl, Lib.hid (fun j h1 h2 => by omega), hP0⟩
       case round =>
        obtain ⟨k, rfl, hk, rfl, rfl, HJ, hPk⟩ := hrel; obtain rfl | rfl | rfl : k = 0 ∨ k = 1 ∨ k = 2 := by omega
        ·have hkl : 1 < t.size := by omega
         have hgk := byt_get hkl; have hbk := byt_lt t 1; have hPk : P 0 < 32 := hPk; have HK := HY.out 1; have HQ : P 1 = 64 * P 0 + byt t 1 - 128 := HP1.out 0; have hgi : (1 : Int) < (t.size : Int) := by omega
         generalize byt t 1 = q at *; have HW : Hid (∀ h : cont t 1 = true, 128 ≤ q ∧ q < 192) := Lib.hid (fun h => (HK.1 h).2)
         by_cases e1 : q < 128
         ·have f1 : (q : Int) < 128 := by omega
          obtain ⟨rfl, rfl⟩ := HC.out (by intro hh; have h9 := HW.out hh.1; omega); clear hF HA HC HN HY HP1 HK HQ HJ HW; go_wp2; refine bodyPost_ret (v := .tuple #[.int .i64 0, .int .i64 0]) (by simp [results, Tryz.results75, go_sem]) rfl ⟨rfl, rfl⟩
         ·by_cases e2 : 192 ≤ q
          ·have f1 : ¬ (q : Int) < 128 := by omega
           have f2 : 192 ≤ (q : Int) := by omega
           obtain ⟨rfl, rfl⟩ := HC.out (by intro hh; have h9 := HW.out hh.1; omega); clear hF HA HC HN HY HP1 HK HQ HJ HW; go_wp2; refine bodyPost_ret (v := .tuple #[.int .i64 0, .int .i64 0]) (by simp [results, Tryz.results75, go_sem]) rfl ⟨rfl, rfl⟩
          ·have f1 : ¬ (q : Int) < 128 := by omega
           have f2 : ¬ 192 ≤ (q : Int) := by omega
           have hck : cont t 1 = true := HK.2 ⟨hkl, by omega, by omega⟩; obtain ⟨Q0, hQ0⟩ : ∃ Q, P 0 = Q := ⟨_, rfl⟩; rw [hQ0] at HQ hPk; have v1 : IntKind.i64.wrap (64 * (Q0 : Int)) = 64 * (Q0 : Int) := IntWalk.i64_in _ (by omega); have v2 : IntKind.i64.wrap (64 * (Q0 : Int) + (q : Int)) = 64 * (Q0 : Int) + (q : Int) := IntWalk.i64_in _ (by omega); have v3 : IntKind.i64.wrap (64 * (Q0 : Int) + (q : Int) - 128) = (P 1 : Int) := by
            rw [HQ, IntWalk.i64_in _ (by omega)]; omega
           have hPn : P 1 < 32 * 64 ^ 1 := by
            have : P 1 < 2048 := by rw [HQ]; omega
            exact this
           have HJ2 : Hid (∀ j, 1 ≤ j → j ≤ 1 → cont t j = true) := Lib.hid (fun j h1 h2 => by
            by_cases h : j = 1
            ·rw [h]; exact hck
            ·exact HJ.out j h1 (by omega))
           clear hF HA HC HN HY HP1 HK HQ HJ HW hck; go_wp2; go_roundw
           case rel => exact ⟨1, by simp, by omega, rfl, rfl, HJ2, hPn⟩
           case measure => simp [intOf]
        ·have hkl : 2 < t.size := by omega
         have hgk := byt_get hkl; have hbk := byt_lt t 2; have hPk : P 1 < 2048 := hPk; have HK := HY.out 2; have HQ : P 2 = 64 * P 1 + byt t 2 - 128 := HP1.out 1; have hgi : (2 : Int) < (t.size : Int) := by omega
         generalize byt t 2 = q at *; have HW : Hid (∀ h : cont t 2 = true, 128 ≤ q ∧ q < 192) := Lib.hid (fun h => (HK.1 h).2)
         by_cases e1 : q < 128
         ·have f1 : (q : Int) < 128 := by omega
          obtain ⟨rfl, rfl⟩ := HC.out (by intro hh; have h9 := HW.out hh.2; omega); clear hF HA HC HN HY HP1 HK HQ HJ HW; go_wp2; refine bodyPost_ret (v := .tuple #[.int .i64 0, .int .i64 0]) (by simp [results, Tryz.results75, go_sem]) rfl ⟨rfl, rfl⟩
         ·by_cases e2 : 192 ≤ q
          ·have f1 : ¬ (q : Int) < 128 := by omega
           have f2 : 192 ≤ (q : Int) := by omega
           obtain ⟨rfl, rfl⟩ := HC.out (by intro hh; have h9 := HW.out hh.2; omega); clear hF HA HC HN HY HP1 HK HQ HJ HW; go_wp2; refine bodyPost_ret (v := .tuple #[.int .i64 0, .int .i64 0]) (by simp [results, Tryz.results75, go_sem]) rfl ⟨rfl, rfl⟩
          ·have f1 : ¬ (q : Int) < 128 := by omega
           have f2 : ¬ 192 ≤ (q : Int) := by omega
           have hck : cont t 2 = true := HK.2 ⟨hkl, by omega, by omega⟩; obtain ⟨Q0, hQ0⟩ : ∃ Q, P 1 = Q := ⟨_, rfl⟩; rw [hQ0] at HQ hPk; have v1 : IntKind.i64.wrap (64 * (Q0 : Int)) = 64 * (Q0 : Int) := IntWalk.i64_in _ (by omega); have v2 : IntKind.i64.wrap (64 * (Q0 : Int) + (q : Int)) = 64 * (Q0 : Int) + (q : Int) := IntWalk.i64_in _ (by omega); have v3 : IntKind.i64.wrap (64 * (Q0 : Int) + (q : Int) - 128) = (P 2 : Int) := by
            rw [HQ, IntWalk.i64_in _ (by omega)]; omega
           have hPn : P 2 < 32 * 64 ^ 2 := by
            have : P 2 < 131072 := by rw [HQ]; omega
            exact this
           have HJ2 : Hid (∀ j, 1 ≤ j → j ≤ 2 → cont t j = true) := Lib.hid (fun j h1 h2 => by
            by_cases h : j = 2
            ·rw [h]; exact hck
            ·exact HJ.out j h1 (by omega))
           clear hF HA HC HN HY HP1 HK HQ HJ HW hck; go_wp2; go_roundw
           case rel => exact ⟨2, by simp, by omega, rfl, rfl, HJ2, hPn⟩
           case measure => simp [intOf]
        ·have hPk : P 2 < 131072 := hPk; have hA := HA.out ⟨HJ.out 1 (by omega) (by omega), HJ.out 2 (by omega) (by omega)⟩; have hFF := hF.out; rw [hA] at hFF; obtain ⟨M, hM⟩ : ∃ M, P 2 = M := ⟨_, rfl⟩; rw [hM] at hFF hPk ⊢; have HFF := Lib.hid hFF; clear hA hFF hF HA HC HN HY HP1 HJ hM; have gi : ¬ ((2 : Int) + 1 < 3) := by decide
         by_cases g1 : M < 2048
         ·have i1 : (M : Int) < 2048 := by omega
          have hz := HFF.out; rw [if_neg (by omega)] at hz
          cases hz
          clear HFF; go_wp2; refine bodyPost_ret (v := .tuple #[.int .i64 0, .int .i64 0]) (by simp [results, Tryz.results75, go_sem]) rfl ⟨rfl, rfl⟩
         ·have i1 : ¬ (M : Int) < 2048 := by omega
          by_cases g2 : 1114111 < M
          ·have i2 : 1114111 < (M : Int) := by omega
           have hz := HFF.out; rw [if_neg (by omega)] at hz
           cases hz
           clear HFF; go_wp2; refine bodyPost_ret (v := .tuple #[.int .i64 0, .int .i64 0]) (by simp [results, Tryz.results75, go_sem]) rfl ⟨rfl, rfl⟩
          ·have i2 : ¬ 1114111 < (M : Int) := by omega
           by_cases g3 : 55296 ≤ M
           ·have i3 : 55296 ≤ (M : Int) := by omega
            by_cases g4 : M ≤ 57343
            ·have i4 : (M : Int) ≤ 57343 := by omega
             have hz := HFF.out; rw [if_neg (by omega)] at hz
             cases hz
             clear HFF; go_wp2; refine bodyPost_ret (v := .tuple #[.int .i64 0, .int .i64 0]) (by simp [results, Tryz.results75, go_sem]) rfl ⟨rfl, rfl⟩
            ·have i4 : ¬ (M : Int) ≤ 57343 := by omega
             have hz := HFF.out; rw [if_pos (by omega)] at hz
             cases hz
             clear HFF; go_wp2; refine bodyPost_ret (v := .tuple #[.int .i64 (R1 : Int), .int .i64 3]) (by simp [results, Tryz.results75, go_sem]) rfl ⟨rfl, rfl⟩
           ·have i3 : ¬ 55296 ≤ (M : Int) := by omega
            have hz := HFF.out; rw [if_pos (by omega)] at hz
            cases hz
            clear HFF; go_wp2; refine bodyPost_ret (v := .tuple #[.int .i64 (R1 : Int), .int .i64 3]) (by simp [results, Tryz.results75, go_sem]) rfl ⟨rfl, rfl⟩
     ·have HA := Lib.hid (fun h => first_all4 (t := t) (by omega) (by omega) h); have HC := Lib.hid (fun h => HZ.out (first_cut4 (t := t) (by omega) (by omega) h)); have HN : Hid (∀ k, ¬ cont t k = true ↔ ¬ (k < t.size ∧ 128 ≤ byt t k ∧ byt t k < 192)) := Lib.hid (fun k => not_congr (cont_iff t k)); have HY : Hid (∀ k, cont t k = true ↔ (k < t.size ∧ 128 ≤ byt t k ∧ byt t k < 192)) := Lib.hid (fun k => cont_iff t k); obtain ⟨P, hP⟩ : ∃ P, partR t (byt t 0 - 240) = P := ⟨_, rfl⟩; rw [hP] at HA; have HP0 : Hid (((P 0 : Nat) : Int) = (byt t 0 : Int) - 240) := Lib.hid (by rw [← hP]; show ((byt t 0 - 240 : Nat) : Int) = _; omega); have HP1 : Hid (∀ k, P (k + 1) = 64 * P k + byt t (k + 1) - 128) := Lib.hid (fun k => by rw [← hP]; rfl); clear hP HZ; generalize byt t 0 = c at *; have d0 : ¬ (c : Int) < 128 := by omega
      have d1 : 192 ≤ (c : Int) := by omega
      have d2 : ¬ (c : Int) < 224 := by omega
      have d3 : 224 ≤ (c : Int) := by omega
      have d4 : ¬ (c : Int) < 240 := by omega
      have d5 : 240 ≤ (c : Int) := by omega
      have d6 : (c : Int) < 248 := by omega
      have wb : IntKind.i64.wrap ((c : Int) - 240) = (P 0 : Int) := by rw [HP0.out]; exact IntWalk.i64_in _ (by omega)
      have hP0 : (P 0 : Nat) < 32 := by have := HP0.out; omega
      clear HP0 c0 c1
      by_cases hsz : t.size < 4
      ·have hszi : (t.size : Int) < 4 := by omega
       obtain ⟨rfl, rfl⟩ := HC.out (by
        intro hh; have h9 := (HY.out 3).1 hh.2.2; omega)
       clear hF HA HC HN HY HP1; go_wp2; refine bodyPost_ret (v := .tuple #[.int .i64 0, .int .i64 0]) (by simp [results, Tryz.results75, go_sem]) rfl ⟨rfl, rfl⟩
      ·have hszi : ¬ (t.size : Int) < 4 := by omega
       go_wp2
       go_loopw [6, 8] (fun r i wr => ∃ k : Nat, wr = w ∧ k < 4 ∧ r = .int .i64 (P k : Int) ∧ i = .int .i64 ((k : Int) + 1) ∧ Hid (∀ j, 1 ≤ j → j ≤ k → cont t j = true) ∧ P k < 32 * 64 ^ k) (fun _ i _ => 4 - (intOf i).toNat)
       case atStart => exact ⟨0, rfl, by omega, rfl, rfl, Lib.hid (fun j h1 h2 => by omega), hP0⟩
       case round =>
        obtain ⟨k, rfl, hk, rfl, rfl, HJ, hPk⟩ := hrel; obtain rfl | rfl | rfl | rfl : k = 0 ∨ k = 1 ∨ k = 2 ∨ k = 3 := by omega
        ·have hkl : 1 < t.size := by omega
         have hgk := byt_get hkl; have hbk := byt_lt t 1; have hPk : P 0 < 32 := hPk; have HK := HY.out 1; have HQ : P 1 = 64 * P 0 + byt t 1 - 128 := HP1.out 0; have hgi : (1 : Int) < (t.size : Int) := by omega
         generalize byt t 1 = q at *; have HW : Hid (∀ h : cont t 1 = true, 128 ≤ q ∧ q < 192) := Lib.hid (fun h => (HK.1 h).2)
         by_cases e1 : q < 128
         ·have f1 : (q : Int) < 128 := by omega
          obtain ⟨rfl, rfl⟩ := HC.out (by intro hh; have h9 := HW.out hh.1; omega); clear hF HA HC HN HY HP1 HK HQ HJ HW; go_wp2; refine bodyPost_ret (v := .tuple #[.int .i64 0, .int .i64 0]) (by simp [results, Tryz.results75, go_sem]) rfl ⟨rfl, rfl⟩
         ·by_cases e2 : 192 ≤ q
          ·have f1 : ¬ (q : Int) < 128 := by omega
           have f2 : 192 ≤ (q : Int) := by omega
           obtain ⟨rfl, rfl⟩ := HC.out (by intro hh; have h9 := HW.out hh.1; omega); clear hF HA HC HN HY HP1 HK HQ HJ HW; go_wp2; refine bodyPost_ret (v := .tuple #[.int .i64 0, .int .i64 0]) (by simp [results, Tryz.results75, go_sem]) rfl ⟨rfl, rfl⟩
          ·have f1 : ¬ (q : Int) < 128 := by omega
           have f2 : ¬ 192 ≤ (q : Int) := by omega
           have hck : cont t 1 = true := HK.2 ⟨hkl, by omega, by omega⟩; obtain ⟨Q0, hQ0⟩ : ∃ Q, P 0 = Q := ⟨_, rfl⟩; rw [hQ0] at HQ hPk; have v1 : IntKind.i64.wrap (64 * (Q0 : Int)) = 64 * (Q0 : Int) := IntWalk.i64_in _ (by omega); have v2 : IntKind.i64.wrap (64 * (Q0 : Int) + (q : Int)) = 64 * (Q0 : Int) + (q : Int) := IntWalk.i64_in _ (by omega); have v3 : IntKind.i64.wrap (64 * (Q0 : Int) + (q : Int) - 128) = (P 1 : Int) := by
            rw [HQ, IntWalk.i64_in _ (by omega)]; omega
           have hPn : P 1 < 32 * 64 ^ 1 := by
            have : P 1 < 2048 := by rw [HQ]; omega
            exact this
           have HJ2 : Hid (∀ j, 1 ≤ j → j ≤ 1 → cont t j = true) := Lib.hid (fun j h1 h2 => by
            by_cases h : j = 1
            ·rw [h]; exact hck
            ·exact HJ.out j h1 (by omega))
           clear hF HA HC HN HY HP1 HK HQ HJ HW hck; go_wp2; go_roundw
           case rel => exact ⟨1, by simp, by omega, rfl, rfl, HJ2, hPn⟩
           case measure => simp [intOf]
        ·have hkl : 2 < t.size := by omega
         have hgk := byt_get hkl; have hbk := byt_lt t 2; have hPk : P 1 < 2048 := hPk; have HK := HY.out 2; have HQ : P 2 = 64 * P 1 + byt t 2 - 128 := HP1.out 1; have hgi : (2 : Int) < (t.size : Int) := by omega
         generalize byt t 2 = q at *; have HW : Hid (∀ h : cont t 2 = true, 128 ≤ q ∧ q < 192) := Lib.hid (fun h => (HK.1 h).2)
         by_cases e1 : q < 128
         ·have f1 : (q : Int) < 128 := by omega
          obtain ⟨rfl, rfl⟩ := HC.out (by intro hh; have h9 := HW.out hh.2.1; omega); clear hF HA HC HN HY HP1 HK HQ HJ HW; go_wp2; refine bodyPost_ret (v := .tuple #[.int .i64 0, .int .i64 0]) (by simp [results, Tryz.results75, go_sem]) rfl ⟨rfl, rfl⟩
         ·by_cases e2 : 192 ≤ q
          ·have f1 : ¬ (q : Int) < 128 := by omega
           have f2 : 192 ≤ (q : Int) := by omega
           obtain ⟨rfl, rfl⟩ := HC.out (by intro hh; have h9 := HW.out hh.2.1; omega); clear hF HA HC HN HY HP1 HK HQ HJ HW; go_wp2; refine bodyPost_ret (v := .tuple #[.int .i64 0, .int .i64 0]) (by simp [results, Tryz.results75, go_sem]) rfl ⟨rfl, rfl⟩
          ·have f1 : ¬ (q : Int) < 128 := by omega
           have f2 : ¬ 192 ≤ (q : Int) := by omega
           have hck : cont t 2 = true := HK.2 ⟨hkl, by omega, by omega⟩; obtain ⟨Q0, hQ0⟩ : ∃ Q, P 1 = Q := ⟨_, rfl⟩; rw [hQ0] at HQ hPk; have v1 : IntKind.i64.wrap (64 * (Q0 : Int)) = 64 * (Q0 : Int) := IntWalk.i64_in _ (by omega); have v2 : IntKind.i64.wrap (64 * (Q0 : Int) + (q : Int)) = 64 * (Q0 : Int) + (q : Int) := IntWalk.i64_in _ (by omega); have v3 : IntKind.i64.wrap (64 * (Q0 : Int) + (q : Int) - 128) = (P 2 : Int) := by
            rw [HQ, IntWalk.i64_in _ (by omega)]; omega
           have hPn : P 2 < 32 * 64 ^ 2 := by
            have : P 2 < 131072 := by rw [HQ]; omega
            exact this
           have HJ2 : Hid (∀ j, 1 ≤ j → j ≤ 2 → cont t j = true) := Lib.hid (fun j h1 h2 => by
            by_cases h : j = 2
            ·rw [h]; exact hck
            ·exact HJ.out j h1 (by omega))
           clear hF HA HC HN HY HP1 HK HQ HJ HW hck; go_wp2; go_roundw
           case rel => exact ⟨2, by simp, by omega, rfl, rfl, HJ2, hPn⟩
           case measure => simp [intOf]
        ·have hkl : 3 < t.size := by omega
         have hgk := byt_get hkl; have hbk := byt_lt t 3; have hPk : P 2 < 131072 := hPk; have HK := HY.out 3; have HQ : P 3 = 64 * P 2 + byt t 3 - 128 := HP1.out 2; have hgi : (3 : Int) < (t.size : Int) := by omega
         generalize byt t 3 = q at *; have HW : Hid (∀ h : cont t 3 = true, 128 ≤ q ∧ q < 192) := Lib.hid (fun h => (HK.1 h).2)
         by_cases e1 : q < 128
         ·have f1 : (q : Int) < 128 := by omega
          obtain ⟨rfl, rfl⟩ := HC.out (by intro hh; have h9 := HW.out hh.2.2; omega); clear hF HA HC HN HY HP1 HK HQ HJ HW; go_wp2; refine bodyPost_ret (v := .tuple #[.int .i64 0, .int .i64 0]) (by simp [results, Tryz.results75, go_sem]) rfl ⟨rfl, rfl⟩
         ·by_cases e2 : 192 ≤ q
          ·have f1 : ¬ (q : Int) < 128 := by omega
           have f2 : 192 ≤ (q : Int) := by omega
           obtain ⟨rfl, rfl⟩ := HC.out (by intro hh; have h9 := HW.out hh.2.2; omega); clear hF HA HC HN HY HP1 HK HQ HJ HW; go_wp2; refine bodyPost_ret (v := .tuple #[.int .i64 0, .int .i64 0]) (by simp [results, Tryz.results75, go_sem]) rfl ⟨rfl, rfl⟩
          ·have f1 : ¬ (q : Int) < 128 := by omega
           have f2 : ¬ 192 ≤ (q : Int) := by omega
           have hck : cont t 3 = true := HK.2 ⟨hkl, by omega, by omega⟩; obtain ⟨Q0, hQ0⟩ : ∃ Q, P 2 = Q := ⟨_, rfl⟩; rw [hQ0] at HQ hPk; have v1 : IntKind.i64.wrap (64 * (Q0 : Int)) = 64 * (Q0 : Int) := IntWalk.i64_in _ (by omega); have v2 : IntKind.i64.wrap (64 * (Q0 : Int) + (q : Int)) = 64 * (Q0 : Int) + (q : Int) := IntWalk.i64_in _ (by omega); have v3 : IntKind.i64.wrap (64 * (Q0 : Int) + (q : Int) - 128) = (P 3 : Int) := by
            rw [HQ, IntWalk.i64_in _ (by omega)]; omega
           have hPn : P 3 < 32 * 64 ^ 3 := by
            have : P 3 < 8388608 := by rw [HQ]; omega
            exact this
           have HJ2 : Hid (∀ j, 1 ≤ j → j ≤ 3 → cont t j = true) := Lib.hid (fun j h1 h2 => by
            by_cases h : j = 3
            ·rw [h]; exact hck
            ·exact HJ.out j h1 (by omega))
           clear hF HA HC HN HY HP1 HK HQ HJ HW hck; go_wp2; go_roundw
           case rel => exact ⟨3, by simp, by omega, rfl, rfl, HJ2, hPn⟩
           case measure => simp [intOf]
        ·have hPk : P 3 < 8388608 := hPk; have hA := HA.out ⟨HJ.out 1 (by omega) (by omega), HJ.out 2 (by omega) (by omega), HJ.out 3 (by omega) (by omega)⟩; have hFF := hF.out; rw [hA] at hFF; obtain ⟨M, hM⟩ : ∃ M, P 3 = M := ⟨_, rfl⟩; rw [hM] at hFF hPk ⊢; have HFF := Lib.hid hFF; clear hA hFF hF HA HC HN HY HP1 HJ hM; have gi : ¬ ((3 : Int) + 1 < 4) := by decide
         by_cases g1 : M < 65536
         ·have i1 : (M : Int) < 65536 := by omega
          have hz := HFF.out; rw [if_neg (by omega)] at hz
          cases hz
          clear HFF; go_wp2; refine bodyPost_ret (v := .tuple #[.int .i64 0, .int .i64 0]) (by simp [results, Tryz.results75, go_sem]) rfl ⟨rfl, rfl⟩
         ·have i1 : ¬ (M : Int) < 65536 := by omega
          by_cases g2 : 1114111 < M
          ·have i2 : 1114111 < (M : Int) := by omega
           have hz := HFF.out; rw [if_neg (by omega)] at hz
           cases hz
           clear HFF; go_wp2; refine bodyPost_ret (v := .tuple #[.int .i64 0, .int .i64 0]) (by simp [results, Tryz.results75, go_sem]) rfl ⟨rfl, rfl⟩
          ·have i2 : ¬ 1114111 < (M : Int) := by omega
           by_cases g3 : 55296 ≤ M
           ·have i3 : 55296 ≤ (M : Int) := by omega
            by_cases g4 : M ≤ 57343
            ·have i4 : (M : Int) ≤ 57343 := by omega
             have hz := HFF.out; rw [if_neg (by omega)] at hz
             cases hz
             clear HFF; go_wp2; refine bodyPost_ret (v := .tuple #[.int .i64 0, .int .i64 0]) (by simp [results, Tryz.results75, go_sem]) rfl ⟨rfl, rfl⟩
            ·have i4 : ¬ (M : Int) ≤ 57343 := by omega
             have hz := HFF.out; rw [if_pos (by omega)] at hz
             cases hz
             clear HFF; go_wp2; refine bodyPost_ret (v := .tuple #[.int .i64 (R1 : Int), .int .i64 4]) (by simp [results, Tryz.results75, go_sem]) rfl ⟨rfl, rfl⟩
           ·have i3 : ¬ 55296 ≤ (M : Int) := by omega
            have hz := HFF.out; rw [if_pos (by omega)] at hz
            cases hz
            clear HFF; go_wp2; refine bodyPost_ret (v := .tuple #[.int .i64 (R1 : Int), .int .i64 4]) (by simp [results, Tryz.results75, go_sem]) rfl ⟨rfl, rfl⟩
end Go.Proofs.YtjggoajfilnfjaaGreat
namespace Go
open Go.RowKit
def rns (l : List (Nat × Nat)) : List Value := l.map (fun x => .int .i64 (x.1 : Int))
def rps (l : List (Nat × Nat)) : List Value := l.map (fun x => .int .i64 (x.2 : Int))
def runesT (s : ByteArray) : List (Nat × Nat) := if rightF s then runesF s else []
end Go
namespace Go.Proofs.YtjggoajfilnfjaaGreat
open Go.RowKit
theorem Tryz.infoI64T : (Tryz.prog.info? 3).map (fun i => (i.zero, i.size, i.bytes)) = some (some (.int .i64 0), 1, 8) := by kernel_rfl

set_option maxHeartbeats 1600000 in
theorem rrunes_any (s : ByteArray) (hs : s.size ≤ 100000) (w : World) :
    Calls Tryz.prog 46 #[.string s] w fun e w' => ∃ vo va, e = .returned (.tuple #[vo, va, .bool (rightF s)]) ∧ w'.ownsRow w.heap.size 3 1 vo (runesT s).length (rns (runesT s)) ∧ w'.ownsRow w.heap.size 3 1 va (runesT s).length (rps (runesT s)) ∧ Below w.heap.size w w' := by
  have hF : Hid (runesT s = if rightF s then runesF s else []) := Lib.hid rfl; generalize runesT s = L at *; obtain ⟨T, hT⟩ : ∃ T : Bool, rightF s = T := ⟨_, rfl⟩; rw [hT] at hF ⊢; have HT := Lib.hid hT; clear hT
  go_enter Tryz.func46, Tryz.ntmps46
  go_wp2
  go_loopw [5, 6, 7] (fun o a i wr => ∃ (p f : Nat) (pre : List (Nat × Nat)), i = .int .i64 (p : Int) ∧ wr.ownsRow w.heap.size 3 1 o pre.length (rns pre) ∧ wr.ownsRow w.heap.size 3 1 a pre.length (rps pre) ∧ Hid (Disj o a) ∧ Below w.heap.size w wr ∧ Hid (runesF s = pre ++ rl s f p) ∧ Hid (pre.all (fun x => !badAt s x.2) = true) ∧ s.size ≤ p + f ∧ pre.length ≤ p ∧ p ≤ s.size) (fun _ _ i _ => s.size - (intOf i).toNat)
  case atStart => exact ⟨0, s.size, [], rfl, World.ownsRow_nil _ _ _ _, World.ownsRow_nil _ _ _ _, Lib.hid (fun k h => by simp [Value.ownBlock] at h), Below.refl _ _, Lib.hid rfl, Lib.hid rfl, by omega, by simp, by omega⟩
  case round =>
    obtain ⟨p, f, pre, rfl, hoo, hoa, HD, hbl, HR, HA, hpf, hpl, hps⟩ := hrel
    by_cases hp : p < s.size
    · obtain ⟨f, rfl⟩ : ∃ g, f = g + 1 := ⟨f - 1, by omega⟩; have hwd := decode_wid hp; rw [rl_step s f p hp] at HR; have hfi := first_any (s.extract p s.size) (by rw [ext_size]; unfold maxLen; omega); have hft : firstT (s.extract p s.size) = firstF s p := by
        unfold firstT; rw [if_neg (by rw [ext_size]; omega), ext_first]; rfl
      rw [hft] at hfi; have hff : firstF s p = if badAt s p then (0, 0) else Utf8.decode s p := rfl; rw [hff] at hfi; have HRT : Hid (badAt s p = true → T = false) := Lib.hid (fun h => by
        rw [← HT.out]; unfold rightF; rw [HR.out, List.all_append, List.all_cons]; simp [h])
      obtain ⟨B, hB⟩ : ∃ B, badAt s p = B := ⟨_, rfl⟩; have HBB := Lib.hid hB; rw [hB] at hfi HRT; clear hB hff hft; obtain ⟨D, hD⟩ : ∃ D, Utf8.decode s p = D := ⟨_, rfl⟩; rw [hD] at hfi HR hwd; obtain ⟨R, Wd⟩ := D; dsimp only at HR hwd; have hpi : (p : Int) ≤ (s.size : Int) := by omega
      have hpi2 : (p : Int) < (s.size : Int) := by omega
      cases B with
      | true =>
        have hz := HRT.out rfl; subst hz; have hLz := hF.out; rw [if_neg (by decide)] at hLz; subst hLz; rw [if_pos rfl] at hfi; have HFI := Lib.hid hfi; clear hfi hF HRT HR HA HT HD
        go_wp2_with fail
        refine (HFI.out _).mono ?_; rintro e w1 ⟨rfl, rfl⟩; go_wp2; refine bodyPost_ret (v := .tuple #[.slice none 0 0, .slice none 0 0, .bool false]) (by simp [results, Tryz.results46, go_sem]) rfl ⟨_, _, rfl, World.ownsRow_nil _ _ _ _, World.ownsRow_nil _ _ _ _, hbl⟩
      | false =>
        rw [if_neg (by decide)] at hfi; have HFI := Lib.hid hfi; clear hfi hD HRT; have hwz : ((Wd : Int) == 0) = false := by rw [beq_eq_false_iff_ne]; omega
        have hw0 : IntKind.i64.wrap ((p : Int) + (Wd : Int)) = ((p + Wd : Nat) : Int) := by rw [IntWalk.i64_in _ (by omega)]; omega
        go_wp2_with fail
        refine (HFI.out _).mono ?_; rintro e w1 ⟨rfl, rfl⟩; dsimp only; have hoa1 : ∀ k, u6.ownBlock = some k → k < w1.heap.size := fun k hk => (hoa.lt k hk).2
        go_wp2_with (at_builtin; first
          | (refine wpList_appLitAt w hbl rfl (.tmp 23) (.tmp 25) 106 rfl 3 (.int .i64 0) 1 8 Tryz.underlying106 Tryz.infoI64T rfl (by decide) (by decide) u5 pre.length (rns pre) rfl hoo 1 1 w1.heap.size rfl [.int .i64 (R : Int)] _ rfl rfl (by simp [Value.oneCell']) (by omega) ?_
             intro v2 w2 ho2 hg2 hb2 hl2; have hoa2 := hoa.kept hg2 HD.out.kept; have hd2 : Disj v2 u6 := HD.out.left hl2 (fun k hk => by have := hoa1 k hk; omega); have hob2 := ho2.lt; have hsz2 := hg2.size)
          | (refine wpList_appLitAt w hb2 rfl (.tmp 27) (.tmp 29) 106 rfl 3 (.int .i64 0) 1 8 Tryz.underlying106 Tryz.infoI64T rfl (by decide) (by decide) u6 pre.length (rps pre) rfl hoa2 1 1 w2.heap.size rfl [.int .i64 (p : Int)] _ rfl rfl (by simp [Value.oneCell']) (by omega) ?_
             intro v3 w3 ho3 hg3 hb3 hl3; have ho4 := ho2.kept hg3 hd2.symm.kept; have hd3 : Disj v3 v2 := hd2.symm.left hl3 (fun k hk => by have := (hob2 k hk).2; omega)))
        have hlen : (pre ++ [(R, p)]).length = pre.length + 1 := by simp
        have e1 : rns (pre ++ [(R, p)]) = rns pre ++ [.int .i64 (R : Int)] := by simp [rns]
        have e2 : rps (pre ++ [(R, p)]) = rps pre ++ [.int .i64 (p : Int)] := by simp [rps]
        refine ⟨⟨p + Wd, f, pre ++ [(R, p)], val_int (by omega), ?_, ?_, Lib.hid hd3.symm, hb3, Lib.hid (by rw [HR.out, List.append_assoc]; rfl), Lib.hid (by rw [List.all_append, HA.out]; simp [HBB.out]), by omega, by rw [hlen]; omega, by omega⟩, by simp [intOf]; omega⟩
        · rw [e1, hlen]; exact ho4
        · rw [e2, hlen]; exact ho3
    · have hlt : ¬ (p : Int) < (s.size : Int) := by omega
      rw [rl_end s f p hp, List.append_nil] at HR; have hF1 : T = true := by rw [← HT.out]; unfold rightF; rw [HR.out]; exact HA.out
      subst hF1; have hL := hF.out; rw [if_pos rfl, HR.out] at hL; subst hL; clear HR HA hF HT HD; go_wp2; refine bodyPost_ret (v := .tuple #[u5, u6, .bool true]) (by simp [results, Tryz.results46, go_sem]) rfl ⟨_, _, rfl, hoo, hoa, hbl⟩
end Go.Proofs.YtjggoajfilnfjaaGreat
