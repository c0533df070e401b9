/-
  graticuleref09.First.
-/
import Derived.Test.YtinogphhbbaobaaDoorPk6
/- graticuleref09.First. -/
set_option linter.unusedVariables false
set_option linter.unusedSimpArgs false
set_option maxRecDepth 100000
namespace Go
open Go.RowKit
def firstT (t : ByteArray) : Nat × Nat := if t.size = 0 then (0, 0) else firstF t 0
theorem byt_get {t : ByteArray} {k : Nat} (h : k < t.size) : (t[k]'h).toNat = byt t k := by
  unfold byt
  congr 1
  show t[k] = t.data[k]!; rw [getElem!_pos t.data k h]; rfl
def partR (t : ByteArray) (r0 : Nat) : Nat → Nat
  | 0 => r0
  | k + 1 => 64 * partR t r0 k + byt t (k + 1) - 128
theorem firstF_eq (t : ByteArray) (i : Nat) : firstF t i =
    (if byt t i < 128 then (byt t i, 1)
     else if 192 ≤ byt t i ∧ byt t i < 224 ∧ cont t (i + 1) = true then (if 128 ≤ (byt t i - 192) * 64 + (byt t (i + 1) - 128) then ((byt t i - 192) * 64 + (byt t (i + 1) - 128), 2) else (0, 0))
     else if 224 ≤ byt t i ∧ byt t i < 240 ∧ cont t (i + 1) = true ∧ cont t (i + 2) = true then
       (if 2048 ≤ (byt t i - 224) * 4096 + (byt t (i + 1) - 128) * 64 + (byt t (i + 2) - 128) ∧ ¬ (55296 ≤ (byt t i - 224) * 4096 + (byt t (i + 1) - 128) * 64 + (byt t (i + 2) - 128) ∧ (byt t i - 224) * 4096 + (byt t (i + 1) - 128) * 64 + (byt t (i + 2) - 128) ≤ 57343)
        then ((byt t i - 224) * 4096 + (byt t (i + 1) - 128) * 64 + (byt t (i + 2) - 128), 3) else (0, 0))
     else if 240 ≤ byt t i ∧ byt t i < 248 ∧ cont t (i + 1) = true ∧ cont t (i + 2) = true ∧ cont t (i + 3) = true then
       (if 65536 ≤ (byt t i - 240) * 262144 + (byt t (i + 1) - 128) * 4096 + (byt t (i + 2) - 128) * 64 + (byt t (i + 3) - 128) ∧ (byt t i - 240) * 262144 + (byt t (i + 1) - 128) * 4096 + (byt t (i + 2) - 128) * 64 + (byt t (i + 3) - 128) ≤ 1114111
        then ((byt t i - 240) * 262144 + (byt t (i + 1) - 128) * 4096 + (byt t (i + 2) - 128) * 64 + (byt t (i + 3) - 128), 4) else (0, 0))
     else (0, 0)) := by
  have h0 := byt_lt t i; unfold firstF badAt; rw [decode_eq]
  repeat' split
  all_goals simp_all
  all_goals omega
theorem first_none {t : ByteArray} (h1 : 128 ≤ byt t 0) (h2 : ¬ (192 ≤ byt t 0 ∧ byt t 0 < 248)) : firstF t 0 = (0, 0) := by
  rw [firstF_eq, if_neg (by omega), if_neg (by omega), if_neg (by omega), if_neg (by omega)]
theorem first_one {t : ByteArray} (h : byt t 0 < 128) : firstF t 0 = (byt t 0, 1) := by
  rw [firstF_eq, if_pos (by omega)]
theorem first_cut2 {t : ByteArray} (h1 : 192 ≤ byt t 0) (h2 : byt t 0 < 224) (h : ¬ (cont t 1 = true)) : firstF t 0 = (0, 0) := by
  rw [firstF_eq, if_neg (by omega)]; rw [if_neg (by intro hh; exact h (by simpa using hh.2.2))]; rw [if_neg (by omega)]; rw [if_neg (by omega)]
theorem first_all2 {t : ByteArray} (h1 : 192 ≤ byt t 0) (h2 : byt t 0 < 224) (h : cont t 1 = true) : firstF t 0 = if 128 ≤ partR t (byt t 0 - 192) 1 ∧ partR t (byt t 0 - 192) 1 ≤ 1114111 ∧ ¬ (55296 ≤ partR t (byt t 0 - 192) 1 ∧ partR t (byt t 0 - 192) 1 ≤ 57343) then (partR t (byt t 0 - 192) 1, 2) else (0, 0) := by
  have c1 := (cont_iff t 1).1 h; have e : partR t (byt t 0 - 192) 1 = (byt t 0 - 192) * 64 + (byt t 1 - 128) := by simp only [partR, Nat.zero_add, Nat.reduceAdd]; omega
  rw [e, firstF_eq, if_neg (by omega)]; rw [if_pos ⟨h1, h2, by simpa using h⟩]; simp only [Nat.zero_add]
  split <;> split <;> first | rfl | omega
theorem first_cut3 {t : ByteArray} (h1 : 224 ≤ byt t 0) (h2 : byt t 0 < 240) (h : ¬ (cont t 1 = true ∧ cont t 2 = true)) : firstF t 0 = (0, 0) := by
  rw [firstF_eq, if_neg (by omega)]; rw [if_neg (by omega)]; rw [if_neg (by intro hh; exact h (by simpa using hh.2.2))]; rw [if_neg (by omega)]
theorem first_all3 {t : ByteArray} (h1 : 224 ≤ byt t 0) (h2 : byt t 0 < 240) (h : cont t 1 = true ∧ cont t 2 = true) : firstF t 0 = if 2048 ≤ partR t (byt t 0 - 224) 2 ∧ partR t (byt t 0 - 224) 2 ≤ 1114111 ∧ ¬ (55296 ≤ partR t (byt t 0 - 224) 2 ∧ partR t (byt t 0 - 224) 2 ≤ 57343) then (partR t (byt t 0 - 224) 2, 3) else (0, 0) := by
  have c1 := (cont_iff t 1).1 h.1; have c2 := (cont_iff t 2).1 h.2; have e : partR t (byt t 0 - 224) 2 = (byt t 0 - 224) * 4096 + (byt t 1 - 128) * 64 + (byt t 2 - 128) := by simp only [partR, Nat.zero_add, Nat.reduceAdd]; omega
  rw [e, firstF_eq, if_neg (by omega)]; rw [if_neg (by omega)]; rw [if_pos ⟨h1, h2, by simpa using h⟩]; simp only [Nat.zero_add]
  split <;> split <;> first | rfl | omega
theorem first_cut4 {t : ByteArray} (h1 : 240 ≤ byt t 0) (h2 : byt t 0 < 248) (h : ¬ (cont t 1 = true ∧ cont t 2 = true ∧ cont t 3 = true)) : firstF t 0 = (0, 0) := by
  rw [firstF_eq, if_neg (by omega)]; rw [if_neg (by omega)]; rw [if_neg (by omega)]; rw [if_neg (by intro hh; exact h (by simpa using hh.2.2))]
theorem first_all4 {t : ByteArray} (h1 : 240 ≤ byt t 0) (h2 : byt t 0 < 248) (h : cont t 1 = true ∧ cont t 2 = true ∧ cont t 3 = true) : firstF t 0 = if 65536 ≤ partR t (byt t 0 - 240) 3 ∧ partR t (byt t 0 - 240) 3 ≤ 1114111 ∧ ¬ (55296 ≤ partR t (byt t 0 - 240) 3 ∧ partR t (byt t 0 - 240) 3 ≤ 57343) then (partR t (byt t 0 - 240) 3, 4) else (0, 0) := by
  have c1 := (cont_iff t 1).1 h.1; have c2 := (cont_iff t 2).1 h.2.1; have c3 := (cont_iff t 3).1 h.2.2; have e : partR t (byt t 0 - 240) 3 = (byt t 0 - 240) * 262144 + (byt t 1 - 128) * 4096 + (byt t 2 - 128) * 64 + (byt t 3 - 128) := by simp only [partR, Nat.zero_add, Nat.reduceAdd]; omega
  rw [e, firstF_eq, if_neg (by omega)]; rw [if_neg (by omega)]; rw [if_neg (by omega)]; rw [if_pos ⟨h1, h2, by simpa using h⟩]; simp only [Nat.zero_add]
  split <;> split <;> first | rfl | omega
end Go
namespace Go.Proofs.YtinogphhbbaobaaDoor
open Go.RowKit

set_option maxHeartbeats 3200000 in
theorem first_any (t : ByteArray) (ht : t.size ≤ maxLen) (w : World) :
    Calls Tryd.prog 46 #[.string t] w fun e w' => e = .returned (.tuple #[.int .i64 ((firstT t).1 : Nat), .int .i64 ((firstT t).2 : Nat)]) ∧ w' = w := by
  have hF : Hid (firstT t = if t.size = 0 then (0, 0) else firstF t 0) := Lib.hid rfl; generalize firstT t = R at *; obtain ⟨R1, R2⟩ := R; dsimp only
  go_enter Tryd.func46, Tryd.ntmps46
  by_cases h0 : t.size = 0
  · have hR := hF.out; rw [if_pos h0] at hR
    cases hR
    clear hF; go_wp2; refine bodyPost_ret (v := .tuple #[.int .i64 0, .int .i64 0]) (by simp [results, Tryd.results46, go_sem]) rfl ⟨rfl, rfl⟩
  · have hpos : 0 < t.size := by omega
    have hsn : ((t.size : Int) == 0) = false := by rw [beq_eq_false_iff_ne]; omega
    have hF : Hid ((R1, R2) = firstF t 0) := Lib.hid (by have := hF.out; rwa [if_neg h0] at this); have hg0 := byt_get hpos; have hb0 := byt_lt t 0; have HZ : Hid (firstF t 0 = (0, 0) → R1 = 0 ∧ R2 = 0) := Lib.hid (fun h => by have := hF.out; rw [h] at this; cases this; exact ⟨rfl, rfl⟩)
    by_cases c1 : byt t 0 < 128
    · have hR := hF.out; rw [first_one c1] at hR
      cases hR
      generalize byt t 0 = c at *; clear hF HZ; go_wp2; refine bodyPost_ret (v := .tuple #[.int .i64 (c : Int), .int .i64 1]) (by simp [results, Tryd.results46, go_sem]) rfl ⟨rfl, rfl⟩
    · by_cases c0 : ¬ (192 ≤ byt t 0 ∧ byt t 0 < 248)
      · obtain ⟨rfl, rfl⟩ := HZ.out (first_none (by omega) c0); clear hF HZ; generalize byt t 0 = c at *
        by_cases c5 : c < 192
        · have d1 : ¬ (c : Int) < 128 := by omega
          have d2 : ¬ 192 ≤ (c : Int) := by omega
          have d3 : ¬ 224 ≤ (c : Int) := by omega
          have d4 : ¬ 240 ≤ (c : Int) := by omega
          clear c0; go_wp2; refine bodyPost_ret (v := .tuple #[.int .i64 0, .int .i64 0]) (by simp [results, Tryd.results46, go_sem]) rfl ⟨rfl, rfl⟩
        · have d1 : ¬ (c : Int) < 128 := by omega
          have d2 : ¬ (c : Int) < 224 := by omega
          have d3 : ¬ (c : Int) < 240 := by omega
          have d4 : ¬ (c : Int) < 248 := by omega
          clear c0; go_wp2; refine bodyPost_ret (v := .tuple #[.int .i64 0, .int .i64 0]) (by simp [results, Tryd.results46, go_sem]) rfl ⟨rfl, rfl⟩
      · have c0 : 192 ≤ byt t 0 ∧ byt t 0 < 248 := by omega
        by_cases c2 : byt t 0 < 224
        · have HA := Lib.hid (fun h => first_all2 (t := t) (by omega) (by omega) h); have HC := Lib.hid (fun h => HZ.out (first_cut2 (t := t) (by omega) (by omega) h)); have HN : Hid (∀ k, ¬ cont t k = true ↔ ¬ (k < t.size ∧ 128 ≤ byt t k ∧ byt t k < 192)) := Lib.hid (fun k => not_congr (cont_iff t k)); have HY : Hid (∀ k, cont t k = true ↔ (k < t.size ∧ 128 ≤ byt t k ∧ byt t k < 192)) := Lib.hid (fun k => cont_iff t k); obtain ⟨P, hP⟩ : ∃ P, partR t (byt t 0 - 192) = P := ⟨_, rfl⟩; rw [hP] at HA; have HP0 : Hid (((P 0 : Nat) : Int) = (byt t 0 : Int) - 192) := Lib.hid (by rw [← hP]; show ((byt t 0 - 192 : Nat) : Int) = _; omega); have HP1 : Hid (∀ k, P (k + 1) = 64 * P k + byt t (k + 1) - 128) := Lib.hid (fun k => by rw [← hP]; rfl); clear hP HZ; generalize byt t 0 = c at *; have d0 : ¬ (c : Int) < 128 := by omega
          have d1 : 192 ≤ (c : Int) := by omega
          have d2 : (c : Int) < 224 := by omega
          have d3 : ¬ 224 ≤ (c : Int) := by omega
          have d4 : ¬ 240 ≤ (c : Int) := by omega
          have wb : IntKind.i64.wrap ((c : Int) - 192) = (P 0 : Int) := by rw [HP0.out]; exact IntWalk.i64_in _ (by omega)
          have hP0 : (P 0 : Nat) < 32 := by have := HP0.out; omega
          clear HP0 c0 c1
          by_cases hsz : t.size < 2
          · have hszi : (t.size : Int) < 2 := by omega
            obtain ⟨rfl, rfl⟩ := HC.out (by
              intro hh; have h9 := (HY.out 1).1 hh; omega)
            clear hF HA HC HN HY HP1; go_wp2; refine bodyPost_ret (v := .tuple #[.int .i64 0, .int .i64 0]) (by simp [results, Tryd.results46, go_sem]) rfl ⟨rfl, rfl⟩
          · have hszi : ¬ (t.size : Int) < 2 := by omega
            go_wp2
            go_loopw [6, 8] (fun r i wr => ∃ k : Nat, wr = w ∧ k < 2 ∧ r = .int .i64 (P k : Int) ∧ i = .int .i64 ((k : Int) + 1) ∧ Hid (∀ j, 1 ≤ j → j ≤ k → cont t j = true) ∧ P k < 32 * 64 ^ k) (fun _ i _ => 2 - (intOf i).toNat)
            case atStart => exact ⟨0, rfl, by omega, rfl, rfl, Lib.hid (fun j h1 h2 => by omega), hP0⟩
            case round =>
              obtain ⟨k, rfl, hk, rfl, rfl, HJ, hPk⟩ := hrel; obtain rfl | rfl : k = 0 ∨ k = 1 := by omega
              · have hkl : 1 < t.size := by omega
                have hgk := byt_get hkl; have hbk := byt_lt t 1; have hPk : P 0 < 32 := hPk; have HK := HY.out 1; have HQ : P 1 = 64 * P 0 + byt t 1 - 128 := HP1.out 0; have hgi : (1 : Int) < (t.size : Int) := by omega
                generalize byt t 1 = q at *; have HW : Hid (∀ h : cont t 1 = true, 128 ≤ q ∧ q < 192) := Lib.hid (fun h => (HK.1 h).2)
                by_cases e1 : q < 128
                · have f1 : (q : Int) < 128 := by omega
                  obtain ⟨rfl, rfl⟩ := HC.out (by intro hh; have h9 := HW.out hh; omega); clear hF HA HC HN HY HP1 HK HQ HJ HW; go_wp2; refine bodyPost_ret (v := .tuple #[.int .i64 0, .int .i64 0]) (by simp [results, Tryd.results46, go_sem]) rfl ⟨rfl, rfl⟩
                · by_cases e2 : 192 ≤ q
                  · have f1 : ¬ (q : Int) < 128 := by omega
                    have f2 : 192 ≤ (q : Int) := by omega
                    obtain ⟨rfl, rfl⟩ := HC.out (by intro hh; have h9 := HW.out hh; omega); clear hF HA HC HN HY HP1 HK HQ HJ HW; go_wp2; refine bodyPost_ret (v := .tuple #[.int .i64 0, .int .i64 0]) (by simp [results, Tryd.results46, go_sem]) rfl ⟨rfl, rfl⟩
                  · have f1 : ¬ (q : Int) < 128 := by omega
                    have f2 : ¬ 192 ≤ (q : Int) := by omega
                    have hck : cont t 1 = true := HK.2 ⟨hkl, by omega, by omega⟩; obtain ⟨Q0, hQ0⟩ : ∃ Q, P 0 = Q := ⟨_, rfl⟩; rw [hQ0] at HQ hPk; have v1 : IntKind.i64.wrap (64 * (Q0 : Int)) = 64 * (Q0 : Int) := IntWalk.i64_in _ (by omega); have v2 : IntKind.i64.wrap (64 * (Q0 : Int) + (q : Int)) = 64 * (Q0 : Int) + (q : Int) := IntWalk.i64_in _ (by omega); have v3 : IntKind.i64.wrap (64 * (Q0 : Int) + (q : Int) - 128) = (P 1 : Int) := by
                      rw [HQ, IntWalk.i64_in _ (by omega)]; omega
                    have hPn : P 1 < 32 * 64 ^ 1 := by
                      have : P 1 < 2048 := by rw [HQ]; omega
                      exact this
                    have HJ2 : Hid (∀ j, 1 ≤ j → j ≤ 1 → cont t j = true) := Lib.hid (fun j h1 h2 => by
                      by_cases h : j = 1
                      · rw [h]; exact hck
                      · exact HJ.out j h1 (by omega))
                    clear hF HA HC HN HY HP1 HK HQ HJ HW hck; go_wp2; go_roundw
                    case rel => exact ⟨1, by simp, by omega, rfl, rfl, HJ2, hPn⟩
                    case measure => simp [intOf]
              · have hPk : P 1 < 2048 := hPk; have hA := HA.out (HJ.out 1 (by omega) (by omega)); have hFF := hF.out; rw [hA] at hFF; obtain ⟨M, hM⟩ : ∃ M, P 1 = M := ⟨_, rfl⟩; rw [hM] at hFF hPk ⊢; have HFF := Lib.hid hFF; clear hA hFF hF HA HC HN HY HP1 HJ hM; have gi : ¬ ((1 : Int) + 1 < 2) := by decide
                by_cases g1 : M < 128
                · have i1 : (M : Int) < 128 := by omega
                  have hz := HFF.out; rw [if_neg (by omega)] at hz
                  cases hz
                  clear HFF; go_wp2; refine bodyPost_ret (v := .tuple #[.int .i64 0, .int .i64 0]) (by simp [results, Tryd.results46, go_sem]) rfl ⟨rfl, rfl⟩
                · have i1 : ¬ (M : Int) < 128 := by omega
                  by_cases g2 : 1114111 < M
                  · have i2 : 1114111 < (M : Int) := by omega
                    have hz := HFF.out; rw [if_neg (by omega)] at hz
                    cases hz
                    clear HFF; go_wp2; refine bodyPost_ret (v := .tuple #[.int .i64 0, .int .i64 0]) (by simp [results, Tryd.results46, go_sem]) rfl ⟨rfl, rfl⟩
                  · have i2 : ¬ 1114111 < (M : Int) := by omega
                    by_cases g3 : 55296 ≤ M
                    · have i3 : 55296 ≤ (M : Int) := by omega
                      by_cases g4 : M ≤ 57343
                      · have i4 : (M : Int) ≤ 57343 := by omega
                        have hz := HFF.out; rw [if_neg (by omega)] at hz
                        cases hz
                        clear HFF; go_wp2; refine bodyPost_ret (v := .tuple #[.int .i64 0, .int .i64 0]) (by simp [results, Tryd.results46, go_sem]) rfl ⟨rfl, rfl⟩
                      · have i4 : ¬ (M : Int) ≤ 57343 := by omega
                        have hz := HFF.out; rw [if_pos (by omega)] at hz
                        cases hz
                        clear HFF; go_wp2; refine bodyPost_ret (v := .tuple #[.int .i64 (R1 : Int), .int .i64 2]) (by simp [results, Tryd.results46, go_sem]) rfl ⟨rfl, rfl⟩
                    · have i3 : ¬ 55296 ≤ (M : Int) := by omega
                      have hz := HFF.out; rw [if_pos (by omega)] at hz
                      cases hz
                      clear HFF; go_wp2; refine bodyPost_ret (v := .tuple #[.int .i64 (R1 : Int), .int .i64 2]) (by simp [results, Tryd.results46, go_sem]) rfl ⟨rfl, rfl⟩
        · by_cases c3 : byt t 0 < 240
          · have HA := Lib.hid (fun h => first_all3 (t := t) (by omega) (by omega) h); have HC := Lib.hid (fun h => HZ.out (first_cut3 (t := t) (by omega) (by omega) h)); have HN : Hid (∀ k, ¬ cont t k = true ↔ ¬ (k < t.size ∧ 128 ≤ byt t k ∧ byt t k < 192)) := Lib.hid (fun k => not_congr (cont_iff t k)); have HY : Hid (∀ k, cont t k = true ↔ (k < t.size ∧ 128 ≤ byt t k ∧ byt t k < 192)) := Lib.hid (fun k => cont_iff t k); obtain ⟨P, hP⟩ : ∃ P, partR t (byt t 0 - 224) = P := ⟨_, rfl⟩; rw [hP] at HA; have HP0 : Hid (((P 0 : Nat) : Int) = (byt t 0 : Int) - 224) := Lib.hid (by rw [← hP]; show ((byt t 0 - 224 : Nat) : Int) = _; omega); have HP1 : Hid (∀ k, P (k + 1) = 64 * P k + byt t (k + 1) - 128) := Lib.hid (fun k => by rw [← hP]; rfl); clear hP HZ; generalize byt t 0 = c at *; have d0 : ¬ (c : Int) < 128 := by omega
            have d1 : 192 ≤ (c : Int) := by omega
            have d2 : ¬ (c : Int) < 224 := by omega
            have d3 : 224 ≤ (c : Int) := by omega
            have d4 : (c : Int) < 240 := by omega
            have d5 : ¬ 240 ≤ (c : Int) := by omega
            have wb : IntKind.i64.wrap ((c : Int) - 224) = (P 0 : Int) := by rw [HP0.out]; exact IntWalk.i64_in _ (by omega)
            have hP0 : (P 0 : Nat) < 32 := by have := HP0.out; omega
            clear HP0 c0 c1
            by_cases hsz : t.size < 3
            · have hszi : (t.size : Int) < 3 := by omega
              obtain ⟨rfl, rfl⟩ := HC.out (by
                intro hh; have h9 := (HY.out 2).1 hh.2; omega)
              clear hF HA HC HN HY HP1; go_wp2; refine bodyPost_ret (v := .tuple #[.int .i64 0, .int .i64 0]) (by simp [results, Tryd.results46, go_sem]) rfl ⟨rfl, rfl⟩
            · have hszi : ¬ (t.size : Int) < 3 := by omega
              go_wp2
              go_loopw [6, 8] (fun r i wr => ∃ k : Nat, wr = w ∧ k < 3 ∧ r = .int .i64 (P k : Int) ∧ i = .int .i64 ((k : Int) + 1) ∧ Hid (∀ j, 1 ≤ j → j ≤ k → cont t j = true) ∧ P k < 32 * 64 ^ k) (fun _ i _ => 3 - (intOf i).toNat)
              case atStart => exact ⟨0, rfl, by omega, rfl, rfl, Lib.hid (fun j h1 h2 => by omega), hP0⟩
              case round =>
                obtain ⟨k, rfl, hk, rfl, rfl, HJ, hPk⟩ := hrel; obtain rfl | rfl | rfl : k = 0 ∨ k = 1 ∨ k = 2 := by omega
                · have hkl : 1 < t.size := by omega
                  have hgk := byt_get hkl; have hbk := byt_lt t 1; have hPk : P 0 < 32 := hPk; have HK := HY.out 1; have HQ : P 1 = 64 * P 0 + byt t 1 - 128 := HP1.out 0; have hgi : (1 : Int) < (t.size : Int) := by omega
                  generalize byt t 1 = q at *; have HW : Hid (∀ h : cont t 1 = true, 128 ≤ q ∧ q < 192) := Lib.hid (fun h => (HK.1 h).2)
                  by_cases e1 : q < 128
                  · have f1 : (q : Int) < 128 := by omega
                    obtain ⟨rfl, rfl⟩ := HC.out (by intro hh; have h9 := HW.out hh.1; omega); clear hF HA HC HN HY HP1 HK HQ HJ HW; go_wp2; refine bodyPost_ret (v := .tuple #[.int .i64 0, .int .i64 0]) (by simp [results, Tryd.results46, go_sem]) rfl ⟨rfl, rfl⟩
                  · by_cases e2 : 192 ≤ q
                    · have f1 : ¬ (q : Int) < 128 := by omega
                      have f2 : 192 ≤ (q : Int) := by omega
                      obtain ⟨rfl, rfl⟩ := HC.out (by intro hh; have h9 := HW.out hh.1; omega); clear hF HA HC HN HY HP1 HK HQ HJ HW; go_wp2; refine bodyPost_ret (v := .tuple #[.int .i64 0, .int .i64 0]) (by simp [results, Tryd.results46, go_sem]) rfl ⟨rfl, rfl⟩
                    · have f1 : ¬ (q : Int) < 128 := by omega
                      have f2 : ¬ 192 ≤ (q : Int) := by omega
                      have hck : cont t 1 = true := HK.2 ⟨hkl, by omega, by omega⟩; obtain ⟨Q0, hQ0⟩ : ∃ Q, P 0 = Q := ⟨_, rfl⟩; rw [hQ0] at HQ hPk; have v1 : IntKind.i64.wrap (64 * (Q0 : Int)) = 64 * (Q0 : Int) := IntWalk.i64_in _ (by omega); have v2 : IntKind.i64.wrap (64 * (Q0 : Int) + (q : Int)) = 64 * (Q0 : Int) + (q : Int) := IntWalk.i64_in _ (by omega); have v3 : IntKind.i64.wrap (64 * (Q0 : Int) + (q : Int) - 128) = (P 1 : Int) := by
                        rw [HQ, IntWalk.i64_in _ (by omega)]; omega
                      have hPn : P 1 < 32 * 64 ^ 1 := by
                        have : P 1 < 2048 := by rw [HQ]; omega
                        exact this
                      have HJ2 : Hid (∀ j, 1 ≤ j → j ≤ 1 → cont t j = true) := Lib.hid (fun j h1 h2 => by
                        by_cases h : j = 1
                        · rw [h]; exact hck
                        · exact HJ.out j h1 (by omega))
                      clear hF HA HC HN HY HP1 HK HQ HJ HW hck; go_wp2; go_roundw
                      case rel => exact ⟨1, by simp, by omega, rfl, rfl, HJ2, hPn⟩
                      case measure => simp [intOf]
                · have hkl : 2 < t.size := by omega
                  have hgk := byt_get hkl; have hbk := byt_lt t 2; have hPk : P 1 < 2048 := hPk; have HK := HY.out 2; have HQ : P 2 = 64 * P 1 + byt t 2 - 128 := HP1.out 1; have hgi : (2 : Int) < (t.size : Int) := by omega
                  generalize byt t 2 = q at *; have HW : Hid (∀ h : cont t 2 = true, 128 ≤ q ∧ q < 192) := Lib.hid (fun h => (HK.1 h).2)
                  by_cases e1 : q < 128
                  · have f1 : (q : Int) < 128 := by omega
                    obtain ⟨rfl, rfl⟩ := HC.out (by intro hh; have h9 := HW.out hh.2; omega); clear hF HA HC HN HY HP1 HK HQ HJ HW; go_wp2; refine bodyPost_ret (v := .tuple #[.int .i64 0, .int .i64 0]) (by simp [results, Tryd.results46, go_sem]) rfl ⟨rfl, rfl⟩
                  · by_cases e2 : 192 ≤ q
                    · have f1 : ¬ (q : Int) < 128 := by omega
                      have f2 : 192 ≤ (q : Int) := by omega
                      obtain ⟨rfl, rfl⟩ := HC.out (by intro hh; have h9 := HW.out hh.2; omega); clear hF HA HC HN HY HP1 HK HQ HJ HW; go_wp2; refine bodyPost_ret (v := .tuple #[.int .i64 0, .int .i64 0]) (by simp [results, Tryd.results46, go_sem]) rfl ⟨rfl, rfl⟩
                    · have f1 : ¬ (q : Int) < 128 := by omega
                      have f2 : ¬ 192 ≤ (q : Int) := by omega
                      have hck : cont t 2 = true := HK.2 ⟨hkl, by omega, by omega⟩; obtain ⟨Q0, hQ0⟩ : ∃ Q, P 1 = Q := ⟨_, rfl⟩; rw [hQ0] at HQ hPk; have v1 : IntKind.i64.wrap (64 * (Q0 : Int)) = 64 * (Q0 : Int) := IntWalk.i64_in _ (by omega); have v2 : IntKind.i64.wrap (64 * (Q0 : Int) + (q : Int)) = 64 * (Q0 : Int) + (q : Int) := IntWalk.i64_in _ (by omega); have v3 : IntKind.i64.wrap (64 * (Q0 : Int) + (q : Int) - 128) = (P 2 : Int) := by
                        rw [HQ, IntWalk.i64_in _ (by omega)]; omega
                      have hPn : P 2 < 32 * 64 ^ 2 := by
                        have : P 2 < 131072 := by rw [HQ]; omega
                        exact this
                      have HJ2 : Hid (∀ j, 1 ≤ j → j ≤ 2 → cont t j = true) := Lib.hid (fun j h1 h2 => by
                        by_cases h : j = 2
                        · rw [h]; exact hck
                        · exact HJ.out j h1 (by omega))
                      clear hF HA HC HN HY HP1 HK HQ HJ HW hck; go_wp2; go_roundw
                      case rel => exact ⟨2, by simp, by omega, rfl, rfl, HJ2, hPn⟩
                      case measure => simp [intOf]
                · have hPk : P 2 < 131072 := hPk; have hA := HA.out ⟨HJ.out 1 (by omega) (by omega), HJ.out 2 (by omega) (by omega)⟩; have hFF := hF.out; rw [hA] at hFF; obtain ⟨M, hM⟩ : ∃ M, P 2 = M := ⟨_, rfl⟩; rw [hM] at hFF hPk ⊢; have HFF := Lib.hid hFF; clear hA hFF hF HA HC HN HY HP1 HJ hM; have gi : ¬ ((2 : Int) + 1 < 3) := by decide
                  by_cases g1 : M < 2048
                  · have i1 : (M : Int) < 2048 := by omega
                    have hz := HFF.out; rw [if_neg (by omega)] at hz
                    cases hz
                    clear HFF; go_wp2; refine bodyPost_ret (v := .tuple #[.int .i64 0, .int .i64 0]) (by simp [results, Tryd.results46, go_sem]) rfl ⟨rfl, rfl⟩
                  · have i1 : ¬ (M : Int) < 2048 := by omega
                    by_cases g2 : 1114111 < M
                    · have i2 : 1114111 < (M : Int) := by omega
                      have hz := HFF.out; rw [if_neg (by omega)] at hz
                      cases hz
                      clear HFF; go_wp2; refine bodyPost_ret (v := .tuple #[.int .i64 0, .int .i64 0]) (by simp [results, Tryd.results46, go_sem]) rfl ⟨rfl, rfl⟩
                    · have i2 : ¬ 1114111 < (M : Int) := by omega
                      by_cases g3 : 55296 ≤ M
                      · have i3 : 55296 ≤ (M : Int) := by omega
                        by_cases g4 : M ≤ 57343
                        · have i4 : (M : Int) ≤ 57343 := by omega
                          have hz := HFF.out; rw [if_neg (by omega)] at hz
                          cases hz
                          clear HFF; go_wp2; refine bodyPost_ret (v := .tuple #[.int .i64 0, .int .i64 0]) (by simp [results, Tryd.results46, go_sem]) rfl ⟨rfl, rfl⟩
                        · have i4 : ¬ (M : Int) ≤ 57343 := by omega
                          have hz := HFF.out; rw [if_pos (by omega)] at hz
                          cases hz
                          clear HFF; go_wp2; refine bodyPost_ret (v := .tuple #[.int .i64 (R1 : Int), .int .i64 3]) (by simp [results, Tryd.results46, go_sem]) rfl ⟨rfl, rfl⟩
                      · have i3 : ¬ 55296 ≤ (M : Int) := by omega
                        have hz := HFF.out; rw [if_pos (by omega)] at hz
                        cases hz
                        clear HFF; go_wp2; refine bodyPost_ret (v := .tuple #[.int .i64 (R1 : Int), .int .i64 3]) (by simp [results, Tryd.results46, go_sem]) rfl ⟨rfl, rfl⟩
          · have HA := Lib.hid (fun h => first_all4 (t := t) (by omega) (by omega) h); have HC := Lib.hid (fun h => HZ.out (first_cut4 (t := t) (by omega) (by omega) h)); have HN : Hid (∀ k, ¬ cont t k = true ↔ ¬ (k < t.size ∧ 128 ≤ byt t k ∧ byt t k < 192)) := Lib.hid (fun k => not_congr (cont_iff t k)); have HY : Hid (∀ k, cont t k = true ↔ (k < t.size ∧ 128 ≤ byt t k ∧ byt t k < 192)) := Lib.hid (fun k => cont_iff t k); obtain ⟨P, hP⟩ : ∃ P, partR t (byt t 0 - 240) = P := ⟨_, rfl⟩; rw [hP] at HA; have HP0 : Hid (((P 0 : Nat) : Int) = (byt t 0 : Int) - 240) := Lib.hid (by rw [← hP]; show ((byt t 0 - 240 : Nat) : Int) = _; omega); have HP1 : Hid (∀ k, P (k + 1) = 64 * P k + byt t (k + 1) - 128) := Lib.hid (fun k => by rw [← hP]; rfl); clear hP HZ; generalize byt t 0 = c at *; have d0 : ¬ (c : Int) < 128 := by omega
            have d1 : 192 ≤ (c : Int) := by omega
            have d2 : ¬ (c : Int) < 224 := by omega
            have d3 : 224 ≤ (c : Int) := by omega
            have d4 : ¬ (c : Int) < 240 := by omega
            have d5 : 240 ≤ (c : Int) := by omega
            have d6 : (c : Int) < 248 := by omega
            have wb : IntKind.i64.wrap ((c : Int) - 240) = (P 0 : Int) := by rw [HP0.out]; exact IntWalk.i64_in _ (by omega)
            have hP0 : (P 0 : Nat) < 32 := by have := HP0.out; omega
            clear HP0 c0 c1
            by_cases hsz : t.size < 4
            · have hszi : (t.size : Int) < 4 := by omega
              obtain ⟨rfl, rfl⟩ := HC.out (by
                intro hh; have h9 := (HY.out 3).1 hh.2.2; omega)
              clear hF HA HC HN HY HP1; go_wp2; refine bodyPost_ret (v := .tuple #[.int .i64 0, .int .i64 0]) (by simp [results, Tryd.results46, go_sem]) rfl ⟨rfl, rfl⟩
            · have hszi : ¬ (t.size : Int) < 4 := by omega
              go_wp2
              go_loopw [6, 8] (fun r i wr => ∃ k : Nat, wr = w ∧ k < 4 ∧ r = .int .i64 (P k : Int) ∧ i = .int .i64 ((k : Int) + 1) ∧ Hid (∀ j, 1 ≤ j → j ≤ k → cont t j = true) ∧ P k < 32 * 64 ^ k) (fun _ i _ => 4 - (intOf i).toNat)
              case atStart => exact ⟨0, rfl, by omega, rfl, rfl, Lib.hid (fun j h1 h2 => by omega), hP0⟩
              case round =>
                obtain ⟨k, rfl, hk, rfl, rfl, HJ, hPk⟩ := hrel; obtain rfl | rfl | rfl | rfl : k = 0 ∨ k = 1 ∨ k = 2 ∨ k = 3 := by omega
                · have hkl : 1 < t.size := by omega
                  have hgk := byt_get hkl; have hbk := byt_lt t 1; have hPk : P 0 < 32 := hPk; have HK := HY.out 1; have HQ : P 1 = 64 * P 0 + byt t 1 - 128 := HP1.out 0; have hgi : (1 : Int) < (t.size : Int) := by omega
                  generalize byt t 1 = q at *; have HW : Hid (∀ h : cont t 1 = true, 128 ≤ q ∧ q < 192) := Lib.hid (fun h => (HK.1 h).2)
                  by_cases e1 : q < 128
                  · have f1 : (q : Int) < 128 := by omega
                    obtain ⟨rfl, rfl⟩ := HC.out (by intro hh; have h9 := HW.out hh.1; omega); clear hF HA HC HN HY HP1 HK HQ HJ HW; go_wp2; refine bodyPost_ret (v := .tuple #[.int .i64 0, .int .i64 0]) (by simp [results, Tryd.results46, go_sem]) rfl ⟨rfl, rfl⟩
                  · by_cases e2 : 192 ≤ q
                    · have f1 : ¬ (q : Int) < 128 := by omega
                      have f2 : 192 ≤ (q : Int) := by omega
                      obtain ⟨rfl, rfl⟩ := HC.out (by intro hh; have h9 := HW.out hh.1; omega); clear hF HA HC HN HY HP1 HK HQ HJ HW; go_wp2; refine bodyPost_ret (v := .tuple #[.int .i64 0, .int .i64 0]) (by simp [results, Tryd.results46, go_sem]) rfl ⟨rfl, rfl⟩
                    · have f1 : ¬ (q : Int) < 128 := by omega
                      have f2 : ¬ 192 ≤ (q : Int) := by omega
                      have hck : cont t 1 = true := HK.2 ⟨hkl, by omega, by omega⟩; obtain ⟨Q0, hQ0⟩ : ∃ Q, P 0 = Q := ⟨_, rfl⟩; rw [hQ0] at HQ hPk; have v1 : IntKind.i64.wrap (64 * (Q0 : Int)) = 64 * (Q0 : Int) := IntWalk.i64_in _ (by omega); have v2 : IntKind.i64.wrap (64 * (Q0 : Int) + (q : Int)) = 64 * (Q0 : Int) + (q : Int) := IntWalk.i64_in _ (by omega); have v3 : IntKind.i64.wrap (64 * (Q0 : Int) + (q : Int) - 128) = (P 1 : Int) := by
                        rw [HQ, IntWalk.i64_in _ (by omega)]; omega
                      have hPn : P 1 < 32 * 64 ^ 1 := by
                        have : P 1 < 2048 := by rw [HQ]; omega
                        exact this
                      have HJ2 : Hid (∀ j, 1 ≤ j → j ≤ 1 → cont t j = true) := Lib.hid (fun j h1 h2 => by
                        by_cases h : j = 1
                        · rw [h]; exact hck
                        · exact HJ.out j h1 (by omega))
                      clear hF HA HC HN HY HP1 HK HQ HJ HW hck; go_wp2; go_roundw
                      case rel => exact ⟨1, by simp, by omega, rfl, rfl, HJ2, hPn⟩
                      case measure => simp [intOf]
                · have hkl : 2 < t.size := by omega
                  have hgk := byt_get hkl; have hbk := byt_lt t 2; have hPk : P 1 < 2048 := hPk; have HK := HY.out 2; have HQ : P 2 = 64 * P 1 + byt t 2 - 128 := HP1.out 1; have hgi : (2 : Int) < (t.size : Int) := by omega
                  generalize byt t 2 = q at *; have HW : Hid (∀ h : cont t 2 = true, 128 ≤ q ∧ q < 192) := Lib.hid (fun h => (HK.1 h).2)
                  by_cases e1 : q < 128
                  · have f1 : (q : Int) < 128 := by omega
                    obtain ⟨rfl, rfl⟩ := HC.out (by intro hh; have h9 := HW.out hh.2.1; omega); clear hF HA HC HN HY HP1 HK HQ HJ HW; go_wp2; refine bodyPost_ret (v := .tuple #[.int .i64 0, .int .i64 0]) (by simp [results, Tryd.results46, go_sem]) rfl ⟨rfl, rfl⟩
                  · by_cases e2 : 192 ≤ q
                    · have f1 : ¬ (q : Int) < 128 := by omega
                      have f2 : 192 ≤ (q : Int) := by omega
                      obtain ⟨rfl, rfl⟩ := HC.out (by intro hh; have h9 := HW.out hh.2.1; omega); clear hF HA HC HN HY HP1 HK HQ HJ HW; go_wp2; refine bodyPost_ret (v := .tuple #[.int .i64 0, .int .i64 0]) (by simp [results, Tryd.results46, go_sem]) rfl ⟨rfl, rfl⟩
                    · have f1 : ¬ (q : Int) < 128 := by omega
                      have f2 : ¬ 192 ≤ (q : Int) := by omega
                      have hck : cont t 2 = true := HK.2 ⟨hkl, by omega, by omega⟩; obtain ⟨Q0, hQ0⟩ : ∃ Q, P 1 = Q := ⟨_, rfl⟩; rw [hQ0] at HQ hPk; have v1 : IntKind.i64.wrap (64 * (Q0 : Int)) = 64 * (Q0 : Int) := IntWalk.i64_in _ (by omega); have v2 : IntKind.i64.wrap (64 * (Q0 : Int) + (q : Int)) = 64 * (Q0 : Int) + (q : Int) := IntWalk.i64_in _ (by omega); have v3 : IntKind.i64.wrap (64 * (Q0 : Int) + (q : Int) - 128) = (P 2 : Int) := by
                        rw [HQ, IntWalk.i64_in _ (by omega)]; omega
                      have hPn : P 2 < 32 * 64 ^ 2 := by
                        have : P 2 < 131072 := by rw [HQ]; omega
                        exact this
                      have HJ2 : Hid (∀ j, 1 ≤ j → j ≤ 2 → cont t j = true) := Lib.hid (fun j h1 h2 => by
                        by_cases h : j = 2
                        · rw [h]; exact hck
                        · exact HJ.out j h1 (by omega))
                      clear hF HA HC HN HY HP1 HK HQ HJ HW hck; go_wp2; go_roundw
                      case rel => exact ⟨2, by simp, by omega, rfl, rfl, HJ2, hPn⟩
                      case measure => simp [intOf]
                · have hkl : 3 < t.size := by omega
                  have hgk := byt_get hkl; have hbk := byt_lt t 3; have hPk : P 2 < 131072 := hPk; have HK := HY.out 3; have HQ : P 3 = 64 * P 2 + byt t 3 - 128 := HP1.out 2; have hgi : (3 : Int) < (t.size : Int) := by omega
                  generalize byt t 3 = q at *; have HW : Hid (∀ h : cont t 3 = true, 128 ≤ q ∧ q < 192) := Lib.hid (fun h => (HK.1 h).2)
                  by_cases e1 : q < 128
                  · have f1 : (q : Int) < 128 := by omega
                    obtain ⟨rfl, rfl⟩ := HC.out (by intro hh; have h9 := HW.out hh.2.2; omega); clear hF HA HC HN HY HP1 HK HQ HJ HW; go_wp2; refine bodyPost_ret (v := .tuple #[.int .i64 0, .int .i64 0]) (by simp [results, Tryd.results46, go_sem]) rfl ⟨rfl, rfl⟩
                  · by_cases e2 : 192 ≤ q
                    · have f1 : ¬ (q : Int) < 128 := by omega
                      have f2 : 192 ≤ (q : Int) := by omega
                      obtain ⟨rfl, rfl⟩ := HC.out (by intro hh; have h9 := HW.out hh.2.2; omega); clear hF HA HC HN HY HP1 HK HQ HJ HW; go_wp2; refine bodyPost_ret (v := .tuple #[.int .i64 0, .int .i64 0]) (by simp [results, Tryd.results46, go_sem]) rfl ⟨rfl, rfl⟩
                    · have f1 : ¬ (q : Int) < 128 := by omega
                      have f2 : ¬ 192 ≤ (q : Int) := by omega
                      have hck : cont t 3 = true := HK.2 ⟨hkl, by omega, by omega⟩; obtain ⟨Q0, hQ0⟩ : ∃ Q, P 2 = Q := ⟨_, rfl⟩; rw [hQ0] at HQ hPk; have v1 : IntKind.i64.wrap (64 * (Q0 : Int)) = 64 * (Q0 : Int) := IntWalk.i64_in _ (by omega); have v2 : IntKind.i64.wrap (64 * (Q0 : Int) + (q : Int)) = 64 * (Q0 : Int) + (q : Int) := IntWalk.i64_in _ (by omega); have v3 : IntKind.i64.wrap (64 * (Q0 : Int) + (q : Int) - 128) = (P 3 : Int) := by
                        rw [HQ, IntWalk.i64_in _ (by omega)]; omega
                      have hPn : P 3 < 32 * 64 ^ 3 := by
                        have : P 3 < 8388608 := by rw [HQ]; omega
                        exact this
                      have HJ2 : Hid (∀ j, 1 ≤ j → j ≤ 3 → cont t j = true) := Lib.hid (fun j h1 h2 => by
                        by_cases h : j = 3
                        · rw [h]; exact hck
                        · exact HJ.out j h1 (by omega))
                      clear hF HA HC HN HY HP1 HK HQ HJ HW hck; go_wp2; go_roundw
                      case rel => exact ⟨3, by simp, by omega, rfl, rfl, HJ2, hPn⟩
                      case measure => simp [intOf]
                · have hPk : P 3 < 8388608 := hPk; have hA := HA.out ⟨HJ.out 1 (by omega) (by omega), HJ.out 2 (by omega) (by omega), HJ.out 3 (by omega) (by omega)⟩; have hFF := hF.out; rw [hA] at hFF; obtain ⟨M, hM⟩ : ∃ M, P 3 = M := ⟨_, rfl⟩; rw [hM] at hFF hPk ⊢; have HFF := Lib.hid hFF; clear hA hFF hF HA HC HN HY HP1 HJ hM; have gi : ¬ ((3 : Int) + 1 < 4) := by decide
                  by_cases g1 : M < 65536
                  · have i1 : (M : Int) < 65536 := by omega
                    have hz := HFF.out; rw [if_neg (by omega)] at hz
                    cases hz
                    clear HFF; go_wp2; refine bodyPost_ret (v := .tuple #[.int .i64 0, .int .i64 0]) (by simp [results, Tryd.results46, go_sem]) rfl ⟨rfl, rfl⟩
                  · have i1 : ¬ (M : Int) < 65536 := by omega
                    by_cases g2 : 1114111 < M
                    · have i2 : 1114111 < (M : Int) := by omega
                      have hz := HFF.out; rw [if_neg (by omega)] at hz
                      cases hz
                      clear HFF; go_wp2; refine bodyPost_ret (v := .tuple #[.int .i64 0, .int .i64 0]) (by simp [results, Tryd.results46, go_sem]) rfl ⟨rfl, rfl⟩
                    · have i2 : ¬ 1114111 < (M : Int) := by omega
                      by_cases g3 : 55296 ≤ M
                      · have i3 : 55296 ≤ (M : Int) := by omega
                        by_cases g4 : M ≤ 57343
                        · have i4 : (M : Int) ≤ 57343 := by omega
                          have hz := HFF.out; rw [if_neg (by omega)] at hz
                          cases hz
                          clear HFF; go_wp2; refine bodyPost_ret (v := .tuple #[.int .i64 0, .int .i64 0]) (by simp [results, Tryd.results46, go_sem]) rfl ⟨rfl, rfl⟩
                        · have i4 : ¬ (M : Int) ≤ 57343 := by omega
                          have hz := HFF.out; rw [if_pos (by omega)] at hz
                          cases hz
                          clear HFF; go_wp2; refine bodyPost_ret (v := .tuple #[.int .i64 (R1 : Int), .int .i64 4]) (by simp [results, Tryd.results46, go_sem]) rfl ⟨rfl, rfl⟩
                      · have i3 : ¬ 55296 ≤ (M : Int) := by omega
                        have hz := HFF.out; rw [if_pos (by omega)] at hz
                        cases hz
                        clear HFF; go_wp2; refine bodyPost_ret (v := .tuple #[.int .i64 (R1 : Int), .int .i64 4]) (by simp [results, Tryd.results46, go_sem]) rfl ⟨rfl, rfl⟩
end Go.Proofs.YtinogphhbbaobaaDoor
