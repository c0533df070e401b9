/-
  graticuleref09.Name. graticuleref10.Check.
-/
import Derived.Test.YtjggoajfilnfjaaGreatPk33
import Derived.Test.YtjggoajfilnfjaaGreatPk12
import Derived.Test.YtjggoajfilnfjaaGreatPk5
set_option linter.unusedVariables false
set_option linter.unusedSimpArgs false
set_option maxRecDepth 100000
namespace Go
open Go.RowKit
theorem rl_pos (s : ByteArray) : ∀ (f p : Nat) (x : Nat × Nat), x ∈ rl s f p → p ≤ x.2 := by
 intro f
 induction f with
 | zero => intro p x h; simp [rl] at h
 | succ f ih =>
  intro p x h
  by_cases hp : p < s.size
  ·rw [rl_step s f p hp, List.mem_cons] at h
   rcases h with rfl | h
   ·exact Nat.le_refl _
   ·have := ih _ x h; omega
  ·rw [rl_end s _ p hp] at h; simp at h
theorem runes_zero (s : ByteArray) (k : Nat) (x : Nat × Nat) (h : (runesF s)[k]? = some x) : x.2 = 0 ↔ k = 0 := by
 unfold runesF at h
 cases hs : s.size with
 | zero => rw [hs] at h; simp [rl] at h
 | succ f =>
  rw [hs, rl_step s f 0 (by omega)] at h
  cases k with
  | zero => simp at h; rw [← h]
  | succ k =>
   rw [List.getElem?_cons_succ] at h; have h1 := rl_pos s f _ x (List.mem_of_getElem? h); have h2 := decode_wid (s := s) (i := 0) (by omega); omega
theorem runes_bd (s : ByteArray) : ∀ (f p : Nat) (x : Nat × Nat), x ∈ rl s f p → x.1 ≤ 1114111 := by
 intro f
 induction f with
 | zero => intro p x h; simp [rl] at h
 | succ f ih =>
  intro p x h
  by_cases hp : p < s.size
  ·rw [rl_step s f p hp, List.mem_cons] at h
   rcases h with rfl | h
   ·exact (decode_wid hp).2.2.2
   ·exact ih _ x h
  ·rw [rl_end s _ p hp] at h; simp at h
theorem nameAt_eq (R p k : Nat) (h : p = 0 ↔ k = 0) : nameAt (R, p) = decide ((97 ≤ R ∧ R ≤ 122 ∨ 65 ≤ R ∧ R ≤ 90 ∨ R = 95 ∨ 128 ≤ R) ∨ (k ≠ 0 ∧ (R = 45 ∨ R = 46 ∨ 48 ≤ R ∧ R ≤ 57))) := by
 unfold nameAt letterF otherF; rw [Bool.eq_iff_iff]; simp only [Bool.or_eq_true, Bool.and_eq_true, decide_eq_true_eq, ne_eq, h]
end Go
namespace Go.Proofs.YtjggoajfilnfjaaGreat
open Go.RowKit

set_option maxHeartbeats 12800000 in
theorem rname_any (s : ByteArray) (hs : s.size ≤ 100000) (w : World) :
    Calls Tryz.prog 47 #[.string s] w fun e w' => e = .returned (.bool (nameF s)) ∧ Below w.heap.size w w' := by
  have hR := Lib.hid (rrunes_any s hs); have hN : Hid (nameF s = (rightF s && decide (1 ≤ (runesF s).length ∧ (runesF s).length ≤ 32) && (runesF s).all nameAt)) := Lib.hid rfl; have hL : Hid (runesT s = if rightF s then runesF s else []) := Lib.hid rfl; have hZ := Lib.hid (runes_zero s); have hBD := Lib.hid (fun x h => runes_bd s s.size 0 x h); have hZ2 : Hid (∀ x, x ∈ runesF s → x.1 ≤ 1114111) := hBD; clear hBD; generalize runesF s = L at *; generalize nameF s = N at *; generalize runesT s = L2 at *; obtain ⟨T, hT⟩ : ∃ T, rightF s = T := ⟨_, rfl⟩; rw [hT] at hR hN hL; clear hT
  go_enter Tryz.func47, Tryz.ntmps47
  go_wp2_with fail
  refine (hR.out _).mono ?_; rintro e w1 ⟨vo, va, rfl, ho, -, hb⟩; obtain ⟨a, c, rfl, hc1, hc2, -, hr, -⟩ := ho.form; clear ho hR
  cases T with
  | false =>
    have hn : N = false := by rw [hN.out]; rfl
    subst hn; clear hN hL; go_wp2; go_ret; exact ⟨rfl, hb⟩
  | true =>
    have hl := hL.out; rw [if_pos rfl] at hl; subst hl; clear hL
    by_cases h1 : L2.length < 1
    · have hn : N = false := by rw [hN.out]; have : ¬ 1 ≤ L2.length := by omega
                                simp [this]
      subst hn; have h1i : (L2.length : Int) < 1 := by omega
      clear hN; go_wp2; go_ret; exact ⟨rfl, hb⟩
    have h1i : ¬ (L2.length : Int) < 1 := by omega
    by_cases h2 : 32 < L2.length
    · have hn : N = false := by rw [hN.out]; have : ¬ L2.length ≤ 32 := by omega
                                simp [this]
      subst hn; have h2i : 32 < (L2.length : Int) := by omega
      clear hN; go_wp2; go_ret; exact ⟨rfl, hb⟩
    have h2i : ¬ 32 < (L2.length : Int) := by omega
    have HN : Hid (N = L2.all nameAt) := Lib.hid (by
      rw [hN.out]; have : 1 ≤ L2.length ∧ L2.length ≤ 32 := by omega
      simp [this])
    clear hN; go_wp2
    go_loopw [6] (fun i wr => ∃ k : Nat, i = .int .i64 (k : Int) ∧ k ≤ L2.length ∧ Hid ((L2.take k).all nameAt = true) ∧ Rd wr a (rns L2) ∧ Below w.heap.size w wr) (fun i _ => L2.length - (intOf i).toNat)
    case atStart => exact ⟨0, rfl, by omega, Lib.hid rfl, hr, hb⟩
    case round =>
      clear hr hb; obtain ⟨k, rfl, hk, HP, hr, hb⟩ := hrel
      by_cases hkl : k < L2.length
      · have hki : (k : Int) < (L2.length : Int) := by omega
        obtain ⟨x, hx⟩ : ∃ x, L2[k]? = some x := ⟨_, List.getElem?_eq_getElem hkl⟩; obtain ⟨b, off, rfl, hcell, -⟩ := hr.at (i := k) (v := .int .i64 (x.1 : Int)) (by simp [rns, hx]); have hz := hZ.out k x hx; have hbd := hZ2.out x (List.mem_of_getElem? hx); have HXF : Hid (nameAt x = false → N = false) := Lib.hid (fun h => by
          rw [HN.out, List.all_eq_false]; exact ⟨x, List.mem_of_getElem? hx, by simp [h]⟩)
        have HXT : Hid (nameAt x = true → (L2.take (k + 1)).all nameAt = true) := Lib.hid (fun h => by
          rw [List.take_add_one, List.all_append, HP.out, hx]; simp [h])
        obtain ⟨R, p⟩ := x; have HX := Lib.hid (nameAt_eq R p k hz); generalize nameAt (R, p) = X at *; dsimp only at hcell hbd; clear hx hz
        by_cases r0 : R ≤ 44
        · by_cases hk0 : k = 0
          · have hX : X = false := by rw [HX.out]; simp; omega
            have hN := HXF.out hX; subst hN; subst hk0; have hcell : wr.cell? ⟨b, off, none⟩ = some (.int .i64 (R : Int)) := hcell; clear HX HXT HXF hX; have g0 : ¬ (96 < (R : Int)) := by omega
            have g1 : ((R : Int) < 123) := by omega
            have g2 : ¬ (64 < (R : Int)) := by omega
            have g3 : ((R : Int) < 91) := by omega
            have g4 : ¬ (127 < (R : Int)) := by omega
            have g5 : ¬ (47 < (R : Int)) := by omega
            have g6 : ((R : Int) < 58) := by omega
            have e0 : ((R : Int) == 95) = false := by rw [beq_eq_false_iff_ne]; omega
            have e1 : ((R : Int) == 45) = false := by rw [beq_eq_false_iff_ne]; omega
            have e2 : ((R : Int) == 46) = false := by rw [beq_eq_false_iff_ne]; omega
            go_wp2; refine bodyPost_ret (v := .bool false) (by simp [results, Tryz.results47, go_sem]) rfl ⟨rfl, hb⟩
          · have z : ((k : Int) == 0) = false := by rw [beq_eq_false_iff_ne]; omega
            have hX : X = false := by rw [HX.out]; simp; omega
            have hN := HXF.out hX; subst hN; clear HX HXT HXF hX; have g0 : ¬ (96 < (R : Int)) := by omega
            have g1 : ((R : Int) < 123) := by omega
            have g2 : ¬ (64 < (R : Int)) := by omega
            have g3 : ((R : Int) < 91) := by omega
            have g4 : ¬ (127 < (R : Int)) := by omega
            have g5 : ¬ (47 < (R : Int)) := by omega
            have g6 : ((R : Int) < 58) := by omega
            have e0 : ((R : Int) == 95) = false := by rw [beq_eq_false_iff_ne]; omega
            have e1 : ((R : Int) == 45) = false := by rw [beq_eq_false_iff_ne]; omega
            have e2 : ((R : Int) == 46) = false := by rw [beq_eq_false_iff_ne]; omega
            go_wp2; refine bodyPost_ret (v := .bool false) (by simp [results, Tryz.results47, go_sem]) rfl ⟨rfl, hb⟩
        by_cases r1 : R ≤ 45
        · by_cases hk0 : k = 0
          · have hX : X = false := by rw [HX.out]; simp; omega
            have hN := HXF.out hX; subst hN; subst hk0; have hcell : wr.cell? ⟨b, off, none⟩ = some (.int .i64 (R : Int)) := hcell; clear HX HXT HXF hX; have g0 : ¬ (96 < (R : Int)) := by omega
            have g1 : ((R : Int) < 123) := by omega
            have g2 : ¬ (64 < (R : Int)) := by omega
            have g3 : ((R : Int) < 91) := by omega
            have g4 : ¬ (127 < (R : Int)) := by omega
            have g5 : ¬ (47 < (R : Int)) := by omega
            have g6 : ((R : Int) < 58) := by omega
            have e0 : ((R : Int) == 95) = false := by rw [beq_eq_false_iff_ne]; omega
            have e1 : ((R : Int) == 45) = true := by rw [beq_iff_eq]; omega
            have e2 : ((R : Int) == 46) = false := by rw [beq_eq_false_iff_ne]; omega
            go_wp2; refine bodyPost_ret (v := .bool false) (by simp [results, Tryz.results47, go_sem]) rfl ⟨rfl, hb⟩
          · have z : ((k : Int) == 0) = false := by rw [beq_eq_false_iff_ne]; omega
            have hX : X = true := by rw [HX.out]; simp; omega
            have HP2 := Lib.hid (HXT.out hX); clear HX HXT HXF hX; have g0 : ¬ (96 < (R : Int)) := by omega
            have g1 : ((R : Int) < 123) := by omega
            have g2 : ¬ (64 < (R : Int)) := by omega
            have g3 : ((R : Int) < 91) := by omega
            have g4 : ¬ (127 < (R : Int)) := by omega
            have g5 : ¬ (47 < (R : Int)) := by omega
            have g6 : ((R : Int) < 58) := by omega
            have e0 : ((R : Int) == 95) = false := by rw [beq_eq_false_iff_ne]; omega
            have e1 : ((R : Int) == 45) = true := by rw [beq_iff_eq]; omega
            have e2 : ((R : Int) == 46) = false := by rw [beq_eq_false_iff_ne]; omega
            go_wp2; go_roundw
            case rel => exact ⟨k + 1, val_int (by omega), by omega, HP2, hr, hb⟩
            case measure => simp [intOf]; omega
        by_cases r2 : R ≤ 46
        · by_cases hk0 : k = 0
          · have hX : X = false := by rw [HX.out]; simp; omega
            have hN := HXF.out hX; subst hN; subst hk0; have hcell : wr.cell? ⟨b, off, none⟩ = some (.int .i64 (R : Int)) := hcell; clear HX HXT HXF hX; have g0 : ¬ (96 < (R : Int)) := by omega
            have g1 : ((R : Int) < 123) := by omega
            have g2 : ¬ (64 < (R : Int)) := by omega
            have g3 : ((R : Int) < 91) := by omega
            have g4 : ¬ (127 < (R : Int)) := by omega
            have g5 : ¬ (47 < (R : Int)) := by omega
            have g6 : ((R : Int) < 58) := by omega
            have e0 : ((R : Int) == 95) = false := by rw [beq_eq_false_iff_ne]; omega
            have e1 : ((R : Int) == 45) = false := by rw [beq_eq_false_iff_ne]; omega
            have e2 : ((R : Int) == 46) = true := by rw [beq_iff_eq]; omega
            go_wp2; refine bodyPost_ret (v := .bool false) (by simp [results, Tryz.results47, go_sem]) rfl ⟨rfl, hb⟩
          · have z : ((k : Int) == 0) = false := by rw [beq_eq_false_iff_ne]; omega
            have hX : X = true := by rw [HX.out]; simp; omega
            have HP2 := Lib.hid (HXT.out hX); clear HX HXT HXF hX; have g0 : ¬ (96 < (R : Int)) := by omega
            have g1 : ((R : Int) < 123) := by omega
            have g2 : ¬ (64 < (R : Int)) := by omega
            have g3 : ((R : Int) < 91) := by omega
            have g4 : ¬ (127 < (R : Int)) := by omega
            have g5 : ¬ (47 < (R : Int)) := by omega
            have g6 : ((R : Int) < 58) := by omega
            have e0 : ((R : Int) == 95) = false := by rw [beq_eq_false_iff_ne]; omega
            have e1 : ((R : Int) == 45) = false := by rw [beq_eq_false_iff_ne]; omega
            have e2 : ((R : Int) == 46) = true := by rw [beq_iff_eq]; omega
            go_wp2; go_roundw
            case rel => exact ⟨k + 1, val_int (by omega), by omega, HP2, hr, hb⟩
            case measure => simp [intOf]; omega
        by_cases r3 : R ≤ 47
        · by_cases hk0 : k = 0
          · have hX : X = false := by rw [HX.out]; simp; omega
            have hN := HXF.out hX; subst hN; subst hk0; have hcell : wr.cell? ⟨b, off, none⟩ = some (.int .i64 (R : Int)) := hcell; clear HX HXT HXF hX; have g0 : ¬ (96 < (R : Int)) := by omega
            have g1 : ((R : Int) < 123) := by omega
            have g2 : ¬ (64 < (R : Int)) := by omega
            have g3 : ((R : Int) < 91) := by omega
            have g4 : ¬ (127 < (R : Int)) := by omega
            have g5 : ¬ (47 < (R : Int)) := by omega
            have g6 : ((R : Int) < 58) := by omega
            have e0 : ((R : Int) == 95) = false := by rw [beq_eq_false_iff_ne]; omega
            have e1 : ((R : Int) == 45) = false := by rw [beq_eq_false_iff_ne]; omega
            have e2 : ((R : Int) == 46) = false := by rw [beq_eq_false_iff_ne]; omega
            go_wp2; refine bodyPost_ret (v := .bool false) (by simp [results, Tryz.results47, go_sem]) rfl ⟨rfl, hb⟩
          · have z : ((k : Int) == 0) = false := by rw [beq_eq_false_iff_ne]; omega
            have hX : X = false := by rw [HX.out]; simp; omega
            have hN := HXF.out hX; subst hN; clear HX HXT HXF hX; have g0 : ¬ (96 < (R : Int)) := by omega
            have g1 : ((R : Int) < 123) := by omega
            have g2 : ¬ (64 < (R : Int)) := by omega
            have g3 : ((R : Int) < 91) := by omega
            have g4 : ¬ (127 < (R : Int)) := by omega
            have g5 : ¬ (47 < (R : Int)) := by omega
            have g6 : ((R : Int) < 58) := by omega
            have e0 : ((R : Int) == 95) = false := by rw [beq_eq_false_iff_ne]; omega
            have e1 : ((R : Int) == 45) = false := by rw [beq_eq_false_iff_ne]; omega
            have e2 : ((R : Int) == 46) = false := by rw [beq_eq_false_iff_ne]; omega
            go_wp2; refine bodyPost_ret (v := .bool false) (by simp [results, Tryz.results47, go_sem]) rfl ⟨rfl, hb⟩
        by_cases r4 : R ≤ 57
        · by_cases hk0 : k = 0
          · have hX : X = false := by rw [HX.out]; simp; omega
            have hN := HXF.out hX; subst hN; subst hk0; have hcell : wr.cell? ⟨b, off, none⟩ = some (.int .i64 (R : Int)) := hcell; clear HX HXT HXF hX; have g0 : ¬ (96 < (R : Int)) := by omega
            have g1 : ((R : Int) < 123) := by omega
            have g2 : ¬ (64 < (R : Int)) := by omega
            have g3 : ((R : Int) < 91) := by omega
            have g4 : ¬ (127 < (R : Int)) := by omega
            have g5 : (47 < (R : Int)) := by omega
            have g6 : ((R : Int) < 58) := by omega
            have e0 : ((R : Int) == 95) = false := by rw [beq_eq_false_iff_ne]; omega
            have e1 : ((R : Int) == 45) = false := by rw [beq_eq_false_iff_ne]; omega
            have e2 : ((R : Int) == 46) = false := by rw [beq_eq_false_iff_ne]; omega
            go_wp2; refine bodyPost_ret (v := .bool false) (by simp [results, Tryz.results47, go_sem]) rfl ⟨rfl, hb⟩
          · have z : ((k : Int) == 0) = false := by rw [beq_eq_false_iff_ne]; omega
            have hX : X = true := by rw [HX.out]; simp; omega
            have HP2 := Lib.hid (HXT.out hX); clear HX HXT HXF hX; have g0 : ¬ (96 < (R : Int)) := by omega
            have g1 : ((R : Int) < 123) := by omega
            have g2 : ¬ (64 < (R : Int)) := by omega
            have g3 : ((R : Int) < 91) := by omega
            have g4 : ¬ (127 < (R : Int)) := by omega
            have g5 : (47 < (R : Int)) := by omega
            have g6 : ((R : Int) < 58) := by omega
            have e0 : ((R : Int) == 95) = false := by rw [beq_eq_false_iff_ne]; omega
            have e1 : ((R : Int) == 45) = false := by rw [beq_eq_false_iff_ne]; omega
            have e2 : ((R : Int) == 46) = false := by rw [beq_eq_false_iff_ne]; omega
            go_wp2; go_roundw
            case rel => exact ⟨k + 1, val_int (by omega), by omega, HP2, hr, hb⟩
            case measure => simp [intOf]; omega
        by_cases r5 : R ≤ 64
        · by_cases hk0 : k = 0
          · have hX : X = false := by rw [HX.out]; simp; omega
            have hN := HXF.out hX; subst hN; subst hk0; have hcell : wr.cell? ⟨b, off, none⟩ = some (.int .i64 (R : Int)) := hcell; clear HX HXT HXF hX; have g0 : ¬ (96 < (R : Int)) := by omega
            have g1 : ((R : Int) < 123) := by omega
            have g2 : ¬ (64 < (R : Int)) := by omega
            have g3 : ((R : Int) < 91) := by omega
            have g4 : ¬ (127 < (R : Int)) := by omega
            have g5 : (47 < (R : Int)) := by omega
            have g6 : ¬ ((R : Int) < 58) := by omega
            have e0 : ((R : Int) == 95) = false := by rw [beq_eq_false_iff_ne]; omega
            have e1 : ((R : Int) == 45) = false := by rw [beq_eq_false_iff_ne]; omega
            have e2 : ((R : Int) == 46) = false := by rw [beq_eq_false_iff_ne]; omega
            go_wp2; refine bodyPost_ret (v := .bool false) (by simp [results, Tryz.results47, go_sem]) rfl ⟨rfl, hb⟩
          · have z : ((k : Int) == 0) = false := by rw [beq_eq_false_iff_ne]; omega
            have hX : X = false := by rw [HX.out]; simp; omega
            have hN := HXF.out hX; subst hN; clear HX HXT HXF hX; have g0 : ¬ (96 < (R : Int)) := by omega
            have g1 : ((R : Int) < 123) := by omega
            have g2 : ¬ (64 < (R : Int)) := by omega
            have g3 : ((R : Int) < 91) := by omega
            have g4 : ¬ (127 < (R : Int)) := by omega
            have g5 : (47 < (R : Int)) := by omega
            have g6 : ¬ ((R : Int) < 58) := by omega
            have e0 : ((R : Int) == 95) = false := by rw [beq_eq_false_iff_ne]; omega
            have e1 : ((R : Int) == 45) = false := by rw [beq_eq_false_iff_ne]; omega
            have e2 : ((R : Int) == 46) = false := by rw [beq_eq_false_iff_ne]; omega
            go_wp2; refine bodyPost_ret (v := .bool false) (by simp [results, Tryz.results47, go_sem]) rfl ⟨rfl, hb⟩
        by_cases r6 : R ≤ 90
        · have hX : X = true := by rw [HX.out]; simp; omega
          have HP2 := Lib.hid (HXT.out hX); clear HX HXT HXF hX; have g0 : ¬ (96 < (R : Int)) := by omega
          have g1 : ((R : Int) < 123) := by omega
          have g2 : (64 < (R : Int)) := by omega
          have g3 : ((R : Int) < 91) := by omega
          have g4 : ¬ (127 < (R : Int)) := by omega
          have g5 : (47 < (R : Int)) := by omega
          have g6 : ¬ ((R : Int) < 58) := by omega
          have e0 : ((R : Int) == 95) = false := by rw [beq_eq_false_iff_ne]; omega
          have e1 : ((R : Int) == 45) = false := by rw [beq_eq_false_iff_ne]; omega
          have e2 : ((R : Int) == 46) = false := by rw [beq_eq_false_iff_ne]; omega
          go_wp2; go_roundw
          case rel => exact ⟨k + 1, val_int (by omega), by omega, HP2, hr, hb⟩
          case measure => simp [intOf]; omega
        by_cases r7 : R ≤ 94
        · by_cases hk0 : k = 0
          · have hX : X = false := by rw [HX.out]; simp; omega
            have hN := HXF.out hX; subst hN; subst hk0; have hcell : wr.cell? ⟨b, off, none⟩ = some (.int .i64 (R : Int)) := hcell; clear HX HXT HXF hX; have g0 : ¬ (96 < (R : Int)) := by omega
            have g1 : ((R : Int) < 123) := by omega
            have g2 : (64 < (R : Int)) := by omega
            have g3 : ¬ ((R : Int) < 91) := by omega
            have g4 : ¬ (127 < (R : Int)) := by omega
            have g5 : (47 < (R : Int)) := by omega
            have g6 : ¬ ((R : Int) < 58) := by omega
            have e0 : ((R : Int) == 95) = false := by rw [beq_eq_false_iff_ne]; omega
            have e1 : ((R : Int) == 45) = false := by rw [beq_eq_false_iff_ne]; omega
            have e2 : ((R : Int) == 46) = false := by rw [beq_eq_false_iff_ne]; omega
            go_wp2; refine bodyPost_ret (v := .bool false) (by simp [results, Tryz.results47, go_sem]) rfl ⟨rfl, hb⟩
          · have z : ((k : Int) == 0) = false := by rw [beq_eq_false_iff_ne]; omega
            have hX : X = false := by rw [HX.out]; simp; omega
            have hN := HXF.out hX; subst hN; clear HX HXT HXF hX; have g0 : ¬ (96 < (R : Int)) := by omega
            have g1 : ((R : Int) < 123) := by omega
            have g2 : (64 < (R : Int)) := by omega
            have g3 : ¬ ((R : Int) < 91) := by omega
            have g4 : ¬ (127 < (R : Int)) := by omega
            have g5 : (47 < (R : Int)) := by omega
            have g6 : ¬ ((R : Int) < 58) := by omega
            have e0 : ((R : Int) == 95) = false := by rw [beq_eq_false_iff_ne]; omega
            have e1 : ((R : Int) == 45) = false := by rw [beq_eq_false_iff_ne]; omega
            have e2 : ((R : Int) == 46) = false := by rw [beq_eq_false_iff_ne]; omega
            go_wp2; refine bodyPost_ret (v := .bool false) (by simp [results, Tryz.results47, go_sem]) rfl ⟨rfl, hb⟩
        by_cases r8 : R ≤ 95
        · have hX : X = true := by rw [HX.out]; simp; omega
          have HP2 := Lib.hid (HXT.out hX); clear HX HXT HXF hX; have g0 : ¬ (96 < (R : Int)) := by omega
          have g1 : ((R : Int) < 123) := by omega
          have g2 : (64 < (R : Int)) := by omega
          have g3 : ¬ ((R : Int) < 91) := by omega
          have g4 : ¬ (127 < (R : Int)) := by omega
          have g5 : (47 < (R : Int)) := by omega
          have g6 : ¬ ((R : Int) < 58) := by omega
          have e0 : ((R : Int) == 95) = true := by rw [beq_iff_eq]; omega
          have e1 : ((R : Int) == 45) = false := by rw [beq_eq_false_iff_ne]; omega
          have e2 : ((R : Int) == 46) = false := by rw [beq_eq_false_iff_ne]; omega
          go_wp2; go_roundw
          case rel => exact ⟨k + 1, val_int (by omega), by omega, HP2, hr, hb⟩
          case measure => simp [intOf]; omega
        by_cases r9 : R ≤ 96
        · by_cases hk0 : k = 0
          · have hX : X = false := by rw [HX.out]; simp; omega
            have hN := HXF.out hX; subst hN; subst hk0; have hcell : wr.cell? ⟨b, off, none⟩ = some (.int .i64 (R : Int)) := hcell; clear HX HXT HXF hX; have g0 : ¬ (96 < (R : Int)) := by omega
            have g1 : ((R : Int) < 123) := by omega
            have g2 : (64 < (R : Int)) := by omega
            have g3 : ¬ ((R : Int) < 91) := by omega
            have g4 : ¬ (127 < (R : Int)) := by omega
            have g5 : (47 < (R : Int)) := by omega
            have g6 : ¬ ((R : Int) < 58) := by omega
            have e0 : ((R : Int) == 95) = false := by rw [beq_eq_false_iff_ne]; omega
            have e1 : ((R : Int) == 45) = false := by rw [beq_eq_false_iff_ne]; omega
            have e2 : ((R : Int) == 46) = false := by rw [beq_eq_false_iff_ne]; omega
            go_wp2; refine bodyPost_ret (v := .bool false) (by simp [results, Tryz.results47, go_sem]) rfl ⟨rfl, hb⟩
          · have z : ((k : Int) == 0) = false := by rw [beq_eq_false_iff_ne]; omega
            have hX : X = false := by rw [HX.out]; simp; omega
            have hN := HXF.out hX; subst hN; clear HX HXT HXF hX; have g0 : ¬ (96 < (R : Int)) := by omega
            have g1 : ((R : Int) < 123) := by omega
            have g2 : (64 < (R : Int)) := by omega
            have g3 : ¬ ((R : Int) < 91) := by omega
            have g4 : ¬ (127 < (R : Int)) := by omega
            have g5 : (47 < (R : Int)) := by omega
            have g6 : ¬ ((R : Int) < 58) := by omega
            have e0 : ((R : Int) == 95) = false := by rw [beq_eq_false_iff_ne]; omega
            have e1 : ((R : Int) == 45) = false := by rw [beq_eq_false_iff_ne]; omega
            have e2 : ((R : Int) == 46) = false := by rw [beq_eq_false_iff_ne]; omega
            go_wp2; refine bodyPost_ret (v := .bool false) (by simp [results, Tryz.results47, go_sem]) rfl ⟨rfl, hb⟩
        by_cases r10 : R ≤ 122
        · have hX : X = true := by rw [HX.out]; simp; omega
          have HP2 := Lib.hid (HXT.out hX); clear HX HXT HXF hX; have g0 : (96 < (R : Int)) := by omega
          have g1 : ((R : Int) < 123) := by omega
          have g2 : (64 < (R : Int)) := by omega
          have g3 : ¬ ((R : Int) < 91) := by omega
          have g4 : ¬ (127 < (R : Int)) := by omega
          have g5 : (47 < (R : Int)) := by omega
          have g6 : ¬ ((R : Int) < 58) := by omega
          have e0 : ((R : Int) == 95) = false := by rw [beq_eq_false_iff_ne]; omega
          have e1 : ((R : Int) == 45) = false := by rw [beq_eq_false_iff_ne]; omega
          have e2 : ((R : Int) == 46) = false := by rw [beq_eq_false_iff_ne]; omega
          go_wp2; go_roundw
          case rel => exact ⟨k + 1, val_int (by omega), by omega, HP2, hr, hb⟩
          case measure => simp [intOf]; omega
        by_cases r11 : R ≤ 127
        · by_cases hk0 : k = 0
          · have hX : X = false := by rw [HX.out]; simp; omega
            have hN := HXF.out hX; subst hN; subst hk0; have hcell : wr.cell? ⟨b, off, none⟩ = some (.int .i64 (R : Int)) := hcell; clear HX HXT HXF hX; have g0 : (96 < (R : Int)) := by omega
            have g1 : ¬ ((R : Int) < 123) := by omega
            have g2 : (64 < (R : Int)) := by omega
            have g3 : ¬ ((R : Int) < 91) := by omega
            have g4 : ¬ (127 < (R : Int)) := by omega
            have g5 : (47 < (R : Int)) := by omega
            have g6 : ¬ ((R : Int) < 58) := by omega
            have e0 : ((R : Int) == 95) = false := by rw [beq_eq_false_iff_ne]; omega
            have e1 : ((R : Int) == 45) = false := by rw [beq_eq_false_iff_ne]; omega
            have e2 : ((R : Int) == 46) = false := by rw [beq_eq_false_iff_ne]; omega
            go_wp2; refine bodyPost_ret (v := .bool false) (by simp [results, Tryz.results47, go_sem]) rfl ⟨rfl, hb⟩
          · have z : ((k : Int) == 0) = false := by rw [beq_eq_false_iff_ne]; omega
            have hX : X = false := by rw [HX.out]; simp; omega
            have hN := HXF.out hX; subst hN; clear HX HXT HXF hX; have g0 : (96 < (R : Int)) := by omega
            have g1 : ¬ ((R : Int) < 123) := by omega
            have g2 : (64 < (R : Int)) := by omega
            have g3 : ¬ ((R : Int) < 91) := by omega
            have g4 : ¬ (127 < (R : Int)) := by omega
            have g5 : (47 < (R : Int)) := by omega
            have g6 : ¬ ((R : Int) < 58) := by omega
            have e0 : ((R : Int) == 95) = false := by rw [beq_eq_false_iff_ne]; omega
            have e1 : ((R : Int) == 45) = false := by rw [beq_eq_false_iff_ne]; omega
            have e2 : ((R : Int) == 46) = false := by rw [beq_eq_false_iff_ne]; omega
            go_wp2; refine bodyPost_ret (v := .bool false) (by simp [results, Tryz.results47, go_sem]) rfl ⟨rfl, hb⟩
        have hX : X = true := by rw [HX.out]; simp; omega
        have HP2 := Lib.hid (HXT.out hX); clear HX HXT HXF hX; have g0 : (96 < (R : Int)) := by omega
        have g1 : ¬ ((R : Int) < 123) := by omega
        have g2 : (64 < (R : Int)) := by omega
        have g3 : ¬ ((R : Int) < 91) := by omega
        have g4 : (127 < (R : Int)) := by omega
        have g5 : (47 < (R : Int)) := by omega
        have g6 : ¬ ((R : Int) < 58) := by omega
        have e0 : ((R : Int) == 95) = false := by rw [beq_eq_false_iff_ne]; omega
        have e1 : ((R : Int) == 45) = false := by rw [beq_eq_false_iff_ne]; omega
        have e2 : ((R : Int) == 46) = false := by rw [beq_eq_false_iff_ne]; omega
        go_wp2; go_roundw
        case rel => exact ⟨k + 1, val_int (by omega), by omega, HP2, hr, hb⟩
        case measure => simp [intOf]; omega
      · have hki : ¬ (k : Int) < (L2.length : Int) := by omega
        have hn : N = true := by
          rw [HN.out]; have := HP.out
          rwa [List.take_of_length_le (by omega)] at this
        subst hn; clear HN HP; go_wp2; go_ret; exact ⟨rfl, hb⟩
end Go.Proofs.YtjggoajfilnfjaaGreat
namespace Go
theorem right_empty : rightF ⟨#[]⟩ = true := rfl
end Go
namespace Go.Proofs.YtjggoajfilnfjaaGreat
open Go.RowKit

set_option maxHeartbeats 6400000 in
theorem rvchk_any (k n : Int) (t : ByteArray) (ht : t.size ≤ 100000) (w : World) :
  Calls Tryz.prog 48 #[.agg #[.int .i64 k, .string t, .int .i64 n]] w fun e w' => e = .returned (.int .i64 (vcF k t n)) ∧ Below w.heap.size w w' := by
 have HV := Lib.hid (vcF.eq_1 k t n); have HRI : ∀ W, Calls Tryz.prog 46 #[.string t] W fun e w' => ∃ vo va, e = .returned (.tuple #[vo, va, .bool (rightF t)]) ∧ Below W.heap.size W w' := fun W => (rrunes_any t ht W).mono (fun e w' ⟨vo, va, h1, h2, h3, h4⟩ => ⟨vo, va, h1, h4⟩); replace HRI := Lib.hid HRI; have HTE : Hid (t.size = 0 → t = ⟨#[]⟩ ∧ rightF t = true) := Lib.hid (fun h => by
  have : t = ⟨#[]⟩ := by
   apply ByteArray.ext; exact Array.eq_empty_of_size_eq_zero h
  subst this; exact ⟨rfl, right_empty⟩)
 have HTN : Hid (t.size ≠ 0 → t.toList.isEmpty = false) := Lib.hid (fun h => by rw [empty_txt]; simp [h]); generalize vcF k t n = V at *; obtain ⟨RT, hRT⟩ : ∃ b, rightF t = b := ⟨_, rfl⟩; rw [hRT] at HV HRI HTE; clear hRT; have k1 := Blk.lit w w.heap.size [.int .i64 k, .string t, .int .i64 n] 110 rfl; have hb0 := Below.new w (.cells #[.int .i64 k, .string t, .int .i64 n] 110); obtain ⟨B, hB⟩ : ∃ B, w.heap.size = B := ⟨_, rfl⟩; have HBE := Lib.hid hB; rw [hB] at k1; have x0 := k1.cell 0 rfl; have x1 := k1.cell 1 rfl; have x2 := k1.cell 2 rfl; have hs0 := hb0.size
 go_enter Tryz.func48, Tryz.ntmps48
 by_cases hk0 : k < 1
 ·have hq := HV.out; rw [if_neg (by omega), if_neg (by omega), if_neg (by omega), if_neg (by omega)] at hq; have hV := Lib.hid hq; clear HV hq; go_wp2; go_ret; exact ⟨ret_int hV.out.symm, by first | exact hb0 | (rw [HBE.out]; exact hb0) | (rw [← HBE.out]; exact hb0)⟩
 ·by_cases hk4 : 4 < k
  ·have hq := HV.out; rw [if_neg (by omega), if_neg (by omega), if_neg (by omega), if_neg (by omega)] at hq; have hV := Lib.hid hq; clear HV hq; go_wp2; go_ret; exact ⟨ret_int hV.out.symm, by first | exact hb0 | (rw [HBE.out]; exact hb0) | (rw [← HBE.out]; exact hb0)⟩
  ·have hk : k = 1 ∨ k = 2 ∨ k = 3 ∨ k = 4 := by omega
   clear hk0 hk4
   rcases hk with rfl | rfl | rfl | rfl
   ·have hq := HV.out; rw [if_pos rfl] at hq; have hV := Lib.hid hq; clear HV hq
    by_cases hn : n = 0
    ·subst hn
     go_wp2_with fail
     refine (HRI.out _).mono ?_; rintro e w1 ⟨vo, va, rfl, hb1⟩; have k2 := k1.keep hb1; have hbw := hb0.trans (hb1.mono hs0); clear x0 x1 x2 hb1; have x0 := k2.cell 0 rfl; have x1 := k2.cell 1 rfl; have x2 := k2.cell 2 rfl
     cases RT with
     | false =>
      go_wp2; go_ret; exact ⟨ret_int (by rw [hV.out]; simp), by first | exact hbw | (rw [HBE.out]; exact hbw) | (rw [← HBE.out]; exact hbw)⟩
     | true =>
      by_cases hl : 64 < t.size
      ·have hl' : (64 : Int) < (t.size : Int) := by omega
       go_wp2; go_ret; exact ⟨ret_int (by rw [hV.out]; simp [hl]), by first | exact hbw | (rw [HBE.out]; exact hbw) | (rw [← HBE.out]; exact hbw)⟩
      ·have hl' : ¬ (64 : Int) < (t.size : Int) := by omega
       go_wp2; go_ret; exact ⟨ret_int (by rw [hV.out]; simp [hl]), by first | exact hbw | (rw [HBE.out]; exact hbw) | (rw [← HBE.out]; exact hbw)⟩
    ·have hn' : (n == 0) = false := by simpa using hn
     go_wp2; go_ret; exact ⟨ret_int (by rw [hV.out, if_pos hn]), by first | exact hb0 | (rw [HBE.out]; exact hb0) | (rw [← HBE.out]; exact hb0)⟩
   ·have hq := HV.out; rw [if_neg (by omega), if_neg (by omega), if_pos rfl] at hq; have hV := Lib.hid hq; clear HV hq
    by_cases hz : t.size = 0
    ·have hq := hV.out; rw [if_neg (by omega)] at hq; replace hV := Lib.hid hq; clear hq; obtain ⟨rfl, hR⟩ := HTE.out hz; subst hR; clear HTE HTN hz
     go_wp2_with fail
     refine (HRI.out _).mono ?_; rintro e w1 ⟨vo, va, rfl, hb1⟩; have k2 := k1.keep hb1; have hbw := hb0.trans (hb1.mono hs0); clear x0 x1 x2 hb1; have x0 := k2.cell 0 rfl; have x1 := k2.cell 1 rfl; have x2 := k2.cell 2 rfl
     by_cases ha : n < 0
     ·by_cases ha2 : n < -1152921504606846976
      ·have ha3 : ¬ 1152921504606846976 < n := by omega
       go_wp2; go_ret; exact ⟨ret_int (by rw [hV.out]; simp [ha]), by first | exact hbw | (rw [HBE.out]; exact hbw) | (rw [← HBE.out]; exact hbw)⟩
      ·have ha3 : ¬ 1152921504606846976 < n := by omega
       have ha4 : n < 0 := by omega
       go_wp2; go_ret; exact ⟨ret_int (by rw [hV.out]; simp [ha]), by first | exact hbw | (rw [HBE.out]; exact hbw) | (rw [← HBE.out]; exact hbw)⟩
     ·by_cases hc : 1152921504606846976 < n
      ·by_cases hc2 : 1152921504606846976 < n
       ·go_wp2; go_ret; exact ⟨ret_int (by rw [hV.out]; simp [hc]), by first | exact hbw | (rw [HBE.out]; exact hbw) | (rw [← HBE.out]; exact hbw)⟩
       ·exfalso; omega
      ·have hc2 : ¬ 1152921504606846976 < n := by omega
       have hc3 : ¬ n < -1152921504606846976 := by omega
       have hq : ¬ (n < 0 ∨ 1152921504606846976 < n) := by omega
       have HQ : Hid (V = 0) := Lib.hid (by rw [hV.out, if_neg hq]); clear hV hq; have hc4 : ¬ n < 0 := by omega
       by_cases hc5 : 1 < n
       ·go_wp2; go_ret; exact ⟨ret_int HQ.out.symm, by first | exact hbw | (rw [HBE.out]; exact hbw) | (rw [← HBE.out]; exact hbw)⟩
       ·go_wp2; go_ret; exact ⟨ret_int HQ.out.symm, by first | exact hbw | (rw [HBE.out]; exact hbw) | (rw [← HBE.out]; exact hbw)⟩
    ·have HQ : Hid (V = 3) := Lib.hid (by rw [hV.out, if_pos hz]); have hte := HTN.out hz; go_wp2; go_ret; exact ⟨ret_int HQ.out.symm, by first | exact hb0 | (rw [HBE.out]; exact hb0) | (rw [← HBE.out]; exact hb0)⟩
   ·have hq := HV.out; rw [if_neg (by omega), if_pos rfl] at hq; have hV := Lib.hid hq; clear HV hq
    by_cases hz : t.size = 0
    ·have hq := hV.out; rw [if_neg (by omega)] at hq; replace hV := Lib.hid hq; clear hq; obtain ⟨rfl, hR⟩ := HTE.out hz; subst hR; clear HTE HTN hz
     go_wp2_with fail
     refine (HRI.out _).mono ?_; rintro e w1 ⟨vo, va, rfl, hb1⟩; have k2 := k1.keep hb1; have hbw := hb0.trans (hb1.mono hs0); clear x0 x1 x2 hb1; have x0 := k2.cell 0 rfl; have x1 := k2.cell 1 rfl; have x2 := k2.cell 2 rfl
     by_cases ha : n < -1152921504606846976
     ·by_cases ha2 : n < -1152921504606846976
      ·have ha3 : ¬ 1152921504606846976 < n := by omega
       go_wp2; go_ret; exact ⟨ret_int (by rw [hV.out]; simp [ha]), by first | exact hbw | (rw [HBE.out]; exact hbw) | (rw [← HBE.out]; exact hbw)⟩
      ·exfalso; omega
     ·by_cases hc : 1152921504606846976 < n
      ·by_cases hc2 : 1152921504606846976 < n
       ·go_wp2; go_ret; exact ⟨ret_int (by rw [hV.out]; simp [hc]), by first | exact hbw | (rw [HBE.out]; exact hbw) | (rw [← HBE.out]; exact hbw)⟩
       ·exfalso; omega
      ·have hc2 : ¬ 1152921504606846976 < n := by omega
       have hc3 : ¬ n < -1152921504606846976 := by omega
       have hq : ¬ (n < -1152921504606846976 ∨ 1152921504606846976 < n) := by omega
       have HQ : Hid (V = 0) := Lib.hid (by rw [hV.out, if_neg hq]); clear hV hq
       by_cases hc4 : n < 0
       ·have hc5 : ¬ 1 < n := by omega
        go_wp2; go_ret; exact ⟨ret_int HQ.out.symm, by first | exact hbw | (rw [HBE.out]; exact hbw) | (rw [← HBE.out]; exact hbw)⟩
       ·by_cases hc5 : 1 < n
        ·go_wp2; go_ret; exact ⟨ret_int HQ.out.symm, by first | exact hbw | (rw [HBE.out]; exact hbw) | (rw [← HBE.out]; exact hbw)⟩
        ·go_wp2; go_ret; exact ⟨ret_int HQ.out.symm, by first | exact hbw | (rw [HBE.out]; exact hbw) | (rw [← HBE.out]; exact hbw)⟩
    ·have HQ : Hid (V = 3) := Lib.hid (by rw [hV.out, if_pos hz]); have hte := HTN.out hz; go_wp2; go_ret; exact ⟨ret_int HQ.out.symm, by first | exact hb0 | (rw [HBE.out]; exact hb0) | (rw [← HBE.out]; exact hb0)⟩
   ·have hq := HV.out; rw [if_neg (by omega), if_neg (by omega), if_neg (by omega), if_pos rfl] at hq; have hV := Lib.hid hq; clear HV hq
    by_cases hz : t.size = 0
    ·have hq := hV.out; rw [if_neg (by omega)] at hq; replace hV := Lib.hid hq; clear hq; obtain ⟨rfl, hR⟩ := HTE.out hz; subst hR; clear HTE HTN hz
     go_wp2_with fail
     refine (HRI.out _).mono ?_; rintro e w1 ⟨vo, va, rfl, hb1⟩; have k2 := k1.keep hb1; have hbw := hb0.trans (hb1.mono hs0); clear x0 x1 x2 hb1; have x0 := k2.cell 0 rfl; have x1 := k2.cell 1 rfl; have x2 := k2.cell 2 rfl
     by_cases ha : n < 0
     ·by_cases ha2 : n < -1152921504606846976
      ·have ha3 : ¬ 1152921504606846976 < n := by omega
       go_wp2; go_ret; exact ⟨ret_int (by rw [hV.out]; simp [ha]), by first | exact hbw | (rw [HBE.out]; exact hbw) | (rw [← HBE.out]; exact hbw)⟩
      ·have ha3 : ¬ 1152921504606846976 < n := by omega
       have ha4 : n < 0 := by omega
       go_wp2; go_ret; exact ⟨ret_int (by rw [hV.out]; simp [ha]), by first | exact hbw | (rw [HBE.out]; exact hbw) | (rw [← HBE.out]; exact hbw)⟩
     ·by_cases hc : 1 < n
      ·by_cases hc2 : 1152921504606846976 < n
       ·go_wp2; go_ret; exact ⟨ret_int (by rw [hV.out]; simp [hc]), by first | exact hbw | (rw [HBE.out]; exact hbw) | (rw [← HBE.out]; exact hbw)⟩
       ·have hc3 : ¬ n < -1152921504606846976 := by omega
        have hc4 : ¬ n < 0 := by omega
        have hc5 : 1 < n := by omega
        go_wp2; go_ret; exact ⟨ret_int (by rw [hV.out]; simp [hc]), by first | exact hbw | (rw [HBE.out]; exact hbw) | (rw [← HBE.out]; exact hbw)⟩
      ·have hc2 : ¬ 1152921504606846976 < n := by omega
       have hc3 : ¬ n < -1152921504606846976 := by omega
       have hq : ¬ (n < 0 ∨ 1 < n) := by omega
       have HQ : Hid (V = 0) := Lib.hid (by rw [hV.out, if_neg hq]); clear hV hq; have hc4 : ¬ n < 0 := by omega
       have hc5 : ¬ 1 < n := by omega
       go_wp2; go_ret; exact ⟨ret_int HQ.out.symm, by first | exact hbw | (rw [HBE.out]; exact hbw) | (rw [← HBE.out]; exact hbw)⟩
    ·have HQ : Hid (V = 3) := Lib.hid (by rw [hV.out, if_pos hz]); have hte := HTN.out hz; go_wp2; go_ret; exact ⟨ret_int HQ.out.symm, by first | exact hb0 | (rw [HBE.out]; exact hb0) | (rw [← HBE.out]; exact hb0)⟩
end Go.Proofs.YtjggoajfilnfjaaGreat
