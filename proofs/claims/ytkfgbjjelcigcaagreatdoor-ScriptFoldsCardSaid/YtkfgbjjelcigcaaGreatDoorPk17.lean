/-
  graticuleref09.Name. graticuleref30.Word, fits, Check.
-/
import Derived.Test.YtkfgbjjelcigcaaGreatDoorPk16
import Derived.Test.YtkfgbjjelcigcaaGreatDoorPk3
import Derived.Test.YtkfgbjjelcigcaaGreatDoorPk10
/- graticuleref09.Name. -/
set_option linter.unusedVariables false
set_option linter.unusedSimpArgs false
set_option maxRecDepth 100000
namespace Go
open Go.RowKit
theorem rl_pos (s : ByteArray) : ∀ (f p : Nat) (x : Nat × Nat), x ∈ rl s f p → p ≤ x.2 := by
  intro f
  induction f with
  | zero => intro p x h; simp [rl] at h
  | succ f ih =>
    intro p x h
    by_cases hp : p < s.size
    · rw [rl_step s f p hp, List.mem_cons] at h
      rcases h with rfl | h
      · exact Nat.le_refl _
      · have := ih _ x h; omega
    · rw [rl_end s _ p hp] at h; simp at h
theorem runes_zero (s : ByteArray) (k : Nat) (x : Nat × Nat) (h : (runesF s)[k]? = some x) : x.2 = 0 ↔ k = 0 := by
  unfold runesF at h
  cases hs : s.size with
  | zero => rw [hs] at h; simp [rl] at h
  | succ f =>
    rw [hs, rl_step s f 0 (by omega)] at h
    cases k with
    | zero => simp at h; rw [← h]
    | succ k =>
      rw [List.getElem?_cons_succ] at h; have h1 := rl_pos s f _ x (List.mem_of_getElem? h); have h2 := decode_wid (s := s) (i := 0) (by omega); omega
theorem runes_bd (s : ByteArray) : ∀ (f p : Nat) (x : Nat × Nat), x ∈ rl s f p → x.1 ≤ 1114111 := by
  intro f
  induction f with
  | zero => intro p x h; simp [rl] at h
  | succ f ih =>
    intro p x h
    by_cases hp : p < s.size
    · rw [rl_step s f p hp, List.mem_cons] at h
      rcases h with rfl | h
      · exact (decode_wid hp).2.2.2
      · exact ih _ x h
    · rw [rl_end s _ p hp] at h; simp at h
theorem nameAt_eq (R p k : Nat) (h : p = 0 ↔ k = 0) : nameAt (R, p) = decide ((97 ≤ R ∧ R ≤ 122 ∨ 65 ≤ R ∧ R ≤ 90 ∨ R = 95 ∨ 128 ≤ R) ∨ (k ≠ 0 ∧ (R = 45 ∨ R = 46 ∨ 48 ≤ R ∧ R ≤ 57))) := by
  unfold nameAt letterF otherF; rw [Bool.eq_iff_iff]; simp only [Bool.or_eq_true, Bool.and_eq_true, decide_eq_true_eq, ne_eq, h]
end Go
namespace Go.Proofs.YtkfgbjjelcigcaaGreatDoor
open Go.RowKit

set_option maxHeartbeats 12800000 in
theorem rname_any (s : ByteArray) (hs : s.size ≤ 100000) (w : World) :
    Calls Tryz.prog 31 #[.string s] w fun e w' => e = .returned (.bool (nameF s)) ∧ Below w.heap.size w w' := by
  have hR := Lib.hid (rrunes_any s hs); have hN : Hid (nameF s = (rightF s && decide (1 ≤ (runesF s).length ∧ (runesF s).length ≤ 32) && (runesF s).all nameAt)) := Lib.hid rfl; have hL : Hid (runesT s = if rightF s then runesF s else []) := Lib.hid rfl; have hZ := Lib.hid (runes_zero s); have hBD := Lib.hid (fun x h => runes_bd s s.size 0 x h); have hZ2 : Hid (∀ x, x ∈ runesF s → x.1 ≤ 1114111) := hBD; clear hBD; generalize runesF s = L at *; generalize nameF s = N at *; generalize runesT s = L2 at *; obtain ⟨T, hT⟩ : ∃ T, rightF s = T := ⟨_, rfl⟩; rw [hT] at hR hN hL; clear hT
  go_enter Tryz.func31, Tryz.ntmps31
  go_wp2_with fail
  refine (hR.out _).mono ?_; rintro e w1 ⟨vo, va, rfl, ho, -, hb⟩; obtain ⟨a, c, rfl, hc1, hc2, -, hr, -⟩ := ho.form; clear ho hR
  cases T with
  | false =>
    have hn : N = false := by rw [hN.out]; rfl
    subst hn; clear hN hL; go_wp2; go_ret; exact ⟨rfl, hb⟩
  | true =>
    have hl := hL.out; rw [if_pos rfl] at hl; subst hl; clear hL
    by_cases h1 : L2.length < 1
    · have hn : N = false := by rw [hN.out]; have : ¬ 1 ≤ L2.length := by omega
                                simp [this]
      subst hn; have h1i : (L2.length : Int) < 1 := by omega
      clear hN; go_wp2; go_ret; exact ⟨rfl, hb⟩
    have h1i : ¬ (L2.length : Int) < 1 := by omega
    by_cases h2 : 32 < L2.length
    · have hn : N = false := by rw [hN.out]; have : ¬ L2.length ≤ 32 := by omega
                                simp [this]
      subst hn; have h2i : 32 < (L2.length : Int) := by omega
      clear hN; go_wp2; go_ret; exact ⟨rfl, hb⟩
    have h2i : ¬ 32 < (L2.length : Int) := by omega
    have HN : Hid (N = L2.all nameAt) := Lib.hid (by
      rw [hN.out]; have : 1 ≤ L2.length ∧ L2.length ≤ 32 := by omega
      simp [this])
    clear hN; go_wp2
    go_loopw [6] (fun i wr => ∃ k : Nat, i = .int .i64 (k : Int) ∧ k ≤ L2.length ∧ Hid ((L2.take k).all nameAt = true) ∧ Rd wr a (rns L2) ∧ Below w.heap.size w wr) (fun i _ => L2.length - (intOf i).toNat)
    case atStart => exact ⟨0, rfl, by omega, Lib.hid rfl, hr, hb⟩
    case round =>
      clear hr hb; obtain ⟨k, rfl, hk, HP, hr, hb⟩ := hrel
      by_cases hkl : k < L2.length
      · have hki : (k : Int) < (L2.length : Int) := by omega
        obtain ⟨x, hx⟩ : ∃ x, L2[k]? = some x := ⟨_, List.getElem?_eq_getElem hkl⟩; obtain ⟨b, off, rfl, hcell, -⟩ := hr.at (i := k) (v := .int .i64 (x.1 : Int)) (by simp [rns, hx]); have hz := hZ.out k x hx; have hbd := hZ2.out x (List.mem_of_getElem? hx); have HXF : Hid (nameAt x = false → N = false) := Lib.hid (fun h => by
          rw [HN.out, List.all_eq_false]; exact ⟨x, List.mem_of_getElem? hx, by simp [h]⟩)
        have HXT : Hid (nameAt x = true → (L2.take (k + 1)).all nameAt = true) := Lib.hid (fun h => by
          rw [List.take_add_one, List.all_append, HP.out, hx]; simp [h])
        obtain ⟨R, p⟩ := x; have HX := Lib.hid (nameAt_eq R p k hz); generalize nameAt (R, p) = X at *; dsimp only at hcell hbd; clear hx hz
        by_cases r0 : R ≤ 44
        · by_cases hk0 : k = 0
          · have hX : X = false := by rw [HX.out]; simp; omega
            have hN := HXF.out hX; subst hN; subst hk0; have hcell : wr.cell? ⟨b, off, none⟩ = some (.int .i64 (R : Int)) := hcell; clear HX HXT HXF hX; have g0 : ¬ (96 < (R : Int)) := by omega
            have g1 : ((R : Int) < 123) := by omega
            have g2 : ¬ (64 < (R : Int)) := by omega
            have g3 : ((R : Int) < 91) := by omega
            have g4 : ¬ (127 < (R : Int)) := by omega
            have g5 : ¬ (47 < (R : Int)) := by omega
            have g6 : ((R : Int) < 58) := by omega
            have e0 : ((R : Int) == 95) = false := by rw [beq_eq_false_iff_ne]; omega
            have e1 : ((R : Int) == 45) = false := by rw [beq_eq_false_iff_ne]; omega
            have e2 : ((R : Int) == 46) = false := by rw [beq_eq_false_iff_ne]; omega
            go_wp2; refine bodyPost_ret (v := .bool false) (by simp [results, Tryz.results31, go_sem]) rfl ⟨rfl, hb⟩
          · have z : ((k : Int) == 0) = false := by rw [beq_eq_false_iff_ne]; omega
            have hX : X = false := by rw [HX.out]; simp; omega
            have hN := HXF.out hX; subst hN; clear HX HXT HXF hX; have g0 : ¬ (96 < (R : Int)) := by omega
            have g1 : ((R : Int) < 123) := by omega
            have g2 : ¬ (64 < (R : Int)) := by omega
            have g3 : ((R : Int) < 91) := by omega
            have g4 : ¬ (127 < (R : Int)) := by omega
            have g5 : ¬ (47 < (R : Int)) := by omega
            have g6 : ((R : Int) < 58) := by omega
            have e0 : ((R : Int) == 95) = false := by rw [beq_eq_false_iff_ne]; omega
            have e1 : ((R : Int) == 45) = false := by rw [beq_eq_false_iff_ne]; omega
            have e2 : ((R : Int) == 46) = false := by rw [beq_eq_false_iff_ne]; omega
            go_wp2; refine bodyPost_ret (v := .bool false) (by simp [results, Tryz.results31, go_sem]) rfl ⟨rfl, hb⟩
        by_cases r1 : R ≤ 45
        · by_cases hk0 : k = 0
          · have hX : X = false := by rw [HX.out]; simp; omega
            have hN := HXF.out hX; subst hN; subst hk0; have hcell : wr.cell? ⟨b, off, none⟩ = some (.int .i64 (R : Int)) := hcell; clear HX HXT HXF hX; have g0 : ¬ (96 < (R : Int)) := by omega
            have g1 : ((R : Int) < 123) := by omega
            have g2 : ¬ (64 < (R : Int)) := by omega
            have g3 : ((R : Int) < 91) := by omega
            have g4 : ¬ (127 < (R : Int)) := by omega
            have g5 : ¬ (47 < (R : Int)) := by omega
            have g6 : ((R : Int) < 58) := by omega
            have e0 : ((R : Int) == 95) = false := by rw [beq_eq_false_iff_ne]; omega
            have e1 : ((R : Int) == 45) = true := by rw [beq_iff_eq]; omega
            have e2 : ((R : Int) == 46) = false := by rw [beq_eq_false_iff_ne]; omega
            go_wp2; refine bodyPost_ret (v := .bool false) (by simp [results, Tryz.results31, go_sem]) rfl ⟨rfl, hb⟩
          · have z : ((k : Int) == 0) = false := by rw [beq_eq_false_iff_ne]; omega
            have hX : X = true := by rw [HX.out]; simp; omega
            have HP2 := Lib.hid (HXT.out hX); clear HX HXT HXF hX; have g0 : ¬ (96 < (R : Int)) := by omega
            have g1 : ((R : Int) < 123) := by omega
            have g2 : ¬ (64 < (R : Int)) := by omega
            have g3 : ((R : Int) < 91) := by omega
            have g4 : ¬ (127 < (R : Int)) := by omega
            have g5 : ¬ (47 < (R : Int)) := by omega
            have g6 : ((R : Int) < 58) := by omega
            have e0 : ((R : Int) == 95) = false := by rw [beq_eq_false_iff_ne]; omega
            have e1 : ((R : Int) == 45) = true := by rw [beq_iff_eq]; omega
            have e2 : ((R : Int) == 46) = false := by rw [beq_eq_false_iff_ne]; omega
            go_wp2; go_roundw
            case rel => exact ⟨k + 1, val_int (by omega), by omega, HP2, hr, hb⟩
            case measure => simp [intOf]; omega
        by_cases r2 : R ≤ 46
        · by_cases hk0 : k = 0
          · have hX : X = false := by rw [HX.out]; simp; omega
            have hN := HXF.out hX; subst hN; subst hk0; have hcell : wr.cell? ⟨b, off, none⟩ = some (.int .i64 (R : Int)) := hcell; clear HX HXT HXF hX; have g0 : ¬ (96 < (R : Int)) := by omega
            have g1 : ((R : Int) < 123) := by omega
            have g2 : ¬ (64 < (R : Int)) := by omega
            have g3 : ((R : Int) < 91) := by omega
            have g4 : ¬ (127 < (R : Int)) := by omega
            have g5 : ¬ (47 < (R : Int)) := by omega
            have g6 : ((R : Int) < 58) := by omega
            have e0 : ((R : Int) == 95) = false := by rw [beq_eq_false_iff_ne]; omega
            have e1 : ((R : Int) == 45) = false := by rw [beq_eq_false_iff_ne]; omega
            have e2 : ((R : Int) == 46) = true := by rw [beq_iff_eq]; omega
            go_wp2; refine bodyPost_ret (v := .bool false) (by simp [results, Tryz.results31, go_sem]) rfl ⟨rfl, hb⟩
          · have z : ((k : Int) == 0) = false := by rw [beq_eq_false_iff_ne]; omega
            have hX : X = true := by rw [HX.out]; simp; omega
            have HP2 := Lib.hid (HXT.out hX); clear HX HXT HXF hX; have g0 : ¬ (96 < (R : Int)) := by omega
            have g1 : ((R : Int) < 123) := by omega
            have g2 : ¬ (64 < (R : Int)) := by omega
            have g3 : ((R : Int) < 91) := by omega
            have g4 : ¬ (127 < (R : Int)) := by omega
            have g5 : ¬ (47 < (R : Int)) := by omega
            have g6 : ((R : Int) < 58) := by omega
            have e0 : ((R : Int) == 95) = false := by rw [beq_eq_false_iff_ne]; omega
            have e1 : ((R : Int) == 45) = false := by rw [beq_eq_false_iff_ne]; omega
            have e2 : ((R : Int) == 46) = true := by rw [beq_iff_eq]; omega
            go_wp2; go_roundw
            case rel => exact ⟨k + 1, val_int (by omega), by omega, HP2, hr, hb⟩
            case measure => simp [intOf]; omega
        by_cases r3 : R ≤ 47
        · by_cases hk0 : k = 0
          · have hX : X = false := by rw [HX.out]; simp; omega
            have hN := HXF.out hX; subst hN; subst hk0; have hcell : wr.cell? ⟨b, off, none⟩ = some (.int .i64 (R : Int)) := hcell; clear HX HXT HXF hX; have g0 : ¬ (96 < (R : Int)) := by omega
            have g1 : ((R : Int) < 123) := by omega
            have g2 : ¬ (64 < (R : Int)) := by omega
            have g3 : ((R : Int) < 91) := by omega
            have g4 : ¬ (127 < (R : Int)) := by omega
            have g5 : ¬ (47 < (R : Int)) := by omega
            have g6 : ((R : Int) < 58) := by omega
            have e0 : ((R : Int) == 95) = false := by rw [beq_eq_false_iff_ne]; omega
            have e1 : ((R : Int) == 45) = false := by rw [beq_eq_false_iff_ne]; omega
            have e2 : ((R : Int) == 46) = false := by rw [beq_eq_false_iff_ne]; omega
            go_wp2; refine bodyPost_ret (v := .bool false) (by simp [results, Tryz.results31, go_sem]) rfl ⟨rfl, hb⟩
          · have z : ((k : Int) == 0) = false := by rw [beq_eq_false_iff_ne]; omega
            have hX : X = false := by rw [HX.out]; simp; omega
            have hN := HXF.out hX; subst hN; clear HX HXT HXF hX; have g0 : ¬ (96 < (R : Int)) := by omega
            have g1 : ((R : Int) < 123) := by omega
            have g2 : ¬ (64 < (R : Int)) := by omega
            have g3 : ((R : Int) < 91) := by omega
            have g4 : ¬ (127 < (R : Int)) := by omega
            have g5 : ¬ (47 < (R : Int)) := by omega
            have g6 : ((R : Int) < 58) := by omega
            have e0 : ((R : Int) == 95) = false := by rw [beq_eq_false_iff_ne]; omega
            have e1 : ((R : Int) == 45) = false := by rw [beq_eq_false_iff_ne]; omega
            have e2 : ((R : Int) == 46) = false := by rw [beq_eq_false_iff_ne]; omega
            go_wp2; refine bodyPost_ret (v := .bool false) (by simp [results, Tryz.results31, go_sem]) rfl ⟨rfl, hb⟩
        by_cases r4 : R ≤ 57
        · by_cases hk0 : k = 0
          · have hX : X = false := by rw [HX.out]; simp; omega
            have hN := HXF.out hX; subst hN; subst hk0; have hcell : wr.cell? ⟨b, off, none⟩ = some (.int .i64 (R : Int)) := hcell; clear HX HXT HXF hX; have g0 : ¬ (96 < (R : Int)) := by omega
            have g1 : ((R : Int) < 123) := by omega
            have g2 : ¬ (64 < (R : Int)) := by omega
            have g3 : ((R : Int) < 91) := by omega
            have g4 : ¬ (127 < (R : Int)) := by omega
            have g5 : (47 < (R : Int)) := by omega
            have g6 : ((R : Int) < 58) := by omega
            have e0 : ((R : Int) == 95) = false := by rw [beq_eq_false_iff_ne]; omega
            have e1 : ((R : Int) == 45) = false := by rw [beq_eq_false_iff_ne]; omega
            have e2 : ((R : Int) == 46) = false := by rw [beq_eq_false_iff_ne]; omega
            go_wp2; refine bodyPost_ret (v := .bool false) (by simp [results, Tryz.results31, go_sem]) rfl ⟨rfl, hb⟩
          · have z : ((k : Int) == 0) = false := by rw [beq_eq_false_iff_ne]; omega
            have hX : X = true := by rw [HX.out]; simp; omega
            have HP2 := Lib.hid (HXT.out hX); clear HX HXT HXF hX; have g0 : ¬ (96 < (R : Int)) := by omega
            have g1 : ((R : Int) < 123) := by omega
            have g2 : ¬ (64 < (R : Int)) := by omega
            have g3 : ((R : Int) < 91) := by omega
            have g4 : ¬ (127 < (R : Int)) := by omega
            have g5 : (47 < (R : Int)) := by omega
            have g6 : ((R : Int) < 58) := by omega
            have e0 : ((R : Int) == 95) = false := by rw [beq_eq_false_iff_ne]; omega
            have e1 : ((R : Int) == 45) = false := by rw [beq_eq_false_iff_ne]; omega
            have e2 : ((R : Int) == 46) = false := by rw [beq_eq_false_iff_ne]; omega
            go_wp2; go_roundw
            case rel => exact ⟨k + 1, val_int (by omega), by omega, HP2, hr, hb⟩
            case measure => simp [intOf]; omega
        by_cases r5 : R ≤ 64
        · by_cases hk0 : k = 0
          · have hX : X = false := by rw [HX.out]; simp; omega
            have hN := HXF.out hX; subst hN; subst hk0; have hcell : wr.cell? ⟨b, off, none⟩ = some (.int .i64 (R : Int)) := hcell; clear HX HXT HXF hX; have g0 : ¬ (96 < (R : Int)) := by omega
            have g1 : ((R : Int) < 123) := by omega
            have g2 : ¬ (64 < (R : Int)) := by omega
            have g3 : ((R : Int) < 91) := by omega
            have g4 : ¬ (127 < (R : Int)) := by omega
            have g5 : (47 < (R : Int)) := by omega
            have g6 : ¬ ((R : Int) < 58) := by omega
            have e0 : ((R : Int) == 95) = false := by rw [beq_eq_false_iff_ne]; omega
            have e1 : ((R : Int) == 45) = false := by rw [beq_eq_false_iff_ne]; omega
            have e2 : ((R : Int) == 46) = false := by rw [beq_eq_false_iff_ne]; omega
            go_wp2; refine bodyPost_ret (v := .bool false) (by simp [results, Tryz.results31, go_sem]) rfl ⟨rfl, hb⟩
          · have z : ((k : Int) == 0) = false := by rw [beq_eq_false_iff_ne]; omega
            have hX : X = false := by rw [HX.out]; simp; omega
            have hN := HXF.out hX; subst hN; clear HX HXT HXF hX; have g0 : ¬ (96 < (R : Int)) := by omega
            have g1 : ((R : Int) < 123) := by omega
            have g2 : ¬ (64 < (R : Int)) := by omega
            have g3 : ((R : Int) < 91) := by omega
            have g4 : ¬ (127 < (R : Int)) := by omega
            have g5 : (47 < (R : Int)) := by omega
            have g6 : ¬ ((R : Int) < 58) := by omega
            have e0 : ((R : Int) == 95) = false := by rw [beq_eq_false_iff_ne]; omega
            have e1 : ((R : Int) == 45) = false := by rw [beq_eq_false_iff_ne]; omega
            have e2 : ((R : Int) == 46) = false := by rw [beq_eq_false_iff_ne]; omega
            go_wp2; refine bodyPost_ret (v := .bool false) (by simp [results, Tryz.results31, go_sem]) rfl ⟨rfl, hb⟩
        by_cases r6 : R ≤ 90
        · have hX : X = true := by rw [HX.out]; simp; omega
          have HP2 := Lib.hid (HXT.out hX); clear HX HXT HXF hX; have g0 : ¬ (96 < (R : Int)) := by omega
          have g1 : ((R : Int) < 123) := by omega
          have g2 : (64 < (R : Int)) := by omega
          have g3 : ((R : Int) < 91) := by omega
          have g4 : ¬ (127 < (R : Int)) := by omega
          have g5 : (47 < (R : Int)) := by omega
          have g6 : ¬ ((R : Int) < 58) := by omega
          have e0 : ((R : Int) == 95) = false := by rw [beq_eq_false_iff_ne]; omega
          have e1 : ((R : Int) == 45) = false := by rw [beq_eq_false_iff_ne]; omega
          have e2 : ((R : Int) == 46) = false := by rw [beq_eq_false_iff_ne]; omega
          go_wp2; go_roundw
          case rel => exact ⟨k + 1, val_int (by omega), by omega, HP2, hr, hb⟩
          case measure => simp [intOf]; omega
        by_cases r7 : R ≤ 94
        · by_cases hk0 : k = 0
          · have hX : X = false := by rw [HX.out]; simp; omega
            have hN := HXF.out hX; subst hN; subst hk0; have hcell : wr.cell? ⟨b, off, none⟩ = some (.int .i64 (R : Int)) := hcell; clear HX HXT HXF hX; have g0 : ¬ (96 < (R : Int)) := by omega
            have g1 : ((R : Int) < 123) := by omega
            have g2 : (64 < (R : Int)) := by omega
            have g3 : ¬ ((R : Int) < 91) := by omega
            have g4 : ¬ (127 < (R : Int)) := by omega
            have g5 : (47 < (R : Int)) := by omega
            have g6 : ¬ ((R : Int) < 58) := by omega
            have e0 : ((R : Int) == 95) = false := by rw [beq_eq_false_iff_ne]; omega
            have e1 : ((R : Int) == 45) = false := by rw [beq_eq_false_iff_ne]; omega
            have e2 : ((R : Int) == 46) = false := by rw [beq_eq_false_iff_ne]; omega
            go_wp2; refine bodyPost_ret (v := .bool false) (by simp [results, Tryz.results31, go_sem]) rfl ⟨rfl, hb⟩
          · have z : ((k : Int) == 0) = false := by rw [beq_eq_false_iff_ne]; omega
            have hX : X = false := by rw [HX.out]; simp; omega
            have hN := HXF.out hX; subst hN; clear HX HXT HXF hX; have g0 : ¬ (96 < (R : Int)) := by omega
            have g1 : ((R : Int) < 123) := by omega
            have g2 : (64 < (R : Int)) := by omega
            have g3 : ¬ ((R : Int) < 91) := by omega
            have g4 : ¬ (127 < (R : Int)) := by omega
            have g5 : (47 < (R : Int)) := by omega
            have g6 : ¬ ((R : Int) < 58) := by omega
            have e0 : ((R : Int) == 95) = false := by rw [beq_eq_false_iff_ne]; omega
            have e1 : ((R : Int) == 45) = false := by rw [beq_eq_false_iff_ne]; omega
            have e2 : ((R : Int) == 46) = false := by rw [beq_eq_false_iff_ne]; omega
            go_wp2; refine bodyPost_ret (v := .bool false) (by simp [results, Tryz.results31, go_sem]) rfl ⟨rfl, hb⟩
        by_cases r8 : R ≤ 95
        · have hX : X = true := by rw [HX.out]; simp; omega
          have HP2 := Lib.hid (HXT.out hX); clear HX HXT HXF hX; have g0 : ¬ (96 < (R : Int)) := by omega
          have g1 : ((R : Int) < 123) := by omega
          have g2 : (64 < (R : Int)) := by omega
          have g3 : ¬ ((R : Int) < 91) := by omega
          have g4 : ¬ (127 < (R : Int)) := by omega
          have g5 : (47 < (R : Int)) := by omega
          have g6 : ¬ ((R : Int) < 58) := by omega
          have e0 : ((R : Int) == 95) = true := by rw [beq_iff_eq]; omega
          have e1 : ((R : Int) == 45) = false := by rw [beq_eq_false_iff_ne]; omega
          have e2 : ((R : Int) == 46) = false := by rw [beq_eq_false_iff_ne]; omega
          go_wp2; go_roundw
          case rel => exact ⟨k + 1, val_int (by omega), by omega, HP2, hr, hb⟩
          case measure => simp [intOf]; omega
        by_cases r9 : R ≤ 96
        · by_cases hk0 : k = 0
          · have hX : X = false := by rw [HX.out]; simp; omega
            have hN := HXF.out hX; subst hN; subst hk0; have hcell : wr.cell? ⟨b, off, none⟩ = some (.int .i64 (R : Int)) := hcell; clear HX HXT HXF hX; have g0 : ¬ (96 < (R : Int)) := by omega
            have g1 : ((R : Int) < 123) := by omega
            have g2 : (64 < (R : Int)) := by omega
            have g3 : ¬ ((R : Int) < 91) := by omega
            have g4 : ¬ (127 < (R : Int)) := by omega
            have g5 : (47 < (R : Int)) := by omega
            have g6 : ¬ ((R : Int) < 58) := by omega
            have e0 : ((R : Int) == 95) = false := by rw [beq_eq_false_iff_ne]; omega
            have e1 : ((R : Int) == 45) = false := by rw [beq_eq_false_iff_ne]; omega
            have e2 : ((R : Int) == 46) = false := by rw [beq_eq_false_iff_ne]; omega
            go_wp2; refine bodyPost_ret (v := .bool false) (by simp [results, Tryz.results31, go_sem]) rfl ⟨rfl, hb⟩
          · have z : ((k : Int) == 0) = false := by rw [beq_eq_false_iff_ne]; omega
            have hX : X = false := by rw [HX.out]; simp; omega
            have hN := HXF.out hX; subst hN; clear HX HXT HXF hX; have g0 : ¬ (96 < (R : Int)) := by omega
            have g1 : ((R : Int) < 123) := by omega
            have g2 : (64 < (R : Int)) := by omega
            have g3 : ¬ ((R : Int) < 91) := by omega
            have g4 : ¬ (127 < (R : Int)) := by omega
            have g5 : (47 < (R : Int)) := by omega
            have g6 : ¬ ((R : Int) < 58) := by omega
            have e0 : ((R : Int) == 95) = false := by rw [beq_eq_false_iff_ne]; omega
            have e1 : ((R : Int) == 45) = false := by rw [beq_eq_false_iff_ne]; omega
            have e2 : ((R : Int) == 46) = false := by rw [beq_eq_false_iff_ne]; omega
            go_wp2; refine bodyPost_ret (v := .bool false) (by simp [results, Tryz.results31, go_sem]) rfl ⟨rfl, hb⟩
        by_cases r10 : R ≤ 122
        · have hX : X = true := by rw [HX.out]; simp; omega
          have HP2 := Lib.hid (HXT.out hX); clear HX HXT HXF hX; have g0 : (96 < (R : Int)) := by omega
          have g1 : ((R : Int) < 123) := by omega
          have g2 : (64 < (R : Int)) := by omega
          have g3 : ¬ ((R : Int) < 91) := by omega
          have g4 : ¬ (127 < (R : Int)) := by omega
          have g5 : (47 < (R : Int)) := by omega
          have g6 : ¬ ((R : Int) < 58) := by omega
          have e0 : ((R : Int) == 95) = false := by rw [beq_eq_false_iff_ne]; omega
          have e1 : ((R : Int) == 45) = false := by rw [beq_eq_false_iff_ne]; omega
          have e2 : ((R : Int) == 46) = false := by rw [beq_eq_false_iff_ne]; omega
          go_wp2; go_roundw
          case rel => exact ⟨k + 1, val_int (by omega), by omega, HP2, hr, hb⟩
          case measure => simp [intOf]; omega
        by_cases r11 : R ≤ 127
        · by_cases hk0 : k = 0
          · have hX : X = false := by rw [HX.out]; simp; omega
            have hN := HXF.out hX; subst hN; subst hk0; have hcell : wr.cell? ⟨b, off, none⟩ = some (.int .i64 (R : Int)) := hcell; clear HX HXT HXF hX; have g0 : (96 < (R : Int)) := by omega
            have g1 : ¬ ((R : Int) < 123) := by omega
            have g2 : (64 < (R : Int)) := by omega
            have g3 : ¬ ((R : Int) < 91) := by omega
            have g4 : ¬ (127 < (R : Int)) := by omega
            have g5 : (47 < (R : Int)) := by omega
            have g6 : ¬ ((R : Int) < 58) := by omega
            have e0 : ((R : Int) == 95) = false := by rw [beq_eq_false_iff_ne]; omega
            have e1 : ((R : Int) == 45) = false := by rw [beq_eq_false_iff_ne]; omega
            have e2 : ((R : Int) == 46) = false := by rw [beq_eq_false_iff_ne]; omega
            go_wp2; refine bodyPost_ret (v := .bool false) (by simp [results, Tryz.results31, go_sem]) rfl ⟨rfl, hb⟩
          · have z : ((k : Int) == 0) = false := by rw [beq_eq_false_iff_ne]; omega
            have hX : X = false := by rw [HX.out]; simp; omega
            have hN := HXF.out hX; subst hN; clear HX HXT HXF hX; have g0 : (96 < (R : Int)) := by omega
            have g1 : ¬ ((R : Int) < 123) := by omega
            have g2 : (64 < (R : Int)) := by omega
            have g3 : ¬ ((R : Int) < 91) := by omega
            have g4 : ¬ (127 < (R : Int)) := by omega
            have g5 : (47 < (R : Int)) := by omega
            have g6 : ¬ ((R : Int) < 58) := by omega
            have e0 : ((R : Int) == 95) = false := by rw [beq_eq_false_iff_ne]; omega
            have e1 : ((R : Int) == 45) = false := by rw [beq_eq_false_iff_ne]; omega
            have e2 : ((R : Int) == 46) = false := by rw [beq_eq_false_iff_ne]; omega
            go_wp2; refine bodyPost_ret (v := .bool false) (by simp [results, Tryz.results31, go_sem]) rfl ⟨rfl, hb⟩
        have hX : X = true := by rw [HX.out]; simp; omega
        have HP2 := Lib.hid (HXT.out hX); clear HX HXT HXF hX; have g0 : (96 < (R : Int)) := by omega
        have g1 : ¬ ((R : Int) < 123) := by omega
        have g2 : (64 < (R : Int)) := by omega
        have g3 : ¬ ((R : Int) < 91) := by omega
        have g4 : (127 < (R : Int)) := by omega
        have g5 : (47 < (R : Int)) := by omega
        have g6 : ¬ ((R : Int) < 58) := by omega
        have e0 : ((R : Int) == 95) = false := by rw [beq_eq_false_iff_ne]; omega
        have e1 : ((R : Int) == 45) = false := by rw [beq_eq_false_iff_ne]; omega
        have e2 : ((R : Int) == 46) = false := by rw [beq_eq_false_iff_ne]; omega
        go_wp2; go_roundw
        case rel => exact ⟨k + 1, val_int (by omega), by omega, HP2, hr, hb⟩
        case measure => simp [intOf]; omega
      · have hki : ¬ (k : Int) < (L2.length : Int) := by omega
        have hn : N = true := by
          rw [HN.out]; have := HP.out
          rwa [List.take_of_length_le (by omega)] at this
        subst hn; clear HN HP; go_wp2; go_ret; exact ⟨rfl, hb⟩
end Go.Proofs.YtkfgbjjelcigcaaGreatDoor
/- graticuleref30.Word, fits, Check. -/
set_option linter.unusedVariables false
set_option linter.unusedSimpArgs false
set_option maxRecDepth 100000
namespace Go.Proofs.YtkfgbjjelcigcaaGreatDoor
open Go.RowKit
set_option maxHeartbeats 6400000 in
theorem rkword_any (k : Int) (w : World) :
    Calls Tryz.prog 18 #[.int .i64 k] w fun e w' => e = .returned (.string (kwS k)) ∧ Below w.heap.size w w' := by
  have HK := Lib.hid (kwS.eq_1 k)
  by_cases h1 : k < 1
  · rw [if_pos (.inl h1)] at HK; generalize kwS k = KS at *
    go_enter Tryz.func18, Tryz.ntmps18
    go_wp2; go_ret; exact ⟨by rw [HK.out]; rfl, Below.refl _ _⟩
  by_cases h2 : 11 < k
  · rw [if_pos (.inr h2)] at HK; generalize kwS k = KS at *
    go_enter Tryz.func18, Tryz.ntmps18
    go_wp2; go_ret; exact ⟨by rw [HK.out]; rfl, Below.refl _ _⟩
  have hk : k = 1 ∨ k = 2 ∨ k = 3 ∨ k = 4 ∨ k = 5 ∨ k = 6 ∨ k = 7 ∨ k = 8 ∨ k = 9 ∨ k = 10 ∨ k = 11 := by omega
  have q := Blk.new w [.string ⟨#[98, 117, 102, 102, 101, 114]⟩, .string ⟨#[116, 111, 108]⟩, .string ⟨#[122, 111, 111, 109, 115]⟩, .string ⟨#[102, 97, 99, 101]⟩, .string ⟨#[114, 105, 110, 103]⟩, .string ⟨#[97, 116, 116, 114]⟩, .string ⟨#[116, 105, 108, 101]⟩, .string ⟨#[108, 111, 99, 97, 116, 101]⟩, .string ⟨#[110, 101, 97, 114]⟩, .string ⟨#[115, 116, 97, 116, 117, 115]⟩, .string ⟨#[108, 101, 118, 101, 108]⟩] 9; have hb := Below.new w (.cells #[.string ⟨#[98, 117, 102, 102, 101, 114]⟩, .string ⟨#[116, 111, 108]⟩, .string ⟨#[122, 111, 111, 109, 115]⟩, .string ⟨#[102, 97, 99, 101]⟩, .string ⟨#[114, 105, 110, 103]⟩, .string ⟨#[97, 116, 116, 114]⟩, .string ⟨#[116, 105, 108, 101]⟩, .string ⟨#[108, 111, 99, 97, 116, 101]⟩, .string ⟨#[110, 101, 97, 114]⟩, .string ⟨#[115, 116, 97, 116, 117, 115]⟩, .string ⟨#[108, 101, 118, 101, 108]⟩] 9); clear HK h1 h2
  rcases hk with rfl | rfl | rfl | rfl | rfl | rfl | rfl | rfl | rfl | rfl | rfl
  all_goals
    have q0 := q.cell 0 rfl; have q1 := q.cell 1 rfl; have q2 := q.cell 2 rfl; have q3 := q.cell 3 rfl; have q4 := q.cell 4 rfl; have q5 := q.cell 5 rfl; have q6 := q.cell 6 rfl; have q7 := q.cell 7 rfl; have q8 := q.cell 8 rfl; have q9 := q.cell 9 rfl; have q10 := q.cell 10 rfl
    go_enter Tryz.func18, Tryz.ntmps18
    go_wp2; go_ret; exact ⟨rfl, hb⟩
set_option maxHeartbeats 6400000 in
theorem rkfits_any (k : Int) (hk : 1 ≤ k ∧ k ≤ 11) (n : Nat) (hn : n ≤ 1000000000) (w : World) :
    Calls Tryz.prog 30 #[.int .i64 k, .int .i64 n] w fun e w' => e = .returned (.bool (fitsF k n)) ∧ Below w.heap.size w w' := by
  have hk : k = 1 ∨ k = 2 ∨ k = 3 ∨ k = 4 ∨ k = 5 ∨ k = 6 ∨ k = 7 ∨ k = 8 ∨ k = 9 ∨ k = 10 ∨ k = 11 := by omega
  have q := (Blk.new w [.int .i64 1, .int .i64 1, .int .i64 0, .int .i64 0, .int .i64 0, .int .i64 0, .int .i64 3, .int .i64 4, .int .i64 2, .int .i64 1, .int .i64 1] 3).alloc (.cells #[.int .i64 1, .int .i64 1, .int .i64 16, .int .i64 0, .int .i64 600, .int .i64 0, .int .i64 3, .int .i64 4, .int .i64 2, .int .i64 1, .int .i64 1] 3); have r := Blk.lit (w.alloc (.cells #[.int .i64 1, .int .i64 1, .int .i64 0, .int .i64 0, .int .i64 0, .int .i64 0, .int .i64 3, .int .i64 4, .int .i64 2, .int .i64 1, .int .i64 1] 3)) (w.heap.size + 1) [.int .i64 1, .int .i64 1, .int .i64 16, .int .i64 0, .int .i64 600, .int .i64 0, .int .i64 3, .int .i64 4, .int .i64 2, .int .i64 1, .int .i64 1] 3 (by simp); have hb := (Below.new w (.cells #[.int .i64 1, .int .i64 1, .int .i64 0, .int .i64 0, .int .i64 0, .int .i64 0, .int .i64 3, .int .i64 4, .int .i64 2, .int .i64 1, .int .i64 1] 3)).alloc (by simp) (.cells #[.int .i64 1, .int .i64 1, .int .i64 16, .int .i64 0, .int .i64 600, .int .i64 0, .int .i64 3, .int .i64 4, .int .i64 2, .int .i64 1, .int .i64 1] 3); have HF := Lib.hid (fitsF.eq_1 k n); generalize fitsF k n = FF at *
  rcases hk with rfl | rfl | rfl | rfl | rfl | rfl | rfl | rfl | rfl | rfl | rfl
  all_goals
    have a0 := q.cell 0 rfl; have a1 := q.cell 1 rfl; have a2 := q.cell 2 rfl; have a3 := q.cell 3 rfl; have a4 := q.cell 4 rfl; have a5 := q.cell 5 rfl; have a6 := q.cell 6 rfl; have a7 := q.cell 7 rfl; have a8 := q.cell 8 rfl; have a9 := q.cell 9 rfl; have a10 := q.cell 10 rfl; have b0 := r.cell 0 rfl; have b1 := r.cell 1 rfl; have b2 := r.cell 2 rfl; have b3 := r.cell 3 rfl; have b4 := r.cell 4 rfl; have b5 := r.cell 5 rfl; have b6 := r.cell 6 rfl; have b7 := r.cell 7 rfl; have b8 := r.cell 8 rfl; have b9 := r.cell 9 rfl; have b10 := r.cell 10 rfl; have c0 := (Blk.new w [.int .i64 1, .int .i64 1, .int .i64 0, .int .i64 0, .int .i64 0, .int .i64 0, .int .i64 3, .int .i64 4, .int .i64 2, .int .i64 1, .int .i64 1] 3).cell 0 rfl; have c1 := (Blk.new w [.int .i64 1, .int .i64 1, .int .i64 0, .int .i64 0, .int .i64 0, .int .i64 0, .int .i64 3, .int .i64 4, .int .i64 2, .int .i64 1, .int .i64 1] 3).cell 1 rfl; have c2 := (Blk.new w [.int .i64 1, .int .i64 1, .int .i64 0, .int .i64 0, .int .i64 0, .int .i64 0, .int .i64 3, .int .i64 4, .int .i64 2, .int .i64 1, .int .i64 1] 3).cell 2 rfl; have c3 := (Blk.new w [.int .i64 1, .int .i64 1, .int .i64 0, .int .i64 0, .int .i64 0, .int .i64 0, .int .i64 3, .int .i64 4, .int .i64 2, .int .i64 1, .int .i64 1] 3).cell 3 rfl; have c4 := (Blk.new w [.int .i64 1, .int .i64 1, .int .i64 0, .int .i64 0, .int .i64 0, .int .i64 0, .int .i64 3, .int .i64 4, .int .i64 2, .int .i64 1, .int .i64 1] 3).cell 4 rfl; have c5 := (Blk.new w [.int .i64 1, .int .i64 1, .int .i64 0, .int .i64 0, .int .i64 0, .int .i64 0, .int .i64 3, .int .i64 4, .int .i64 2, .int .i64 1, .int .i64 1] 3).cell 5 rfl
    have c6 := (Blk.new w [.int .i64 1, .int .i64 1, .int .i64 0, .int .i64 0, .int .i64 0, .int .i64 0, .int .i64 3, .int .i64 4, .int .i64 2, .int .i64 1, .int .i64 1] 3).cell 6 rfl; have c7 := (Blk.new w [.int .i64 1, .int .i64 1, .int .i64 0, .int .i64 0, .int .i64 0, .int .i64 0, .int .i64 3, .int .i64 4, .int .i64 2, .int .i64 1, .int .i64 1] 3).cell 7 rfl; have c8 := (Blk.new w [.int .i64 1, .int .i64 1, .int .i64 0, .int .i64 0, .int .i64 0, .int .i64 0, .int .i64 3, .int .i64 4, .int .i64 2, .int .i64 1, .int .i64 1] 3).cell 8 rfl; have c9 := (Blk.new w [.int .i64 1, .int .i64 1, .int .i64 0, .int .i64 0, .int .i64 0, .int .i64 0, .int .i64 3, .int .i64 4, .int .i64 2, .int .i64 1, .int .i64 1] 3).cell 9 rfl; have c10 := (Blk.new w [.int .i64 1, .int .i64 1, .int .i64 0, .int .i64 0, .int .i64 0, .int .i64 0, .int .i64 3, .int .i64 4, .int .i64 2, .int .i64 1, .int .i64 1] 3).cell 10 rfl
    go_enter Tryz.func30, Tryz.ntmps30
    go_wp2
  all_goals (go_ret; refine ⟨ret_bool ?_, hb⟩; refine Eq.trans ?_ HF.out.symm; clear HF; first | (simp_all; done) | skip; rw [Bool.eq_iff_iff]; first | (simp_all; done) | (simp_all; omega))

set_option maxHeartbeats 6400000 in
theorem richeck_any (x : It) (hs : x.key.size ≤ 100000 ∧ x.v.2.1.size ≤ 100000) (hn : x.n.length ≤ 1000000) (w : World) (hok : x.Ok w) :
    Calls Tryz.prog 13 #[x.val] w fun e w' => e = .returned (.int .i64 (chkI x)) ∧ Below w.heap.size w w' := by
  have HC := Lib.hid (chkI.eq_1 x); have HKW := Lib.hid (fun W => rkword_any x.kind W); have HKC := Lib.hid (kwS_cases x.kind); have HFI := Lib.hid (fun h W => rkfits_any x.kind h x.n.length (by omega) W); have HNM := Lib.hid (fun W => rname_any x.key hs.1 W); have HVC := Lib.hid (fun W => rvchk_any x.v.1 x.v.2.2 x.v.2.1 hs.2 W); have HR := Lib.hid hok.1; obtain ⟨B, hB⟩ : ∃ B, w.heap.size = B := ⟨_, rfl⟩; have HBQ := Lib.hid hB; have hVE : vcF x.v.1 x.v.2.1 x.v.2.2 = vE x.v := rfl; rw [hVE] at HVC; generalize chkI x = CH at *; generalize vE x.v = VE at *; obtain ⟨FA, hFA⟩ : ∃ b, x.n.any farN = b := ⟨_, rfl⟩; have HFA := Lib.hid hFA; rw [hFA] at HC; generalize fitsF x.kind x.n.length = FI at *; generalize nameF x.key = NM at *; obtain ⟨kind, n, key, ⟨v1, v2, v3⟩, np, nc⟩ := x; dsimp only [It.val, It.nval] at *; have HVZ : Hid ((v1, v2, v3) = vZ ↔ v1 = 0 ∧ v2 = ⟨#[]⟩ ∧ v3 = 0) := Lib.hid (by simp [vZ]); have HVT : Hid (v2.toList = [] → v2 = ⟨#[]⟩) := Lib.hid (fun h => ba_eq v2 (by
    have := empty_txt v2; rw [h] at this
    simpa using this))
  obtain ⟨N, hN⟩ : ∃ N, n.length = N := ⟨_, rfl⟩; have HN := Lib.hid hN; rw [hN] at HFI hn ⊢; have hb0 := Below.new w (.cells #[.int .i64 kind, .slice np N nc, .string key, .int .i64 v1, .string v2, .int .i64 v3] 50); have k0 := Blk.lit w B [.int .i64 kind, .slice np N nc, .string key, .int .i64 v1, .string v2, .int .i64 v3] 50 hB; have hr0 := HR.out.keep hb0; clear hok hs hN hFA
  go_enter Tryz.func13, Tryz.ntmps13
  have x0 := k0.cell 0 rfl
  go_wp2_with fail
  generalize w.alloc (.cells #[.int .i64 kind, .slice np N nc, .string key, .int .i64 v1, .string v2, .int .i64 v3] 50) = w0 at *; clear hB; refine (HKW.out _).mono ?_; rintro e w1 ⟨rfl, hb1⟩; have k1 := k0.keep hb1; have hr1 := hr0.keep hb1; have hbw1 := hb0.trans (hb1.mono hb0.size); clear HKW k0 hr0 hb0 hb1 x0; have x0 := k1.cell 0 rfl; have x1 := k1.cell 1 rfl; generalize kwS kind = KS at *
  rcases HKC.out with ⟨rfl, -⟩ | ⟨hks, hkr⟩
  · have hV : Hid (CH = 14) := Lib.hid (by rw [HC.out, if_pos rfl]); clear HC; go_wp2; go_ret; exact ⟨ret_int hV.out.symm, by first | exact hbw1 | (rw [← HBQ.out]; exact hbw1)⟩
  · have hks2 := ba_ne KS (fun h => hks (ba_eq KS h)); have hC := HC.out; rw [if_neg hks] at hC; replace HC := Lib.hid hC; clear hC
    go_wp2_with fail
    refine (HFI.out hkr _).mono ?_; rintro e w2 ⟨rfl, hb2⟩; have k2 := k1.keep hb2; have hr2 := hr1.keep hb2; have hbw2 := hbw1.trans (hb2.mono hbw1.size); clear k1 hr1 hbw1 hb2 x0 x1 HFI
    cases FI with
    | false =>
      have hV : Hid (CH = 3) := Lib.hid (by rw [HC.out, if_pos rfl]); clear HC; go_wp2; go_ret; exact ⟨ret_int hV.out.symm, by first | exact hbw2 | (rw [← HBQ.out]; exact hbw2)⟩
    | true =>
      have hC := HC.out; rw [if_neg (by simp)] at hC; replace HC := Lib.hid hC; have HR2 := Lib.hid hr2; clear hC hr2; have x0 := k2.cell 0 rfl; have x1 := k2.cell 1 rfl; have x2 := k2.cell 2 rfl; have x3 := k2.cell 3 rfl; have x4 := k2.cell 4 rfl; have x5 := k2.cell 5 rfl; go_wp2
      go_loopw [3] (fun i wr => ∃ k : Nat, k ≤ N ∧ i = .int .i64 k ∧ wr = w2 ∧ Hid ((n.take k).any farN = false)) (fun i _ => N - (intOf i).toNat)
      case atStart => exact ⟨0, by omega, rfl, rfl, Lib.hid rfl⟩
      case round =>
        obtain ⟨k, hk, rfl, rfl, HA⟩ := hrel
        by_cases hlt : k < N
        · have hlt' : (k : Int) < (N : Int) := by omega
          have hkl : k < n.length := by rw [HN.out]; exact hlt
          obtain ⟨nb, no, rfl, c0, hnb⟩ := HR2.out.at (i := k) (v := .int .i64 n[k]) (by simp [hkl]); have HT : Hid (n.take (k + 1) = n.take k ++ [n[k]]) := Lib.hid (List.take_succ_eq_append_getElem hkl); have HM : Hid (farN n[k] = true → FA = true) := Lib.hid (fun h => by rw [← HFA.out]; exact List.any_eq_true.2 ⟨_, List.getElem_mem hkl, h⟩); have HFN := Lib.hid (farN.eq_1 n[k]); generalize n[k] = z at *
          by_cases hz1 : 1152921504606846976 < z
          · have hV : Hid (CH = 5) := Lib.hid (by rw [HC.out, if_pos (HM.out (by rw [HFN.out]; simp [hz1]))]); clear HC; go_wp2; go_ret; exact ⟨ret_int hV.out.symm, by first | exact hbw2 | (rw [← HBQ.out]; exact hbw2)⟩
          · by_cases hz2 : z < -1152921504606846976
            · have hV : Hid (CH = 5) := Lib.hid (by rw [HC.out, if_pos (HM.out (by rw [HFN.out]; simp [hz2]))]); clear HC; go_wp2; go_ret; exact ⟨ret_int hV.out.symm, by first | exact hbw2 | (rw [← HBQ.out]; exact hbw2)⟩
            · have HA2 : Hid ((n.take (k + 1)).any farN = false) := Lib.hid (by
                rw [HT.out, List.any_append, HA.out]; simp [HFN.out, hz1, hz2])
              go_wp2; go_roundw
              case rel => exact ⟨k + 1, by omega, by go_num, by first | rfl | trivial, HA2⟩
              case measure => simp [intOf]; omega
        · have hlt' : ¬ (k : Int) < (N : Int) := by omega
          have hFA2 : FA = false := by
            rw [← HFA.out, ← HA.out, List.take_of_length_le (by rw [HN.out]; omega)]
          have hC := HC.out; rw [hFA2, if_neg (by simp)] at hC; replace HC := Lib.hid hC; clear hC hFA2 HA
          by_cases h6 : kind = 6
          · subst h6; have hC := HC.out; rw [if_neg (by simp)] at hC; replace HC := Lib.hid hC; clear hC
            go_wp2_with fail
            refine (HNM.out _).mono ?_; rintro e w4 ⟨rfl, hb4⟩; have k4 := k2.keep hb4; have hbw4 := hbw2.trans (hb4.mono hbw2.size); clear k2 hbw2 hb4 x0 x1 x2 x3 x4 x5; have x3 := k4.cell 3 rfl; have x4 := k4.cell 4 rfl; have x5 := k4.cell 5 rfl
            cases NM with
            | false =>
              have hV : Hid (CH = 13) := Lib.hid (by rw [HC.out, if_pos rfl]); clear HC; go_wp2; go_ret; exact ⟨ret_int hV.out.symm, by first | exact hbw4 | (rw [← HBQ.out]; exact hbw4)⟩
            | true =>
              have hV : Hid (CH = VE) := Lib.hid (by rw [HC.out, if_neg (by simp)]); clear HC
              go_wp2_with fail
              refine (HVC.out _).mono ?_; rintro e w5 ⟨rfl, hb5⟩; have hbw5 := hbw4.trans (hb5.mono hbw4.size); go_wp2; go_ret; exact ⟨ret_int hV.out.symm, by first | exact hbw5 | (rw [← HBQ.out]; exact hbw5)⟩
          · have h6' : (kind == 6) = false := by rw [beq_eq_false_iff_ne]; exact h6
            have hC := HC.out; rw [if_pos h6] at hC; replace HC := Lib.hid hC; clear hC
            by_cases hkz : key.size = 0
            · obtain rfl := ba_eq key hkz
              by_cases hvz : v1 = 0 ∧ v2 = ⟨#[]⟩ ∧ v3 = 0
              · have hV : Hid (CH = 0) := Lib.hid (by rw [HC.out, if_neg]; rintro (h | h); exact h hkz; exact h (HVZ.out.2 hvz)); obtain ⟨rfl, rfl, rfl⟩ := hvz; clear HC HVZ; go_wp2; go_ret; exact ⟨ret_int hV.out.symm, by first | exact hbw2 | (rw [← HBQ.out]; exact hbw2)⟩
              · have hV : Hid (CH = 3) := Lib.hid (by rw [HC.out, if_pos]; right; intro h; exact hvz (HVZ.out.1 h)); have HVZ2 := Lib.hid hvz; clear HC HVZ hvz; go_wp2
                all_goals first
                  | (go_ret; exact ⟨ret_int hV.out.symm, by first | exact hbw2 | (rw [← HBQ.out]; exact hbw2)⟩)
                  | (exfalso; exact HVZ2.out ⟨‹v1 = 0›, HVT.out ‹v2.toList = []›, ‹v3 = 0›⟩)
            · have hkn := ba_ne key hkz; have hV : Hid (CH = 3) := Lib.hid (by rw [HC.out, if_pos (.inl hkz)]); clear HC; go_wp2; go_ret; exact ⟨ret_int hV.out.symm, by first | exact hbw2 | (rw [← HBQ.out]; exact hbw2)⟩
end Go.Proofs.YtkfgbjjelcigcaaGreatDoor
