/-
  Classes and cuts, from whichever end: in plain terms. Segments: what their class tells of their boxes, and of a midpoint (plain). The document's Valid and the program's tell the same (plain). The document's Valid and the program's tell the same: the sums (plain).
-/
import Derived.Test.YtccamjnomjcchaaPk11
import Derived.Test.YtccamjnomjcchaaPk4
import Derived.Test.YtccamjnomjcchaaPk38
import Derived.Test.YtccamjnomjcchaaPk12
import Derived.Test.YtccamjnomjcchaaPk39
import Derived.Test.YtccamjnomjcchaaPk29
/- Classes and cuts, from whichever end: in plain terms. -/
set_option linter.unusedVariables false
set_option linter.unusedSimpArgs false
namespace Go
open Go.RowKit
theorem sg_opp (n : Int) : sg (-n) = -sg n := by
  rcases Int.lt_trichotomy n 0 with h | h | h
  · rw [sg_neg h, sg_pos (by omega)]; rfl
  · rw [sg_z h, sg_z (by omega)]; rfl
  · rw [sg_pos h, sg_neg (by omega)]
theorem onP_ends {a b : Pt} (hab : a ≠ b) (p : Pt) : onP b a p = onP a b p := by
  have e : onP b a p = true ↔ onP a b p = true := by
    rw [onP_iff hab, onP_iff (Ne.symm hab), crs_swap]
    have h1 : dotP b a p = longP a b - dotP a b p := by unfold dotP longP; grind
    have h2 : longP b a = longP a b := by unfold longP; grind
    rw [h1, h2]
    omega
  cases h1 : onP b a p <;> cases h2 : onP a b p <;> simp_all
theorem onP_first {a b : Pt} (hab : a ≠ b) : onP a b a = true := by
  rw [onP_iff hab]
  have h1 : crs a b a = 0 := by unfold crs; grind
  have h2 : dotP a b a = 0 := by unfold dotP; grind
  have h3 : 0 ≤ longP a b := by
    have := sq_pos (b.x - a.x) (b.y - a.y) (pt_ne hab)
    unfold longP; omega
  omega
theorem onP_last {a b : Pt} (hab : a ≠ b) : onP a b b = true := by rw [← onP_ends hab]; exact onP_first (Ne.symm hab)
theorem rcls_ends (a b c d : Pt) (hab : a ≠ b) : rclsF b a c d = rclsF a b c d := by
  unfold rclsF
  rw [onP_ends hab, onP_ends hab, crs_swap a b c, crs_swap a b d, sg_opp, sg_opp]
  have e1 : ((b = c ∧ a = d) ∨ (b = d ∧ a = c)) ↔ ((a = c ∧ b = d) ∨ (a = d ∧ b = c)) := by
    constructor <;> (rintro (⟨h1, h2⟩ | ⟨h1, h2⟩) <;> simp [h1, h2])
  simp only [e1]
  have e2 : b2i (onP c d b) + b2i (onP c d a) = b2i (onP c d a) + b2i (onP c d b) := Int.add_comm _ _
  have e3 : b2i (onP c d b && (decide (b = c) || decide (b = d))) + b2i (onP c d a && (decide (a = c) || decide (a = d))) = b2i (onP c d a && (decide (a = c) || decide (a = d))) + b2i (onP c d b && (decide (b = c) || decide (b = d))) := Int.add_comm _ _
  have e4 : (-sg (crs a b c) ≠ -sg (crs a b d) ∧ sg (crs c d b) ≠ sg (crs c d a)) ↔ (sg (crs a b c) ≠ sg (crs a b d) ∧ sg (crs c d a) ≠ sg (crs c d b)) := by omega
  simp only [e2, e3, e4]
theorem rcls_segs (a b c d : Pt) (hab : a ≠ b) (hcd : c ≠ d) : rclsF c d a b = rclsF a b c d := by
  unfold rclsF
  have e1 : ((c = a ∧ d = b) ∨ (c = b ∧ d = a)) ↔ ((a = c ∧ b = d) ∨ (a = d ∧ b = c)) := by
    constructor <;> (rintro (⟨h1, h2⟩ | ⟨h1, h2⟩) <;> simp [h1, h2])
  simp only [e1]
  have k1 : (onP c d a && (decide (a = c) || decide (a = d))) = (decide (a = c) || decide (a = d)) := by
    by_cases h1 : a = c
    · subst h1; rw [onP_first hcd, Bool.true_and]
    · by_cases h2 : a = d
      · subst h2; rw [onP_last hcd, Bool.true_and]
      · simp [h1, h2]
  have k2 : (onP c d b && (decide (b = c) || decide (b = d))) = (decide (b = c) || decide (b = d)) := by
    by_cases h1 : b = c
    · subst h1; rw [onP_first hcd, Bool.true_and]
    · by_cases h2 : b = d
      · subst h2; rw [onP_last hcd, Bool.true_and]
      · simp [h1, h2]
  have k3 : (onP a b c && (decide (c = a) || decide (c = b))) = (decide (a = c) || decide (b = c)) := by
    by_cases h1 : c = a
    · subst h1; rw [onP_first hab, Bool.true_and]; simp [eq_comm]
    · by_cases h2 : c = b
      · subst h2; rw [onP_last hab, Bool.true_and]; simp [eq_comm]
      · simp [h1, h2, Ne.symm h1, Ne.symm h2]
  have k4 : (onP a b d && (decide (d = a) || decide (d = b))) = (decide (a = d) || decide (b = d)) := by
    by_cases h1 : d = a
    · subst h1; rw [onP_first hab, Bool.true_and]; simp [eq_comm]
    · by_cases h2 : d = b
      · subst h2; rw [onP_last hab, Bool.true_and]; simp [eq_comm]
      · simp [h1, h2, Ne.symm h1, Ne.symm h2]
  rw [k1, k2, k3, k4]
  have e2 : b2i (decide (a = c) || decide (b = c)) + b2i (decide (a = d) || decide (b = d)) = b2i (decide (a = c) || decide (a = d)) + b2i (decide (b = c) || decide (b = d)) := by
    have q1 : ¬ (a = c ∧ a = d) := fun h => hcd (h.1.symm.trans h.2)
    have q2 : ¬ (b = c ∧ b = d) := fun h => hcd (h.1.symm.trans h.2)
    have q3 : ¬ (a = c ∧ b = c) := fun h => hab (h.1.trans h.2.symm)
    have q4 : ¬ (a = d ∧ b = d) := fun h => hab (h.1.trans h.2.symm)
    by_cases h1 : a = c <;> by_cases h2 : a = d <;> by_cases h3 : b = c <;> by_cases h4 : b = d <;> simp [h1, h2, h3, h4, b2i] at * <;> simp_all
  rw [e2]
  have e3 : b2i (onP a b c) + b2i (onP a b d) + (b2i (onP c d a) + b2i (onP c d b)) = b2i (onP c d a) + b2i (onP c d b) + (b2i (onP a b c) + b2i (onP a b d)) := Int.add_comm _ _
  have e4 : (sg (crs c d a) ≠ sg (crs c d b) ∧ sg (crs a b c) ≠ sg (crs a b d)) ↔ (sg (crs a b c) ≠ sg (crs a b d) ∧ sg (crs c d a) ≠ sg (crs c d b)) := And.comm
  simp only [e3, e4]
theorem ok4 {a b c d : Pt} (h : [a, b, c, d].all okPt = true) : okPt a = true ∧ okPt b = true ∧ okPt c = true ∧ okPt d = true := by
  simpa only [List.all_cons, List.all_nil, Bool.and_true, Bool.and_eq_true] using h
theorem clsR_ends (a b c d : Pt) : clsR b a c d = clsR a b c d := by
  unfold clsR
  have e0 : [b, a, c, d].all okPt = [a, b, c, d].all okPt := by simp only [List.all_cons, List.all_nil]; cases okPt a <;> cases okPt b <;> rfl
  rw [e0]
  by_cases h : [a, b, c, d].all okPt = false
  · rw [if_pos h, if_pos h]
  · rw [if_neg h, if_neg h]
    have e1 : (b = a ∨ c = d) ↔ (a = b ∨ c = d) := by simp only [eq_comm (a := b)]
    simp only [e1]
    by_cases h2 : a = b ∨ c = d
    · rw [if_pos h2, if_pos h2]
    · rw [if_neg h2, if_neg h2]
      obtain ⟨h3, h4⟩ := not_or.1 h2
      obtain ⟨oa, ob, oc, od⟩ := ok4 ((Bool.not_eq_false _).mp h)
      rw [cls_eq b a c d ob oa oc od (Ne.symm h3) h4, cls_eq a b c d oa ob oc od h3 h4, rcls_ends a b c d h3]
theorem clsR_segs (a b c d : Pt) : clsR c d a b = clsR a b c d := by
  unfold clsR
  have e0 : [c, d, a, b].all okPt = [a, b, c, d].all okPt := by simp only [List.all_cons, List.all_nil]; cases okPt a <;> cases okPt b <;> cases okPt c <;> cases okPt d <;> rfl
  rw [e0]
  by_cases h : [a, b, c, d].all okPt = false
  · rw [if_pos h, if_pos h]
  · rw [if_neg h, if_neg h]
    have e1 : (c = d ∨ a = b) ↔ (a = b ∨ c = d) := Or.comm
    simp only [e1]
    by_cases h2 : a = b ∨ c = d
    · rw [if_pos h2, if_pos h2]
    · rw [if_neg h2, if_neg h2]
      obtain ⟨h3, h4⟩ := not_or.1 h2
      obtain ⟨oa, ob, oc, od⟩ := ok4 ((Bool.not_eq_false _).mp h)
      rw [cls_eq c d a b oc od oa ob h4 h3, cls_eq a b c d oa ob oc od h3 h4, rcls_segs a b c d h3 h4]

end Go
/- Segments: what their class tells of their boxes, and of a midpoint (plain). -/
set_option linter.unusedVariables false
set_option linter.unusedSimpArgs false
namespace Go
open Go.RowKit
theorem box_on {c d p : Pt} (h : onP c d p = true) : (min c.x d.x ≤ p.x ∧ p.x ≤ max c.x d.x) ∧ (min c.y d.y ≤ p.y ∧ p.y ≤ max c.y d.y) := by
  rw [← onX_onP] at h
  unfold onX boxB at h
  simp only [Bool.and_eq_true, decide_eq_true_eq] at h
  exact h.2
theorem meet_iff (a b c d : Pt) : meetF (boxOf a b) (boxOf c d) = true ↔ (min a.x b.x ≤ max c.x d.x ∧ min c.x d.x ≤ max a.x b.x) ∧ (min a.y b.y ≤ max c.y d.y ∧ min c.y d.y ≤ max a.y b.y) := by
  unfold meetF boxOf
  simp only [Bool.and_eq_true, decide_eq_true_eq]
  omega
theorem mean_le {W X Y Z p q r s : Int} (hX : 0 ≤ X) (hW : W ≤ 0) (hY : 0 ≤ Y) (hZ : Z ≤ 0) (hD : X - W = Y - Z) (hD0 : 0 < X - W) (h : X * r - W * s = Y * q - Z * p) : min p q ≤ max r s ∧ min r s ≤ max p q := by
  obtain ⟨m1, hm1⟩ : ∃ m, min p q = m := ⟨_, rfl⟩
  obtain ⟨M1, hM1⟩ : ∃ m, max p q = m := ⟨_, rfl⟩
  obtain ⟨m2, hm2⟩ : ∃ m, min r s = m := ⟨_, rfl⟩
  obtain ⟨M2, hM2⟩ : ∃ m, max r s = m := ⟨_, rfl⟩
  rw [hm1, hM1, hm2, hM2]
  have a1 := Int.mul_le_mul_of_nonneg_left (show m2 ≤ r by omega) hX
  have a2 := Int.mul_le_mul_of_nonneg_left (show r ≤ M2 by omega) hX
  have a3 := Int.mul_le_mul_of_nonneg_left (show m2 ≤ s by omega) (show 0 ≤ -W by omega)
  have a4 := Int.mul_le_mul_of_nonneg_left (show s ≤ M2 by omega) (show 0 ≤ -W by omega)
  have b1 := Int.mul_le_mul_of_nonneg_left (show m1 ≤ q by omega) hY
  have b2 := Int.mul_le_mul_of_nonneg_left (show q ≤ M1 by omega) hY
  have b3 := Int.mul_le_mul_of_nonneg_left (show m1 ≤ p by omega) (show 0 ≤ -Z by omega)
  have b4 := Int.mul_le_mul_of_nonneg_left (show p ≤ M1 by omega) (show 0 ≤ -Z by omega)
  constructor
  · apply Decidable.byContradiction; intro hc
    have c1 := Int.mul_le_mul_of_nonneg_left (show M2 + 1 ≤ m1 by omega) (show 0 ≤ X - W by omega)
    have e1 : (X - W) * m1 = Y * m1 - Z * m1 := by rw [hD]; grind
    have e2 : (X - W) * (M2 + 1) = X * M2 - W * M2 + (X - W) := by grind
    rw [Int.neg_mul] at a3 a4 b3 b4
    rw [Int.neg_mul] at a3 a4 b3 b4
    omega
  · apply Decidable.byContradiction; intro hc
    have c1 := Int.mul_le_mul_of_nonneg_left (show M1 + 1 ≤ m2 by omega) (show 0 ≤ X - W by omega)
    have e1 : (X - W) * (M1 + 1) = Y * M1 - Z * M1 + (X - W) := by rw [hD]; grind
    have e2 : (X - W) * m2 = X * m2 - W * m2 := by grind
    rw [Int.neg_mul] at a3 a4 b3 b4
    rw [Int.neg_mul] at a3 a4 b3 b4
    omega
theorem cross_ids (a b c d : Pt) : crs a b d - crs a b c = crs c d a - crs c d b ∧ crs a b d * c.x - crs a b c * d.x = crs c d a * b.x - crs c d b * a.x ∧ crs a b d * c.y - crs a b c * d.y = crs c d a * b.y - crs c d b * a.y := by
  unfold crs
  refine ⟨?_, ?_, ?_⟩ <;> grind
theorem b2i_bd2 (x : Bool) : 0 ≤ b2i x ∧ b2i x ≤ 1 := by cases x <;> decide
theorem sg_cases (n : Int) : (0 < n ∧ sg n = 1) ∨ (n = 0 ∧ sg n = 0) ∨ (n < 0 ∧ sg n = -1) := by
  rcases Int.lt_trichotomy n 0 with h | h | h
  · exact .inr (.inr ⟨h, sg_neg h⟩)
  · exact .inr (.inl ⟨h, sg_z h⟩)
  · exact .inl ⟨h, sg_pos h⟩
theorem cross_meet1 (a b c d : Pt) (h0 : crs a b c < crs a b d) (h1 : sg (crs a b c) ≠ sg (crs a b d)) (h2 : sg (crs c d a) ≠ sg (crs c d b)) : meetF (boxOf a b) (boxOf c d) = true := by
  rw [meet_iff]
  obtain ⟨e1, e2, e3⟩ := cross_ids a b c d
  generalize crs a b c = W at *
  generalize crs a b d = X at *
  generalize crs c d a = Y at *
  generalize crs c d b = Z at *
  have g1 := sg_cases W
  have g2 := sg_cases X
  have g3 := sg_cases Y
  have g4 := sg_cases Z
  generalize sg W = sW at *
  generalize sg X = sX at *
  generalize sg Y = sY at *
  generalize sg Z = sZ at *
  have k1 : 0 ≤ X ∧ W ≤ 0 := by omega
  have k2 : 0 ≤ Y ∧ Z ≤ 0 := by omega
  exact ⟨mean_le k1.1 k1.2 k2.1 k2.2 e1 (by omega) e2, mean_le k1.1 k1.2 k2.1 k2.2 e1 (by omega) e3⟩
theorem cross_meet (a b c d : Pt) (h1 : sg (crs a b c) ≠ sg (crs a b d)) (h2 : sg (crs c d a) ≠ sg (crs c d b)) : meetF (boxOf a b) (boxOf c d) = true := by
  rcases Int.lt_trichotomy (crs a b c) (crs a b d) with h | h | h
  · exact cross_meet1 a b c d h h1 h2
  · exact absurd (by rw [h]) h1
  · have := cross_meet1 a b d c h (Ne.symm h1) (by
      rw [crs_swap c d a, crs_swap c d b, sg_opp, sg_opp]; omega)
    rw [meet_iff] at this ⊢
    omega
theorem rcls_meet (a b c d : Pt) (h : rclsF a b c d ≠ 0) : meetF (boxOf a b) (boxOf c d) = true := by
  by_cases h5 : (a = c ∧ b = d) ∨ (a = d ∧ b = c)
  · rw [meet_iff]
    rcases h5 with ⟨rfl, rfl⟩ | ⟨rfl, rfl⟩ <;> omega
  · by_cases o1 : onP c d a = true
    · have := box_on o1; rw [meet_iff]; omega
    · by_cases o2 : onP c d b = true
      · have := box_on o2; rw [meet_iff]; omega
      · by_cases o3 : onP a b c = true
        · have := box_on o3; rw [meet_iff]; omega
        · by_cases o4 : onP a b d = true
          · have := box_on o4; rw [meet_iff]; omega
          · have p1 : onP c d a = false := by simpa using o1
            have p2 : onP c d b = false := by simpa using o2
            have p3 : onP a b c = false := by simpa using o3
            have p4 : onP a b d = false := by simpa using o4
            unfold rclsF at h
            rw [if_neg h5, p1, p2, p3, p4] at h
            simp only [b2i, Bool.false_and, Bool.false_eq_true, if_false] at h
            rw [if_neg (by decide), if_neg (by decide)] at h
            split at h
            · rename_i hh; exact cross_meet a b c d hh.1 hh.2
            · exact absurd rfl h
theorem mid_side {D W X k m c d : Int} (hk : k = d - c) (hk0 : k ≠ 0) (h1 : D * (m - 2 * c) = -(2 * (W * k))) (h2 : D * (2 * d - m) = 2 * (X * k)) (hr : min c d * 2 ≤ m ∧ m ≤ 2 * max c d) : W * D ≤ 0 ∧ 0 ≤ X * D := by
  have hkk : 0 < k * k := by
    rcases Int.lt_or_gt_of_ne hk0 with h | h
    · exact Int.mul_pos_of_neg_of_neg h h
    · exact Int.mul_pos h h
  have hp : 0 ≤ (m - 2 * c) * k ∧ 0 ≤ (2 * d - m) * k := by
    rcases Int.lt_or_gt_of_ne hk0 with h | h
    · exact ⟨Int.mul_nonneg_of_nonpos_of_nonpos (by omega) (by omega), Int.mul_nonneg_of_nonpos_of_nonpos (by omega) (by omega)⟩
    · exact ⟨Int.mul_nonneg (by omega) (by omega), Int.mul_nonneg (by omega) (by omega)⟩
  have hD : 0 ≤ D * D := by
    rcases Int.lt_trichotomy D 0 with h | h | h
    · exact Int.le_of_lt (Int.mul_pos_of_neg_of_neg h h)
    · rw [h]; decide
    · exact Int.le_of_lt (Int.mul_pos h h)
  have q1 := Int.mul_nonneg hD hp.1
  have q2 := Int.mul_nonneg hD hp.2
  have e1 : D * D * ((m - 2 * c) * k) = -(2 * (W * D * (k * k))) := by
    have : D * D * ((m - 2 * c) * k) = D * (m - 2 * c) * (D * k) := by grind
    rw [this, h1]; grind
  have e2 : D * D * ((2 * d - m) * k) = 2 * (X * D * (k * k)) := by
    have : D * D * ((2 * d - m) * k) = D * (2 * d - m) * (D * k) := by grind
    rw [this, h2]; grind
  constructor
  · apply Decidable.byContradiction; intro hc
    have := Int.mul_pos (show 0 < W * D by omega) hkk
    omega
  · apply Decidable.byContradiction; intro hc
    have := Int.mul_pos (show 0 < -(X * D) by omega) hkk
    rw [Int.neg_mul] at this
    omega
theorem mid_cls (a b c d : Pt) (hab : a ≠ b) (hcd : c ≠ d) (h : besHas (besM a b) (besV a b) c d = true) : rclsF a b c d ≠ 0 ∧ rclsF a b c d ≠ 1 ∧ rclsF a b c d ≠ 5 := by
  unfold besHas besIn besM besV at h
  dsimp only at h
  simp only [Bool.and_eq_true, Bool.not_eq_true', Bool.or_eq_false_iff, Bool.not_eq_false', decide_eq_true_eq, decide_eq_false_iff_not] at h
  obtain ⟨⟨hpar, hon⟩, ⟨hx1, hx2⟩, hy1, hy2⟩ := h
  obtain ⟨e1, -, -⟩ := cross_ids a b c d
  have hYZ : crs c d a + crs c d b = 0 := by unfold crs; grind
  have hD : crs a b d - crs a b c ≠ 0 := by
    intro h0
    apply hpar
    unfold crs at h0; grind
  have i1 : (crs a b d - crs a b c) * ((a.x + b.x) - 2 * c.x) = -(2 * (crs a b c * (d.x - c.x))) := by
    unfold crs at hYZ ⊢; grind
  have i2 : (crs a b d - crs a b c) * (2 * d.x - (a.x + b.x)) = 2 * (crs a b d * (d.x - c.x)) := by
    unfold crs at hYZ ⊢; grind
  have i3 : (crs a b d - crs a b c) * ((a.y + b.y) - 2 * c.y) = -(2 * (crs a b c * (d.y - c.y))) := by
    unfold crs at hYZ ⊢; grind
  have i4 : (crs a b d - crs a b c) * (2 * d.y - (a.y + b.y)) = 2 * (crs a b d * (d.y - c.y)) := by
    unfold crs at hYZ ⊢; grind
  have h5 : ¬ ((a = c ∧ b = d) ∨ (a = d ∧ b = c)) := by
    rintro (⟨rfl, rfl⟩ | ⟨rfl, rfl⟩)
    · apply hpar; grind
    · apply hpar; grind
  have hYn : crs c d a ≠ 0 := by omega
  have hZn : crs c d b ≠ 0 := by omega
  have p1 : onP c d a = false := by
    cases ho : onP c d a with
    | false => rfl
    | true => exact absurd (onP_line hcd ho) hYn
  have p2 : onP c d b = false := by
    cases ho : onP c d b with
    | false => rfl
    | true => exact absurd (onP_line hcd ho) hZn
  have hWX : crs a b c * (crs a b d - crs a b c) ≤ 0 ∧ 0 ≤ crs a b d * (crs a b d - crs a b c) := by
    by_cases hx : d.x - c.x = 0
    · have hy : d.y - c.y ≠ 0 := fun h => hcd (pt_eq hx h)
      exact mid_side rfl hy i3 i4 (by omega)
    · exact mid_side rfl hx i1 i2 (by omega)
  have s1 : sg (crs a b c) ≠ sg (crs a b d) := by
    intro hs
    have g1 := sg_cases (crs a b c)
    have g2 := sg_cases (crs a b d)
    generalize crs a b c = W at *
    generalize crs a b d = X at *
    have t : (0 < W ∧ 0 < X) ∨ (W < 0 ∧ X < 0) := by omega
    obtain ⟨m1, m2⟩ := hWX
    generalize hE : X - W = E at *
    rcases t with ⟨t1, t2⟩ | ⟨t1, t2⟩
    · rcases Int.lt_or_gt_of_ne hD with g | g
      · have := Int.mul_neg_of_pos_of_neg t2 g; omega
      · have := Int.mul_pos t1 g; omega
    · rcases Int.lt_or_gt_of_ne hD with g | g
      · have := Int.mul_pos_of_neg_of_neg t1 g; omega
      · have := Int.mul_neg_of_neg_of_pos t2 g; omega
  have s2 : sg (crs c d a) ≠ sg (crs c d b) := by
    have g1 := sg_cases (crs c d a)
    have g2 := sg_cases (crs c d b)
    omega
  unfold rclsF
  rw [if_neg h5, p1, p2]
  simp only [Bool.false_and]
  have hb0 : b2i false = 0 := rfl
  rw [hb0]
  have b1 := b2i_bd2 (onP a b c)
  have b2 := b2i_bd2 (onP a b d)
  generalize b2i (onP a b c) = B1 at *
  generalize b2i (onP a b d) = B2 at *
  have hs : sg (crs a b c) ≠ sg (crs a b d) ∧ sg (crs c d a) ≠ sg (crs c d b) := ⟨s1, s2⟩
  simp only [if_pos hs]
  repeat' split
  all_goals omega
end Go
/- The document's Valid and the program's tell the same (plain). -/
set_option linter.unusedVariables false
set_option linter.unusedSimpArgs false
namespace Go
open Go.RowKit
theorem clsS_eq {x y : Sd} (hx : sdIn x) (hy : sdIn y) : clsS x y = rclsF x.a x.b y.a y.b := by
  unfold clsS clsR
  have h : ¬ ([x.a, x.b, y.a, y.b].all okPt = false) := by simp [hx.1, hx.2.1, hy.1, hy.2.1]
  rw [if_neg h, if_neg (fun h => h.elim hx.2.2 hy.2.2)]
  exact cls_eq _ _ _ _ hx.1 hx.2.1 hy.1 hy.2.1 hx.2.2 hy.2.2
theorem rcls_swap {x y : Sd} (hx : sdIn x) (hy : sdIn y) : rclsF y.a y.b x.a x.b = rclsF x.a x.b y.a y.b := rcls_segs _ _ _ _ hx.2.2 hy.2.2
theorem badT_iff {x y : Sd} (hx : sdIn x) (hy : sdIn y) : mOk y x ↔ (meetF (sdBx x) (sdBx y) = true → ¬ badT x y) := by
  unfold mOk badT sameR
  rw [clsS_eq hx hy, rcls_swap hx hy]
  constructor
  · rintro (⟨h1, h2⟩ | h) hm ⟨g1, g2, g3, g4⟩
    · exact g1 ⟨h1.symm, h2.symm⟩
    · omega
  · intro h
    by_cases hs : y.f = x.f ∧ y.r = x.r
    · exact .inl hs
    · refine .inr ?_
      by_cases h0 : rclsF x.a x.b y.a y.b = 0
      · exact .inl h0
      · have := h (rcls_meet _ _ _ _ h0)
        have hs2 : ¬ (x.f = y.f ∧ x.r = y.r) := fun g => hs ⟨g.1.symm, g.2.symm⟩
        apply Decidable.byContradiction; intro hc
        exact this ⟨hs2, h0, fun g => hc (.inr (.inl g)), fun g => hc (.inr (.inr g))⟩
theorem match_PW {S : List Sd} (h : ∀ s ∈ S, sdIn s) : matchP S S.length ↔ PW badT S := by
  unfold matchP PW
  rw [List.pairwise_iff_getElem]
  constructor
  · intro hm i j hi hj hij
    have := hm j hj i hij
    rw [getElem!_pos S i hi, getElem!_pos S j hj] at this
    exact (badT_iff (h _ (List.getElem_mem hi)) (h _ (List.getElem_mem hj))).1 this
  · intro hp j hj i hij
    have hi : i < S.length := by omega
    rw [getElem!_pos S i hi, getElem!_pos S j hj]
    exact (badT_iff (h _ (List.getElem_mem hi)) (h _ (List.getElem_mem hj))).2 (hp i j hi hj hij)
theorem tw_nodup (S : List Sd) : twP S S.length ↔ (S.map Sd.key).Nodup := by
  unfold twP twAt List.Nodup
  rw [List.pairwise_map, List.pairwise_iff_getElem]
  constructor
  · intro ht i j hi hj hij e
    apply ht j hj i hij
    rw [getElem!_pos S i hi, getElem!_pos S j hj]
    unfold Sd.key at e
    simp only [Prod.mk.injEq] at e
    exact ⟨e.1.symm, e.2.symm⟩
  · intro hp j hj i hij e
    have hi : i < S.length := by omega
    rw [getElem!_pos S i hi, getElem!_pos S j hj] at e
    exact hp i j hi hj hij (by unfold Sd.key; rw [e.1, e.2])
def sdOf (i k : Nat) (r : List Pt) (n : Nat) : Sd := ⟨i, k, r[n]!, r[(n + 1) % r.length]!⟩
theorem ringSd_map (i k : Nat) (r : List Pt) : ringSd i k r = (List.range r.length).map (sdOf i k r) := by
  unfold ringSd edges
  rw [List.map_map]
  rfl
def ringOk (r : List Pt) : Prop := 3 ≤ r.length ∧ r.all okPt = true ∧ distP r r.length
theorem ring_ne {r : List Pt} (h : ringOk r) {n m : Nat} (hn : n < r.length) (hm : m < r.length) (hnm : n ≠ m) : r[n]! ≠ r[m]! := by
  intro e
  rcases Nat.lt_or_gt_of_ne hnm with g | g
  · exact h.2.2 m hm n g e.symm
  · exact h.2.2 n hn m g e
theorem succ_mod {n l : Nat} (h : n < l) : ((n + 1) % l = n + 1 ∧ n + 1 < l) ∨ ((n + 1) % l = 0 ∧ n + 1 = l) := by
  by_cases g : n + 1 < l
  · exact .inl ⟨Nat.mod_eq_of_lt g, g⟩
  · have : n + 1 = l := by omega
    exact .inr ⟨by rw [this, Nat.mod_self], this⟩
theorem sdOf_in {r : List Pt} (h : ringOk r) (i k : Nat) {n : Nat} (hn : n < r.length) : sdIn (sdOf i k r n) := by
  have hm := Nat.mod_lt (n + 1) (show 0 < r.length by omega)
  refine ⟨ok_get r h.2.1 n hn, ok_get r h.2.1 _ hm, ring_ne h hn hm ?_⟩
  have := succ_mod hn
  have := h.1
  omega
theorem ring_pair {r : List Pt} (h : ringOk r) (i k : Nat) {a b : Nat} (hb : b < a) (ha : a < r.length) :
    clsOk r a b ↔ (meetF (sdBx (sdOf i k r b)) (sdBx (sdOf i k r a)) = true → ¬ badS (sdOf i k r b) (sdOf i k r a)) := by
  have hbl : b < r.length := by omega
  have ia := sdOf_in h i k ha
  have ib := sdOf_in h i k hbl
  have hma := Nat.mod_lt (a + 1) (show 0 < r.length by omega)
  have hmb := Nat.mod_lt (b + 1) (show 0 < r.length by omega)
  have hc : clsOk r a b ↔ rclsF (sdOf i k r b).a (sdOf i k r b).b (sdOf i k r a).a (sdOf i k r a).b = wantS r.length a b := by
    unfold clsOk
    rw [← rcls_swap ib ia]
    exact Iff.rfl
  have hn : nxtS (sdOf i k r b) (sdOf i k r a) ↔ (a - b = 1 ∨ a - b = r.length - 1) := by
    unfold nxtS sameR sdOf
    dsimp only
    have q1 : r[(b + 1) % r.length]! = r[a]! ↔ (b + 1) % r.length = a := by
      refine ⟨fun e => ?_, fun e => by rw [e]⟩
      apply Decidable.byContradiction; intro g
      exact ring_ne h hmb ha g e
    have q2 : r[(a + 1) % r.length]! = r[b]! ↔ (a + 1) % r.length = b := by
      refine ⟨fun e => ?_, fun e => by rw [e]⟩
      apply Decidable.byContradiction; intro g
      exact ring_ne h hma hbl g e
    rw [q1, q2]
    have s1 := succ_mod ha
    have s2 := succ_mod hbl
    have := h.1
    simp only [true_and, and_self]
    omega
  have hsr : sameR (sdOf i k r b) (sdOf i k r a) := ⟨rfl, rfl⟩
  rw [hc]
  unfold badS
  rw [clsS_eq ib ia, hn]
  unfold wantS
  by_cases hw : a - b = 1 ∨ a - b = r.length - 1
  · rw [if_pos hw]
    constructor
    · rintro h1 hm (⟨-, g⟩ | ⟨g, -⟩)
      · exact g h1
      · exact g hw
    · intro g
      have hm : meetF (sdBx (sdOf i k r b)) (sdBx (sdOf i k r a)) = true := by
        obtain ⟨-, e⟩ := hn.2 hw
        unfold sdBx
        rw [meet_iff]
        rcases e with e | e
        · rw [← e]; omega
        · rw [← e]; omega
      apply Decidable.byContradiction; intro g2
      exact g hm (.inl ⟨hw, g2⟩)
  · rw [if_neg hw]
    constructor
    · rintro h1 hm (⟨g, -⟩ | ⟨-, -, g⟩)
      · exact hw g
      · exact g h1
    · intro g
      apply Decidable.byContradiction; intro g2
      exact g (rcls_meet _ _ _ _ g2) (.inr ⟨hw, hsr, g2⟩)
theorem ring_PW {r : List Pt} (h : ringOk r) (i k : Nat) : clsP r r.length ↔ PW badS (ringSd i k r) := by
  unfold PW clsP
  rw [ringSd_map, List.pairwise_map, List.pairwise_iff_getElem]
  constructor
  · intro hp b a hb ha hba
    rw [List.length_range] at hb ha
    rw [List.getElem_range, List.getElem_range]
    exact (ring_pair h i k hba ha).1 (hp a ha b hba)
  · intro hp a ha b hba
    have := hp b a (by rw [List.length_range]; omega) (by rw [List.length_range]; omega) hba
    rw [List.getElem_range, List.getElem_range] at this
    exact (ring_pair h i k hba ha).2 this
theorem dist_nodup (r : List Pt) : distP r r.length ↔ r.Nodup := by
  unfold distP List.Nodup
  rw [List.pairwise_iff_getElem]
  constructor
  · intro h i j hi hj hij e
    apply h j hj i hij
    rw [getElem!_pos r i hi, getElem!_pos r j hj]
    exact e.symm
  · intro h j hj i hij e
    have hi : i < r.length := by omega
    rw [getElem!_pos r i hi, getElem!_pos r j hj] at e
    exact h i j hi hj hij e.symm
theorem single_ok (r : List Pt) : singleF r = true ↔ ringOk r := by
  unfold singleF ringOk
  rw [dist_nodup]
  simp only [Bool.and_eq_true, decide_eq_true_eq]
  constructor
  · rintro ⟨⟨h1, h2⟩, h3⟩; exact ⟨by omega, h3, h2⟩
  · rintro ⟨h1, h3, h2⟩; exact ⟨⟨by omega, h2⟩, h3⟩
theorem PW_append (P : Sd → Sd → Prop) (A B : List Sd) (h : ∀ a ∈ A, ∀ b ∈ B, ¬ P a b) : PW P (A ++ B) ↔ PW P A ∧ PW P B := by
  unfold PW
  rw [List.pairwise_append]
  exact ⟨fun g => ⟨g.1, g.2.1⟩, fun g => ⟨g.1, g.2, fun a ha b hb _ => h a ha b hb⟩⟩
theorem mem_ringSd {i k : Nat} {r : List Pt} {s : Sd} (h : s ∈ ringSd i k r) : s.f = i ∧ s.r = k := by
  unfold ringSd at h
  obtain ⟨e, -, rfl⟩ := List.mem_map.1 h
  exact ⟨rfl, rfl⟩
theorem mem_faceSd {i : Nat} {f : List (List Pt)} {n : Nat} {s : Sd} (h : s ∈ faceSd i f n) : s.f = i ∧ s.r < n := by
  unfold faceSd at h
  obtain ⟨k, hk, h2⟩ := List.mem_flatMap.1 h
  have := mem_ringSd h2
  have := List.mem_range.1 hk
  exact ⟨by omega, by omega⟩
theorem mem_someSd {l : List (List (List Pt))} {n : Nat} {s : Sd} (h : s ∈ someSd l n) : s.f < n := by
  unfold someSd at h
  obtain ⟨k, hk, h2⟩ := List.mem_flatMap.1 h
  have := mem_faceSd h2
  have := List.mem_range.1 hk
  omega
theorem badS_same {a b : Sd} (h : badS a b) : sameR a b := by
  rcases h with ⟨h, -⟩ | ⟨-, h, -⟩
  · exact h.1
  · exact h
theorem face_PW (i : Nat) (f : List (List Pt)) (n : Nat) : PW badS (faceSd i f n) ↔ ∀ k, k < n → PW badS (ringSd i k f[k]!) := by
  induction n with
  | zero => exact ⟨fun _ k h => by omega, fun _ => List.Pairwise.nil⟩
  | succ n ih =>
    rw [faceSd_succ, PW_append badS _ _ (fun a ha b hb hbad => by
      have := (badS_same hbad).2
      have := (mem_faceSd ha).2
      have := (mem_ringSd hb).2
      omega), ih]
    constructor
    · rintro ⟨h1, h2⟩ k hk
      by_cases g : k = n
      · rw [g]; exact h2
      · exact h1 k (by omega)
    · intro h
      exact ⟨fun k hk => h k (by omega), h n (by omega)⟩
theorem some_PW (l : List (List (List Pt))) (n : Nat) : PW badS (someSd l n) ↔ ∀ i, i < n → ∀ k, k < (l[i]!).length → PW badS (ringSd i k (l[i]!)[k]!) := by
  induction n with
  | zero => exact ⟨fun _ k h => by omega, fun _ => List.Pairwise.nil⟩
  | succ n ih =>
    rw [someSd_succ, PW_append badS _ _ (fun a ha b hb hbad => by
      have := (badS_same hbad).1
      have := mem_someSd ha
      have := (mem_faceSd hb).1
      omega), ih, face_PW]
    constructor
    · rintro ⟨h1, h2⟩ k hk
      by_cases g : k = n
      · rw [g]; exact h2
      · exact h1 k (by omega)
    · intro h
      exact ⟨fun k hk => h k (by omega), h n (by omega)⟩
theorem smp_iff (F : List (List (List Pt))) : smpR F ↔ rightR F = true ∧ PW badS (allSd F) := by
  unfold allSd
  rw [some_PW]
  constructor
  · intro h
    refine ⟨?_, fun i hi k hk => ?_⟩
    · unfold rightR
      rw [List.all_eq_true]
      intro f hf
      rw [List.all_eq_true]
      intro r hr
      have := h f hf r hr
      exact (single_ok r).2 ⟨this.1, this.2.1, this.2.2.1⟩
    · have := h _ (mem_getE hi) _ (mem_getE hk)
      exact (ring_PW ⟨this.1, this.2.1, this.2.2.1⟩ i k).1 this.2.2.2
  · rintro ⟨h1, h2⟩ f hf r hr
    have h3 := (single_ok r).1 (List.all_eq_true.1 (List.all_eq_true.1 h1 f hf) r hr)
    obtain ⟨i, hi, rfl⟩ := List.mem_iff_getElem.1 hf
    obtain ⟨k, hk, rfl⟩ := List.mem_iff_getElem.1 hr
    have h4 := h2 i hi k (by rw [getElem!_pos F i hi]; exact hk)
    rw [getElem!_pos F i hi, getElem!_pos _ k hk] at h4
    exact ⟨h3.1, h3.2.1, h3.2.2, (ring_PW h3 i k).2 h4⟩
end Go
/- The document's Valid and the program's tell the same: the sums (plain). -/
set_option linter.unusedVariables false
set_option linter.unusedSimpArgs false
namespace Go
open Go.RowKit
theorem over_eq (a b : Pt) (y : Int) : overF (a.y + b.y) (b.x - a.x) y = besOver (besM a b) (besV a b) y := by
  unfold overF besOver besM besV
  dsimp only
  split
  · rename_i h
    rw [decide_eq_true h, Bool.and_true, ← Bool.decide_or]
    apply decide_eq_decide.2; omega
  · rename_i h
    rw [decide_eq_false h, Bool.and_false, Bool.or_false]
theorem side_eq (p q a b : Pt) : sideF p q a b = besSide (besM a b) (besV a b) p q := rfl
theorem pass_eq (p q a b : Pt) : passF p q a b = besE (besM a b) (besV a b) (p, q) := by
  unfold passF besE
  dsimp only
  rw [over_eq, over_eq, side_eq]
  generalize besSide (besM a b) (besV a b) p q = SD
  cases besOver (besM a b) (besV a b) p.y <;> cases besOver (besM a b) (besV a b) q.y <;> simp
theorem sumS_append (a b : Pt) (A B : List Sd) (j : Int) : sumS a b (A ++ B) j = sumS a b A j + sumS a b B j := by
  unfold sumS
  rw [List.map_append, List.sum_append]
theorem sumS_none (a b : Pt) (S : List Sd) (j : Int) (h : ∀ s ∈ S, (s.f : Int) ≠ j) : sumS a b S j = 0 := by
  induction S with
  | nil => rfl
  | cons s S ih =>
    have h1 := ih (fun x hx => h x (List.mem_cons_of_mem _ hx))
    unfold sumS at h1 ⊢
    rw [List.map_cons, List.sum_cons, h1, if_neg (h s List.mem_cons_self)]
    rfl
theorem sumS_ring (a b : Pt) (i k : Nat) (r : List Pt) : sumS a b (ringSd i k r) i = besS (besM a b) (besV a b) (edges r) := by
  rw [besS_sum]
  unfold sumS ringSd
  rw [List.map_map]
  congr 1
  apply List.map_congr_left
  intro e _
  show (if (i : Int) = (i : Int) then passF e.1 e.2 a b else 0) = _
  rw [if_pos rfl, pass_eq]
def besR (a b : Pt) (f : List (List Pt)) : Int := (f.map fun r => besS (besM a b) (besV a b) (edges r)).sum
theorem sumS_face (a b : Pt) (i : Nat) (f : List (List Pt)) (n : Nat) (hn : n ≤ f.length) : sumS a b (faceSd i f n) i = besR a b (f.take n) := by
  induction n with
  | zero => rfl
  | succ n ih =>
    rw [faceSd_succ, sumS_append, ih (by omega), sumS_ring, List.take_succ_eq_append_getElem (show n < f.length by omega), getElem!_pos f n (by omega)]
    unfold besR
    rw [List.map_append, List.sum_append]
    simp
theorem sumS_some (a b : Pt) (F : List (List (List Pt))) (k n : Nat) : sumS a b (someSd F n) k = if k < n then besR a b F[k]! else 0 := by
  induction n with
  | zero => rfl
  | succ n ih =>
    rw [someSd_succ, sumS_append, ih]
    by_cases h : k = n
    · subst h
      rw [if_neg (Nat.lt_irrefl _), if_pos (Nat.lt_succ_self _), sumS_face a b k _ _ (Nat.le_refl _), List.take_length]
      omega
    · rw [sumS_none a b _ k (fun s hs => by have := (mem_faceSd hs).1; omega)]
      by_cases g : k < n
      · rw [if_pos g, if_pos (by omega)]; omega
      · rw [if_neg g, if_neg (by omega)]; rfl
theorem sumS_all (a b : Pt) (F : List (List (List Pt))) (k : Nat) (hk : k < F.length) : sumS a b (allSd F) k = besR a b F[k]! := by
  unfold allSd
  rw [sumS_some, if_pos hk]
theorem sd_f {F : List (List (List Pt))} {s : Sd} (h : s ∈ allSd F) : s.f < F.length := by
  unfold allSd at h
  exact mem_someSd h
theorem round_bes (a b : Pt) (hab : a ≠ b) (f : List (List Pt)) (h : roundOk f a b = true) : roundN f a b = besR a b f := by
  unfold roundN
  rw [if_pos h]
  unfold roundS besR
  congr 1
  apply List.map_congr_left
  intro r hr
  refine (besS_albT _ _ ?_ r (List.all_eq_true.1 h r hr)).symm
  unfold besV
  dsimp only
  intro ⟨h1, h2⟩
  exact hab (pt_eq h1 h2)
theorem beside_swap (a b c d : Pt) : besHas (besM b a) (besV b a) c d = besHas (besM a b) (besV a b) c d := by
  have e1 : besM b a = besM a b := by unfold besM; rw [Int.add_comm, Int.add_comm b.y]
  have e2 : ((d.x - c.x) * (besV b a).y = (d.y - c.y) * (besV b a).x) = ((d.x - c.x) * (besV a b).y = (d.y - c.y) * (besV a b).x) := by
    unfold besV
    dsimp only
    apply propext
    constructor <;> (intro h; grind)
  unfold besHas
  rw [e1]
  simp only [e2]
theorem off_all {F : List (List (List Pt))} (h : smpR F) (hm : matchP (allSd F) (allSd F).length) {s t : Sd} (hs : s ∈ allSd F) (ht : t ∈ allSd F) : besHas (besM s.a s.b) (besV s.a s.b) t.a t.b = false := by
  cases hb : besHas (besM s.a s.b) (besV s.a s.b) t.a t.b with
  | false => rfl
  | true =>
    exfalso
    have is := sd_in h s hs
    have it := sd_in h t ht
    obtain ⟨c0, c1, c5⟩ := mid_cls _ _ _ _ is.2.2 it.2.2 hb
    by_cases hsame : sameR s t
    · obtain ⟨i, k, n, h1, h2, h3, rfl⟩ := mem_allSd.1 hs
      obtain ⟨i', k', m, h1', h2', h3', rfl⟩ := mem_allSd.1 ht
      obtain ⟨e1, e2⟩ := hsame
      dsimp only at e1 e2
      subst e1 e2
      have hr := h _ (mem_getE h1) _ (mem_getE h2)
      generalize (F[i]!)[k]! = r at *
      rcases Nat.lt_trichotomy n m with g | g | g
      · have h4 := hr.2.2.2 m h3' n g
        unfold clsOk at h4
        rw [rcls_segs _ _ _ _ is.2.2 it.2.2] at h4
        dsimp only at c0 c1
        rw [h4] at c0 c1
        unfold wantS at c0 c1
        split at c0 <;> simp_all
      · subst g; exact c5 (by unfold rclsF; rw [if_pos (.inl ⟨rfl, rfl⟩)])
      · have h4 := hr.2.2.2 n h3 m g
        unfold clsOk at h4
        dsimp only at c0 c1
        rw [h4] at c0 c1
        unfold wantS at c0 c1
        split at c0 <;> simp_all
    · obtain ⟨i, hi, e1⟩ := List.mem_iff_getElem.1 hs
      obtain ⟨j, hj, e2⟩ := List.mem_iff_getElem.1 ht
      rcases Nat.lt_trichotomy i j with g | g | g
      · have h4 := hm j hj i g
        rw [getElem!_pos _ i hi, getElem!_pos _ j hj, e1, e2] at h4
        unfold mOk at h4
        rw [rcls_swap is it] at h4
        rcases h4 with h4 | h4
        · exact hsame ⟨h4.1.symm, h4.2.symm⟩
        · omega
      · subst g; rw [e1] at e2; subst e2; exact hsame ⟨rfl, rfl⟩
      · have h4 := hm i hi j g
        rw [getElem!_pos _ i hi, getElem!_pos _ j hj, e1, e2] at h4
        unfold mOk at h4
        rcases h4 with h4 | h4
        · exact hsame h4
        · omega
theorem edge_side {F : List (List (List Pt))} {f : List (List Pt)} (hf : f ∈ F) {r : List Pt} (hr : r ∈ f) {e : Pt × Pt} (he : e ∈ edges r) : ∃ t ∈ allSd F, t.a = e.1 ∧ t.b = e.2 := by
  obtain ⟨i, hi, rfl⟩ := List.mem_iff_getElem.1 hf
  obtain ⟨k, hk, rfl⟩ := List.mem_iff_getElem.1 hr
  unfold edges at he
  obtain ⟨n, hn, rfl⟩ := List.mem_map.1 he
  have hn := List.mem_range.1 hn
  refine ⟨_, mem_allSd.2 ⟨i, k, n, hi, by rw [getElem!_pos F i hi]; exact hk, by rw [getElem!_pos F i hi, getElem!_pos _ k hk]; exact hn, rfl⟩, ?_⟩
  rw [getElem!_pos F i hi, getElem!_pos _ k hk]
  exact ⟨rfl, rfl⟩
theorem round_ok {F : List (List (List Pt))} (h : smpR F) (hm : matchP (allSd F) (allSd F).length) {s : Sd} (hs : s ∈ allSd F) {f : List (List Pt)} (hf : f ∈ F) : roundOk f s.a s.b = true ∧ roundOk f s.b s.a = true := by
  unfold roundOk
  rw [List.all_eq_true, List.all_eq_true]
  have key : ∀ r ∈ f, ∀ e ∈ edges r, besHas (besM s.a s.b) (besV s.a s.b) e.1 e.2 = false := by
    intro r hr e he
    obtain ⟨t, ht, e1, e2⟩ := edge_side hf hr he
    rw [← e1, ← e2]
    exact off_all h hm hs ht
  constructor
  · intro r hr
    rw [List.all_eq_true]
    intro e he
    unfold offM
    rw [key r hr e he]; rfl
  · intro r hr
    rw [List.all_eq_true]
    intro e he
    unfold offM
    rw [beside_swap, key r hr e he]; rfl
theorem sds_iff {F : List (List (List Pt))} (h : smpR F) (hm : matchP (allSd F) (allSd F).length) : sdsP F (allSd F) (allSd F).length ↔ sidesOk (allSd F) := by
  have key : ∀ s ∈ allSd F, (sdOkP F s ↔ (∀ j : Int, sumS s.a s.b (allSd F) j = if j = (s.f : Int) then 1 else 0) ∧ sumS s.b s.a (allSd F) s.f = 0) := by
    intro s hs
    have is := sd_in h s hs
    have hsf := sd_f hs
    unfold sdOkP sdAt
    constructor
    · intro g
      refine ⟨fun j => ?_, ?_⟩
      · by_cases hj : ∃ k : Nat, k < F.length ∧ j = (k : Int)
        · obtain ⟨k, hk, rfl⟩ := hj
          obtain ⟨g1, g2, g3, g4⟩ := g k hk
          rw [sumS_all _ _ F k hk, ← round_bes _ _ is.2.2 _ g1, g3]
          by_cases e : k = s.f
          · rw [if_pos e, if_pos (by omega)]
          · rw [if_neg e, if_neg (by omega)]
        · rw [if_neg (fun e => hj ⟨s.f, hsf, e⟩)]
          exact sumS_none _ _ _ _ (fun t ht e => hj ⟨t.f, sd_f ht, e.symm⟩)
      · obtain ⟨g1, g2, g3, g4⟩ := g s.f hsf
        rw [sumS_all _ _ F s.f hsf, ← round_bes _ _ (Ne.symm is.2.2) _ g2]
        exact g4 rfl
    · rintro ⟨g1, g2⟩ k hk
      obtain ⟨o1, o2⟩ := round_ok h hm hs (mem_getE hk)
      refine ⟨o1, o2, ?_, ?_⟩
      · have := g1 k
        rw [sumS_all _ _ F k hk, ← round_bes _ _ is.2.2 _ o1] at this
        rw [this]
        by_cases e : k = s.f
        · rw [if_pos e, if_pos (by omega)]
        · rw [if_neg e, if_neg (by omega)]
      · intro e
        subst e
        rw [sumS_all _ _ F _ hk, ← round_bes _ _ (Ne.symm is.2.2) _ o2] at g2
        exact g2
  unfold sdsP sidesOk
  constructor
  · intro g s hs
    obtain ⟨i, hi, rfl⟩ := List.mem_iff_getElem.1 hs
    have := g i hi
    rw [getElem!_pos _ i hi] at this
    exact (key _ hs).1 this
  · intro g i hi
    rw [getElem!_pos _ i hi]
    exact (key _ (List.getElem_mem hi)).2 (g _ (List.getElem_mem hi))
theorem rval_valid {F : List (List (List Pt))} {x y : Int} (h1 : RValIs F (allSd F) x) (h2 : ValidIs F y) : y = x := by
  rw [(validIs_iff F y).1 h2, validB_S]
  unfold vS v5
  by_cases hs : smpR F
  · obtain ⟨hr, hp⟩ := (smp_iff F).1 hs
    have hin := sd_in hs
    have hmq := match_PW hin
    have htn := tw_nodup (allSd F)
    rw [hr]
    rcases h1 with ⟨g, -⟩ | ⟨-, h1⟩
    · exact absurd hs g
    · rcases h1 with ⟨g, rfl⟩ | ⟨g, h1⟩
      · simp [hp, hmq.symm, g]
      · rcases h1 with ⟨g2, rfl⟩ | ⟨g2, h1⟩
        · simp [hp, hmq.symm, g, htn.symm, g2]
        · have hsd := sds_iff hs g
          rcases h1 with ⟨g3, rfl⟩ | ⟨g3, rfl⟩
          · simp [hp, hmq.symm, g, htn.symm, g2, hsd.symm, g3]
          · simp [hp, hmq.symm, g, htn.symm, g2, hsd.symm, g3]
  · rcases h1 with ⟨-, rfl⟩ | ⟨g, -⟩
    · cases hr : rightR F with
      | false => simp
      | true =>
        have hp : ¬ PW badS (allSd F) := fun hp => hs ((smp_iff F).2 ⟨hr, hp⟩)
        simp [hp]
    · exact absurd g hs
end Go
