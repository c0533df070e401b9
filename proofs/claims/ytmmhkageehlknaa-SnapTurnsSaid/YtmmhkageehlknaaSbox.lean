/-
  Cuts lie between both ends: in plain terms.
-/
import Derived.Test.YtmmhkageehlknaaSendp
set_option linter.unusedVariables false
set_option linter.unusedSimpArgs false
namespace Go
open Go.RowKit Go.Srt
def InBox (a b p : Pt) : Prop := (min a.x b.x ≤ p.x ∧ p.x ≤ max a.x b.x) ∧ min a.y b.y ≤ p.y ∧ p.y ≤ max a.y b.y
theorem round_between {n d lo hi : Int} (hd : 0 < d) (h1 : lo * d ≤ n) (h2 : n ≤ hi * d) : lo ≤ roundF n d ∧ roundF n d ≤ hi := by
  have e1 := Int.mul_ediv_add_emod n d
  have e2 := Int.emod_nonneg n (by omega : d ≠ 0)
  have e3 := Int.emod_lt_of_pos n hd
  have q1 : lo ≤ n / d := (Int.le_ediv_iff_mul_le hd).2 h1
  have q2 : n / d ≤ hi := by
    have := Int.ediv_le_ediv hd h2
    rwa [Int.mul_ediv_cancel _ (by omega)] at this
  have e4 : n - n / d * d = n % d := by rw [Int.mul_comm]; omega
  unfold roundF
  rw [e4]
  split
  · refine ⟨by omega, ?_⟩
    by_cases h : n / d = hi
    · exfalso
      rw [h] at e1
      rw [Int.mul_comm] at e1
      omega
    · omega
  · exact ⟨q1, q2⟩
theorem seg_between {y1 y2 t D : Int} (ht : 0 ≤ t) (htD : t ≤ D) : min y1 y2 * D ≤ y1 * D + (y2 - y1) * t ∧ y1 * D + (y2 - y1) * t ≤ max y1 y2 * D := by
  rcases Int.le_total y1 y2 with h | h
  · rw [Int.min_eq_left h, Int.max_eq_right h]
    have h1 : 0 ≤ (y2 - y1) * t := Int.mul_nonneg (by omega) ht
    have h2 : (y2 - y1) * t ≤ (y2 - y1) * D := Int.mul_le_mul_of_nonneg_left htD (by omega)
    have h3 : y1 * D + (y2 - y1) * D = y2 * D := by grind
    omega
  · rw [Int.min_eq_right h, Int.max_eq_left h]
    have h1 : 0 ≤ (y1 - y2) * t := Int.mul_nonneg (by omega) ht
    have h2 : (y1 - y2) * t ≤ (y1 - y2) * D := Int.mul_le_mul_of_nonneg_left htD (by omega)
    have h3 : y1 * D - (y1 - y2) * D = y2 * D := by grind
    have h4 : (y2 - y1) * t = - ((y1 - y2) * t) := by grind
    omega
theorem at_box {a b : Pt} {c : Int} (h : (atF a b c).2 = true) : (min a.x b.x < c ∧ c < max a.x b.x) ∧ min a.y b.y ≤ (atF a b c).1 ∧ (atF a b c).1 ≤ max a.y b.y := by
  obtain ⟨-, ⟨h1, h2, e⟩ | ⟨h1, h2, e⟩⟩ := at_in h
  · refine ⟨by omega, ?_⟩
    rw [e]
    obtain ⟨g1, g2⟩ := seg_between (y1 := a.y) (y2 := b.y) (t := c - a.x) (D := b.x - a.x) (by omega) (by omega)
    exact round_between (by omega) g1 g2
  · refine ⟨by omega, ?_⟩
    rw [e]
    obtain ⟨g1, g2⟩ := seg_between (y1 := b.y) (y2 := a.y) (t := c - b.x) (D := a.x - b.x) (by omega) (by omega)
    rw [Int.min_comm, Int.max_comm]
    exact round_between (by omega) g1 g2
theorem cutRow_box {a b : Pt} {xs ys : List Int} {k : Cu} (h : k ∈ cutRow a b xs ys) : InBox a b k.at := by
  rcases cutRow_mem h with ⟨c, h⟩ | ⟨c, h⟩
  · obtain ⟨h2, rfl⟩ := cutX_some h
    have := at_box h2
    unfold InBox Cu.at
    dsimp only
    omega
  · obtain ⟨h2, rfl⟩ := cutY_some h
    have := at_box h2
    unfold InBox Cu.at
    dsimp only at *
    omega
theorem cutPts_mem {a b p : Pt} {xs ys : List Int} (h : p ∈ cutPts a b xs ys) : ∃ k ∈ cutRow a b xs ys, p = k.at := by
  obtain ⟨k, hk, rfl⟩ := List.mem_map.1 h
  exact ⟨k, (cutSeq_ok a b xs ys).1.mem_iff.1 hk, rfl⟩
theorem cutPts_box {a b p : Pt} {xs ys : List Int} (h : p ∈ cutPts a b xs ys) : InBox a b p := by
  obtain ⟨k, hk, rfl⟩ := cutPts_mem h
  exact cutRow_box hk
theorem ded_mem {l : List Pt} {p : Pt} (h : p ∈ ded l) : p ∈ l := by
  induction l with
  | nil => exact h
  | cons q l ih =>
    cases l with
    | nil => exact h
    | cons r l =>
      rw [ded] at h
      split at h
      · exact List.mem_cons_of_mem _ (ih h)
      · rcases List.mem_cons.1 h with h | h
        · rw [h]; exact List.mem_cons_self ..
        · exact List.mem_cons_of_mem _ (ih h)
theorem cutsF_box {a b p : Pt} {xs ys : List Int} (h : p ∈ cutsF a b xs ys) : InBox a b p := by
  unfold cutsF at h
  rw [thinP_ded] at h
  have h1 := ded_mem (List.mem_of_mem_drop ((List.dropLast_sublist _).subset h))
  rcases List.mem_append.1 h1 with h2 | h2
  · rcases List.mem_cons.1 h2 with rfl | h2
    · unfold InBox; omega
    · exact cutPts_box h2
  · obtain rfl := List.mem_singleton.1 h2
    unfold InBox; omega
end Go
