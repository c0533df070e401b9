/-
  Classes and cuts of what is moved together: in plain terms.
-/
import Derived.Test.YtmnekbnhodadcaaSturnp
set_option linter.unusedVariables false
set_option linter.unusedSimpArgs false
namespace Go
open Go.RowKit Go.Srt
/-- A point, moved. -/
def Pt.mv (v p : Pt) : Pt := ⟨p.x + v.x, p.y + v.y⟩
def Cu.mv (v : Pt) (c : Cu) : Cu := ⟨c.x + v.x, c.y + v.y, c.p, c.w⟩
theorem crs_mv (v a b c : Pt) : crs (a.mv v) (b.mv v) (c.mv v) = crs a b c := by unfold crs Pt.mv; dsimp only; grind
theorem mv_eq (v a b : Pt) : Pt.mv v a = Pt.mv v b ↔ a = b := by
  obtain ⟨ax, ay⟩ := a
  obtain ⟨bx, bY⟩ := b
  unfold Pt.mv
  simp only [Pt.mk.injEq]
  omega
theorem crs_mv' (v a b c : Pt) : crs (Pt.mv v a) (Pt.mv v b) (Pt.mv v c) = crs a b c := by unfold crs Pt.mv; dsimp only; grind
theorem less_mv (v a b : Pt) : lessP (Pt.mv v a) (Pt.mv v b) = lessP a b := by
  unfold lessP Pt.mv
  dsimp only
  have h1 : (a.x + v.x < b.x + v.x) ↔ a.x < b.x := by omega
  have h2 : (a.x + v.x = b.x + v.x) ↔ a.x = b.x := by omega
  have h3 : (a.y + v.y < b.y + v.y) ↔ a.y < b.y := by omega
  simp only [h1, h2, h3]
theorem line_mv (v a b c d : Pt) : lineF (Pt.mv v a) (Pt.mv v b) (Pt.mv v c) (Pt.mv v d) = lineF a b c d := by
  unfold lineF
  rw [less_mv, less_mv]
  have e : ∀ (q : Bool) (x y : Pt), (if q then Pt.mv v x else Pt.mv v y) = Pt.mv v (if q then x else y) := fun q x y => by cases q <;> rfl
  simp only [e, less_mv, mv_eq]
theorem cls_mv (v a b c d : Pt) : clsF (Pt.mv v a) (Pt.mv v b) (Pt.mv v c) (Pt.mv v d) = clsF a b c d := by
  unfold clsF
  simp only [crs_mv', mv_eq, line_mv]
/-- Near enough to be moved. -/
def Near (p : Pt) : Prop := (-1048576 ≤ p.x ∧ p.x ≤ 1048576) ∧ (-1048576 ≤ p.y ∧ p.y ≤ 1048576)
theorem near_ok {p : Pt} (h : Near p) : okPt p = true := by rw [okPt_iff]; unfold Near at h; omega
theorem near_mv {v p : Pt} (hv : Near v) (h : Near p) : okPt (Pt.mv v p) = true := by
  rw [okPt_iff]; unfold Near at *; unfold Pt.mv; dsimp only; omega
theorem clsR_mv (v a b c d : Pt) (hv : Near v) (ha : Near a) (hb : Near b) (hc : Near c) (hd : Near d) : clsR (Pt.mv v a) (Pt.mv v b) (Pt.mv v c) (Pt.mv v d) = clsR a b c d := by
  unfold clsR
  have e1 : [a, b, c, d].all okPt = true := by simp [near_ok ha, near_ok hb, near_ok hc, near_ok hd]
  have e2 : [Pt.mv v a, Pt.mv v b, Pt.mv v c, Pt.mv v d].all okPt = true := by simp [near_mv hv ha, near_mv hv hb, near_mv hv hc, near_mv hv hd]
  simp only [e1, e2, mv_eq, cls_mv]
theorem round_mv (n d k : Int) (hd : 0 < d) : roundF (n + k * d) d = roundF n d + k := by
  unfold roundF
  rw [Int.add_mul_ediv_right _ _ (by omega)]
  have e : n + k * d - (n / d + k) * d = n - n / d * d := by grind
  rw [e]
  split <;> omega
theorem at_mv {v a b : Pt} {c : Int} (hv : Near v) (ha : Near a) (hb : Near b) : (atF (Pt.mv v a) (Pt.mv v b) (c + v.x)).2 = (atF a b c).2 ∧ ((atF a b c).2 = true → (atF (Pt.mv v a) (Pt.mv v b) (c + v.x)).1 = (atF a b c).1 + v.y) := by
  have o1 := near_ok ha
  have o2 := near_ok hb
  have o3 := near_mv hv ha
  have o4 := near_mv hv hb
  unfold atF
  by_cases h : b.x < a.x
  · have h' : (Pt.mv v b).x < (Pt.mv v a).x := by unfold Pt.mv; dsimp only; omega
    simp only [h, h', if_true, List.all_cons, List.all_nil, o1, o2, o3, o4, Bool.and_true]
    by_cases hc : c ≤ b.x ∨ a.x ≤ c
    · have hc' : c + v.x ≤ (Pt.mv v b).x ∨ (Pt.mv v a).x ≤ c + v.x := by unfold Pt.mv; dsimp only; omega
      rw [if_pos (.inr hc'), if_pos (.inr hc)]
      exact ⟨rfl, fun h => by cases h⟩
    · have hc' : ¬ (c + v.x ≤ (Pt.mv v b).x ∨ (Pt.mv v a).x ≤ c + v.x) := by unfold Pt.mv; dsimp only; omega
      rw [if_neg (by simpa using hc'), if_neg (by simpa using hc)]
      refine ⟨rfl, fun _ => ?_⟩
      unfold Pt.mv
      dsimp only
      have hd : 0 < a.x - b.x := by omega
      rw [show a.x + v.x - (b.x + v.x) = a.x - b.x by omega, show a.y + v.y - (b.y + v.y) = a.y - b.y by omega, show c + v.x - (b.x + v.x) = c - b.x by omega, ← round_mv _ _ _ hd]
      congr 1
      grind
  · have h' : ¬ (Pt.mv v b).x < (Pt.mv v a).x := by unfold Pt.mv; dsimp only; omega
    simp only [h, h', if_false, List.all_cons, List.all_nil, o1, o2, o3, o4, Bool.and_true]
    by_cases hc : c ≤ a.x ∨ b.x ≤ c
    · have hc' : c + v.x ≤ (Pt.mv v a).x ∨ (Pt.mv v b).x ≤ c + v.x := by unfold Pt.mv; dsimp only; omega
      rw [if_pos (.inr hc'), if_pos (.inr hc)]
      exact ⟨rfl, fun h => by cases h⟩
    · have hc' : ¬ (c + v.x ≤ (Pt.mv v a).x ∨ (Pt.mv v b).x ≤ c + v.x) := by unfold Pt.mv; dsimp only; omega
      rw [if_neg (by simpa using hc'), if_neg (by simpa using hc)]
      refine ⟨rfl, fun _ => ?_⟩
      unfold Pt.mv
      dsimp only
      have hd : 0 < b.x - a.x := by omega
      rw [show b.x + v.x - (a.x + v.x) = b.x - a.x by omega, show b.y + v.y - (a.y + v.y) = b.y - a.y by omega, show c + v.x - (a.x + v.x) = c - a.x by omega, ← round_mv _ _ _ hd]
      congr 1
      grind
theorem cutX_mv {v a b : Pt} (hv : Near v) (ha : Near a) (hb : Near b) (c : Int) : cutX (Pt.mv v a) (Pt.mv v b) (c + v.x) = (cutX a b c).map (Cu.mv v) := by
  obtain ⟨h1, h2⟩ := at_mv (c := c) hv ha hb
  unfold cutX
  rw [h1]
  by_cases h : (atF a b c).2 = true
  · rw [if_pos h, if_pos h, h2 h]
    simp only [Option.map_some, Cu.mv, Option.some.injEq, Cu.mk.injEq, true_and, Pt.mv]
    omega
  · rw [if_neg h, if_neg h]; rfl
theorem cutY_mv {v a b : Pt} (hv : Near v) (ha : Near a) (hb : Near b) (c : Int) : cutY (Pt.mv v a) (Pt.mv v b) (c + v.y) = (cutY a b c).map (Cu.mv v) := by
  have hs : ∀ {p : Pt}, Near p → Near ⟨p.y, p.x⟩ := fun h => ⟨h.2, h.1⟩
  obtain ⟨h1, h2⟩ := at_mv (v := ⟨v.y, v.x⟩) (a := ⟨a.y, a.x⟩) (b := ⟨b.y, b.x⟩) (c := c) (hs hv) (hs ha) (hs hb)
  unfold cutY
  have e1 : Pt.mv ⟨v.y, v.x⟩ ⟨a.y, a.x⟩ = ⟨(Pt.mv v a).y, (Pt.mv v a).x⟩ := rfl
  have e2 : Pt.mv ⟨v.y, v.x⟩ ⟨b.y, b.x⟩ = ⟨(Pt.mv v b).y, (Pt.mv v b).x⟩ := rfl
  rw [e1, e2] at h1 h2
  dsimp only at h1 h2
  rw [h1]
  by_cases h : (atF ⟨a.y, a.x⟩ ⟨b.y, b.x⟩ c).2 = true
  · rw [if_pos h, if_pos h, h2 h]
    simp only [Option.map_some, Cu.mv, Option.some.injEq, Cu.mk.injEq, true_and, Pt.mv]
    omega
  · rw [if_neg h, if_neg h]; rfl
theorem filterMap_mv {f g : Int → Option Cu} (v : Pt) (k : Int) (h : ∀ c, g (c + k) = (f c).map (Cu.mv v)) (xs : List Int) : (xs.map (· + k)).filterMap g = (xs.filterMap f).map (Cu.mv v) := by
  rw [List.filterMap_map, List.map_filterMap]
  congr 1
  funext c
  exact h c
theorem cutRow_mv {v a b : Pt} (hv : Near v) (ha : Near a) (hb : Near b) (xs ys : List Int) : cutRow (Pt.mv v a) (Pt.mv v b) (xs.map (· + v.x)) (ys.map (· + v.y)) = (cutRow a b xs ys).map (Cu.mv v) := by
  unfold cutRow
  rw [List.map_append, filterMap_mv v v.x (cutX_mv hv ha hb), filterMap_mv v v.y (cutY_mv hv ha hb)]
theorem cutPts_mv {v a b : Pt} (hv : Near v) (ha : Near a) (hb : Near b) (xs ys : List Int) : cutPts (Pt.mv v a) (Pt.mv v b) (xs.map (· + v.x)) (ys.map (· + v.y)) = (cutPts a b xs ys).map (Pt.mv v) := by
  obtain ⟨p, s⟩ := cutSeq_ok a b xs ys
  have e := cutPts_of (Pt.mv v a) (Pt.mv v b) (xs.map (· + v.x)) (ys.map (· + v.y)) ((cutSeq a b xs ys).map (Cu.mv v)) ?_ ?_
  · rw [← e, List.map_map]
    unfold cutPts
    rw [List.map_map]
    rfl
  · rw [cutRow_mv hv ha hb]
    exact p.map _
  · refine SR_of_pairwise ?_
    rw [List.pairwise_map]
    exact s.pairwise
theorem ded_mv (v : Pt) (l : List Pt) : ded (l.map (Pt.mv v)) = (ded l).map (Pt.mv v) := by
  induction l with
  | nil => rfl
  | cons p l ih =>
    cases l with
    | nil => rfl
    | cons q l =>
      rw [List.map_cons, List.map_cons, ded, ded]
      rw [List.map_cons] at ih
      by_cases h : p = q
      · rw [if_pos h, if_pos ((mv_eq v p q).2 h)]; exact ih
      · rw [if_neg h, if_neg (fun h' => h ((mv_eq v p q).1 h')), List.map_cons, ih]
theorem cutsF_mv {v a b : Pt} (hv : Near v) (ha : Near a) (hb : Near b) (xs ys : List Int) : cutsF (Pt.mv v a) (Pt.mv v b) (xs.map (· + v.x)) (ys.map (· + v.y)) = (cutsF a b xs ys).map (Pt.mv v) := by
  unfold cutsF
  rw [cutPts_mv hv ha hb, thinP_ded, thinP_ded]
  rw [show Pt.mv v a :: (cutPts a b xs ys).map (Pt.mv v) ++ [Pt.mv v b] = (a :: cutPts a b xs ys ++ [b]).map (Pt.mv v) by simp, ded_mv]
  rw [List.drop_one, List.drop_one, ← List.map_tail, List.map_dropLast]
end Go
