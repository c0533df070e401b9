/-
  Pieces lie between lines, cuts near the segment: in plain terms.
-/
import Derived.Test.YtmmhkageehlknaaSbox
set_option linter.unusedVariables false
set_option linter.unusedSimpArgs false
namespace Go
open Go.RowKit Go.Srt
theorem round_char (n d : Int) (hd : 0 < d) : (2 * roundF n d - 1) * d ≤ 2 * n ∧ 2 * n < (2 * roundF n d + 1) * d := by
  have e1 := Int.mul_ediv_add_emod n d
  have e2 := Int.emod_nonneg n (by omega : d ≠ 0)
  have e3 := Int.emod_lt_of_pos n hd
  have e4 : n - n / d * d = n % d := by rw [Int.mul_comm]; omega
  have e5 : n / d * d = n - n % d := by omega
  unfold roundF
  rw [e4]
  split
  · have h1 : (2 * (n / d + 1) - 1) * d = 2 * (n / d * d) + d := by grind
    have h2 : (2 * (n / d + 1) + 1) * d = 2 * (n / d * d) + 3 * d := by grind
    rw [h1, h2, e5]; omega
  · have h1 : (2 * (n / d) - 1) * d = 2 * (n / d * d) - d := by grind
    have h2 : (2 * (n / d) + 1) * d = 2 * (n / d * d) + d := by grind
    rw [h1, h2, e5]; omega
theorem round_mono {n1 d1 n2 d2 : Int} (h1 : 0 < d1) (h2 : 0 < d2) (h : n1 * d2 ≤ n2 * d1) : roundF n1 d1 ≤ roundF n2 d2 := by
  obtain ⟨a1, -⟩ := round_char n1 d1 h1
  obtain ⟨-, a2⟩ := round_char n2 d2 h2
  generalize roundF n1 d1 = r1 at *
  generalize roundF n2 d2 = r2 at *
  by_cases hc : r1 ≤ r2
  · exact hc
  · exfalso
    have b1 : (2 * r2 + 1) * d1 ≤ (2 * r1 - 1) * d1 := Int.mul_le_mul_of_nonneg_right (by omega) (by omega)
    have b2 : (2 * r2 + 1) * d1 * d2 ≤ 2 * n1 * d2 := Int.mul_le_mul_of_nonneg_right (by omega) (by omega)
    have b3 : 2 * n2 * d1 < (2 * r2 + 1) * d2 * d1 := Int.mul_lt_mul_of_pos_right a2 h1
    have b4 : (2 * r2 + 1) * d2 * d1 = (2 * r2 + 1) * d1 * d2 := by grind
    have b5 : 2 * n1 * d2 = 2 * (n1 * d2) := by grind
    have b6 : 2 * n2 * d1 = 2 * (n2 * d1) := by grind
    omega
/-- Where a cut lies, by how far it is. -/
theorem cut_form {a b : Pt} {xs ys : List Int} {k : Cu} (h : k ∈ cutRow a b xs ys) : 0 < k.w ∧ k.x = roundF (a.x * k.w + (b.x - a.x) * k.p) k.w ∧ k.y = roundF (a.y * k.w + (b.y - a.y) * k.p) k.w := by
  rcases cutRow_mem h with ⟨c, h⟩ | ⟨c, h⟩
  · obtain ⟨h2, rfl⟩ := cutX_some h
    obtain ⟨-, ⟨g1, g2, e⟩ | ⟨g1, g2, e⟩⟩ := at_in h2
    · dsimp only
      rw [show ((c - a.x).natAbs : Int) = c - a.x by omega, show ((b.x - a.x).natAbs : Int) = b.x - a.x by omega]
      refine ⟨by omega, ?_, e⟩
      rw [show a.x * (b.x - a.x) + (b.x - a.x) * (c - a.x) = c * (b.x - a.x) by grind, roundF_exact _ _ (by omega)]
    · dsimp only
      rw [show ((c - a.x).natAbs : Int) = a.x - c by omega, show ((b.x - a.x).natAbs : Int) = a.x - b.x by omega]
      refine ⟨by omega, ?_, ?_⟩
      · rw [show a.x * (a.x - b.x) + (b.x - a.x) * (a.x - c) = c * (a.x - b.x) by grind, roundF_exact _ _ (by omega)]
      · rw [e]; congr 1; grind
  · obtain ⟨h2, rfl⟩ := cutY_some h
    obtain ⟨-, ⟨g1, g2, e⟩ | ⟨g1, g2, e⟩⟩ := at_in h2
    · dsimp only at *
      rw [show ((c - a.y).natAbs : Int) = c - a.y by omega, show ((b.y - a.y).natAbs : Int) = b.y - a.y by omega]
      refine ⟨by omega, e, ?_⟩
      rw [show a.y * (b.y - a.y) + (b.y - a.y) * (c - a.y) = c * (b.y - a.y) by grind, roundF_exact _ _ (by omega)]
    · dsimp only at *
      rw [show ((c - a.y).natAbs : Int) = a.y - c by omega, show ((b.y - a.y).natAbs : Int) = a.y - b.y by omega]
      refine ⟨by omega, ?_, ?_⟩
      · rw [e]; congr 1; grind
      · rw [show a.y * (a.y - b.y) + (b.y - a.y) * (a.y - c) = c * (a.y - b.y) by grind, roundF_exact _ _ (by omega)]
theorem cut_mono {a b : Pt} {xs ys : List Int} {k l : Cu} (hk : k ∈ cutRow a b xs ys) (hl : l ∈ cutRow a b xs ys) (h : cmpC k l ≤ 0) :
    (a.x ≤ b.x → k.x ≤ l.x) ∧ (b.x ≤ a.x → l.x ≤ k.x) ∧ (a.y ≤ b.y → k.y ≤ l.y) ∧ (b.y ≤ a.y → l.y ≤ k.y) := by
  obtain ⟨k0, kx, ky⟩ := cut_form hk
  obtain ⟨l0, lx, ly⟩ := cut_form hl
  have hc : k.p * l.w ≤ l.p * k.w := by unfold cmpC at h; omega
  have up : ∀ s D : Int, 0 ≤ D → (s * k.w + D * k.p) * l.w ≤ (s * l.w + D * l.p) * k.w := fun s D hD => by
    have := Int.mul_le_mul_of_nonneg_left hc hD
    have e1 : (s * k.w + D * k.p) * l.w = s * k.w * l.w + D * (k.p * l.w) := by grind
    have e2 : (s * l.w + D * l.p) * k.w = s * k.w * l.w + D * (l.p * k.w) := by grind
    omega
  have dn : ∀ s D : Int, D ≤ 0 → (s * l.w + D * l.p) * k.w ≤ (s * k.w + D * k.p) * l.w := fun s D hD => by
    have := Int.mul_le_mul_of_nonneg_left hc (show 0 ≤ -D by omega)
    have e1 : (s * k.w + D * k.p) * l.w = s * k.w * l.w - -D * (k.p * l.w) := by grind
    have e2 : (s * l.w + D * l.p) * k.w = s * k.w * l.w - -D * (l.p * k.w) := by grind
    omega
  refine ⟨fun h => ?_, fun h => ?_, fun h => ?_, fun h => ?_⟩
  · rw [kx, lx]; exact round_mono k0 l0 (up _ _ (by omega))
  · rw [kx, lx]; exact round_mono l0 k0 (dn _ _ (by omega))
  · rw [ky, ly]; exact round_mono k0 l0 (up _ _ (by omega))
  · rw [ky, ly]; exact round_mono l0 k0 (dn _ _ (by omega))
/-- p is not behind q, seen from a to b. -/
def Along (a b p q : Pt) : Prop := (a.x ≤ b.x → p.x ≤ q.x) ∧ (b.x ≤ a.x → q.x ≤ p.x) ∧ (a.y ≤ b.y → p.y ≤ q.y) ∧ (b.y ≤ a.y → q.y ≤ p.y)
theorem along_pts (a b : Pt) (xs ys : List Int) : (cutPts a b xs ys).Pairwise (Along a b) := by
  obtain ⟨p, s⟩ := cutSeq_ok a b xs ys
  have := s.pairwise
  unfold cutPts
  rw [List.pairwise_map]
  exact List.Pairwise.imp_of_mem (fun {x y} hx hy h => cut_mono (p.mem_iff.1 hx) (p.mem_iff.1 hy) h) this
theorem along_box {a b p : Pt} (h : InBox a b p) : Along a b a p ∧ Along a b p b := by unfold InBox at h; unfold Along; omega
theorem ded_sub (l : List Pt) : (ded l).Sublist l := by
  induction l with
  | nil => exact List.Sublist.refl _
  | cons p l ih =>
    cases l with
    | nil => exact List.Sublist.refl _
    | cons q l =>
      rw [ded]
      split
      · exact ih.trans (List.sublist_cons_self _ _)
      · exact ih.cons_cons _
theorem mem_ded {l : List Pt} {p : Pt} (h : p ∈ l) : p ∈ ded l := by
  induction l with
  | nil => exact h
  | cons q l ih =>
    cases l with
    | nil => exact h
    | cons r l =>
      rw [ded]
      split
      · rename_i he
        subst he
        rcases List.mem_cons.1 h with rfl | h
        · exact ih (List.mem_cons_self ..)
        · exact ih h
      · rcases List.mem_cons.1 h with rfl | h
        · exact List.mem_cons_self ..
        · exact List.mem_cons_of_mem _ (ih h)
/-- All points of a segment: both ends, and cuts between. -/
def allPts (a b : Pt) (xs ys : List Int) : List Pt := a :: cutsF a b xs ys ++ [b]
theorem cutsF_sub (a b : Pt) (xs ys : List Int) : (cutsF a b xs ys).Sublist (a :: cutPts a b xs ys ++ [b]) := by
  unfold cutsF
  rw [thinP_ded]
  exact ((List.dropLast_sublist _).trans (List.drop_sublist _ _)).trans (ded_sub _)
theorem along_all (a b : Pt) (xs ys : List Int) : (allPts a b xs ys).Pairwise (Along a b) := by
  have hbx : ∀ p ∈ cutPts a b xs ys, InBox a b p := fun p hp => cutPts_box hp
  have h0 : (a :: cutPts a b xs ys ++ [b]).Pairwise (Along a b) := by
    rw [List.cons_append, List.pairwise_cons, List.pairwise_append]
    refine ⟨fun q hq => ?_, along_pts a b xs ys, List.pairwise_singleton _ _, fun p hp q hq => ?_⟩
    · rcases List.mem_append.1 hq with hq | hq
      · exact (along_box (hbx q hq)).1
      · obtain rfl := List.mem_singleton.1 hq
        unfold Along; omega
    · obtain rfl := List.mem_singleton.1 hq
      exact (along_box (hbx p hp)).2
  have h1 := h0.sublist (cutsF_sub a b xs ys)
  unfold allPts
  rw [List.cons_append, List.pairwise_cons, List.pairwise_append]
  refine ⟨fun q hq => ?_, h1, List.pairwise_singleton _ _, fun p hp q hq => ?_⟩
  · rcases List.mem_append.1 hq with hq | hq
    · exact (along_box (cutsF_box hq)).1
    · obtain rfl := List.mem_singleton.1 hq
      unfold Along; omega
  · obtain rfl := List.mem_singleton.1 hq
    exact (along_box (cutsF_box hp)).2
theorem all_box {a b p : Pt} {xs ys : List Int} (h : p ∈ allPts a b xs ys) : InBox a b p := by
  unfold allPts at h
  rcases List.mem_append.1 h with h | h
  · rcases List.mem_cons.1 h with rfl | h
    · unfold InBox; omega
    · exact cutsF_box h
  · obtain rfl := List.mem_singleton.1 h
    unfold InBox; omega
theorem mid_mem {l : List Pt} {p : Pt} (h : p ∈ l) : some p = l.head? ∨ p ∈ (l.drop 1).dropLast ∨ some p = l.getLast? := by
  cases l with
  | nil => cases h
  | cons a t =>
    rcases List.mem_cons.1 h with rfl | h
    · exact .inl rfl
    · rcases List.eq_nil_or_concat t with rfl | ⟨m, z, rfl⟩
      · cases h
      · rw [List.concat_eq_append] at h ⊢
        rcases List.mem_append.1 h with h | h
        · exact .inr (.inl (by simpa using h))
        · obtain rfl := List.mem_singleton.1 h
          exact .inr (.inr (by rw [List.getLast?_cons, List.getLast?_append]; simp))
theorem pts_all {a b p : Pt} {xs ys : List Int} (h : p ∈ cutPts a b xs ys) : p ∈ allPts a b xs ys := by
  have h1 : p ∈ ded (a :: cutPts a b xs ys ++ [b]) := mem_ded (List.mem_append_left _ (List.mem_cons_of_mem _ h))
  unfold allPts cutsF
  rw [thinP_ded]
  rcases mid_mem h1 with h2 | h2 | h2
  · obtain ⟨t, ht⟩ := ded_cons a (cutPts a b xs ys ++ [b])
    rw [List.cons_append, ht] at h2
    simp at h2
    rw [h2]; exact List.mem_append_left _ (List.mem_cons_self ..)
  · exact List.mem_append_left _ (List.mem_cons_of_mem _ h2)
  · obtain ⟨t, ht⟩ := ded_snoc (a :: cutPts a b xs ys) b
    rw [ht] at h2
    simp at h2
    rw [h2]; exact List.mem_append_right _ (List.mem_cons_self ..)
theorem at_yes {a b : Pt} {c : Int} (ha : okPt a = true) (hb : okPt b = true) (h : (a.x < c ∧ c < b.x) ∨ (b.x < c ∧ c < a.x)) : (atF a b c).2 = true := by
  unfold atF
  by_cases hs : b.x < a.x
  · simp only [hs, if_true, List.all_cons, List.all_nil, ha, hb, Bool.and_true]
    rw [if_neg (by simp; omega)]
  · simp only [hs, if_false, List.all_cons, List.all_nil, ha, hb, Bool.and_true]
    rw [if_neg (by simp; omega)]
theorem ok_flip {p : Pt} (h : okPt p = true) : okPt ⟨p.y, p.x⟩ = true := by rw [okPt_iff] at *; exact ⟨h.2, h.1⟩
/-- Both ends of a piece lie on one side of each line. -/
theorem piece_x {a b : Pt} {xs ys : List Int} (ha : okPt a = true) (hb : okPt b = true) {i : Nat} (hi : i + 1 < (allPts a b xs ys).length) {c : Int} (hc : c ∈ xs) :
    ¬ ((allPts a b xs ys)[i].x < c ∧ c < (allPts a b xs ys)[i + 1].x) ∧ ¬ ((allPts a b xs ys)[i + 1].x < c ∧ c < (allPts a b xs ys)[i].x) := by
  have hal := along_all a b xs ys
  rw [List.pairwise_iff_getElem] at hal
  have b1 := all_box (List.getElem_mem (show i < (allPts a b xs ys).length by omega))
  have b2 := all_box (List.getElem_mem hi)
  by_cases hin : (a.x < c ∧ c < b.x) ∨ (b.x < c ∧ c < a.x)
  · have hk : (⟨c, (atF a b c).1, ((c - a.x).natAbs : Nat), ((b.x - a.x).natAbs : Nat)⟩ : Cu) ∈ cutRow a b xs ys := by
      unfold cutRow
      refine List.mem_append_left _ (List.mem_filterMap.2 ⟨c, hc, ?_⟩)
      unfold cutX
      rw [if_pos (at_yes ha hb hin)]
    have hm : (⟨c, (atF a b c).1⟩ : Pt) ∈ allPts a b xs ys := pts_all (by
      unfold cutPts
      exact List.mem_map.2 ⟨_, (cutSeq_ok a b xs ys).1.mem_iff.2 hk, rfl⟩)
    obtain ⟨j, hj, he⟩ := List.getElem_of_mem hm
    have hx : (allPts a b xs ys)[j].x = c := by rw [he]
    have h1 := hal i (i + 1) (by omega) hi (by omega)
    by_cases hji : j ≤ i
    · by_cases hje : j = i
      · subst hje; unfold Along at h1; omega
      · have h2 := hal j i hj (by omega) (by omega)
        unfold Along at h1 h2; omega
    · by_cases hje : j = i + 1
      · subst hje; unfold Along at h1; omega
      · have h2 := hal (i + 1) j hi hj (by omega)
        unfold Along at h1 h2; omega
  · unfold InBox at b1 b2; omega
theorem piece_y {a b : Pt} {xs ys : List Int} (ha : okPt a = true) (hb : okPt b = true) {i : Nat} (hi : i + 1 < (allPts a b xs ys).length) {c : Int} (hc : c ∈ ys) :
    ¬ ((allPts a b xs ys)[i].y < c ∧ c < (allPts a b xs ys)[i + 1].y) ∧ ¬ ((allPts a b xs ys)[i + 1].y < c ∧ c < (allPts a b xs ys)[i].y) := by
  have hal := along_all a b xs ys
  rw [List.pairwise_iff_getElem] at hal
  have b1 := all_box (List.getElem_mem (show i < (allPts a b xs ys).length by omega))
  have b2 := all_box (List.getElem_mem hi)
  by_cases hin : (a.y < c ∧ c < b.y) ∨ (b.y < c ∧ c < a.y)
  · have hk : (⟨(atF ⟨a.y, a.x⟩ ⟨b.y, b.x⟩ c).1, c, ((c - a.y).natAbs : Nat), ((b.y - a.y).natAbs : Nat)⟩ : Cu) ∈ cutRow a b xs ys := by
      unfold cutRow
      refine List.mem_append_right _ (List.mem_filterMap.2 ⟨c, hc, ?_⟩)
      unfold cutY
      rw [if_pos (at_yes (ok_flip ha) (ok_flip hb) hin)]
    have hm : (⟨(atF ⟨a.y, a.x⟩ ⟨b.y, b.x⟩ c).1, c⟩ : Pt) ∈ allPts a b xs ys := pts_all (by
      unfold cutPts
      exact List.mem_map.2 ⟨_, (cutSeq_ok a b xs ys).1.mem_iff.2 hk, rfl⟩)
    obtain ⟨j, hj, he⟩ := List.getElem_of_mem hm
    have hx : (allPts a b xs ys)[j].y = c := by rw [he]
    have h1 := hal i (i + 1) (by omega) hi (by omega)
    by_cases hji : j ≤ i
    · by_cases hje : j = i
      · subst hje; unfold Along at h1; omega
      · have h2 := hal j i hj (by omega) (by omega)
        unfold Along at h1 h2; omega
    · by_cases hje : j = i + 1
      · subst hje; unfold Along at h1; omega
      · have h2 := hal (i + 1) j hi hj (by omega)
        unfold Along at h1 h2; omega
  · unfold InBox at b1 b2; omega
theorem near_row {a b : Pt} {xs ys : List Int} {k : Cu} (h : k ∈ cutRow a b xs ys) : 2 * ((crs a b k.at).natAbs : Int) ≤ max ((a.x - b.x).natAbs : Int) ((a.y - b.y).natAbs : Int) := by
  obtain ⟨w0, kx, ky⟩ := cut_form h
  rcases cutRow_mem h with ⟨c, h⟩ | ⟨c, h⟩
  · obtain ⟨h2, rfl⟩ := cutX_some h
    have hs := at_side h2
    obtain ⟨r1, r2⟩ := round_char (a.y * ((b.x - a.x).natAbs : Int) + (b.y - a.y) * ((c - a.x).natAbs : Int)) ((b.x - a.x).natAbs : Int) w0
    dsimp only at ky
    rw [← ky] at r1 r2
    unfold crs Cu.at
    dsimp only
    generalize (atF a b c).1 = r at *
    rcases hs with hs | hs
    · rw [show ((b.x - a.x).natAbs : Int) = b.x - a.x by omega, show ((c - a.x).natAbs : Int) = c - a.x by omega] at r1 r2
      have e : (b.x - a.x) * (r - a.y) - (b.y - a.y) * (c - a.x) = r * (b.x - a.x) - (a.y * (b.x - a.x) + (b.y - a.y) * (c - a.x)) := by grind
      have e1 : (2 * r - 1) * (b.x - a.x) = 2 * (r * (b.x - a.x)) - (b.x - a.x) := by grind
      have e2 : (2 * r + 1) * (b.x - a.x) = 2 * (r * (b.x - a.x)) + (b.x - a.x) := by grind
      rw [e]; omega
    · rw [show ((b.x - a.x).natAbs : Int) = a.x - b.x by omega, show ((c - a.x).natAbs : Int) = a.x - c by omega] at r1 r2
      have e : (b.x - a.x) * (r - a.y) - (b.y - a.y) * (c - a.x) = (a.y * (a.x - b.x) + (b.y - a.y) * (a.x - c)) - r * (a.x - b.x) := by grind
      have e1 : (2 * r - 1) * (a.x - b.x) = 2 * (r * (a.x - b.x)) - (a.x - b.x) := by grind
      have e2 : (2 * r + 1) * (a.x - b.x) = 2 * (r * (a.x - b.x)) + (a.x - b.x) := by grind
      rw [e]; omega
  · obtain ⟨h2, rfl⟩ := cutY_some h
    have hs := at_side h2
    obtain ⟨r1, r2⟩ := round_char (a.x * ((b.y - a.y).natAbs : Int) + (b.x - a.x) * ((c - a.y).natAbs : Int)) ((b.y - a.y).natAbs : Int) w0
    dsimp only at kx hs
    rw [← kx] at r1 r2
    unfold crs Cu.at
    dsimp only
    generalize (atF ⟨a.y, a.x⟩ ⟨b.y, b.x⟩ c).1 = r at *
    rcases hs with hs | hs
    · rw [show ((b.y - a.y).natAbs : Int) = b.y - a.y by omega, show ((c - a.y).natAbs : Int) = c - a.y by omega] at r1 r2
      have e : (b.x - a.x) * (c - a.y) - (b.y - a.y) * (r - a.x) = (a.x * (b.y - a.y) + (b.x - a.x) * (c - a.y)) - r * (b.y - a.y) := by grind
      have e1 : (2 * r - 1) * (b.y - a.y) = 2 * (r * (b.y - a.y)) - (b.y - a.y) := by grind
      have e2 : (2 * r + 1) * (b.y - a.y) = 2 * (r * (b.y - a.y)) + (b.y - a.y) := by grind
      rw [e]; omega
    · rw [show ((b.y - a.y).natAbs : Int) = a.y - b.y by omega, show ((c - a.y).natAbs : Int) = a.y - c by omega] at r1 r2
      have e : (b.x - a.x) * (c - a.y) - (b.y - a.y) * (r - a.x) = r * (a.y - b.y) - (a.x * (a.y - b.y) + (b.x - a.x) * (a.y - c)) := by grind
      have e1 : (2 * r - 1) * (a.y - b.y) = 2 * (r * (a.y - b.y)) - (a.y - b.y) := by grind
      have e2 : (2 * r + 1) * (a.y - b.y) = 2 * (r * (a.y - b.y)) + (a.y - b.y) := by grind
      rw [e]; omega
theorem near_all {a b p : Pt} {xs ys : List Int} (h : p ∈ allPts a b xs ys) : 2 * ((crs a b p).natAbs : Int) ≤ max ((a.x - b.x).natAbs : Int) ((a.y - b.y).natAbs : Int) := by
  have ha : crs a b a = 0 := by unfold crs; grind
  have hb : crs a b b = 0 := by unfold crs; grind
  have h0 : p = a ∨ p = b ∨ p ∈ cutPts a b xs ys := by
    have key : p ∈ a :: cutPts a b xs ys ++ [b] → p = a ∨ p = b ∨ p ∈ cutPts a b xs ys := fun h => by
      rcases List.mem_append.1 h with h | h
      · rcases List.mem_cons.1 h with h | h
        · exact .inl h
        · exact .inr (.inr h)
      · exact .inr (.inl (List.mem_singleton.1 h))
    unfold allPts at h
    rcases List.mem_append.1 h with h | h
    · rcases List.mem_cons.1 h with h | h
      · exact .inl h
      · exact key ((cutsF_sub a b xs ys).subset h)
    · exact .inr (.inl (List.mem_singleton.1 h))
  rcases h0 with rfl | rfl | h
  · rw [ha]; omega
  · rw [hb]; omega
  · obtain ⟨k, hk, rfl⟩ := cutPts_mem h
    exact near_row hk
end Go
