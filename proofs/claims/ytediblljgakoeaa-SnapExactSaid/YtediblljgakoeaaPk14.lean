/-
  Pieces lie between lines, cuts near the segment: in plain terms. A ring at a level, told as the path round it: turned, and its neighbours: in plain terms. Rows of the program's table of types. Opening a law's arguments: a point. Slices of points that come in: PC; an opener for []api.Point.
-/
import Derived.Test.YtediblljgakoeaaPk13
import Derived.Test.YtediblljgakoeaaPk4
import Derived.Test.YtediblljgakoeaaProg
import Derived.KernelRfl
import Derived.Test.YtediblljgakoeaaPk3
/- Pieces lie between lines, cuts near the segment: in plain terms. -/
set_option linter.unusedVariables false
set_option linter.unusedSimpArgs false
namespace Go
open Go.RowKit Go.Srt
theorem round_char (n d : Int) (hd : 0 < d) : (2 * roundF n d - 1) * d ≤ 2 * n ∧ 2 * n < (2 * roundF n d + 1) * d := by
  have e1 := Int.mul_ediv_add_emod n d
  have e2 := Int.emod_nonneg n (by omega : d ≠ 0)
  have e3 := Int.emod_lt_of_pos n hd
  have e4 : n - n / d * d = n % d := by rw [Int.mul_comm]; omega
  have e5 : n / d * d = n - n % d := by omega
  unfold roundF
  rw [e4]
  split
  · have h1 : (2 * (n / d + 1) - 1) * d = 2 * (n / d * d) + d := by grind
    have h2 : (2 * (n / d + 1) + 1) * d = 2 * (n / d * d) + 3 * d := by grind
    rw [h1, h2, e5]; omega
  · have h1 : (2 * (n / d) - 1) * d = 2 * (n / d * d) - d := by grind
    have h2 : (2 * (n / d) + 1) * d = 2 * (n / d * d) + d := by grind
    rw [h1, h2, e5]; omega
theorem round_mono {n1 d1 n2 d2 : Int} (h1 : 0 < d1) (h2 : 0 < d2) (h : n1 * d2 ≤ n2 * d1) : roundF n1 d1 ≤ roundF n2 d2 := by
  obtain ⟨a1, -⟩ := round_char n1 d1 h1
  obtain ⟨-, a2⟩ := round_char n2 d2 h2
  generalize roundF n1 d1 = r1 at *
  generalize roundF n2 d2 = r2 at *
  by_cases hc : r1 ≤ r2
  · exact hc
  · exfalso
    have b1 : (2 * r2 + 1) * d1 ≤ (2 * r1 - 1) * d1 := Int.mul_le_mul_of_nonneg_right (by omega) (by omega)
    have b2 : (2 * r2 + 1) * d1 * d2 ≤ 2 * n1 * d2 := Int.mul_le_mul_of_nonneg_right (by omega) (by omega)
    have b3 : 2 * n2 * d1 < (2 * r2 + 1) * d2 * d1 := Int.mul_lt_mul_of_pos_right a2 h1
    have b4 : (2 * r2 + 1) * d2 * d1 = (2 * r2 + 1) * d1 * d2 := by grind
    have b5 : 2 * n1 * d2 = 2 * (n1 * d2) := by grind
    have b6 : 2 * n2 * d1 = 2 * (n2 * d1) := by grind
    omega
/-- Where a cut lies, by how far it is. -/
theorem cut_form {a b : Pt} {xs ys : List Int} {k : Cu} (h : k ∈ cutRow a b xs ys) : 0 < k.w ∧ k.x = roundF (a.x * k.w + (b.x - a.x) * k.p) k.w ∧ k.y = roundF (a.y * k.w + (b.y - a.y) * k.p) k.w := by
  rcases cutRow_mem h with ⟨c, h⟩ | ⟨c, h⟩
  · obtain ⟨h2, rfl⟩ := cutX_some h
    obtain ⟨-, ⟨g1, g2, e⟩ | ⟨g1, g2, e⟩⟩ := at_in h2
    · dsimp only
      rw [show ((c - a.x).natAbs : Int) = c - a.x by omega, show ((b.x - a.x).natAbs : Int) = b.x - a.x by omega]
      refine ⟨by omega, ?_, e⟩
      rw [show a.x * (b.x - a.x) + (b.x - a.x) * (c - a.x) = c * (b.x - a.x) by grind, roundF_exact _ _ (by omega)]
    · dsimp only
      rw [show ((c - a.x).natAbs : Int) = a.x - c by omega, show ((b.x - a.x).natAbs : Int) = a.x - b.x by omega]
      refine ⟨by omega, ?_, ?_⟩
      · rw [show a.x * (a.x - b.x) + (b.x - a.x) * (a.x - c) = c * (a.x - b.x) by grind, roundF_exact _ _ (by omega)]
      · rw [e]; congr 1; grind
  · obtain ⟨h2, rfl⟩ := cutY_some h
    obtain ⟨-, ⟨g1, g2, e⟩ | ⟨g1, g2, e⟩⟩ := at_in h2
    · dsimp only at *
      rw [show ((c - a.y).natAbs : Int) = c - a.y by omega, show ((b.y - a.y).natAbs : Int) = b.y - a.y by omega]
      refine ⟨by omega, e, ?_⟩
      rw [show a.y * (b.y - a.y) + (b.y - a.y) * (c - a.y) = c * (b.y - a.y) by grind, roundF_exact _ _ (by omega)]
    · dsimp only at *
      rw [show ((c - a.y).natAbs : Int) = a.y - c by omega, show ((b.y - a.y).natAbs : Int) = a.y - b.y by omega]
      refine ⟨by omega, ?_, ?_⟩
      · rw [e]; congr 1; grind
      · rw [show a.y * (a.y - b.y) + (b.y - a.y) * (a.y - c) = c * (a.y - b.y) by grind, roundF_exact _ _ (by omega)]
theorem cut_mono {a b : Pt} {xs ys : List Int} {k l : Cu} (hk : k ∈ cutRow a b xs ys) (hl : l ∈ cutRow a b xs ys) (h : cmpC k l ≤ 0) :
    (a.x ≤ b.x → k.x ≤ l.x) ∧ (b.x ≤ a.x → l.x ≤ k.x) ∧ (a.y ≤ b.y → k.y ≤ l.y) ∧ (b.y ≤ a.y → l.y ≤ k.y) := by
  obtain ⟨k0, kx, ky⟩ := cut_form hk
  obtain ⟨l0, lx, ly⟩ := cut_form hl
  have hc : k.p * l.w ≤ l.p * k.w := by unfold cmpC at h; omega
  have up : ∀ s D : Int, 0 ≤ D → (s * k.w + D * k.p) * l.w ≤ (s * l.w + D * l.p) * k.w := fun s D hD => by
    have := Int.mul_le_mul_of_nonneg_left hc hD
    have e1 : (s * k.w + D * k.p) * l.w = s * k.w * l.w + D * (k.p * l.w) := by grind
    have e2 : (s * l.w + D * l.p) * k.w = s * k.w * l.w + D * (l.p * k.w) := by grind
    omega
  have dn : ∀ s D : Int, D ≤ 0 → (s * l.w + D * l.p) * k.w ≤ (s * k.w + D * k.p) * l.w := fun s D hD => by
    have := Int.mul_le_mul_of_nonneg_left hc (show 0 ≤ -D by omega)
    have e1 : (s * k.w + D * k.p) * l.w = s * k.w * l.w - -D * (k.p * l.w) := by grind
    have e2 : (s * l.w + D * l.p) * k.w = s * k.w * l.w - -D * (l.p * k.w) := by grind
    omega
  refine ⟨fun h => ?_, fun h => ?_, fun h => ?_, fun h => ?_⟩
  · rw [kx, lx]; exact round_mono k0 l0 (up _ _ (by omega))
  · rw [kx, lx]; exact round_mono l0 k0 (dn _ _ (by omega))
  · rw [ky, ly]; exact round_mono k0 l0 (up _ _ (by omega))
  · rw [ky, ly]; exact round_mono l0 k0 (dn _ _ (by omega))
/-- p is not behind q, seen from a to b. -/
def Along (a b p q : Pt) : Prop := (a.x ≤ b.x → p.x ≤ q.x) ∧ (b.x ≤ a.x → q.x ≤ p.x) ∧ (a.y ≤ b.y → p.y ≤ q.y) ∧ (b.y ≤ a.y → q.y ≤ p.y)
theorem along_pts (a b : Pt) (xs ys : List Int) : (cutPts a b xs ys).Pairwise (Along a b) := by
  obtain ⟨p, s⟩ := cutSeq_ok a b xs ys
  have := s.pairwise
  unfold cutPts
  rw [List.pairwise_map]
  exact List.Pairwise.imp_of_mem (fun {x y} hx hy h => cut_mono (p.mem_iff.1 hx) (p.mem_iff.1 hy) h) this
theorem along_box {a b p : Pt} (h : InBox a b p) : Along a b a p ∧ Along a b p b := by unfold InBox at h; unfold Along; omega
theorem ded_sub (l : List Pt) : (ded l).Sublist l := by
  induction l with
  | nil => exact List.Sublist.refl _
  | cons p l ih =>
    cases l with
    | nil => exact List.Sublist.refl _
    | cons q l =>
      rw [ded]
      split
      · exact ih.trans (List.sublist_cons_self _ _)
      · exact ih.cons_cons _
theorem mem_ded {l : List Pt} {p : Pt} (h : p ∈ l) : p ∈ ded l := by
  induction l with
  | nil => exact h
  | cons q l ih =>
    cases l with
    | nil => exact h
    | cons r l =>
      rw [ded]
      split
      · rename_i he
        subst he
        rcases List.mem_cons.1 h with rfl | h
        · exact ih (List.mem_cons_self ..)
        · exact ih h
      · rcases List.mem_cons.1 h with rfl | h
        · exact List.mem_cons_self ..
        · exact List.mem_cons_of_mem _ (ih h)
/-- All points of a segment: both ends, and cuts between. -/
def allPts (a b : Pt) (xs ys : List Int) : List Pt := a :: cutsF a b xs ys ++ [b]
theorem cutsF_sub (a b : Pt) (xs ys : List Int) : (cutsF a b xs ys).Sublist (a :: cutPts a b xs ys ++ [b]) := by
  unfold cutsF
  rw [thinP_ded]
  exact ((List.dropLast_sublist _).trans (List.drop_sublist _ _)).trans (ded_sub _)
theorem along_all (a b : Pt) (xs ys : List Int) : (allPts a b xs ys).Pairwise (Along a b) := by
  have hbx : ∀ p ∈ cutPts a b xs ys, InBox a b p := fun p hp => cutPts_box hp
  have h0 : (a :: cutPts a b xs ys ++ [b]).Pairwise (Along a b) := by
    rw [List.cons_append, List.pairwise_cons, List.pairwise_append]
    refine ⟨fun q hq => ?_, along_pts a b xs ys, List.pairwise_singleton _ _, fun p hp q hq => ?_⟩
    · rcases List.mem_append.1 hq with hq | hq
      · exact (along_box (hbx q hq)).1
      · obtain rfl := List.mem_singleton.1 hq
        unfold Along; omega
    · obtain rfl := List.mem_singleton.1 hq
      exact (along_box (hbx p hp)).2
  have h1 := h0.sublist (cutsF_sub a b xs ys)
  unfold allPts
  rw [List.cons_append, List.pairwise_cons, List.pairwise_append]
  refine ⟨fun q hq => ?_, h1, List.pairwise_singleton _ _, fun p hp q hq => ?_⟩
  · rcases List.mem_append.1 hq with hq | hq
    · exact (along_box (cutsF_box hq)).1
    · obtain rfl := List.mem_singleton.1 hq
      unfold Along; omega
  · obtain rfl := List.mem_singleton.1 hq
    exact (along_box (cutsF_box hp)).2
theorem all_box {a b p : Pt} {xs ys : List Int} (h : p ∈ allPts a b xs ys) : InBox a b p := by
  unfold allPts at h
  rcases List.mem_append.1 h with h | h
  · rcases List.mem_cons.1 h with rfl | h
    · unfold InBox; omega
    · exact cutsF_box h
  · obtain rfl := List.mem_singleton.1 h
    unfold InBox; omega
theorem mid_mem {l : List Pt} {p : Pt} (h : p ∈ l) : some p = l.head? ∨ p ∈ (l.drop 1).dropLast ∨ some p = l.getLast? := by
  cases l with
  | nil => cases h
  | cons a t =>
    rcases List.mem_cons.1 h with rfl | h
    · exact .inl rfl
    · rcases List.eq_nil_or_concat t with rfl | ⟨m, z, rfl⟩
      · cases h
      · rw [List.concat_eq_append] at h ⊢
        rcases List.mem_append.1 h with h | h
        · exact .inr (.inl (by simpa using h))
        · obtain rfl := List.mem_singleton.1 h
          exact .inr (.inr (by rw [List.getLast?_cons, List.getLast?_append]; simp))
theorem pts_all {a b p : Pt} {xs ys : List Int} (h : p ∈ cutPts a b xs ys) : p ∈ allPts a b xs ys := by
  have h1 : p ∈ ded (a :: cutPts a b xs ys ++ [b]) := mem_ded (List.mem_append_left _ (List.mem_cons_of_mem _ h))
  unfold allPts cutsF
  rw [thinP_ded]
  rcases mid_mem h1 with h2 | h2 | h2
  · obtain ⟨t, ht⟩ := ded_cons a (cutPts a b xs ys ++ [b])
    rw [List.cons_append, ht] at h2
    simp at h2
    rw [h2]; exact List.mem_append_left _ (List.mem_cons_self ..)
  · exact List.mem_append_left _ (List.mem_cons_of_mem _ h2)
  · obtain ⟨t, ht⟩ := ded_snoc (a :: cutPts a b xs ys) b
    rw [ht] at h2
    simp at h2
    rw [h2]; exact List.mem_append_right _ (List.mem_cons_self ..)
theorem at_yes {a b : Pt} {c : Int} (ha : okPt a = true) (hb : okPt b = true) (h : (a.x < c ∧ c < b.x) ∨ (b.x < c ∧ c < a.x)) : (atF a b c).2 = true := by
  unfold atF
  by_cases hs : b.x < a.x
  · simp only [hs, if_true, List.all_cons, List.all_nil, ha, hb, Bool.and_true]
    rw [if_neg (by simp; omega)]
  · simp only [hs, if_false, List.all_cons, List.all_nil, ha, hb, Bool.and_true]
    rw [if_neg (by simp; omega)]
theorem ok_flip {p : Pt} (h : okPt p = true) : okPt ⟨p.y, p.x⟩ = true := by rw [okPt_iff] at *; exact ⟨h.2, h.1⟩
/-- Both ends of a piece lie on one side of each line. -/
theorem piece_x {a b : Pt} {xs ys : List Int} (ha : okPt a = true) (hb : okPt b = true) {i : Nat} (hi : i + 1 < (allPts a b xs ys).length) {c : Int} (hc : c ∈ xs) :
    ¬ ((allPts a b xs ys)[i].x < c ∧ c < (allPts a b xs ys)[i + 1].x) ∧ ¬ ((allPts a b xs ys)[i + 1].x < c ∧ c < (allPts a b xs ys)[i].x) := by
  have hal := along_all a b xs ys
  rw [List.pairwise_iff_getElem] at hal
  have b1 := all_box (List.getElem_mem (show i < (allPts a b xs ys).length by omega))
  have b2 := all_box (List.getElem_mem hi)
  by_cases hin : (a.x < c ∧ c < b.x) ∨ (b.x < c ∧ c < a.x)
  · have hk : (⟨c, (atF a b c).1, ((c - a.x).natAbs : Nat), ((b.x - a.x).natAbs : Nat)⟩ : Cu) ∈ cutRow a b xs ys := by
      unfold cutRow
      refine List.mem_append_left _ (List.mem_filterMap.2 ⟨c, hc, ?_⟩)
      unfold cutX
      rw [if_pos (at_yes ha hb hin)]
    have hm : (⟨c, (atF a b c).1⟩ : Pt) ∈ allPts a b xs ys := pts_all (by
      unfold cutPts
      exact List.mem_map.2 ⟨_, (cutSeq_ok a b xs ys).1.mem_iff.2 hk, rfl⟩)
    obtain ⟨j, hj, he⟩ := List.getElem_of_mem hm
    have hx : (allPts a b xs ys)[j].x = c := by rw [he]
    have h1 := hal i (i + 1) (by omega) hi (by omega)
    by_cases hji : j ≤ i
    · by_cases hje : j = i
      · subst hje; unfold Along at h1; omega
      · have h2 := hal j i hj (by omega) (by omega)
        unfold Along at h1 h2; omega
    · by_cases hje : j = i + 1
      · subst hje; unfold Along at h1; omega
      · have h2 := hal (i + 1) j hi hj (by omega)
        unfold Along at h1 h2; omega
  · unfold InBox at b1 b2; omega
theorem piece_y {a b : Pt} {xs ys : List Int} (ha : okPt a = true) (hb : okPt b = true) {i : Nat} (hi : i + 1 < (allPts a b xs ys).length) {c : Int} (hc : c ∈ ys) :
    ¬ ((allPts a b xs ys)[i].y < c ∧ c < (allPts a b xs ys)[i + 1].y) ∧ ¬ ((allPts a b xs ys)[i + 1].y < c ∧ c < (allPts a b xs ys)[i].y) := by
  have hal := along_all a b xs ys
  rw [List.pairwise_iff_getElem] at hal
  have b1 := all_box (List.getElem_mem (show i < (allPts a b xs ys).length by omega))
  have b2 := all_box (List.getElem_mem hi)
  by_cases hin : (a.y < c ∧ c < b.y) ∨ (b.y < c ∧ c < a.y)
  · have hk : (⟨(atF ⟨a.y, a.x⟩ ⟨b.y, b.x⟩ c).1, c, ((c - a.y).natAbs : Nat), ((b.y - a.y).natAbs : Nat)⟩ : Cu) ∈ cutRow a b xs ys := by
      unfold cutRow
      refine List.mem_append_right _ (List.mem_filterMap.2 ⟨c, hc, ?_⟩)
      unfold cutY
      rw [if_pos (at_yes (ok_flip ha) (ok_flip hb) hin)]
    have hm : (⟨(atF ⟨a.y, a.x⟩ ⟨b.y, b.x⟩ c).1, c⟩ : Pt) ∈ allPts a b xs ys := pts_all (by
      unfold cutPts
      exact List.mem_map.2 ⟨_, (cutSeq_ok a b xs ys).1.mem_iff.2 hk, rfl⟩)
    obtain ⟨j, hj, he⟩ := List.getElem_of_mem hm
    have hx : (allPts a b xs ys)[j].y = c := by rw [he]
    have h1 := hal i (i + 1) (by omega) hi (by omega)
    by_cases hji : j ≤ i
    · by_cases hje : j = i
      · subst hje; unfold Along at h1; omega
      · have h2 := hal j i hj (by omega) (by omega)
        unfold Along at h1 h2; omega
    · by_cases hje : j = i + 1
      · subst hje; unfold Along at h1; omega
      · have h2 := hal (i + 1) j hi hj (by omega)
        unfold Along at h1 h2; omega
  · unfold InBox at b1 b2; omega
theorem near_row {a b : Pt} {xs ys : List Int} {k : Cu} (h : k ∈ cutRow a b xs ys) : 2 * ((crs a b k.at).natAbs : Int) ≤ max ((a.x - b.x).natAbs : Int) ((a.y - b.y).natAbs : Int) := by
  obtain ⟨w0, kx, ky⟩ := cut_form h
  rcases cutRow_mem h with ⟨c, h⟩ | ⟨c, h⟩
  · obtain ⟨h2, rfl⟩ := cutX_some h
    have hs := at_side h2
    obtain ⟨r1, r2⟩ := round_char (a.y * ((b.x - a.x).natAbs : Int) + (b.y - a.y) * ((c - a.x).natAbs : Int)) ((b.x - a.x).natAbs : Int) w0
    dsimp only at ky
    rw [← ky] at r1 r2
    unfold crs Cu.at
    dsimp only
    generalize (atF a b c).1 = r at *
    rcases hs with hs | hs
    · rw [show ((b.x - a.x).natAbs : Int) = b.x - a.x by omega, show ((c - a.x).natAbs : Int) = c - a.x by omega] at r1 r2
      have e : (b.x - a.x) * (r - a.y) - (b.y - a.y) * (c - a.x) = r * (b.x - a.x) - (a.y * (b.x - a.x) + (b.y - a.y) * (c - a.x)) := by grind
      have e1 : (2 * r - 1) * (b.x - a.x) = 2 * (r * (b.x - a.x)) - (b.x - a.x) := by grind
      have e2 : (2 * r + 1) * (b.x - a.x) = 2 * (r * (b.x - a.x)) + (b.x - a.x) := by grind
      rw [e]; omega
    · rw [show ((b.x - a.x).natAbs : Int) = a.x - b.x by omega, show ((c - a.x).natAbs : Int) = a.x - c by omega] at r1 r2
      have e : (b.x - a.x) * (r - a.y) - (b.y - a.y) * (c - a.x) = (a.y * (a.x - b.x) + (b.y - a.y) * (a.x - c)) - r * (a.x - b.x) := by grind
      have e1 : (2 * r - 1) * (a.x - b.x) = 2 * (r * (a.x - b.x)) - (a.x - b.x) := by grind
      have e2 : (2 * r + 1) * (a.x - b.x) = 2 * (r * (a.x - b.x)) + (a.x - b.x) := by grind
      rw [e]; omega
  · obtain ⟨h2, rfl⟩ := cutY_some h
    have hs := at_side h2
    obtain ⟨r1, r2⟩ := round_char (a.x * ((b.y - a.y).natAbs : Int) + (b.x - a.x) * ((c - a.y).natAbs : Int)) ((b.y - a.y).natAbs : Int) w0
    dsimp only at kx hs
    rw [← kx] at r1 r2
    unfold crs Cu.at
    dsimp only
    generalize (atF ⟨a.y, a.x⟩ ⟨b.y, b.x⟩ c).1 = r at *
    rcases hs with hs | hs
    · rw [show ((b.y - a.y).natAbs : Int) = b.y - a.y by omega, show ((c - a.y).natAbs : Int) = c - a.y by omega] at r1 r2
      have e : (b.x - a.x) * (c - a.y) - (b.y - a.y) * (r - a.x) = (a.x * (b.y - a.y) + (b.x - a.x) * (c - a.y)) - r * (b.y - a.y) := by grind
      have e1 : (2 * r - 1) * (b.y - a.y) = 2 * (r * (b.y - a.y)) - (b.y - a.y) := by grind
      have e2 : (2 * r + 1) * (b.y - a.y) = 2 * (r * (b.y - a.y)) + (b.y - a.y) := by grind
      rw [e]; omega
    · rw [show ((b.y - a.y).natAbs : Int) = a.y - b.y by omega, show ((c - a.y).natAbs : Int) = a.y - c by omega] at r1 r2
      have e : (b.x - a.x) * (c - a.y) - (b.y - a.y) * (r - a.x) = r * (a.y - b.y) - (a.x * (a.y - b.y) + (b.x - a.x) * (a.y - c)) := by grind
      have e1 : (2 * r - 1) * (a.y - b.y) = 2 * (r * (a.y - b.y)) - (a.y - b.y) := by grind
      have e2 : (2 * r + 1) * (a.y - b.y) = 2 * (r * (a.y - b.y)) + (a.y - b.y) := by grind
      rw [e]; omega
theorem near_all {a b p : Pt} {xs ys : List Int} (h : p ∈ allPts a b xs ys) : 2 * ((crs a b p).natAbs : Int) ≤ max ((a.x - b.x).natAbs : Int) ((a.y - b.y).natAbs : Int) := by
  have ha : crs a b a = 0 := by unfold crs; grind
  have hb : crs a b b = 0 := by unfold crs; grind
  have h0 : p = a ∨ p = b ∨ p ∈ cutPts a b xs ys := by
    have key : p ∈ a :: cutPts a b xs ys ++ [b] → p = a ∨ p = b ∨ p ∈ cutPts a b xs ys := fun h => by
      rcases List.mem_append.1 h with h | h
      · rcases List.mem_cons.1 h with h | h
        · exact .inl h
        · exact .inr (.inr h)
      · exact .inr (.inl (List.mem_singleton.1 h))
    unfold allPts at h
    rcases List.mem_append.1 h with h | h
    · rcases List.mem_cons.1 h with h | h
      · exact .inl h
      · exact key ((cutsF_sub a b xs ys).subset h)
    · exact .inr (.inl (List.mem_singleton.1 h))
  rcases h0 with rfl | rfl | h
  · rw [ha]; omega
  · rw [hb]; omega
  · obtain ⟨k, hk, rfl⟩ := cutPts_mem h
    exact near_row hk
end Go
/- A ring at a level, told as the path round it: turned, and its neighbours: in plain terms. -/
set_option linter.unusedVariables false
set_option linter.unusedSimpArgs false
namespace Go
open Go.RowKit Go.Srt
theorem compact_ded (l : List Pt) : Lib.compact l = ded l := by
  have key : ∀ k, k ≤ l.length → Lib.compactUpTo l.toArray k = ded (l.take k) := by
    intro k
    induction k with
    | zero => intro _; simp [Lib.compactUpTo, ded]
    | succ k ih =>
      intro hk
      rw [Lib.compactUpTo_succ, ih (by omega)]
      have hg : l.toArray[k]! = l[k] := by simp [getElem!_pos l k (by omega)]
      rw [hg]
      cases k with
      | zero =>
        rw [if_pos (Lib.keeps_lt_one _ 0 (by omega)), List.take_succ_eq_append_getElem (by omega)]
        simp [ded]
      | succ k =>
        have hg1 : l.toArray[k + 1 - 1]! = l[k] := by simp [getElem!_pos l k (by omega)]
        have e1 : l.take (k + 1 + 1) = l.take k ++ [l[k], l[k + 1]] := by
          rw [List.take_succ_eq_append_getElem (by omega), List.take_succ_eq_append_getElem (by omega), List.append_assoc]; rfl
        have e2 : l.take (k + 1) = l.take k ++ [l[k]] := List.take_succ_eq_append_getElem (by omega)
        rw [e1, ded_two, e2]
        by_cases h : l[k] = l[k + 1]
        · rw [if_pos h, Lib.keeps_neg (by omega) (by rw [hg, hg1]; exact h.symm)]; simp
        · rw [if_neg h, Lib.keeps_pos (by rw [hg, hg1]; exact fun e => h e.symm)]; simp
  have := key l.length (Nat.le_refl _)
  rwa [List.take_length] at this
/-- Neighbours all of a kind. -/
def Nb (P : Pt → Pt → Prop) : List Pt → Prop
  | a :: b :: l => P a b ∧ Nb P (b :: l)
  | _ => True
theorem Nb.append {P : Pt → Pt → Prop} : ∀ (l1 : List Pt) (x : Pt) (l2 : List Pt), Nb P (l1 ++ [x]) → Nb P (x :: l2) → Nb P (l1 ++ x :: l2)
  | [], x, l2, _, h2 => h2
  | [a], x, l2, h1, h2 => ⟨h1.1, h2⟩
  | a :: b :: l, x, l2, h1, h2 => ⟨h1.1, Nb.append (b :: l) x l2 h1.2 h2⟩
theorem Nb.get {P : Pt → Pt → Prop} : ∀ (l : List Pt), Nb P l → ∀ (i : Nat) (h : i + 1 < l.length), P l[i] l[i + 1]
  | a :: b :: l, h, 0, _ => h.1
  | a :: b :: l, h, i + 1, hi => Nb.get (b :: l) h.2 i (by simp at hi ⊢; omega)
  | [a], _, i, hi => by simp at hi
  | [], _, i, hi => by simp at hi
theorem Nb.of_get {P : Pt → Pt → Prop} : ∀ (l : List Pt), (∀ (i : Nat) (h : i + 1 < l.length), P l[i] l[i + 1]) → Nb P l
  | a :: b :: l, h => ⟨h 0 (by simp), Nb.of_get (b :: l) (fun i hi => h (i + 1) (by simp at hi ⊢; omega))⟩
  | [a], _ => trivial
  | [], _ => trivial
theorem ded_ne : ∀ l : List Pt, Nb (· ≠ ·) (ded l)
  | [] => trivial
  | [p] => trivial
  | p :: q :: l => by
    rw [ded]
    have ih := ded_ne (q :: l)
    split
    · exact ih
    · rename_i h
      obtain ⟨t, ht⟩ := ded_cons q l
      rw [ht] at ih ⊢
      exact ⟨h, ih⟩
theorem ded_fix : ∀ l : List Pt, Nb (· ≠ ·) l → ded l = l
  | [], _ => rfl
  | [p], _ => rfl
  | p :: q :: l, h => by rw [ded, if_neg h.1, ded_fix (q :: l) h.2]
/-- A path with its cuts. -/
def walkF (L : List Int) : List Pt → List Pt
  | x :: y :: r => edgeF L (x, y) ++ walkF L (y :: r)
  | l => l
theorem walkF_cons (L : List Int) (y : Pt) (r : List Pt) : ∃ t, walkF L (y :: r) = y :: t := by
  cases r with
  | nil => exact ⟨[], rfl⟩
  | cons z r => exact ⟨_, rfl⟩
theorem walkF_append (L : List Int) : ∀ (l : List Pt) (x : Pt) (r : List Pt), walkF L (l ++ x :: r) = (walkF L (l ++ [x])).dropLast ++ walkF L (x :: r)
  | [], x, r => by simp [walkF]
  | [a], x, r => by simp [walkF]
  | a :: b :: l, x, r => by
    have ih := walkF_append L (b :: l) x r
    show edgeF L (a, b) ++ walkF L (b :: l ++ x :: r) = (edgeF L (a, b) ++ walkF L (b :: l ++ [x])).dropLast ++ walkF L (x :: r)
    rw [ih]
    obtain ⟨t, ht⟩ := walkF_cons L b (l ++ [x])
    rw [List.cons_append, ht, List.dropLast_append_of_ne_nil (by simp), List.append_assoc]
theorem walkF_reverse (L : List Int) : ∀ l : List Pt, walkF L l.reverse = (walkF L l).reverse
  | [] => rfl
  | [a] => rfl
  | x :: y :: r => by
    have ih := walkF_reverse L (y :: r)
    have e1 : (x :: y :: r).reverse = r.reverse ++ y :: [x] := by simp
    rw [e1, walkF_append]
    rw [List.reverse_cons] at ih
    rw [ih]
    obtain ⟨t, ht⟩ := walkF_cons L y r
    show _ = (edgeF L (x, y) ++ walkF L (y :: r)).reverse
    rw [ht]
    simp [walkF, edgeF, cutsF_ends x y]
theorem walkF_last (L : List Int) : ∀ (l : List Pt) (x : Pt), ∃ t, walkF L (l ++ [x]) = t ++ [x]
  | [], x => ⟨[], rfl⟩
  | [a], x => ⟨edgeF L (a, x), rfl⟩
  | a :: b :: l, x => by
    obtain ⟨t, ht⟩ := walkF_last L (b :: l) x
    exact ⟨edgeF L (a, b) ++ t, by show edgeF L (a, b) ++ walkF L (b :: l ++ [x]) = _; rw [ht, List.append_assoc]⟩
/-- Neighbours, as pairs. -/
def pairsP : List Pt → List (Pt × Pt)
  | x :: y :: r => (x, y) :: pairsP (y :: r)
  | _ => []
theorem walkF_pairs (L : List Int) : ∀ (l : List Pt) (x : Pt), walkF L (l ++ [x]) = (pairsP (l ++ [x])).flatMap (edgeF L) ++ [x]
  | [], x => rfl
  | [a], x => by simp [walkF, pairsP]
  | a :: b :: l, x => by
    have ih := walkF_pairs L (b :: l) x
    show edgeF L (a, b) ++ walkF L (b :: l ++ [x]) = ((a, b) :: pairsP (b :: l ++ [x])).flatMap (edgeF L) ++ [x]
    rw [ih, List.flatMap_cons, List.append_assoc]
theorem pairsP_len : ∀ l : List Pt, (pairsP l).length = l.length - 1
  | [] => rfl
  | [a] => rfl
  | a :: b :: l => by
    have := pairsP_len (b :: l)
    simp only [pairsP, List.length_cons] at this ⊢; omega
theorem pairsP_get : ∀ (l : List Pt) (i : Nat) (h : i + 1 < l.length), (pairsP l)[i]? = some (l[i], l[i + 1])
  | a :: b :: l, 0, _ => rfl
  | a :: b :: l, i + 1, h => by
    have := pairsP_get (b :: l) i (by simp at h ⊢; omega)
    simpa [pairsP] using this
  | [a], i, h => by simp at h
  | [], i, h => by simp at h
theorem edges_pairs (p : Pt) (l : List Pt) : edges (p :: l) = pairsP (p :: l ++ [p]) := by
  apply List.ext_getElem?
  intro i
  by_cases hi : i < (p :: l).length
  · rw [pairsP_get _ i (by simp at hi ⊢; omega)]
    unfold edges
    rw [List.getElem?_map, List.getElem?_range hi]
    simp only [Option.map_some]
    congr 1
    rw [getElem!_pos (p :: l) i hi]
    have hm := Nat.mod_lt (i + 1) (show 0 < (p :: l).length by simp)
    rw [getElem!_pos (p :: l) _ hm]
    by_cases h2 : i + 1 < (p :: l).length
    · simp only [Nat.mod_eq_of_lt h2]
      congr 1
      · rw [List.getElem_append_left hi]
      · rw [List.getElem_append_left h2]
    · have h3 : i + 1 = (p :: l).length := by omega
      simp only [h3, Nat.mod_self]
      congr 1
      · rw [List.getElem_append_left hi]
      · simp
  · rw [List.getElem?_eq_none (by simp [edges] at hi ⊢; omega), List.getElem?_eq_none (by rw [pairsP_len]; simp at hi ⊢; omega)]
theorem edges_walk (L : List Int) (p : Pt) (l : List Pt) : (edges (p :: l)).flatMap (edgeF L) ++ [p] = walkF L (p :: l ++ [p]) := by
  rw [edges_pairs, walkF_pairs]
/-- The path round a row of points. -/
def roundP (l : List Pt) : List Pt := match l with | [] => [] | p :: t => ded (p :: t ++ [p])
theorem dropLast_ne {l : List Pt} {p : Pt} (h : Nb (· ≠ ·) (l ++ [p])) (hl : l ≠ []) : l.getLast hl ≠ p := by
  have := Nb.get _ h (l.length - 1) (by have := List.length_pos_iff.2 hl; simp; omega)
  have hp := List.length_pos_iff.2 hl
  have e1 : (l ++ [p])[l.length - 1]'(by simp; omega) = l.getLast hl := by
    rw [List.getElem_append_left (by omega), List.getLast_eq_getElem]
  have e2 : (l ++ [p])[l.length - 1 + 1]'(by simp; omega) = p := by
    have : l.length - 1 + 1 = l.length := by omega
    simp only [this]; simp
  rw [e1, e2] at this
  exact this
theorem stripN_keep (l : List Pt) (h : l[l.length - 1]! ≠ l[0]!) : ∀ f, stripN f l = l
  | 0 => rfl
  | f + 1 => by unfold stripN; rw [if_neg (fun q => h q.2)]
theorem bang_last (l : List Pt) (x : Pt) : (l ++ [x])[(l ++ [x]).length - 1]! = x := by
  rw [getElem!_pos _ _ (by simp)]; simp
theorem bang_first (p : Pt) (l : List Pt) : (p :: l)[0]! = p := by rw [getElem!_pos _ _ (by simp)]; rfl
theorem ends_last {p : Pt} {s : List Pt} {l : List Pt} {q : Pt} (h : p :: s = l ++ [q]) (hq : q ≠ p) : (p :: s)[(p :: s).length - 1]! ≠ (p :: s)[0]! := by
  rw [bang_first, h, bang_last]; exact hq
theorem round_thin (p : Pt) (t : List Pt) : (roundP (p :: t) = [p] ∧ thinR (p :: t) = [p]) ∨ ∃ s, s ≠ [] ∧ thinR (p :: t) = p :: s ∧ roundP (p :: t) = p :: s ++ [p] := by
  unfold roundP thinR
  rw [compact_ded]
  obtain ⟨q, hq⟩ : ∃ q, (p :: t).getLast (by simp) = q := ⟨_, rfl⟩
  have hl : p :: t = (p :: t).dropLast ++ [q] := by rw [← hq, List.dropLast_concat_getLast]
  have hr : ded (p :: t ++ [p]) = if q = p then ded (p :: t) else ded (p :: t) ++ [p] := by
    have := ded_two (p :: t).dropLast q p
    rw [← hl, show (p :: t).dropLast ++ [q, p] = p :: t ++ [p] by rw [show [q, p] = [q] ++ [p] from rfl, ← List.append_assoc, ← hl]] at this
    exact this
  show (ded (p :: t ++ [p]) = [p] ∧ _) ∨ ∃ s, s ≠ [] ∧ _ ∧ ded (p :: t ++ [p]) = _
  rw [hr]
  obtain ⟨s0, hs⟩ := ded_cons p t
  obtain ⟨t', ht'⟩ := ded_snoc (p :: t).dropLast q
  rw [← hl] at ht'
  have hne := ded_ne (p :: t)
  generalize ded (p :: t) = c at *
  by_cases hqp : q = p
  · subst hqp
    rw [if_pos rfl]
    cases t' with
    | nil =>
      left
      rw [List.nil_append] at ht'
      subst ht'
      exact ⟨rfl, stripN_short _ (by simp) _⟩
    | cons x s =>
      have hx : x = q := by rw [ht'] at hs; simp at hs; exact hs.1
      subst hx
      right
      have hs2 : s ≠ [] := by
        rintro rfl
        rw [ht'] at hne
        exact hne.1 rfl
      refine ⟨s, hs2, ?_, ht'⟩
      have hlen : c.length = (x :: s).length + 1 := by rw [ht']; simp
      rw [hlen]
      unfold stripN
      rw [if_pos ⟨by rw [hlen]; simp, by
        have e1 : c[c.length - 1]! = x := by rw [ht']; exact bang_last _ _
        have e2 : c[0]! = x := by rw [ht']; exact bang_first _ _
        rw [e1, e2]⟩]
      have hd : c.dropLast = x :: s := by rw [ht']; exact List.dropLast_concat
      rw [hd]
      have hnl := dropLast_ne (by rw [ht'] at hne; exact hne) (show x :: s ≠ [] by simp)
      refine stripN_keep _ (ends_last (l := (x :: s).dropLast) (q := (x :: s).getLast (by simp)) (List.dropLast_concat_getLast _).symm hnl) _
  · rw [if_neg hqp]
    right
    have hs2 : s0 ≠ [] := by
      rintro rfl
      rw [hs] at ht'
      have : t' = [] := by
        have := congrArg List.length ht'
        simp at this
        exact this
      subst this
      simp at ht'
      exact hqp ht'.symm
    refine ⟨s0, hs2, ?_, by rw [hs]⟩
    rw [hs] at ht' ⊢
    exact stripN_keep _ (ends_last ht' hqp) _
theorem cutsF_none (p : Pt) (L : List Int) : cutsF p p L L = [] := by
  have h1 : cutRow p p L L = [] := by
    cases h : cutRow p p L L with
    | nil => rfl
    | cons k r =>
      exfalso
      rcases cutRow_mem (show k ∈ cutRow p p L L by rw [h]; exact List.mem_cons_self) with ⟨c, hc⟩ | ⟨c, hc⟩
      · have := at_side (cutX_some hc).1; omega
      · have := at_side (cutY_some hc).1
        dsimp only at this; omega
  unfold cutsF cutPts
  rw [h1]
  rfl
/-- The ring at a level, told by the path round. -/
def ringM (L : List Int) (l : List Pt) : List Pt := (edges (thinR l)).flatMap (edgeF L)
theorem ringM_path (L : List Int) (p : Pt) (t : List Pt) : (roundP (p :: t) = [p] ∧ ringM L (p :: t) = [p]) ∨ ∃ s, s ≠ [] ∧ roundP (p :: t) = p :: s ++ [p] ∧ ringM L (p :: t) ++ [p] = walkF L (p :: s ++ [p]) := by
  rcases round_thin p t with ⟨h1, h2⟩ | ⟨s, h0, h1, h2⟩
  · left
    refine ⟨h1, ?_⟩
    unfold ringM
    rw [h2]
    simp [edges, edgeF, cutsF_none]
  · right
    refine ⟨s, h0, h2, ?_⟩
    unfold ringM
    rw [h1]
    exact edges_walk L p s
theorem round_turned (p : Pt) (t : List Pt) : roundP (p :: t.reverse) = (roundP (p :: t)).reverse := by
  show ded (p :: t.reverse ++ [p]) = (ded (p :: t ++ [p])).reverse
  rw [← ded_reverse]
  congr 1
  simp
theorem ringM_turned (L : List Int) (l : List Pt) : ringM L (turnedP l) = turnedP (ringM L l) := by
  cases l with
  | nil => rfl
  | cons p t =>
    show ringM L (p :: t.reverse) = _
    have hrt := round_turned p t
    rcases ringM_path L p t with ⟨h1, h2⟩ | ⟨s, h0, h1, h2⟩
    · rcases ringM_path L p t.reverse with ⟨k1, k2⟩ | ⟨s', k0, k1, k2⟩
      · rw [h2, k2]; rfl
      · rw [h1, k1] at hrt
        have := congrArg List.length hrt
        simp at this
    · rcases ringM_path L p t.reverse with ⟨k1, k2⟩ | ⟨s', k0, k1, k2⟩
      · rw [h1, k1] at hrt
        have := congrArg List.length hrt
        simp at this
      · rw [h1, k1] at hrt
        rw [hrt, walkF_reverse, ← h2] at k2
        obtain ⟨u, hu⟩ := walkF_cons L p (s ++ [p])
        have h3 : ringM L (p :: t) ++ [p] = p :: u := by rw [h2]; exact hu
        cases hm : ringM L (p :: t) with
        | nil =>
          exfalso
          rw [hm] at h2
          have := congrArg List.length h2
          obtain ⟨v, hv⟩ := walkF_cons L s.head! (s.tail ++ [p])
          cases s with
          | nil => exact h0 rfl
          | cons y s =>
            obtain ⟨v, hv⟩ := walkF_cons L y (s ++ [p])
            rw [show walkF L (p :: y :: s ++ [p]) = edgeF L (p, y) ++ walkF L (y :: s ++ [p]) from rfl] at this
            rw [List.cons_append, hv] at this
            simp [edgeF] at this
        | cons x v =>
          rw [hm] at h3 k2
          have hx : x = p := by simp at h3; exact h3.1
          subst hx
          have : ringM L (x :: t.reverse) ++ [x] = (x :: v.reverse) ++ [x] := by rw [k2]; simp
          exact List.append_cancel_right this
/-- Apart, and no line between. -/
def NoLine (L : List Int) (p q : Pt) : Prop := ∀ c ∈ L, (¬ (p.x < c ∧ c < q.x) ∧ ¬ (q.x < c ∧ c < p.x)) ∧ ¬ (p.y < c ∧ c < q.y) ∧ ¬ (q.y < c ∧ c < p.y)
def NextP (L : List Int) (p q : Pt) : Prop := p ≠ q ∧ NoLine L p q
theorem allPts_ded {a b : Pt} (hab : a ≠ b) (xs ys : List Int) : allPts a b xs ys = ded (a :: cutPts a b xs ys ++ [b]) := by
  unfold allPts cutsF
  rw [thinP_ded]
  obtain ⟨u, hu⟩ := ded_cons a (cutPts a b xs ys ++ [b])
  obtain ⟨v, hv⟩ := ded_snoc (a :: cutPts a b xs ys) b
  rw [← List.cons_append] at hu
  generalize ded (a :: cutPts a b xs ys ++ [b]) = D at *
  cases v with
  | nil => rw [hu] at hv; simp at hv; exact absurd hv.1 hab
  | cons x v =>
    have hx : x = a := by rw [hu] at hv; simp at hv; exact hv.1.symm
    subst hx
    rw [hv]
    simp
theorem allPts_next {a b : Pt} (hab : a ≠ b) (ha : okPt a = true) (hb : okPt b = true) (L : List Int) : Nb (NextP L) (allPts a b L L) := by
  refine Nb.of_get _ fun i hi => ⟨?_, fun c hc => ⟨piece_x ha hb hi hc, piece_y ha hb hi hc⟩⟩
  have := ded_ne (a :: cutPts a b L L ++ [b])
  rw [← allPts_ded hab] at this
  exact Nb.get _ this i hi
theorem walkF_next (L : List Int) : ∀ (l : List Pt), l.all okPt = true → Nb (· ≠ ·) l → Nb (NextP L) (walkF L l)
  | [], _, _ => trivial
  | [a], _, _ => trivial
  | x :: y :: r, hok, h => by
    have h1 : okPt x = true ∧ (y :: r).all okPt = true := by simpa using hok
    have h2 : okPt y = true := by have := h1.2; simp at this; exact this.1
    have ih := walkF_next L (y :: r) h1.2 h.2
    obtain ⟨t, ht⟩ := walkF_cons L y r
    show Nb (NextP L) (edgeF L (x, y) ++ walkF L (y :: r))
    rw [ht] at ih ⊢
    exact Nb.append _ _ _ (allPts_next h.1 h1.1 h2 L) ih
theorem round_ok {l : List Pt} (h : l.all okPt = true) : (roundP l).all okPt = true := by
  cases l with
  | nil => rfl
  | cons p t =>
    rw [List.all_eq_true] at h ⊢
    intro x hx
    have := (ded_sub (p :: t ++ [p])).subset hx
    rcases List.mem_append.1 this with h1 | h1
    · exact h x h1
    · simp at h1; subst h1; exact h x List.mem_cons_self
theorem ringM_next (L : List Int) (l : List Pt) (hok : l.all okPt = true) (i : Nat) (hi : i < (ringM L l).length) :
    NoLine L (ringM L l)[i]! (ringM L l)[(i + 1) % (ringM L l).length]! ∧ (1 < (ringM L l).length → (ringM L l)[i]! ≠ (ringM L l)[(i + 1) % (ringM L l).length]!) := by
  cases l with
  | nil => exact absurd hi (by simp [ringM, thinR, edges, Lib.compact, Lib.compactUpTo, stripN])
  | cons p t =>
    rcases ringM_path L p t with ⟨h1, h2⟩ | ⟨s, h0, h1, h2⟩
    · rw [h2] at hi ⊢
      have : i = 0 := by simpa using hi
      subst this
      refine ⟨fun c _ => ?_, fun h => absurd h (by simp)⟩
      simp; omega
    · have hn := walkF_next L (p :: s ++ [p]) (by have := round_ok hok; rwa [h1] at this) (by have := ded_ne (p :: t ++ [p]); rwa [show ded (p :: t ++ [p]) = p :: s ++ [p] from h1] at this)
      obtain ⟨u, hu⟩ := walkF_cons L p (s ++ [p])
      have h3 : ringM L (p :: t) ++ [p] = p :: u := by rw [h2]; exact hu
      rw [← h2] at hn
      have hg := Nb.get _ hn i (by simp; omega)
      generalize ringM L (p :: t) = r at *
      have e1 : (r ++ [p])[i]'(by simp; omega) = r[i]! := by rw [List.getElem_append_left hi, getElem!_pos r i hi]
      have e2 : (r ++ [p])[i + 1]'(by simp; omega) = r[(i + 1) % r.length]! := by
        by_cases h4 : i + 1 < r.length
        · rw [List.getElem_append_left h4, Nat.mod_eq_of_lt h4, getElem!_pos r _ h4]
        · have h5 : i + 1 = r.length := by omega
          simp only [h5, Nat.mod_self]
          rw [getElem!_pos r 0 (by omega)]
          cases r with
          | nil => simp at hi
          | cons x r => simp at h3; simp [h3.1]
      rw [e1, e2] at hg
      exact ⟨hg.2, fun _ => hg.1⟩
end Go
/- Rows of the program's table of types. -/
namespace Go.Proofs.Ytediblljgakoeaa
theorem Try.infoU8 : (Try.prog.info? 5).map (fun i => (i.zero, i.size, i.bytes)) = some (some (.int .u8 0), 1, 1) := by kernel_rfl
theorem Try.infoInt : (Try.prog.info? 3).map (fun i => (i.zero, i.size, i.bytes)) = some (some (.int .i64 0), 1, 8) := by kernel_rfl
end Go.Proofs.Ytediblljgakoeaa
/- Opening a law's arguments: a point. -/
set_option maxRecDepth 100000
namespace Go.Proofs.Ytediblljgakoeaa
open Go.RowKit Go.ChangeShapes Go.WideShapes Go.ChangeAt
/-- What is known of a point that came in. -/
def PtIn (p : Pt) : Prop := (Lit.int .i64 p.x).wf = true ∧ (Lit.int .i64 p.y).wf = true
theorem open_pt {H : Type} {enc : TypeId × Value → H} {W : World} {base b0 : Nat} {spare : Nat → Bool} {held : Bool} {r : Reach} {v : Value} {d : DataW H} {ps : List MemPlace} (hv : Value.okWide Try.prog W r b0 32 v)
    (hd : DataW.Trod enc Try.prog W base spare held 32 v d ps) : ∃ p : Pt, v = p.val ∧ PtIn p := by
  obtain ⟨cs, rfl, hsz⟩ := okWide_struct Try.underlying32 hv
  obtain ⟨n, hd⟩ := hd
  have hc : (Value.agg cs).cells.toList = cs.toList := by simp [Value.cells]
  rw [hc] at hd
  obtain ⟨xs, k, hk, hxy, _, hxl, hf⟩ := DataW.trod_struct Try.underlying32 hd
  have c2 : Try.prog.cellsOf 32 = 2 := by kernel_rfl
  have c3 : Try.prog.cellsOf 3 = 1 := by kernel_rfl
  rw [c2] at hsz
  obtain ⟨l⟩ := cs
  match xs, hxl, l, hsz with
  | [y0, y1], _, [v0, v1], _ =>
    have g0 := hf 0 _ rfl
    have g1 := hf 1 _ rfl
    simp [c3] at g0 g1
    obtain ⟨n0, e0, -, w0⟩ := DataW.trod_int Try.underlying3 g0
    obtain ⟨n1, e1, -, w1⟩ := DataW.trod_int Try.underlying3 g1
    simp at e0 e1
    subst e0 e1
    exact ⟨⟨n0, n1⟩, rfl, w0, w1⟩
end Go.Proofs.Ytediblljgakoeaa
/- Slices of points that come in: PC; an opener for []api.Point. -/
set_option linter.unusedVariables false
set_option linter.unusedSimpArgs false
set_option maxRecDepth 100000
namespace Go
open Go.RowKit

/-- A slice of points, with its address and capacity. -/
structure PC where
  l : List Pt
  p : Option Addr
  c : Nat
instance : Inhabited PC := ⟨⟨[], none, 0⟩⟩
def PC.val (x : PC) : Value := .slice x.p x.l.length x.c
def PC.cells (x : PC) : List Value := [x.val]
def PC.Ok (W : World) (x : PC) : Prop := Rd W x.p (pts x.l) ∧ x.l.length ≤ x.c ∧ x.c ≤ maxLen ∧ (x.p = none → x.c = 0)
theorem PC.Ok.keep {w w' : World} {x : PC} (h : x.Ok w) (hb : Below w.heap.size w w') : x.Ok w' := ⟨h.1.keep hb, h.2⟩
def PC.cut (x : PC) : PC := ⟨x.l.take 40, x.p, x.c⟩
theorem PC.Ok.cut {w : World} {x : PC} (h : x.Ok w) : x.cut.Ok w :=
  ⟨by have := h.1.take (40 * 2); rw [pts_take] at this; exact this, by have := h.2.1; simp [PC.cut]; omega, h.2.2.1, h.2.2.2⟩
end Go
namespace Go.Proofs.Ytediblljgakoeaa
open Go.RowKit Go.ChangeShapes Go.WideShapes Go.ChangeAt
theorem one_ring {H : Type} {enc : TypeId × Value → H} {W : World} {base : Nat} {spare : Nat → Bool} {held : Bool} (hsp : ∀ b, spare b = true) (n : Nat) (cs' : List Value) (z : DataW H × List MemPlace) (hl : cs'.length = 1)
    (h : DataW.trod enc Try.prog W base spare held n 42 cs' = some z) : ∃ y : PC, cs' = y.cells ∧ y.Ok W := by
  have c3 : Try.prog.cellsOf 3 = 1 := by kernel_rfl
  match cs', hl with
  | [v], _ =>
    obtain ⟨a, l, c, rfl⟩ : ∃ a l c, v = .slice a l c := by
      rcases DataW.trod_slice Try.underlying42 h with ⟨hc, _⟩ | ⟨a, l, c, _, _, _, _, hc, _⟩
      · simp at hc; exact ⟨_, _, _, hc⟩
      · simp at hc; exact ⟨_, _, _, hc⟩
    obtain ⟨xs, rfl, h1, h2, h3, h4, -⟩ := open_flat 2 (by decide) Pt.cells (fun _ => True) (fun _ => rfl) Try.underlying42 (by kernel_rfl) (fun n cs z hcl ht => by
      obtain ⟨ys, k, hk, hxy, _, hxl, hf⟩ := DataW.trod_struct Try.underlying32 ht
      match ys, hxl, cs, hcl with
      | [y0, y1], _, [v0, v1], _ =>
        have g0 := hf 0 _ rfl
        have g1 := hf 1 _ rfl
        simp [c3] at g0 g1
        obtain ⟨n0, e0, -, w0⟩ := DataW.trod_int Try.underlying3 g0
        obtain ⟨n1, e1, -, w1⟩ := DataW.trod_int Try.underlying3 g1
        simp at e0 e1
        subst e0 e1
        exact ⟨⟨n0, n1⟩, rfl, trivial⟩) h
    exact ⟨⟨xs, a, c⟩, rfl, h4, h1, h2, h3⟩

theorem one_pt {H : Type} {enc : TypeId × Value → H} {W : World} {base : Nat} {spare : Nat → Bool} {held : Bool} (n : Nat) (cs : List Value) (z : DataW H × List MemPlace) (hcl : cs.length = 2)
    (ht : DataW.trod enc Try.prog W base spare held n 32 cs = some z) : ∃ y : Pt, cs = y.cells ∧ PtIn y := by
  have c3 : Try.prog.cellsOf 3 = 1 := by kernel_rfl
  obtain ⟨ys, k, hk, hxy, _, hxl, hf⟩ := DataW.trod_struct Try.underlying32 ht
  match ys, hxl, cs, hcl with
  | [y0, y1], _, [v0, v1], _ =>
    have g0 := hf 0 _ rfl
    have g1 := hf 1 _ rfl
    simp [c3] at g0 g1
    obtain ⟨n0, e0, -, w0⟩ := DataW.trod_int Try.underlying3 g0
    obtain ⟨n1, e1, -, w1⟩ := DataW.trod_int Try.underlying3 g1
    simp at e0 e1
    subst e0 e1
    exact ⟨⟨n0, n1⟩, rfl, w0, w1⟩
theorem open_pts {H : Type} {enc : TypeId × Value → H} {W : World} {base : Nat} {spare : Nat → Bool} {fuel : Nat} {a : Option Addr} {len cap : Nat} {x : DataW H × List MemPlace} {held : Bool} (hsp : ∀ b, spare b = true)
    (h : DataW.trod enc Try.prog W base spare held fuel 42 [.slice a len cap] = some x) :
    ∃ xs : List Pt, len = xs.length ∧ len ≤ cap ∧ cap ≤ maxLen ∧ (a = none → cap = 0) ∧ Rd W a (pts xs) ∧ ∀ y ∈ xs, PtIn y :=
  open_flat 2 (by decide) Pt.cells PtIn (fun _ => rfl) Try.underlying42 (by kernel_rfl) (fun n cs' z hl hz => one_pt n cs' z hl hz) h
end Go.Proofs.Ytediblljgakoeaa
