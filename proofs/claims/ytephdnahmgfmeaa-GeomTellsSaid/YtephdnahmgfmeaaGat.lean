/-
  Plain: where a part's numbers stand; what a geometry that is right has.
-/
import Derived.Test.YtephdnahmgfmeaaGrpart
set_option linter.unusedVariables false
set_option linter.unusedSimpArgs false
namespace Go
open Go.RowKit Go.Vint

theorem pn_get (l : List Pt) : ∀ (a : Pt) (i : Nat), i < l.length → (pn a l)[2 * i]? = some (zig (l[i]!.x - (lastP a l i).x)) ∧ (pn a l)[2 * i + 1]? = some (zig (l[i]!.y - (lastP a l i).y)) := by
  induction l with
  | nil => intro a i h; simp at h
  | cons p l ih =>
    intro a i h
    rw [pn]
    cases i with
    | zero => simp [byN, lastP]
    | succ i =>
      have hl : (byN a p).length = 2 := rfl
      have := ih p i (by simpa using h)
      rw [List.getElem?_append_right (by rw [hl]; omega), List.getElem?_append_right (by rw [hl]; omega), hl]
      rw [show 2 * (i + 1) - 2 = 2 * i by omega, show 2 * (i + 1) + 1 - 2 = 2 * i + 1 by omega]
      have e1 : (p :: l)[i + 1]! = l[i]! := by simp
      have e2 : lastP a (p :: l) (i + 1) = lastP p l i := by
        unfold lastP
        rw [if_neg (by omega), Nat.add_sub_cancel]
        cases i with
        | zero => simp
        | succ i => rw [if_neg (by omega)]; simp
      rw [e1, e2]
      exact this

theorem partN_len' (kind : Int) (a : Pt) (l : List Pt) (h : 1 ≤ l.length) : (partN kind a l).length = 2 + 2 * l.length + (if kind = 3 then 1 else 0) := by
  unfold partN
  simp only [List.length_append, pn_len, List.length_drop]
  split <;> simp [byN] <;> omega

theorem partAt_of {kind : Int} {a : Pt} {l : List Pt} {L rest : List Int} {k : Nat} (h : L.drop k = partN kind a l ++ rest) (hl : 2 ≤ l.length) : PartAt kind a l L k := by
  have hd : ∀ i, L[k + i]? = (partN kind a l ++ rest)[i]? := fun i => by rw [← h, List.getElem?_drop]
  have hln := partN_len' kind a l (by omega)
  have hsm : ∀ i, i < 2 + 2 * l.length → L[k + i]? = ([(9 : Int)] ++ byN a l[0]! ++ [((l.length : Int) - 1) * 8 + 2] ++ pn l[0]! (l.drop 1))[i]? := fun i hi => by
    rw [hd, List.getElem?_append_left (by omega)]
    unfold partN
    rw [List.getElem?_append_left (by simp [pn_len, byN]; omega)]
  have hbl : ([(9 : Int)] ++ byN a l[0]! ++ [((l.length : Int) - 1) * 8 + 2]).length = 4 := rfl
  refine ⟨?_, ?_, ?_, ?_⟩
  · have := hsm 0 (by omega)
    simpa using this
  · intro i hi
    by_cases h0 : i = 0
    · subst h0
      rw [if_pos rfl]
      have e1 := hsm 1 (by omega)
      have e2 := hsm 2 (by omega)
      rw [List.getElem?_append_left (by rw [hbl]; omega)] at e1 e2
      unfold lastP
      rw [if_pos rfl]
      exact ⟨by rw [e1]; rfl, by rw [show k + 1 + 1 = k + 2 by omega, e2]; rfl⟩
    · rw [if_neg h0]
      have e := pn_get (l.drop 1) l[0]! (i - 1) (by simp; omega)
      have e3 : (l.drop 1)[i - 1]! = l[i]! := by
        rw [getElem!_pos (l.drop 1) (i - 1) (by simp; omega), List.getElem_drop, getElem!_pos l i hi]
        congr 1; omega
      have e4 : lastP l[0]! (l.drop 1) (i - 1) = lastP a l i := by
        unfold lastP
        rw [if_neg h0]
        by_cases h1 : i = 1
        · subst h1; simp
        · rw [if_neg (by omega), getElem!_pos (l.drop 1) (i - 1 - 1) (by simp; omega), List.getElem_drop, getElem!_pos l (i - 1) (by omega)]
          congr 1; omega
      rw [e3, e4] at e
      have f1 := hsm (2 + 2 * i) (by omega)
      have f2 := hsm (2 + 2 * i + 1) (by omega)
      rw [List.getElem?_append_right (by rw [hbl]; omega), hbl] at f1 f2
      rw [show 2 + 2 * i - 4 = 2 * (i - 1) by omega] at f1
      rw [show 2 + 2 * i + 1 - 4 = 2 * (i - 1) + 1 by omega] at f2
      rw [e.1] at f1
      rw [e.2] at f2
      exact ⟨by rw [← f1]; congr 1; omega, by rw [← f2]; congr 1; omega⟩
  · have := hsm 3 (by omega)
    rw [List.getElem?_append_left (by rw [hbl]; omega)] at this
    rw [this]
    have : ((l.length - 1 : Nat) : Int) = (l.length : Int) - 1 := by omega
    rw [this]; rfl
  · intro hk
    subst hk
    have := hd (2 + 2 * l.length)
    rw [List.getElem?_append_left (by rw [hln]; simp)] at this
    unfold partN at this
    rw [List.getElem?_append_right (by simp [pn_len, byN]; omega)] at this
    have e : 2 + 2 * l.length - ([(9 : Int)] ++ byN a l[0]! ++ [((l.length : Int) - 1) * 8 + 2] ++ pn l[0]! (l.drop 1)).length = 0 := by simp [pn_len, byN]; omega
    rw [e] at this
    rw [← Nat.add_assoc] at this
    rw [this]; rfl

theorem chk_get {kind : Int} (G : List (List Pt)) : ∀ {first : Bool}, chk kind first G = 0 → ∀ (j : Nat) (h : j < G.length), partE kind (first && decide (j = 0)) G[j] = 0 := by
  induction G with
  | nil => intro first _ j h; simp at h
  | cons l t ih =>
    intro first hc j h
    rw [chk] at hc
    by_cases hp : partE kind first l = 0
    · rw [if_neg (by simpa using hp)] at hc
      cases j with
      | zero => simpa using hp
      | succ j =>
        have := ih hc j (by simpa using h)
        simpa using this
    · rw [if_pos hp] at hc; exact absurd hc hp

theorem checkE_get {kind : Int} {G : List (List Pt)} (h : checkE kind G = 0) (j : Nat) (hj : j < G.length) : partE kind (decide (j = 0)) G[j] = 0 := by
  unfold checkE at h
  split at h
  · simp at h
  · split at h
    · simp at h
    · simpa using chk_get G h j hj
end Go
