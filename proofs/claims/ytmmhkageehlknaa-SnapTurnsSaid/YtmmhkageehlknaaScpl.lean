/-
  The cuts of a segment, in plain terms: whatever order sorts them, the points are the same.
-/
import Derived.Test.YtmmhkageehlknaaSsrt
import Derived.Test.YtmmhkageehlknaaSthin
import Derived.Test.YtmmhkageehlknaaSat
set_option linter.unusedVariables false
set_option linter.unusedSimpArgs false
namespace Go
open Go.RowKit Go.Srt
theorem sorted_map {α β : Type} {c : α → α → Int} (f : α → β) : ∀ (l2 l3 : List α), (∀ x ∈ l2, ∀ y ∈ l2, c x y ≤ 0 → c y x ≤ 0 → f x = f y) → l2.Perm l3 →
    (∀ x ∈ l2, c x x ≤ 0) → l2.Pairwise (fun x y => c x y ≤ 0) → l3.Pairwise (fun x y => c x y ≤ 0) → l2.map f = l3.map f := by
  intro l2
  induction l2 with
  | nil => intro l3 _ hp _ _ _; rw [List.Perm.nil_eq hp]
  | cons x t ih =>
    intro l3 ht hp hr h2 h3
    obtain ⟨A, B, rfl⟩ := List.append_of_mem (hp.mem_iff.1 (List.mem_cons_self ..))
    have hp' : t.Perm (A ++ B) := List.Perm.cons_inv (hp.trans List.perm_middle)
    have hsub : (A ++ B).Pairwise (fun x y => c x y ≤ 0) := h3.sublist (List.Sublist.append_left (List.sublist_cons_self ..) A)
    have hrec := ih (A ++ B) (fun u hu v hv => ht u (List.mem_cons_of_mem _ hu) v (List.mem_cons_of_mem _ hv)) hp' (fun u hu => hr u (List.mem_cons_of_mem _ hu)) (List.pairwise_cons.1 h2).2 hsub
    have hA : ∀ y ∈ A, f y = f x := by
      intro y hy
      have hy2 : y ∈ x :: t := hp.mem_iff.2 (List.mem_append_left _ hy)
      have h1 : c y x ≤ 0 := (List.pairwise_append.1 h3).2.2 y hy x (List.mem_cons_self ..)
      have h4 : c x y ≤ 0 := by
        rcases List.mem_cons.1 hy2 with rfl | h
        · exact hr _ (List.mem_cons_self ..)
        · exact (List.pairwise_cons.1 h2).1 y h
      exact ht y hy2 x (List.mem_cons_self ..) h1 h4
    have hrep : ∀ A : List α, (∀ y ∈ A, f y = f x) → f x :: A.map f = A.map f ++ [f x] := by
      intro A
      induction A with
      | nil => intro _; rfl
      | cons a A ihA =>
        intro h
        have e := ihA (fun y hy => h y (List.mem_cons_of_mem _ hy))
        rw [List.map_cons, h a (List.mem_cons_self ..), List.cons_append, ← e]
    rw [List.map_cons, hrec, List.map_append, ← List.cons_append, hrep A hA, List.map_append, List.map_cons, List.append_assoc]
    rfl

def cutX (a b : Pt) (c : Int) : Option Cu := if (atF a b c).2 then some ⟨c, (atF a b c).1, ((c - a.x).natAbs : Nat), ((b.x - a.x).natAbs : Nat)⟩ else none
def cutY (a b : Pt) (c : Int) : Option Cu := if (atF ⟨a.y, a.x⟩ ⟨b.y, b.x⟩ c).2 then some ⟨(atF ⟨a.y, a.x⟩ ⟨b.y, b.x⟩ c).1, c, ((c - a.y).natAbs : Nat), ((b.y - a.y).natAbs : Nat)⟩ else none
theorem at_in {a b : Pt} {c : Int} (h : (atF a b c).2 = true) : ((-16777216 ≤ a.x ∧ a.x ≤ 16777216) ∧ (-16777216 ≤ b.x ∧ b.x ≤ 16777216)) ∧ ((a.x < c ∧ c < b.x ∧ (atF a b c).1 = roundF (a.y * (b.x - a.x) + (b.y - a.y) * (c - a.x)) (b.x - a.x)) ∨ (b.x < c ∧ c < a.x ∧ (atF a b c).1 = roundF (b.y * (a.x - b.x) + (a.y - b.y) * (c - b.x)) (a.x - b.x))) := by
  revert h
  unfold atF
  by_cases hs : b.x < a.x
  · simp only [hs, if_true]
    split
    · simp
    · rename_i h
      intro _
      obtain ⟨h1, h2⟩ := not_or.1 h
      have h1 := (Bool.not_eq_false _).mp h1
      simp only [List.all_cons, List.all_nil, Bool.and_true, Bool.and_eq_true, okPt_iff] at h1
      exact ⟨by omega, .inr ⟨by omega, by omega, rfl⟩⟩
  · simp only [hs, if_false]
    split
    · simp
    · rename_i h
      intro _
      obtain ⟨h1, h2⟩ := not_or.1 h
      have h1 := (Bool.not_eq_false _).mp h1
      simp only [List.all_cons, List.all_nil, Bool.and_true, Bool.and_eq_true, okPt_iff] at h1
      exact ⟨by omega, .inl ⟨by omega, by omega, rfl⟩⟩
theorem at_bd {a b : Pt} {c : Int} (h : (atF a b c).2 = true) : (-16777216 ≤ a.x ∧ a.x ≤ 16777216) ∧ (-16777216 ≤ b.x ∧ b.x ≤ 16777216) ∧ (-16777216 ≤ c ∧ c ≤ 16777216) := by
  have := at_in h; omega
theorem roundF_exact (d k : Int) (hk : 0 < k) : roundF (d * k) k = d := by
  unfold roundF
  rw [Int.mul_ediv_cancel _ (by omega), if_neg (by omega)]
theorem at_exact {a b : Pt} {c d : Int} (h : (atF a b c).2 = true) (he : (c - a.x) * (b.y - a.y) = (d - a.y) * (b.x - a.x)) : (atF a b c).1 = d := by
  obtain ⟨-, ⟨h1, h2, e⟩ | ⟨h1, h2, e⟩⟩ := at_in h
  · rw [e, show a.y * (b.x - a.x) + (b.y - a.y) * (c - a.x) = d * (b.x - a.x) by grind]
    exact roundF_exact _ _ (by omega)
  · rw [e, show b.y * (a.x - b.x) + (a.y - b.y) * (c - b.x) = d * (a.x - b.x) by grind]
    exact roundF_exact _ _ (by omega)
theorem cutX_some {a b : Pt} {c : Int} {k : Cu} (h : cutX a b c = some k) : (atF a b c).2 = true ∧ k = ⟨c, (atF a b c).1, ((c - a.x).natAbs : Nat), ((b.x - a.x).natAbs : Nat)⟩ := by
  unfold cutX at h
  split at h
  · rename_i h2; cases h; exact ⟨h2, rfl⟩
  · cases h
theorem cutY_some {a b : Pt} {c : Int} {k : Cu} (h : cutY a b c = some k) : (atF ⟨a.y, a.x⟩ ⟨b.y, b.x⟩ c).2 = true ∧ k = ⟨(atF ⟨a.y, a.x⟩ ⟨b.y, b.x⟩ c).1, c, ((c - a.y).natAbs : Nat), ((b.y - a.y).natAbs : Nat)⟩ := by
  unfold cutY at h
  split at h
  · rename_i h2; cases h; exact ⟨h2, rfl⟩
  · cases h
theorem cutX_ok {a b : Pt} {c : Int} {k : Cu} (h : cutX a b c = some k) : CuOk k := by
  obtain ⟨h2, rfl⟩ := cutX_some h
  have := at_in h2
  exact ⟨⟨by dsimp only; omega, by dsimp only; omega⟩, by dsimp only; omega, by dsimp only; omega⟩
theorem cutY_ok {a b : Pt} {c : Int} {k : Cu} (h : cutY a b c = some k) : CuOk k := by
  obtain ⟨h2, rfl⟩ := cutY_some h
  have := at_in h2
  dsimp only at this
  exact ⟨⟨by dsimp only; omega, by dsimp only; omega⟩, by dsimp only; omega, by dsimp only; omega⟩
def cutRow (a b : Pt) (xs ys : List Int) : List Cu := xs.filterMap (cutX a b) ++ ys.filterMap (cutY a b)
theorem cutRow_mem {a b : Pt} {xs ys : List Int} {k : Cu} (h : k ∈ cutRow a b xs ys) : (∃ c, cutX a b c = some k) ∨ ∃ c, cutY a b c = some k := by
  rcases List.mem_append.1 h with h | h
  · obtain ⟨c, -, h⟩ := List.mem_filterMap.1 h; exact .inl ⟨c, h⟩
  · obtain ⟨c, -, h⟩ := List.mem_filterMap.1 h; exact .inr ⟨c, h⟩
theorem cutRow_ok {a b : Pt} {xs ys : List Int} {k : Cu} (h : k ∈ cutRow a b xs ys) : CuOk k := by
  rcases cutRow_mem h with ⟨c, h⟩ | ⟨c, h⟩
  · exact cutX_ok h
  · exact cutY_ok h
theorem abs_tie {c a b : Int} {d a' b' : Int} (h1 : (a < c ∧ c < b) ∨ (b < c ∧ c < a)) (h2 : (a' < d ∧ d < b') ∨ (b' < d ∧ d < a'))
    (he : ((c - a).natAbs : Int) * ((b' - a').natAbs : Int) = ((d - a').natAbs : Int) * ((b - a).natAbs : Int)) : (c - a) * (b' - a') = (d - a') * (b - a) := by
  rcases h1 with h1 | h1 <;> rcases h2 with h2 | h2
  · rw [show ((c - a).natAbs : Int) = c - a by omega, show ((b' - a').natAbs : Int) = b' - a' by omega, show ((d - a').natAbs : Int) = d - a' by omega, show ((b - a).natAbs : Int) = b - a by omega] at he
    exact he
  · rw [show ((c - a).natAbs : Int) = c - a by omega, show ((b' - a').natAbs : Int) = -(b' - a') by omega, show ((d - a').natAbs : Int) = -(d - a') by omega, show ((b - a).natAbs : Int) = b - a by omega] at he
    grind
  · rw [show ((c - a).natAbs : Int) = -(c - a) by omega, show ((b' - a').natAbs : Int) = b' - a' by omega, show ((d - a').natAbs : Int) = d - a' by omega, show ((b - a).natAbs : Int) = -(b - a) by omega] at he
    grind
  · rw [show ((c - a).natAbs : Int) = -(c - a) by omega, show ((b' - a').natAbs : Int) = -(b' - a') by omega, show ((d - a').natAbs : Int) = -(d - a') by omega, show ((b - a).natAbs : Int) = -(b - a) by omega] at he
    grind
theorem at_side {a b : Pt} {c : Int} (h : (atF a b c).2 = true) : (a.x < c ∧ c < b.x) ∨ (b.x < c ∧ c < a.x) := by
  have := at_in h; omega
theorem mul_cancel {c d k : Int} (hk : k ≠ 0) (h : c * k = d * k) : c = d := Int.eq_of_mul_eq_mul_right hk h
/-- What is as far is the same point. -/
theorem cut_tie {a b : Pt} {xs ys : List Int} {x y : Cu} (hx : x ∈ cutRow a b xs ys) (hy : y ∈ cutRow a b xs ys) (h1 : cmpC x y ≤ 0) (h2 : cmpC y x ≤ 0) : x.at = y.at := by
  have he : x.p * y.w = y.p * x.w := by unfold cmpC at h1 h2; omega
  clear h1 h2
  rcases cutRow_mem hx with ⟨c, hx⟩ | ⟨c, hx⟩ <;> rcases cutRow_mem hy with ⟨d, hy⟩ | ⟨d, hy⟩
  · obtain ⟨i1, rfl⟩ := cutX_some hx
    obtain ⟨i2, rfl⟩ := cutX_some hy
    have s1 := at_side i1
    have s2 := at_side i2
    dsimp only at he
    have := abs_tie s1 s2 he
    have := mul_cancel (by omega) this
    obtain rfl : c = d := by omega
    rfl
  · obtain ⟨i1, rfl⟩ := cutX_some hx
    obtain ⟨i2, rfl⟩ := cutY_some hy
    have s1 := at_side i1
    have s2 := at_side i2
    dsimp only at he s2
    have hh := abs_tie s1 s2 he
    have e1 := at_exact i1 hh
    have e2 := at_exact (a := ⟨a.y, a.x⟩) (b := ⟨b.y, b.x⟩) (d := c) i2 hh.symm
    unfold Cu.at
    dsimp only
    rw [e1, e2]
  · obtain ⟨i1, rfl⟩ := cutY_some hx
    obtain ⟨i2, rfl⟩ := cutX_some hy
    have s1 := at_side i1
    have s2 := at_side i2
    dsimp only at he s1
    have hh := abs_tie s1 s2 he
    have e1 := at_exact (a := ⟨a.y, a.x⟩) (b := ⟨b.y, b.x⟩) (d := d) i1 hh
    have e2 := at_exact i2 hh.symm
    unfold Cu.at
    dsimp only
    rw [e1, e2]
  · obtain ⟨i1, rfl⟩ := cutY_some hx
    obtain ⟨i2, rfl⟩ := cutY_some hy
    have s1 := at_side i1
    have s2 := at_side i2
    dsimp only at he s1 s2
    have := abs_tie s1 s2 he
    have := mul_cancel (by omega) this
    obtain rfl : c = d := by omega
    rfl
/-- Points ahead of which the same point lies, left out. -/
def thinP (a b : Pt) (l : List Pt) : List Pt := let s := l.foldl (fun (s : Pt × List Pt) c => if c = s.1 then s else (c, s.2 ++ [c])) (a, []); if s.2 ≠ [] ∧ s.1 = b then s.2.dropLast else s.2
theorem thinF_map (a b : Pt) (l : List Cu) : thinF a b l = thinP a b (l.map Cu.at) := by
  have : thAll a l = (l.map Cu.at).foldl (fun (s : Pt × List Pt) c => if c = s.1 then s else (c, s.2 ++ [c])) (a, []) := by
    unfold thAll
    rw [List.foldl_map]
    rfl
  unfold thinF thinP
  rw [this]
def cutPts (a b : Pt) (xs ys : List Int) : List Pt := (insC cmpC 0 (cutRow a b xs ys) ((cutRow a b xs ys).length - 1)).map Cu.at
def cutsF (a b : Pt) (xs ys : List Int) : List Pt := thinP a b (cutPts a b xs ys)
theorem cutPts_of (a b : Pt) (xs ys : List Int) (l2 : List Cu) (hp : l2.Perm (cutRow a b xs ys)) (hs : SR cmpC l2 0 l2.length) : l2.map Cu.at = cutPts a b xs ys := by
  obtain ⟨p, s⟩ := ins_ok cmpOrd 0 (cutRow a b xs ys) (fun x hx => cutRow_ok hx) ((cutRow a b xs ys).length - 1) (by omega)
  refine sorted_map (c := cmpC) Cu.at l2 _ (fun x hx y hy h1 h2 => cut_tie (hp.mem_iff.1 hx) (hp.mem_iff.1 hy) h1 h2) (hp.trans p.prm.symm) (fun x _ => by unfold cmpC; omega) hs.pairwise (SR.pairwise ?_)
  intro i j h1 h2 h3
  rw [insC_len] at h3
  exact s i j h1 h2 (by omega)
theorem cutsF_of (a b : Pt) (xs ys : List Int) (l2 : List Cu) (hp : l2.Perm (cutRow a b xs ys)) (hs : SR cmpC l2 0 l2.length) : thinF a b l2 = cutsF a b xs ys := by
  rw [thinF_map, cutPts_of a b xs ys l2 hp hs]; rfl
end Go
