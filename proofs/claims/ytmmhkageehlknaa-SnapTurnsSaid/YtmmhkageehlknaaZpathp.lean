/-
  A ring at a level, told as the path round it: turned, and its neighbours: in plain terms.
-/
import Derived.Test.YtmmhkageehlknaaZring
import Derived.Test.YtmmhkageehlknaaSpiecep
set_option linter.unusedVariables false
set_option linter.unusedSimpArgs false
namespace Go
open Go.RowKit Go.Srt
theorem compact_ded (l : List Pt) : Lib.compact l = ded l := by
  have key : ∀ k, k ≤ l.length → Lib.compactUpTo l.toArray k = ded (l.take k) := by
    intro k
    induction k with
    | zero => intro _; simp [Lib.compactUpTo, ded]
    | succ k ih =>
      intro hk
      rw [Lib.compactUpTo_succ, ih (by omega)]
      have hg : l.toArray[k]! = l[k] := by simp [getElem!_pos l k (by omega)]
      rw [hg]
      cases k with
      | zero =>
        rw [if_pos (Lib.keeps_lt_one _ 0 (by omega)), List.take_succ_eq_append_getElem (by omega)]
        simp [ded]
      | succ k =>
        have hg1 : l.toArray[k + 1 - 1]! = l[k] := by simp [getElem!_pos l k (by omega)]
        have e1 : l.take (k + 1 + 1) = l.take k ++ [l[k], l[k + 1]] := by
          rw [List.take_succ_eq_append_getElem (by omega), List.take_succ_eq_append_getElem (by omega), List.append_assoc]; rfl
        have e2 : l.take (k + 1) = l.take k ++ [l[k]] := List.take_succ_eq_append_getElem (by omega)
        rw [e1, ded_two, e2]
        by_cases h : l[k] = l[k + 1]
        · rw [if_pos h, Lib.keeps_neg (by omega) (by rw [hg, hg1]; exact h.symm)]; simp
        · rw [if_neg h, Lib.keeps_pos (by rw [hg, hg1]; exact fun e => h e.symm)]; simp
  have := key l.length (Nat.le_refl _)
  rwa [List.take_length] at this
/-- Neighbours all of a kind. -/
def Nb (P : Pt → Pt → Prop) : List Pt → Prop
  | a :: b :: l => P a b ∧ Nb P (b :: l)
  | _ => True
theorem Nb.append {P : Pt → Pt → Prop} : ∀ (l1 : List Pt) (x : Pt) (l2 : List Pt), Nb P (l1 ++ [x]) → Nb P (x :: l2) → Nb P (l1 ++ x :: l2)
  | [], x, l2, _, h2 => h2
  | [a], x, l2, h1, h2 => ⟨h1.1, h2⟩
  | a :: b :: l, x, l2, h1, h2 => ⟨h1.1, Nb.append (b :: l) x l2 h1.2 h2⟩
theorem Nb.get {P : Pt → Pt → Prop} : ∀ (l : List Pt), Nb P l → ∀ (i : Nat) (h : i + 1 < l.length), P l[i] l[i + 1]
  | a :: b :: l, h, 0, _ => h.1
  | a :: b :: l, h, i + 1, hi => Nb.get (b :: l) h.2 i (by simp at hi ⊢; omega)
  | [a], _, i, hi => by simp at hi
  | [], _, i, hi => by simp at hi
theorem Nb.of_get {P : Pt → Pt → Prop} : ∀ (l : List Pt), (∀ (i : Nat) (h : i + 1 < l.length), P l[i] l[i + 1]) → Nb P l
  | a :: b :: l, h => ⟨h 0 (by simp), Nb.of_get (b :: l) (fun i hi => h (i + 1) (by simp at hi ⊢; omega))⟩
  | [a], _ => trivial
  | [], _ => trivial
theorem ded_ne : ∀ l : List Pt, Nb (· ≠ ·) (ded l)
  | [] => trivial
  | [p] => trivial
  | p :: q :: l => by
    rw [ded]
    have ih := ded_ne (q :: l)
    split
    · exact ih
    · rename_i h
      obtain ⟨t, ht⟩ := ded_cons q l
      rw [ht] at ih ⊢
      exact ⟨h, ih⟩
theorem ded_fix : ∀ l : List Pt, Nb (· ≠ ·) l → ded l = l
  | [], _ => rfl
  | [p], _ => rfl
  | p :: q :: l, h => by rw [ded, if_neg h.1, ded_fix (q :: l) h.2]
/-- A path with its cuts. -/
def walkF (L : List Int) : List Pt → List Pt
  | x :: y :: r => edgeF L (x, y) ++ walkF L (y :: r)
  | l => l
theorem walkF_cons (L : List Int) (y : Pt) (r : List Pt) : ∃ t, walkF L (y :: r) = y :: t := by
  cases r with
  | nil => exact ⟨[], rfl⟩
  | cons z r => exact ⟨_, rfl⟩
theorem walkF_append (L : List Int) : ∀ (l : List Pt) (x : Pt) (r : List Pt), walkF L (l ++ x :: r) = (walkF L (l ++ [x])).dropLast ++ walkF L (x :: r)
  | [], x, r => by simp [walkF]
  | [a], x, r => by simp [walkF]
  | a :: b :: l, x, r => by
    have ih := walkF_append L (b :: l) x r
    show edgeF L (a, b) ++ walkF L (b :: l ++ x :: r) = (edgeF L (a, b) ++ walkF L (b :: l ++ [x])).dropLast ++ walkF L (x :: r)
    rw [ih]
    obtain ⟨t, ht⟩ := walkF_cons L b (l ++ [x])
    rw [List.cons_append, ht, List.dropLast_append_of_ne_nil (by simp), List.append_assoc]
theorem walkF_reverse (L : List Int) : ∀ l : List Pt, walkF L l.reverse = (walkF L l).reverse
  | [] => rfl
  | [a] => rfl
  | x :: y :: r => by
    have ih := walkF_reverse L (y :: r)
    have e1 : (x :: y :: r).reverse = r.reverse ++ y :: [x] := by simp
    rw [e1, walkF_append]
    rw [List.reverse_cons] at ih
    rw [ih]
    obtain ⟨t, ht⟩ := walkF_cons L y r
    show _ = (edgeF L (x, y) ++ walkF L (y :: r)).reverse
    rw [ht]
    simp [walkF, edgeF, cutsF_ends x y]
theorem walkF_last (L : List Int) : ∀ (l : List Pt) (x : Pt), ∃ t, walkF L (l ++ [x]) = t ++ [x]
  | [], x => ⟨[], rfl⟩
  | [a], x => ⟨edgeF L (a, x), rfl⟩
  | a :: b :: l, x => by
    obtain ⟨t, ht⟩ := walkF_last L (b :: l) x
    exact ⟨edgeF L (a, b) ++ t, by show edgeF L (a, b) ++ walkF L (b :: l ++ [x]) = _; rw [ht, List.append_assoc]⟩
/-- Neighbours, as pairs. -/
def pairsP : List Pt → List (Pt × Pt)
  | x :: y :: r => (x, y) :: pairsP (y :: r)
  | _ => []
theorem walkF_pairs (L : List Int) : ∀ (l : List Pt) (x : Pt), walkF L (l ++ [x]) = (pairsP (l ++ [x])).flatMap (edgeF L) ++ [x]
  | [], x => rfl
  | [a], x => by simp [walkF, pairsP]
  | a :: b :: l, x => by
    have ih := walkF_pairs L (b :: l) x
    show edgeF L (a, b) ++ walkF L (b :: l ++ [x]) = ((a, b) :: pairsP (b :: l ++ [x])).flatMap (edgeF L) ++ [x]
    rw [ih, List.flatMap_cons, List.append_assoc]
theorem pairsP_len : ∀ l : List Pt, (pairsP l).length = l.length - 1
  | [] => rfl
  | [a] => rfl
  | a :: b :: l => by
    have := pairsP_len (b :: l)
    simp only [pairsP, List.length_cons] at this ⊢; omega
theorem pairsP_get : ∀ (l : List Pt) (i : Nat) (h : i + 1 < l.length), (pairsP l)[i]? = some (l[i], l[i + 1])
  | a :: b :: l, 0, _ => rfl
  | a :: b :: l, i + 1, h => by
    have := pairsP_get (b :: l) i (by simp at h ⊢; omega)
    simpa [pairsP] using this
  | [a], i, h => by simp at h
  | [], i, h => by simp at h
theorem edges_pairs (p : Pt) (l : List Pt) : edges (p :: l) = pairsP (p :: l ++ [p]) := by
  apply List.ext_getElem?
  intro i
  by_cases hi : i < (p :: l).length
  · rw [pairsP_get _ i (by simp at hi ⊢; omega)]
    unfold edges
    rw [List.getElem?_map, List.getElem?_range hi]
    simp only [Option.map_some]
    congr 1
    rw [getElem!_pos (p :: l) i hi]
    have hm := Nat.mod_lt (i + 1) (show 0 < (p :: l).length by simp)
    rw [getElem!_pos (p :: l) _ hm]
    by_cases h2 : i + 1 < (p :: l).length
    · simp only [Nat.mod_eq_of_lt h2]
      congr 1
      · rw [List.getElem_append_left hi]
      · rw [List.getElem_append_left h2]
    · have h3 : i + 1 = (p :: l).length := by omega
      simp only [h3, Nat.mod_self]
      congr 1
      · rw [List.getElem_append_left hi]
      · simp
  · rw [List.getElem?_eq_none (by simp [edges] at hi ⊢; omega), List.getElem?_eq_none (by rw [pairsP_len]; simp at hi ⊢; omega)]
theorem edges_walk (L : List Int) (p : Pt) (l : List Pt) : (edges (p :: l)).flatMap (edgeF L) ++ [p] = walkF L (p :: l ++ [p]) := by
  rw [edges_pairs, walkF_pairs]
/-- The path round a row of points. -/
def roundP (l : List Pt) : List Pt := match l with | [] => [] | p :: t => ded (p :: t ++ [p])
theorem dropLast_ne {l : List Pt} {p : Pt} (h : Nb (· ≠ ·) (l ++ [p])) (hl : l ≠ []) : l.getLast hl ≠ p := by
  have := Nb.get _ h (l.length - 1) (by have := List.length_pos_iff.2 hl; simp; omega)
  have hp := List.length_pos_iff.2 hl
  have e1 : (l ++ [p])[l.length - 1]'(by simp; omega) = l.getLast hl := by
    rw [List.getElem_append_left (by omega), List.getLast_eq_getElem]
  have e2 : (l ++ [p])[l.length - 1 + 1]'(by simp; omega) = p := by
    have : l.length - 1 + 1 = l.length := by omega
    simp only [this]; simp
  rw [e1, e2] at this
  exact this
theorem stripN_keep (l : List Pt) (h : l[l.length - 1]! ≠ l[0]!) : ∀ f, stripN f l = l
  | 0 => rfl
  | f + 1 => by unfold stripN; rw [if_neg (fun q => h q.2)]
theorem bang_last (l : List Pt) (x : Pt) : (l ++ [x])[(l ++ [x]).length - 1]! = x := by
  rw [getElem!_pos _ _ (by simp)]; simp
theorem bang_first (p : Pt) (l : List Pt) : (p :: l)[0]! = p := by rw [getElem!_pos _ _ (by simp)]; rfl
theorem ends_last {p : Pt} {s : List Pt} {l : List Pt} {q : Pt} (h : p :: s = l ++ [q]) (hq : q ≠ p) : (p :: s)[(p :: s).length - 1]! ≠ (p :: s)[0]! := by
  rw [bang_first, h, bang_last]; exact hq
theorem round_thin (p : Pt) (t : List Pt) : (roundP (p :: t) = [p] ∧ thinR (p :: t) = [p]) ∨ ∃ s, s ≠ [] ∧ thinR (p :: t) = p :: s ∧ roundP (p :: t) = p :: s ++ [p] := by
  unfold roundP thinR
  rw [compact_ded]
  obtain ⟨q, hq⟩ : ∃ q, (p :: t).getLast (by simp) = q := ⟨_, rfl⟩
  have hl : p :: t = (p :: t).dropLast ++ [q] := by rw [← hq, List.dropLast_concat_getLast]
  have hr : ded (p :: t ++ [p]) = if q = p then ded (p :: t) else ded (p :: t) ++ [p] := by
    have := ded_two (p :: t).dropLast q p
    rw [← hl, show (p :: t).dropLast ++ [q, p] = p :: t ++ [p] by rw [show [q, p] = [q] ++ [p] from rfl, ← List.append_assoc, ← hl]] at this
    exact this
  show (ded (p :: t ++ [p]) = [p] ∧ _) ∨ ∃ s, s ≠ [] ∧ _ ∧ ded (p :: t ++ [p]) = _
  rw [hr]
  obtain ⟨s0, hs⟩ := ded_cons p t
  obtain ⟨t', ht'⟩ := ded_snoc (p :: t).dropLast q
  rw [← hl] at ht'
  have hne := ded_ne (p :: t)
  generalize ded (p :: t) = c at *
  by_cases hqp : q = p
  · subst hqp
    rw [if_pos rfl]
    cases t' with
    | nil =>
      left
      rw [List.nil_append] at ht'
      subst ht'
      exact ⟨rfl, stripN_short _ (by simp) _⟩
    | cons x s =>
      have hx : x = q := by rw [ht'] at hs; simp at hs; exact hs.1
      subst hx
      right
      have hs2 : s ≠ [] := by
        rintro rfl
        rw [ht'] at hne
        exact hne.1 rfl
      refine ⟨s, hs2, ?_, ht'⟩
      have hlen : c.length = (x :: s).length + 1 := by rw [ht']; simp
      rw [hlen]
      unfold stripN
      rw [if_pos ⟨by rw [hlen]; simp, by
        have e1 : c[c.length - 1]! = x := by rw [ht']; exact bang_last _ _
        have e2 : c[0]! = x := by rw [ht']; exact bang_first _ _
        rw [e1, e2]⟩]
      have hd : c.dropLast = x :: s := by rw [ht']; exact List.dropLast_concat
      rw [hd]
      have hnl := dropLast_ne (by rw [ht'] at hne; exact hne) (show x :: s ≠ [] by simp)
      refine stripN_keep _ (ends_last (l := (x :: s).dropLast) (q := (x :: s).getLast (by simp)) (List.dropLast_concat_getLast _).symm hnl) _
  · rw [if_neg hqp]
    right
    have hs2 : s0 ≠ [] := by
      rintro rfl
      rw [hs] at ht'
      have : t' = [] := by
        have := congrArg List.length ht'
        simp at this
        exact this
      subst this
      simp at ht'
      exact hqp ht'.symm
    refine ⟨s0, hs2, ?_, by rw [hs]⟩
    rw [hs] at ht' ⊢
    exact stripN_keep _ (ends_last ht' hqp) _
theorem cutsF_none (p : Pt) (L : List Int) : cutsF p p L L = [] := by
  have h1 : cutRow p p L L = [] := by
    cases h : cutRow p p L L with
    | nil => rfl
    | cons k r =>
      exfalso
      rcases cutRow_mem (show k ∈ cutRow p p L L by rw [h]; exact List.mem_cons_self) with ⟨c, hc⟩ | ⟨c, hc⟩
      · have := at_side (cutX_some hc).1; omega
      · have := at_side (cutY_some hc).1
        dsimp only at this; omega
  unfold cutsF cutPts
  rw [h1]
  rfl
/-- The ring at a level, told by the path round. -/
def ringM (L : List Int) (l : List Pt) : List Pt := (edges (thinR l)).flatMap (edgeF L)
theorem ringM_path (L : List Int) (p : Pt) (t : List Pt) : (roundP (p :: t) = [p] ∧ ringM L (p :: t) = [p]) ∨ ∃ s, s ≠ [] ∧ roundP (p :: t) = p :: s ++ [p] ∧ ringM L (p :: t) ++ [p] = walkF L (p :: s ++ [p]) := by
  rcases round_thin p t with ⟨h1, h2⟩ | ⟨s, h0, h1, h2⟩
  · left
    refine ⟨h1, ?_⟩
    unfold ringM
    rw [h2]
    simp [edges, edgeF, cutsF_none]
  · right
    refine ⟨s, h0, h2, ?_⟩
    unfold ringM
    rw [h1]
    exact edges_walk L p s
/-- The other way round. -/
def turnedP (l : List Pt) : List Pt := match l with | [] => [] | p :: t => p :: t.reverse
theorem round_turned (p : Pt) (t : List Pt) : roundP (p :: t.reverse) = (roundP (p :: t)).reverse := by
  show ded (p :: t.reverse ++ [p]) = (ded (p :: t ++ [p])).reverse
  rw [← ded_reverse]
  congr 1
  simp
theorem ringM_turned (L : List Int) (l : List Pt) : ringM L (turnedP l) = turnedP (ringM L l) := by
  cases l with
  | nil => rfl
  | cons p t =>
    show ringM L (p :: t.reverse) = _
    have hrt := round_turned p t
    rcases ringM_path L p t with ⟨h1, h2⟩ | ⟨s, h0, h1, h2⟩
    · rcases ringM_path L p t.reverse with ⟨k1, k2⟩ | ⟨s', k0, k1, k2⟩
      · rw [h2, k2]; rfl
      · rw [h1, k1] at hrt
        have := congrArg List.length hrt
        simp at this
    · rcases ringM_path L p t.reverse with ⟨k1, k2⟩ | ⟨s', k0, k1, k2⟩
      · rw [h1, k1] at hrt
        have := congrArg List.length hrt
        simp at this
      · rw [h1, k1] at hrt
        rw [hrt, walkF_reverse, ← h2] at k2
        obtain ⟨u, hu⟩ := walkF_cons L p (s ++ [p])
        have h3 : ringM L (p :: t) ++ [p] = p :: u := by rw [h2]; exact hu
        cases hm : ringM L (p :: t) with
        | nil =>
          exfalso
          rw [hm] at h2
          have := congrArg List.length h2
          obtain ⟨v, hv⟩ := walkF_cons L s.head! (s.tail ++ [p])
          cases s with
          | nil => exact h0 rfl
          | cons y s =>
            obtain ⟨v, hv⟩ := walkF_cons L y (s ++ [p])
            rw [show walkF L (p :: y :: s ++ [p]) = edgeF L (p, y) ++ walkF L (y :: s ++ [p]) from rfl] at this
            rw [List.cons_append, hv] at this
            simp [edgeF] at this
        | cons x v =>
          rw [hm] at h3 k2
          have hx : x = p := by simp at h3; exact h3.1
          subst hx
          have : ringM L (x :: t.reverse) ++ [x] = (x :: v.reverse) ++ [x] := by rw [k2]; simp
          exact List.append_cancel_right this
/-- Apart, and no line between. -/
def NoLine (L : List Int) (p q : Pt) : Prop := ∀ c ∈ L, (¬ (p.x < c ∧ c < q.x) ∧ ¬ (q.x < c ∧ c < p.x)) ∧ ¬ (p.y < c ∧ c < q.y) ∧ ¬ (q.y < c ∧ c < p.y)
def NextP (L : List Int) (p q : Pt) : Prop := p ≠ q ∧ NoLine L p q
theorem allPts_ded {a b : Pt} (hab : a ≠ b) (xs ys : List Int) : allPts a b xs ys = ded (a :: cutPts a b xs ys ++ [b]) := by
  unfold allPts cutsF
  rw [thinP_ded]
  obtain ⟨u, hu⟩ := ded_cons a (cutPts a b xs ys ++ [b])
  obtain ⟨v, hv⟩ := ded_snoc (a :: cutPts a b xs ys) b
  rw [← List.cons_append] at hu
  generalize ded (a :: cutPts a b xs ys ++ [b]) = D at *
  cases v with
  | nil => rw [hu] at hv; simp at hv; exact absurd hv.1 hab
  | cons x v =>
    have hx : x = a := by rw [hu] at hv; simp at hv; exact hv.1.symm
    subst hx
    rw [hv]
    simp
theorem allPts_next {a b : Pt} (hab : a ≠ b) (ha : okPt a = true) (hb : okPt b = true) (L : List Int) : Nb (NextP L) (allPts a b L L) := by
  refine Nb.of_get _ fun i hi => ⟨?_, fun c hc => ⟨piece_x ha hb hi hc, piece_y ha hb hi hc⟩⟩
  have := ded_ne (a :: cutPts a b L L ++ [b])
  rw [← allPts_ded hab] at this
  exact Nb.get _ this i hi
theorem walkF_next (L : List Int) : ∀ (l : List Pt), l.all okPt = true → Nb (· ≠ ·) l → Nb (NextP L) (walkF L l)
  | [], _, _ => trivial
  | [a], _, _ => trivial
  | x :: y :: r, hok, h => by
    have h1 : okPt x = true ∧ (y :: r).all okPt = true := by simpa using hok
    have h2 : okPt y = true := by have := h1.2; simp at this; exact this.1
    have ih := walkF_next L (y :: r) h1.2 h.2
    obtain ⟨t, ht⟩ := walkF_cons L y r
    show Nb (NextP L) (edgeF L (x, y) ++ walkF L (y :: r))
    rw [ht] at ih ⊢
    exact Nb.append _ _ _ (allPts_next h.1 h1.1 h2 L) ih
theorem round_ok {l : List Pt} (h : l.all okPt = true) : (roundP l).all okPt = true := by
  cases l with
  | nil => rfl
  | cons p t =>
    rw [List.all_eq_true] at h ⊢
    intro x hx
    have := (ded_sub (p :: t ++ [p])).subset hx
    rcases List.mem_append.1 this with h1 | h1
    · exact h x h1
    · simp at h1; subst h1; exact h x List.mem_cons_self
theorem ringM_next (L : List Int) (l : List Pt) (hok : l.all okPt = true) (i : Nat) (hi : i < (ringM L l).length) :
    NoLine L (ringM L l)[i]! (ringM L l)[(i + 1) % (ringM L l).length]! ∧ (1 < (ringM L l).length → (ringM L l)[i]! ≠ (ringM L l)[(i + 1) % (ringM L l).length]!) := by
  cases l with
  | nil => exact absurd hi (by simp [ringM, thinR, edges, Lib.compact, Lib.compactUpTo, stripN])
  | cons p t =>
    rcases ringM_path L p t with ⟨h1, h2⟩ | ⟨s, h0, h1, h2⟩
    · rw [h2] at hi ⊢
      have : i = 0 := by simpa using hi
      subst this
      refine ⟨fun c _ => ?_, fun h => absurd h (by simp)⟩
      simp; omega
    · have hn := walkF_next L (p :: s ++ [p]) (by have := round_ok hok; rwa [h1] at this) (by have := ded_ne (p :: t ++ [p]); rwa [show ded (p :: t ++ [p]) = p :: s ++ [p] from h1] at this)
      obtain ⟨u, hu⟩ := walkF_cons L p (s ++ [p])
      have h3 : ringM L (p :: t) ++ [p] = p :: u := by rw [h2]; exact hu
      rw [← h2] at hn
      have hg := Nb.get _ hn i (by simp; omega)
      generalize ringM L (p :: t) = r at *
      have e1 : (r ++ [p])[i]'(by simp; omega) = r[i]! := by rw [List.getElem_append_left hi, getElem!_pos r i hi]
      have e2 : (r ++ [p])[i + 1]'(by simp; omega) = r[(i + 1) % r.length]! := by
        by_cases h4 : i + 1 < r.length
        · rw [List.getElem_append_left h4, Nat.mod_eq_of_lt h4, getElem!_pos r _ h4]
        · have h5 : i + 1 = r.length := by omega
          simp only [h5, Nat.mod_self]
          rw [getElem!_pos r 0 (by omega)]
          cases r with
          | nil => simp at hi
          | cons x r => simp at h3; simp [h3.1]
      rw [e1, e2] at hg
      exact ⟨hg.2, fun _ => hg.1⟩
end Go
