/-
  graticuleref02's cuts in plain terms: put keeps the order; what is left behind neighbours that are the same.
-/
import Derived.Test.YtmnekbnhodadcaaSturnp
set_option linter.unusedVariables false
set_option linter.unusedSimpArgs false
namespace Go
open Go.RowKit Go.Srt
/-- Where put lays a cut: behind all that are not behind it. -/
def PutAt (c : Cu) (l : List Cu) (k : Nat) : Prop := k ≤ l.length ∧ (k = l.length ∨ cmpC c l[k]! < 0) ∧ (k = 0 ∨ ¬ cmpC c l[k - 1]! < 0)
def putRow (c : Cu) (l : List Cu) (k : Nat) : List Cu := l.take k ++ c :: l.drop k
theorem putRow_perm (c : Cu) (l : List Cu) (k : Nat) : (putRow c l k).Perm (c :: l) := by
  unfold putRow
  have h := List.perm_middle (a := c) (l₁ := l.take k) (l₂ := l.drop k)
  rwa [List.take_append_drop] at h
theorem putRow_len (c : Cu) (l : List Cu) (k : Nat) (hk : k ≤ l.length) : (putRow c l k).length = l.length + 1 := (putRow_perm c l k).length_eq
theorem putRow_sorted {c : Cu} {l : List Cu} {k : Nat} (hc : CuOk c) (hl : ∀ x ∈ l, CuOk x) (hs : l.Pairwise (fun x y => cmpC x y ≤ 0)) (hp : PutAt c l k) : (putRow c l k).Pairwise (fun x y => cmpC x y ≤ 0) := by
  obtain ⟨hk, h1, h2⟩ := hp
  have hs' : (l.take k ++ l.drop k).Pairwise (fun x y => cmpC x y ≤ 0) := by rw [List.take_append_drop]; exact hs
  obtain ⟨s1, s2, s3⟩ := List.pairwise_append.1 hs'
  have hix := List.pairwise_iff_getElem.1 hs
  have after : ∀ y ∈ l.drop k, cmpC c y ≤ 0 := by
    intro y hy
    obtain ⟨j, hj, rfl⟩ := List.getElem_of_mem hy
    rw [List.length_drop] at hj
    rw [List.getElem_drop]
    rcases h1 with h1 | h1
    · omega
    · rw [getElem!_pos l k (by omega)] at h1
      by_cases h0 : j = 0
      · subst h0; simp only [Nat.add_zero]; omega
      · exact cmpOrd.trans _ _ _ hc (hl _ (List.getElem_mem _)) (hl _ (List.getElem_mem _)) (by omega : cmpC c (l[k]'(by omega)) ≤ 0) (hix k (k + j) (by omega) (by omega) (by omega))
  have before : ∀ x ∈ l.take k, cmpC x c ≤ 0 := by
    intro x hx
    obtain ⟨j, hj, rfl⟩ := List.getElem_of_mem hx
    rw [List.length_take] at hj
    rw [List.getElem_take]
    rcases h2 with h2 | h2
    · omega
    · rw [getElem!_pos l (k - 1) (by omega)] at h2
      have h3 := cmpOrd.tot _ _ hc (hl _ (List.getElem_mem (show k - 1 < l.length by omega))) h2
      by_cases h0 : j = k - 1
      · subst h0; exact h3
      · exact cmpOrd.trans _ _ _ (hl _ (List.getElem_mem _)) (hl _ (List.getElem_mem _)) hc (hix j (k - 1) (by omega) (by omega) (by omega)) h3
  unfold putRow
  rw [List.pairwise_append, List.pairwise_cons]
  refine ⟨s1, ⟨after, s2⟩, fun x hx y hy => ?_⟩
  rcases List.mem_cons.1 hy with rfl | hy
  · exact before x hx
  · exact s3 x hx y hy
/-- The document's points: all of them, neighbours told once; nothing where there are fewer than three; else without both ends. -/
theorem ref_thin (a b : Pt) (l : List Pt) : (if (ded (a :: l ++ [b])).length < 3 then [] else ((ded (a :: l ++ [b])).drop 1).dropLast) = thinP a b l := by
  rw [thinP_ded]
  split
  · rename_i h
    generalize ded (a :: l ++ [b]) = d at *
    match d, h with
    | [], _ => rfl
    | [x], _ => rfl
    | [x, y], _ => rfl
  · rfl
/-- What is told once so far. -/
theorem ded_step (o : List Pt) (last p : Pt) (l : List Pt) (h : ded (l ++ [last]) = o ++ [last]) : ded (l ++ [last] ++ [p]) = if p = last then o ++ [last] else o ++ [last] ++ [p] := by
  rw [List.append_assoc, List.singleton_append, ded_two, h]
  by_cases hp : p = last
  · rw [if_pos hp, if_pos hp.symm]
  · rw [if_neg hp, if_neg (Ne.symm hp)]
end Go
