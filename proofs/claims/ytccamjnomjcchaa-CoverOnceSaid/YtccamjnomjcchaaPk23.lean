/-
  cover.Valid, computed (plain); the example of chapter 13.
-/
import Derived.Test.YtccamjnomjcchaaPk22
/- cover.Valid, computed (plain); the example of chapter 13. -/
set_option linter.unusedVariables false
set_option linter.unusedSimpArgs false
set_option maxRecDepth 100000
namespace Go
open Go.RowKit
def badRb (a b : Ed) : Bool := if nextF a b then decide (clsE a b ≠ 1) else decide (a.g = b.g) && decide (clsE a b ≠ 0)
def badMb (a b : Ed) : Bool := !nextF a b && !decide (a.g = b.g) && decide (clsE a b ≠ 0) && decide (clsE a b ≠ 1) && decide (clsE a b ≠ 5)
theorem badR_iff (a b : Ed) : badR a b ↔ badRb a b = true := by
  unfold badR badRb
  cases nextF a b <;> simp
theorem badM_iff (a b : Ed) : badM a b ↔ badMb a b = true := by
  unfold badM badMb
  cases nextF a b <;> simp [and_assoc]
def pairB (L : List Ed) (P : Ed → Ed → Bool) : Bool := (List.range L.length).any fun i => (List.range L.length).any fun j => decide (i < j) && (meetF (edBx L[i]!) (edBx L[j]!) && P L[i]! L[j]!)
theorem pair_iff (L : List Ed) (Q : Ed → Ed → Prop) (P : Ed → Ed → Bool) (h : ∀ a b, Q a b ↔ P a b = true) : somePair L Q ↔ pairB L P = true := by
  unfold somePair pairB; rw [List.any_eq_true]; constructor
  · rintro ⟨i, j, hij, hi, hj, hm, hq⟩; refine ⟨i, List.mem_range.2 hi, List.any_eq_true.2 ⟨j, List.mem_range.2 hj, ?_⟩⟩; rw [getElem!_pos L i hi, getElem!_pos L j hj, hm, (h _ _).1 hq]; simp [hij]
  · rintro ⟨i, hi, h2⟩; obtain ⟨j, hj, h3⟩ := List.any_eq_true.1 h2; have hi := List.mem_range.1 hi; have hj := List.mem_range.1 hj; rw [getElem!_pos L i hi, getElem!_pos L j hj] at h3; simp only [Bool.and_eq_true, decide_eq_true_eq] at h3; exact ⟨i, j, h3.1, hi, hj, h3.2.1, (h _ _).2 h3.2.2⟩
def meetsB (L : List Ed) : Int := if pairB L badRb = true then 9 else if pairB L badMb = true then 10 else 0
theorem meetsIs_iff (L : List Ed) (x : Int) : MeetsIs L x ↔ x = meetsB L := by
  unfold MeetsIs meetsB; rw [pair_iff L badR badRb badR_iff, pair_iff L badM badMb badM_iff]
  by_cases h1 : pairB L badRb = true <;> by_cases h2 : pairB L badMb = true <;> simp [h1, h2]
def sideB (l : List Ed) (x : Ed) : Bool :=
  ((rowsF l ((x.s.a.y + x.s.b.y) / 2 / 64)).all fun e => decide (sumF x.s.a x.s.b (rowsF l ((x.s.a.y + x.s.b.y) / 2 / 64)) e.s.f = if (e.s.f : Int) = (x.s.f : Int) then 1 else 0)) && decide (sumF x.s.a x.s.b (rowsF l ((x.s.a.y + x.s.b.y) / 2 / 64)) x.s.f = 1) && decide (sumF x.s.b x.s.a (rowsF l ((x.s.b.y + x.s.a.y) / 2 / 64)) x.s.f = 0)
theorem sumF_none {a b : Pt} {xs : List Ed} {i : Int} (h : ∀ e ∈ xs, (e.s.f : Int) ≠ i) : sumF a b xs i = 0 := by
  unfold sumF
  induction xs with
  | nil => rfl
  | cons x xs ih =>
    rw [List.map_cons, List.sum_cons, ih (fun e he => h e (List.mem_cons_of_mem _ he)), if_neg (h x List.mem_cons_self)]
    rfl
theorem side_iff (l : List Ed) (x : Ed) : sideOk l x ↔ sideB l x = true := by
  unfold sideOk sideB; simp only [Bool.and_eq_true, decide_eq_true_eq]; constructor
  · rintro ⟨h1, h2⟩; refine ⟨⟨?_, by have := h1 x.s.f; rwa [if_pos rfl] at this⟩, h2⟩; rw [List.all_eq_true]; intro e _; rw [decide_eq_true_eq]; exact h1 e.s.f
  · rintro ⟨⟨h1, h3⟩, h2⟩; refine ⟨fun j => ?_, h2⟩
    by_cases e : j = (x.s.f : Int)
    · rw [e, if_pos rfl]; exact h3
    · by_cases hj : ∃ y ∈ rowsF l ((x.s.a.y + x.s.b.y) / 2 / 64), (y.s.f : Int) = j
      · obtain ⟨y, hy, rfl⟩ := hj; exact of_decide_eq_true (List.all_eq_true.1 h1 y hy)
      · rw [if_neg e]; exact sumF_none (fun y hy he => hj ⟨y, hy, he⟩)
def validB (F : List (List (List Pt))) : Int :=
  if rightR F = false then 9 else if meetsB (allEd F) ≠ 0 then meetsB (allEd F) else if twiceF (allEd F) = true then 8 else if (allEd F).all (sideB (allEd F)) = false then 11 else 0
theorem validIs_iff (F : List (List (List Pt))) (x : Int) : ValidIs F x ↔ x = validB F := by
  unfold ValidIs validB; have hs : (∀ e ∈ allEd F, sideOk (allEd F) e) ↔ (allEd F).all (sideB (allEd F)) = true := by
    rw [List.all_eq_true]; exact ⟨fun h e he => (side_iff _ _).1 (h e he), fun h e he => (side_iff _ _).2 (h e he)⟩
  rw [hs]
  by_cases h0 : rightR F = false
  · simp [h0]
  · have h0' : rightR F = true := by simpa using h0
    rw [if_neg h0]; constructor
    · rintro (⟨h, -⟩ | ⟨-, y, hy, h⟩)
      · exact absurd h h0
      · rw [meetsIs_iff] at hy; subst hy
        rcases h with ⟨h1, rfl⟩ | ⟨h1, h⟩
        · rw [if_pos h1]
        · rw [if_neg (fun h => h h1)]
          rcases h with ⟨h2, rfl⟩ | ⟨h2, h⟩
          · rw [if_pos h2]
          · rw [if_neg (by rw [h2]; simp)]
            rcases h with ⟨h3, rfl⟩ | ⟨h3, rfl⟩
            · rw [if_pos (by simpa using h3)]
            · rw [if_neg (by rw [h3]; simp)]
    · intro h; refine .inr ⟨h0', _, (meetsIs_iff _ _).2 rfl, ?_⟩
      by_cases h1 : meetsB (allEd F) = 0
      · rw [if_neg (fun h => h h1)] at h; refine .inr ⟨h1, ?_⟩
        by_cases h2 : twiceF (allEd F) = true
        · rw [if_pos h2] at h; exact .inl ⟨h2, h⟩
        · rw [if_neg h2] at h; refine .inr ⟨by simpa using h2, ?_⟩
          by_cases h3 : (allEd F).all (sideB (allEd F)) = false
          · rw [if_pos h3] at h; exact .inl ⟨by rw [h3]; simp, h⟩
          · rw [if_neg h3] at h; exact .inr ⟨by simpa using h3, h⟩
      · rw [if_pos h1] at h; exact .inl ⟨h1, h⟩
def k13a : List (List Pt) := [[⟨0, 0⟩, ⟨4, 0⟩, ⟨4, 4⟩, ⟨0, 4⟩]]
def k13b : List (List Pt) := [[⟨4, 0⟩, ⟨8, 0⟩, ⟨8, 4⟩, ⟨4, 4⟩]]
def k13c : List (List Pt) := [[⟨1, 1⟩, ⟨3, 1⟩, ⟨3, 3⟩, ⟨1, 3⟩]]
def k13d : List (List Pt) := [[⟨0, 0⟩, ⟨4, 0⟩, ⟨4, 4⟩, ⟨0, 4⟩], [⟨1, 1⟩, ⟨1, 3⟩, ⟨3, 3⟩, ⟨3, 1⟩]]
theorem k13_ab : validB [k13a, k13b] = 0 := by decide +kernel
theorem k13_ac : validB [k13a, k13c] = 11 := by decide +kernel
theorem k13_dc : validB [k13d, k13c] = 0 := by decide +kernel
theorem k13_near : nearG (allSd [k13a, k13b]) (allSd [k13a, k13b]) 0 = [-1, 1, -1, -1] := by decide +kernel
end Go
