/-
  Opening a law's arguments: a slice whose elements have several cells (structs), or are slices themselves, as 'Rd'.
-/
import Derived.Test.YtdginfjlelpkmaaOpen
import Derived.Deep.Slices
namespace Go
open Go.ChangeShapes Go.WideShapes Go.ChangeAt Go.RowKit Go.Deep

theorem flatMap_len {α β : Type} (f : α → List β) (m : Nat) (hf : ∀ x, (f x).length = m) (xs : List α) : (xs.flatMap f).length = xs.length * m := by
  induction xs with
  | nil => simp
  | cons x xs ih => rw [List.flatMap_cons, List.length_append, hf, ih, List.length_cons, Nat.succ_mul]; omega

theorem flatMap_get {α β : Type} (f : α → List β) (m : Nat) (hf : ∀ x, (f x).length = m) (xs : List α) (i j : Nat) (hi : i < xs.length) (hj : j < m) : (xs.flatMap f)[i * m + j]? = (f xs[i])[j]? := by
  induction xs generalizing i with
  | nil => simp at hi
  | cons x xs ih =>
    rw [List.flatMap_cons]
    cases i with
    | zero => rw [List.getElem?_append_left (by rw [hf]; omega), Nat.zero_mul, Nat.zero_add, List.getElem_cons_zero]
    | succ i =>
      rw [List.getElem?_append_right (by rw [hf, Nat.succ_mul]; omega), List.getElem_cons_succ, hf, ← ih i (by simpa using hi)]
      congr 1
      rw [Nat.succ_mul]; omega

theorem open_flat {α : Type} [Inhabited α] {H : Type} {enc : TypeId × Value → H} {P : Program} {W : World} {base : Nat} {spare : Nat → Bool} {t e : TypeId} {fuel : Nat} {a : Option Addr} {len cap : Nat} {x : DataW H × List MemPlace} {held : Bool}
    (m : Nat) (hm0 : 0 < m) (cells : α → List Value) (Good : α → Prop) (hcl : ∀ y, (cells y).length = m)
    (ht : P.underlying t = some (.slice e)) (hc : P.cellsOf e = m)
    (one : ∀ n cs' z, cs'.length = m → DataW.trod enc P W base spare held n e cs' = some z → ∃ y, cs' = cells y ∧ Good y)
    (h : DataW.trod enc P W base spare held fuel t [.slice a len cap] = some x) :
    ∃ xs : List α, len = xs.length ∧ len ≤ cap ∧ cap ≤ maxLen ∧ (a = none → cap = 0) ∧ Rd W a (xs.flatMap cells) ∧ ∀ y ∈ xs, Good y := by
  rcases open_slice ht h with ⟨hcs, _⟩ | ⟨ad, l, c, k, n, D, Pl, hcs, hb, hl, hmx, hk, _, hx⟩
  · simp at hcs
    obtain ⟨rfl, rfl, rfl⟩ := hcs
    exact ⟨[], rfl, Nat.le_refl _, by simp [maxLen], fun _ => rfl, .inl rfl, by simp⟩
  · simp at hcs
    obtain ⟨rfl, rfl, rfl⟩ := hcs
    have hlk : len ≤ k := by rw [hk]; split <;> omega
    have each : ∀ i, i < len → ∃ y : α, Good y ∧ ∀ j v, (cells y)[j]? = some v → W.cell? ((ad.add (i * m)).add j) = some v := by
      intro i hi
      obtain ⟨cs', h1, h2⟩ := hx i (by omega)
      rw [hc] at h1
      obtain ⟨_, hlen, hcell⟩ := World.cells?_some h1
      obtain ⟨y, rfl, hg⟩ := one _ _ _ hlen h2
      refine ⟨y, hg, fun j v hv => ?_⟩
      rw [hcell j (by have := (List.getElem?_eq_some_iff.1 hv).1; rw [hcl] at this; exact this)]
      exact hv
    obtain ⟨y, hy⟩ := choose_lt each
    refine ⟨(List.range len).map y, by simp, hl, hmx, fun h => (by cases h), ?_, ?_⟩
    · by_cases h0 : len = 0
      · subst h0; exact .inl rfl
      · obtain ⟨v0, hv0⟩ : ∃ v, (cells (y 0))[0]? = some v := ⟨_, List.getElem?_eq_getElem (by rw [hcl]; exact hm0)⟩
        have hs := cell_spot ((hy 0 (by omega)).2 0 v0 hv0)
        have hs' : ad.spot = none := by simpa [Addr.add] using hs
        obtain ⟨b, off, sp⟩ := ad
        simp only at hs'
        subst hs'
        refine .inr ⟨b, off, rfl, fun p v hv => ?_⟩
        have hp : p < len * m := by
          have := (List.getElem?_eq_some_iff.1 hv).1
          rwa [flatMap_len cells m hcl, List.length_map, List.length_range] at this
        have hi : p / m < len := Nat.div_lt_of_lt_mul (by rw [Nat.mul_comm]; exact hp)
        have hj : p % m < m := Nat.mod_lt _ hm0
        have hpe : p / m * m + p % m = p := Nat.div_add_mod' p m
        rw [← hpe, flatMap_get cells m hcl _ _ _ (by simpa using hi) hj] at hv
        simp only [List.getElem_map, List.getElem_range] at hv
        have := (hy _ hi).2 _ _ hv
        rw [add_add, hpe] at this
        unfold Addr.add at this
        split at this
        · subst_vars; simpa using this
        · simpa using this
    · intro z hz
      obtain ⟨i, hi, rfl⟩ := List.mem_map.1 hz
      exact (hy i (List.mem_range.1 hi)).1
end Go
