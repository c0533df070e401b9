/-
  Sorting, in plain terms: swaps, insertion, rotation, merging by rotation. slices.insertionSortCmpFunc over cuts.
-/
import Derived.Test.YtediblljgakoeaaPk1
import Derived.Test.YtediblljgakoeaaPk7
/- Sorting, in plain terms: swaps, insertion, rotation, merging by rotation. -/
set_option linter.unusedVariables false
set_option linter.unusedSimpArgs false
namespace Go.Srt
variable {α : Type} [Inhabited α]

def swpL (l : List α) (i j : Nat) : List α := (l.set i l[j]!).set j l[i]!
theorem swpL_len (l : List α) (i j : Nat) : (swpL l i j).length = l.length := by simp [swpL]
theorem get_set (l : List α) (i k : Nat) (x : α) (hi : i < l.length) : (l.set i x)[k]! = if i = k then x else l[k]! := by
  rw [List.getElem!_eq_getElem?_getD, List.getElem?_set]
  by_cases h : i = k
  · subst h; simp [hi]
  · simp [h]
theorem swpL_get (l : List α) (i j k : Nat) (hi : i < l.length) (hj : j < l.length) : (swpL l i j)[k]! = if j = k then l[i]! else if i = k then l[j]! else l[k]! := by
  unfold swpL
  rw [get_set _ _ _ _ (by simpa using hj), get_set _ _ _ _ hi]
theorem swpL_perm (l : List α) (i j : Nat) (hi : i < l.length) (hj : j < l.length) : (swpL l i j).Perm l := by
  have h := Array.perm_iff_toList_perm.1 (Array.swap_perm (xs := l.toArray) (i := i) (j := j) (by simpa using hi) (by simpa using hj))
  rw [Array.toList_swap] at h
  unfold swpL
  rw [getElem!_pos l i hi, getElem!_pos l j hj]
  simpa using h

/-- Another order of what lies from a to b. -/
structure Prm (a b : Nat) (l l' : List α) : Prop where
  len : l'.length = l.length
  out : ∀ i, i < a ∨ b ≤ i → l'[i]! = l[i]!
  inn : ∀ i, a ≤ i → i < b → ∃ k, a ≤ k ∧ k < b ∧ l'[i]! = l[k]!
  prm : l'.Perm l
theorem Prm.refl (a b : Nat) (l : List α) : Prm a b l l := ⟨rfl, fun _ _ => rfl, fun i h1 h2 => ⟨i, h1, h2, rfl⟩, List.Perm.refl _⟩
theorem Prm.trans {a b : Nat} {l l1 l2 : List α} (h : Prm a b l l1) (h' : Prm a b l1 l2) : Prm a b l l2 :=
  ⟨h'.len.trans h.len, fun i hi => (h'.out i hi).trans (h.out i hi), fun i h1 h2 => by
    obtain ⟨k, k1, k2, e⟩ := h'.inn i h1 h2
    obtain ⟨j, j1, j2, e2⟩ := h.inn k k1 k2
    exact ⟨j, j1, j2, e.trans e2⟩, h'.prm.trans h.prm⟩
theorem Prm.wide {a b a' b' : Nat} {l l' : List α} (h : Prm a b l l') (ha : a' ≤ a) (hb : b ≤ b') : Prm a' b' l l' :=
  ⟨h.len, fun i hi => h.out i (by omega), fun i h1 h2 => by
    by_cases hi : a ≤ i ∧ i < b
    · obtain ⟨k, k1, k2, e⟩ := h.inn i hi.1 hi.2
      exact ⟨k, by omega, by omega, e⟩
    · exact ⟨i, h1, h2, h.out i (by omega)⟩, h.prm⟩
theorem Prm.swp {a b : Nat} (l : List α) (i j : Nat) (hi : a ≤ i ∧ i < b) (hj : a ≤ j ∧ j < b) (hb : b ≤ l.length) : Prm a b l (swpL l i j) := by
  refine ⟨swpL_len _ _ _, fun k hk => ?_, fun k h1 h2 => ?_, swpL_perm l i j (by omega) (by omega)⟩
  · rw [swpL_get _ _ _ _ (by omega) (by omega), if_neg (by omega), if_neg (by omega)]
  · rw [swpL_get _ _ _ _ (by omega) (by omega)]
    by_cases h : j = k
    · rw [if_pos h]; exact ⟨i, hi.1, hi.2, rfl⟩
    · rw [if_neg h]
      by_cases h : i = k
      · rw [if_pos h]; exact ⟨j, hj.1, hj.2, rfl⟩
      · rw [if_neg h]; exact ⟨k, h1, h2, rfl⟩
theorem Prm.all {a b : Nat} {l l' : List α} (h : Prm a b l l') {S : α → Prop} (hS : ∀ x ∈ l, S x) : ∀ x ∈ l', S x := fun x hx => hS x (h.prm.mem_iff.1 hx)

/-- An order that a comparison tells. -/
structure Ord (c : α → α → Int) (S : α → Prop) : Prop where
  tot : ∀ x y, S x → S y → ¬ c x y < 0 → c y x ≤ 0
  trans : ∀ x y z, S x → S y → S z → c x y ≤ 0 → c y z ≤ 0 → c x z ≤ 0
/-- In order from a to b. -/
def SR (c : α → α → Int) (l : List α) (a b : Nat) : Prop := ∀ i j, a ≤ i → i < j → j < b → c l[i]! l[j]! ≤ 0
theorem at_ok {l : List α} {S : α → Prop} (hS : ∀ x ∈ l, S x) (i : Nat) (hi : i < l.length) : S l[i]! := by rw [getElem!_pos l i hi]; exact hS _ (List.getElem_mem _)
theorem SR.congr {c : α → α → Int} {l l' : List α} {a b : Nat} (h : SR c l a b) (he : ∀ i, a ≤ i → i < b → l'[i]! = l[i]!) : SR c l' a b :=
  fun i j h1 h2 h3 => by rw [he i h1 (by omega), he j (by omega) h3]; exact h i j h1 h2 h3

/-- The j-th goes down, as far as it comes ahead. -/
def sinkC (c : α → α → Int) (a : Nat) : Nat → List α → List α
  | 0, l => l
  | j + 1, l => if a < j + 1 ∧ c l[j + 1]! l[j]! < 0 then sinkC c a j (swpL l (j + 1) j) else l
def insC (c : α → α → Int) (a : Nat) (l : List α) : Nat → List α
  | 0 => l
  | k + 1 => sinkC c a (a + 1 + k) (insC c a l k)
theorem sinkC_len (c : α → α → Int) (a j : Nat) : ∀ l : List α, (sinkC c a j l).length = l.length := by
  induction j with
  | zero => intro l; rfl
  | succ j ih => intro l; rw [sinkC]; split; rw [ih, swpL_len]; rfl
theorem insC_len (c : α → α → Int) (a : Nat) (l : List α) (k : Nat) : (insC c a l k).length = l.length := by
  induction k with
  | zero => rfl
  | succ k ih => rw [insC, sinkC_len, ih]

theorem swpL_mem {l : List α} {i j : Nat} (hi : i < l.length) (hj : j < l.length) {x : α} (h : x ∈ swpL l i j) : x ∈ l := (swpL_perm l i j hi hj).mem_iff.1 h
theorem sinkC_mem (c : α → α → Int) (a j : Nat) : ∀ {l : List α}, j < l.length → ∀ {x : α}, x ∈ sinkC c a j l → x ∈ l := by
  induction j with
  | zero => intro l _ x h; exact h
  | succ j ih =>
    intro l hl x h
    rw [sinkC] at h
    split at h
    · exact swpL_mem (by omega) (by omega) (ih (by rw [swpL_len]; omega) h)
    · exact h
theorem insC_mem (c : α → α → Int) {a : Nat} {l : List α} (k : Nat) (hk : a + k < l.length ∨ k = 0) {x : α} (h : x ∈ insC c a l k) : x ∈ l := by
  induction k with
  | zero => exact h
  | succ k ih =>
    rw [insC] at h
    exact ih (by omega) (sinkC_mem c a _ (by rw [insC_len]; omega) h)

theorem sink_ok {c : α → α → Int} {S : α → Prop} (H : Ord c S) (a : Nat) : ∀ (j : Nat) (l : List α), (∀ x ∈ l, S x) → j < l.length → a ≤ j → SR c l a j →
    Prm a (j + 1) l (sinkC c a j l) ∧ SR c (sinkC c a j l) a (j + 1) := by
  intro j
  induction j with
  | zero =>
    intro l hS hj ha hs
    exact ⟨Prm.refl _ _ _, fun i k h1 h2 h3 => by omega⟩
  | succ j ih =>
    intro l hS hj ha hs
    rw [sinkC]
    split
    · rename_i hc
      obtain ⟨haj, hneg⟩ := hc
      have hp := Prm.swp (a := a) (b := j + 1 + 1) l (j + 1) j (by omega) (by omega) (by omega)
      have hg : ∀ k, (swpL l (j + 1) j)[k]! = if j = k then l[j + 1]! else if j + 1 = k then l[j]! else l[k]! := fun k => swpL_get _ _ _ _ hj (by omega)
      obtain ⟨p2, s2⟩ := ih (swpL l (j + 1) j) (hp.all hS) (by rw [swpL_len]; omega) (by omega) (SR.congr (fun i k h1 h2 h3 => hs i k h1 h2 (by omega)) (fun i h1 h2 => by rw [hg, if_neg (by omega), if_neg (by omega)]))
      refine ⟨hp.trans (p2.wide (Nat.le_refl _) (by omega)), fun i k h1 h2 h3 => ?_⟩
      by_cases hk : k < j + 1
      · exact s2 i k h1 h2 hk
      · obtain rfl : k = j + 1 := by omega
        rw [p2.out (j + 1) (by omega), hg (j + 1), if_neg (by omega), if_pos rfl]
        obtain ⟨q, q1, q2, e⟩ := p2.inn i h1 h2
        rw [e, hg]
        by_cases hq : j = q
        · rw [if_pos hq]; omega
        · rw [if_neg hq, if_neg (by omega)]
          exact hs q j q1 (by omega) (by omega)
    · rename_i hc
      refine ⟨Prm.refl _ _ _, fun i k h1 h2 h3 => ?_⟩
      by_cases hk : k < j + 1
      · exact hs i k h1 h2 hk
      · obtain rfl : k = j + 1 := by omega
        have haj : a < j + 1 := by omega
        have hle : c l[j]! l[j + 1]! ≤ 0 := H.tot _ _ (at_ok hS _ hj) (at_ok hS _ (by omega)) (fun h => hc ⟨haj, h⟩)
        by_cases hi : i = j
        · subst hi; exact hle
        · exact H.trans _ _ _ (at_ok hS _ (by omega)) (at_ok hS _ (by omega)) (at_ok hS _ hj) (hs i j h1 (by omega) (by omega)) hle
theorem ins_ok {c : α → α → Int} {S : α → Prop} (H : Ord c S) (a : Nat) (l : List α) (hS : ∀ x ∈ l, S x) : ∀ (k : Nat), (a + 1 + k ≤ l.length ∨ k = 0) →
    Prm a (a + 1 + k) l (insC c a l k) ∧ SR c (insC c a l k) a (a + 1 + k) := by
  intro k
  induction k with
  | zero => intro _; exact ⟨Prm.refl _ _ _, fun i j h1 h2 h3 => by omega⟩
  | succ k ih =>
    intro hk
    obtain ⟨p, s⟩ := ih (.inl (by omega))
    obtain ⟨p2, s2⟩ := sink_ok H a (a + 1 + k) (insC c a l k) (p.all hS) (by rw [insC_len]; omega) (by omega) s
    exact ⟨(p.wide (Nat.le_refl _) (by omega)).trans p2, s2⟩

/-- What lies from s to m changes places with what lies from m to e. -/
def Rot (s m e : Nat) (l l' : List α) : Prop := ∀ k, l'[k]! = if s ≤ k ∧ k < s + (e - m) then l[k + m - s]! else if s + (e - m) ≤ k ∧ k < e then l[k - (e - m)]! else l[k]!
theorem Rot.left (s m : Nat) (l : List α) (h : s ≤ m) : Rot s m m l l := by
  intro k
  repeat' split
  all_goals first | rfl | omega | (congr 1; omega)
theorem Rot.right (m e : Nat) (l : List α) (h : m ≤ e) : Rot m m e l l := by
  intro k
  repeat' split
  all_goals first | rfl | omega | (congr 1; omega)

/-- n neighbours change places. -/
def swpR (l : List α) (p q : Nat) : Nat → List α
  | 0 => l
  | n + 1 => swpL (swpR l p q n) (p + n) (q + n)
theorem swpR_len (l : List α) (p q n : Nat) : (swpR l p q n).length = l.length := by
  induction n with
  | zero => rfl
  | succ n ih => rw [swpR, swpL_len, ih]
theorem swpR_prm (l : List α) (p q n a b : Nat) (ha : a ≤ p) (hpq : p ≤ q) (hq : q + n ≤ b) (hb : b ≤ l.length) : Prm a b l (swpR l p q n) := by
  induction n with
  | zero => exact Prm.refl _ _ _
  | succ n ih =>
    exact (ih (by omega)).trans (Prm.swp _ _ _ (by omega) (by omega) (by rw [swpR_len]; omega))
theorem swpR_get (l : List α) (p q n : Nat) (hpq : p + n ≤ q) (hq : q + n ≤ l.length) : ∀ k, (swpR l p q n)[k]! = if p ≤ k ∧ k < p + n then l[k + (q - p)]! else if q ≤ k ∧ k < q + n then l[k - (q - p)]! else l[k]! := by
  induction n with
  | zero => intro k; rw [if_neg (by omega), if_neg (by omega)]; rfl
  | succ n ih =>
    intro k
    have ih := ih (by omega) (by omega)
    rw [swpR, swpL_get _ _ _ _ (by rw [swpR_len]; omega) (by rw [swpR_len]; omega), ih, ih, ih]
    repeat' split
    all_goals first | rfl | omega | (congr 1; omega)

/-- The state of a rotation: what is still to be turned lies i ahead of m, j behind it. -/
theorem Rot.less {m i j : Nat} {l l1 : List α} (h : j < i) (hi : i ≤ m) (hl : m + j ≤ l.length) (hr : Rot (m - (i - j)) m (m + j) (swpR l (m - i) m j) l1) : Rot (m - i) m (m + j) l l1 := by
  intro k
  have hg := swpR_get l (m - i) m j (by omega) hl
  rw [hr k, hg, hg, hg]
  repeat' split
  all_goals first | rfl | omega | (congr 1; omega)
theorem Rot.more {m i j : Nat} {l l1 : List α} (h : i < j) (hi : i ≤ m) (hl : m + j ≤ l.length) (hr : Rot (m - i) m (m + (j - i)) (swpR l (m - i) (m + j - i) i) l1) : Rot (m - i) m (m + j) l l1 := by
  intro k
  have hg := swpR_get l (m - i) (m + j - i) i (by omega) (by omega)
  rw [hr k, hg, hg, hg]
  repeat' split
  all_goals first | rfl | omega | (congr 1; omega)
theorem Rot.even {m i : Nat} {l : List α} (hi : i ≤ m) (hl : m + i ≤ l.length) : Rot (m - i) m (m + i) l (swpR l (m - i) m i) := by
  intro k
  have hg := swpR_get l (m - i) m i (by omega) hl
  rw [hg]
  repeat' split
  all_goals first | rfl | omega | (congr 1; omega)

/-- The parts after a rotation of two rows in order. -/
theorem rot_parts {c : α → α → Int} {S : α → Prop} (H : Ord c S) {a s m e b : Nat} {l l1 : List α} (hS : ∀ x ∈ l, S x) (has : a ≤ s) (hsm : s ≤ m) (hme : m ≤ e) (heb : e ≤ b) (hb : b ≤ l.length)
    (h1 : SR c l a m) (h2 : SR c l m b) (hr : Rot s m e l l1)
    (hA : s = a ∨ e = b ∨ c l[s - 1]! l[e]! ≤ 0) (hB : s = m ∨ e = m ∨ c l[e - 1]! l[s]! ≤ 0) :
    SR c l1 a s ∧ SR c l1 s (s + (e - m)) ∧ SR c l1 (s + (e - m)) e ∧ SR c l1 e b ∧ (∀ i j, a ≤ i → i < s + (e - m) → s + (e - m) ≤ j → j < b → c l1[i]! l1[j]! ≤ 0) ∧
    (s = a ∨ s = s + (e - m) → SR c l1 a (s + (e - m))) ∧ (s + (e - m) = e ∨ e = b → SR c l1 (s + (e - m)) b) := by
  have g1 : ∀ k, k < s → l1[k]! = l[k]! := fun k hk => by rw [hr k, if_neg (by omega), if_neg (by omega)]
  have g2 : ∀ k, s ≤ k → k < s + (e - m) → l1[k]! = l[k + m - s]! := fun k h h' => by rw [hr k, if_pos ⟨h, h'⟩]
  have g3 : ∀ k, s + (e - m) ≤ k → k < e → l1[k]! = l[k - (e - m)]! := fun k h h' => by rw [hr k, if_neg (by omega), if_pos ⟨h, h'⟩]
  have g4 : ∀ k, e ≤ k → l1[k]! = l[k]! := fun k hk => by rw [hr k, if_neg (by omega), if_neg (by omega)]
  have o : ∀ k, k < b → S l[k]! := fun k hk => at_ok hS k (by omega)
  have p1 : SR c l1 a s := fun i j hi hj hk => by rw [g1 i (by omega), g1 j hk]; exact h1 i j hi hj (by omega)
  have p2 : SR c l1 s (s + (e - m)) := fun i j hi hj hk => by rw [g2 i hi (by omega), g2 j (by omega) hk]; exact h2 _ _ (by omega) (by omega) (by omega)
  have p3 : SR c l1 (s + (e - m)) e := fun i j hi hj hk => by rw [g3 i hi (by omega), g3 j (by omega) hk]; exact h1 _ _ (by omega) (by omega) (by omega)
  have p4 : SR c l1 e b := fun i j hi hj hk => by rw [g4 i hi, g4 j (by omega)]; exact h2 _ _ (by omega) (by omega) (by omega)
  refine ⟨p1, p2, p3, p4, ?_, ?_, ?_⟩
  · intro i j hi hi2 hj hj2
    by_cases his : i < s
    · rw [g1 i his]
      by_cases hje : j < e
      · rw [g3 j hj hje]
        exact h1 _ _ hi (by omega) (by omega)
      · rw [g4 j (by omega)]
        have hh : c l[s - 1]! l[e]! ≤ 0 := by rcases hA with h | h | h <;> first | omega | exact h
        have h3 : c l[i]! l[e]! ≤ 0 := by
          by_cases h4 : i = s - 1
          · rw [h4]; exact hh
          · exact H.trans _ _ _ (o _ (by omega)) (o _ (by omega)) (o _ (by omega)) (h1 i (s - 1) hi (by omega) (by omega)) hh
        by_cases h5 : j = e
        · rw [h5]; exact h3
        · exact H.trans _ _ _ (o _ (by omega)) (o _ (by omega)) (o _ (by omega)) h3 (h2 e j (by omega) (by omega) hj2)
    · rw [g2 i (by omega) hi2]
      by_cases hje : j < e
      · rw [g3 j hj hje]
        have hh : c l[e - 1]! l[s]! ≤ 0 := by rcases hB with h | h | h <;> first | omega | exact h
        have h3 : c l[i + m - s]! l[s]! ≤ 0 := by
          by_cases h4 : i + m - s = e - 1
          · rw [h4]; exact hh
          · exact H.trans _ _ _ (o _ (by omega)) (o _ (by omega)) (o _ (by omega)) (h2 (i + m - s) (e - 1) (by omega) (by omega) (by omega)) hh
        by_cases h5 : j - (e - m) = s
        · rw [h5]; exact h3
        · exact H.trans _ _ _ (o _ (by omega)) (o _ (by omega)) (o _ (by omega)) h3 (h1 s (j - (e - m)) (by omega) (by omega) (by omega))
      · rw [g4 j (by omega)]
        exact h2 _ _ (by omega) (by omega) (by omega)
  · intro h i j hi hj hk
    by_cases his : s = a
    · exact p2 i j (by omega) hj hk
    · exact p1 i j hi hj (by omega)
  · intro h i j hi hj hk
    by_cases hie : e = b
    · exact p3 i j hi hj (by omega)
    · exact p4 i j (by omega) hj hk

/-- Two rows in order, each turned in itself, one ahead of the other. -/
theorem join {c : α → α → Int} {a mid b : Nat} {l1 l2 l3 : List α}
    (hx : ∀ i j, a ≤ i → i < mid → mid ≤ j → j < b → c l1[i]! l1[j]! ≤ 0) (hp2 : Prm a mid l1 l2) (s2 : SR c l2 a mid) (hp3 : Prm mid b l2 l3) (s3 : SR c l3 mid b) : SR c l3 a b := by
  intro i j hi hj hk
  by_cases h1 : j < mid
  · rw [hp3.out i (by omega), hp3.out j (by omega)]; exact s2 i j hi hj h1
  · by_cases h2 : mid ≤ i
    · exact s3 i j h2 hj hk
    · rw [hp3.out i (by omega)]
      obtain ⟨q, q1, q2, e⟩ := hp2.inn i hi (by omega)
      obtain ⟨r, r1, r2, e2⟩ := hp3.inn j (by omega) hk
      rw [e, e2, hp2.out r (by omega)]
      exact hx q r q1 q2 r1 r2

theorem Rot.up {a k : Nat} {l l1 : List α} (hk : a ≤ k) (hl : k + 1 < l1.length) (hr : Rot a (a + 1) (k + 1) l l1) : Rot a (a + 1) (k + 1 + 1) l (swpL l1 k (k + 1)) := by
  intro j
  rw [swpL_get _ _ _ _ (by omega) (by omega), hr, hr, hr]
  repeat' split
  all_goals first | rfl | omega | (congr 1; omega)
theorem Rot.down {m k : Nat} {l l1 : List α} (hk : k + 1 ≤ m) (hl : k + 1 < l1.length) (hr : Rot (k + 1) m (m + 1) l l1) : Rot k m (m + 1) l (swpL l1 (k + 1) k) := by
  intro j
  rw [swpL_get _ _ _ _ (by omega) (by omega), hr, hr, hr]
  repeat' split
  all_goals first | rfl | omega | (congr 1; omega)
theorem up_ok {c : α → α → Int} {S : α → Prop} (H : Ord c S) {a b i : Nat} {l l1 : List α} (hS : ∀ x ∈ l, S x) (hb : b ≤ l.length) (hi : a + 1 ≤ i ∧ i ≤ b) (h2 : SR c l (a + 1) b)
    (hI : i = a + 1 ∨ c l[i - 1]! l[a]! < 0) (hJ : i = b ∨ ¬ c l[i]! l[a]! < 0) (hr : Rot a (a + 1) i l l1) : SR c l1 a b := by
  obtain ⟨p1, p2, p3, p4, px, p5, p6⟩ := rot_parts H (a := a) (b := b) hS (Nat.le_refl a) (by omega) hi.1 hi.2 hb (fun i j h1 h2 h3 => by omega) h2 hr (.inl rfl) (by rcases hI with h | h; exact .inr (.inl (by omega)); exact .inr (.inr (by omega)))
  have s3 : SR c l1 (a + (i - (a + 1))) b := by
    intro x y h1 h3 h4
    by_cases hx : x < i
    · have hxa : l1[x]! = l[a]! := by rw [hr x, if_neg (by omega), if_pos (by omega)]; congr 1; omega
      have hya : l1[y]! = l[y]! := by rw [hr y, if_neg (by omega), if_neg (by omega)]
      rw [hxa, hya]
      have h5 : c l[a]! l[i]! ≤ 0 := by
        rcases hJ with h | h
        · omega
        · exact H.tot _ _ (at_ok hS _ (by omega)) (at_ok hS _ (by omega)) h
      by_cases h6 : y = i
      · rw [h6]; exact h5
      · exact H.trans _ _ _ (at_ok hS _ (by omega)) (at_ok hS _ (by omega)) (at_ok hS _ (by omega)) h5 (h2 i y (by omega) (by omega) h4)
    · exact p4 x y (by omega) h3 h4
  exact join px (Prm.refl _ _ _) (p5 (.inl rfl)) (Prm.refl _ _ _) s3
theorem down_ok {c : α → α → Int} {S : α → Prop} (H : Ord c S) {a m i : Nat} {l l1 : List α} (hS : ∀ x ∈ l, S x) (hb : m + 1 ≤ l.length) (hi : a ≤ i ∧ i ≤ m) (h1 : SR c l a m)
    (hI : i = a ∨ ¬ c l[m]! l[i - 1]! < 0) (hJ : i = m ∨ c l[m]! l[i]! < 0) (hr : Rot i m (m + 1) l l1) : SR c l1 a (m + 1) := by
  obtain ⟨p1, p2, p3, p4, px, p5, p6⟩ := rot_parts H (a := a) (b := m + 1) hS hi.1 hi.2 (by omega) (Nat.le_refl _) hb h1 (fun i j h1 h2 h3 => by omega) hr (.inr (.inl rfl)) (by rcases hJ with h | h; exact .inl h; exact .inr (.inr (by rw [Nat.add_sub_cancel]; omega)))
  have s2 : SR c l1 a (i + (m + 1 - m)) := by
    intro x y g1 g2 g3
    by_cases hy : y < i
    · exact p1 x y g1 g2 hy
    · have hxa : l1[x]! = l[x]! := by rw [hr x, if_neg (by omega), if_neg (by omega)]
      have hya : l1[y]! = l[m]! := by rw [hr y, if_pos (by omega)]; congr 1; omega
      rw [hxa, hya]
      have h5 : c l[i - 1]! l[m]! ≤ 0 := by
        rcases hI with h | h
        · omega
        · exact H.tot _ _ (at_ok hS _ (by omega)) (at_ok hS _ (by omega)) h
      by_cases h6 : x = i - 1
      · rw [h6]; exact h5
      · exact H.trans _ _ _ (at_ok hS _ (by omega)) (at_ok hS _ (by omega)) (at_ok hS _ (by omega)) (h1 x (i - 1) g1 (by omega) (by omega)) h5
  exact join px (Prm.refl _ _ _) s2 (Prm.refl _ _ _) (p6 (.inr rfl))

theorem SR.pairwise {c : α → α → Int} {l : List α} (h : SR c l 0 l.length) : l.Pairwise (fun x y => c x y ≤ 0) := by
  rw [List.pairwise_iff_getElem]
  intro i j hi hj hij
  have := h i j (Nat.zero_le _) hij hj
  rwa [getElem!_pos l i hi, getElem!_pos l j hj] at this
end Go.Srt
/- slices.insertionSortCmpFunc over cuts. -/
set_option linter.unusedVariables false
set_option linter.unusedSimpArgs false
set_option maxRecDepth 100000
namespace Go
open Go.RowKit Go.Srt
theorem grown_setg (w : World) (B i : Nat) (v : Value) : w.grownBy (w.setCell ⟨B, i, none⟩ v) (some B) :=
  ⟨rfl, rfl, rfl, by rw [size_setCell]; exact Nat.le_refl _, fun k _ h => Below.heap_setCell _ _ _ _ (by intro e; exact h (by rw [e]))⟩
theorem ownsRow_drew {W : World} {base : Nat} {e : TypeId} {k : Nat} {v : Value} {n : Nat} {f : List Value} (h : W.ownsRow base e k v n f) : W.drew.ownsRow base e k v n f := h
theorem grown_drew {w W : World} {B : Option Nat} (h : w.grownBy W B) : w.grownBy W.drew B := h.trans ⟨rfl, rfl, rfl, Nat.le_refl _, fun _ _ _ => rfl⟩
/-- The cells of one of an owned row. -/
theorem own_cu {W : World} {base g c n : Nat} {e : TypeId} {l : List Cu} (h : W.ownsRow base e 4 (.slice (some ⟨g, 0, none⟩) n c) n (cus l)) (i : Nat) (hi : i < l.length) :
    (W.cell? ⟨g, i * 4, none⟩ = some (.int .i64 l[i]!.x) ∧ W.cell? ⟨g, i * 4 + 1, none⟩ = some (.int .i64 l[i]!.y) ∧ W.cell? ⟨g, i * 4 + 2, none⟩ = some (.int .i64 l[i]!.p) ∧ W.cell? ⟨g, i * 4 + 3, none⟩ = some (.int .i64 l[i]!.w)) ∧
    (W.frozen? ⟨g, i * 4, none⟩ = false ∧ W.frozen? ⟨g, i * 4 + 1, none⟩ = false ∧ W.frozen? ⟨g, i * 4 + 2, none⟩ = false ∧ W.frozen? ⟨g, i * 4 + 3, none⟩ = false) ∧ g < W.heap.size := by
  rw [getElem!_pos l i hi]
  have h0 := ownsRow_cellS h (i := i * 4 + 0) (v := .int .i64 l[i].x) (by rw [cus_get l i 0 hi (by omega)]; rfl)
  have h1 := ownsRow_cellS h (i := i * 4 + 1) (v := .int .i64 l[i].y) (by rw [cus_get l i 1 hi (by omega)]; rfl)
  have h2 := ownsRow_cellS h (i := i * 4 + 2) (v := .int .i64 l[i].p) (by rw [cus_get l i 2 hi (by omega)]; rfl)
  have h3 := ownsRow_cellS h (i := i * 4 + 3) (v := .int .i64 l[i].w) (by rw [cus_get l i 3 hi (by omega)]; rfl)
  exact ⟨⟨h0.1, h1.1, h2.1, h3.1⟩, ⟨h0.2.1, h1.2.1, h2.2.1, h3.2.1⟩, h0.2.2⟩
end Go
namespace Go.Proofs.Ytediblljgakoeaa
open Go.RowKit Go.Srt

set_option maxHeartbeats 1600000 in
theorem inssort_any (a b : Nat) (base g c n : Nat) (l : List Cu) (hn : l.length = n) (hc : n ≤ c) (hab : a ≤ b) (hb : b ≤ n) (hn2 : n ≤ 1000000) (hok : ∀ x ∈ l, CuOk x) (w : World) (h : w.ownsRow base 84 4 (.slice (some ⟨g, 0, none⟩) n c) n (cus l)) :
    Calls Try.prog 53 #[.slice (some ⟨g, 0, none⟩) n c, .int .i64 a, .int .i64 b, .func (.func 44) #[] #[]] w fun e w' => e = .returned (.tuple #[]) ∧
      w'.ownsRow base 84 4 (.slice (some ⟨g, 0, none⟩) n c) n (cus (insC cmpC a l (b - (a + 1)))) ∧ w.grownBy w' (some g) := by
  go_enter Try.func53, Try.ntmps53
  have HOK := Lib.hid hok
  have HN := Lib.hid hn
  clear hok hn
  go_wp2
  go_loopw [8] (fun i wr => ∃ k : Nat, (a + 1 + k ≤ b ∨ k = 0) ∧ i = .int .i64 ((a : Int) + 1 + (k : Int)) ∧ wr.ownsRow base 84 4 (.slice (some ⟨g, 0, none⟩) n c) n (cus (insC cmpC a l k)) ∧ w.grownBy wr (some g)) (fun i _ => b + 1 - (intOf i).toNat)
  case atStart => exact ⟨0, .inr rfl, val_int (by omega), h, ⟨rfl, rfl, rfl, Nat.le_refl _, fun _ _ _ => rfl⟩⟩
  case round =>
    obtain ⟨k, hk, rfl, hown, hg⟩ := hrel
    by_cases hlt : a + 1 + k < b
    · have hlt' : (a : Int) + 1 + (k : Int) < (b : Int) := by omega
      have hL := insC_len cmpC a l k
      have hM : ∀ x ∈ insC cmpC a l k, CuOk x := fun x hx => HOK.out x (insC_mem cmpC k (by rw [HN.out]; omega) hx)
      have HT : Hid (insC cmpC a l (k + 1) = sinkC cmpC a (a + 1 + k) (insC cmpC a l k)) := Lib.hid rfl
      generalize insC cmpC a l k = m0 at *
      rw [HN.out] at hL
      obtain ⟨T, hT⟩ : ∃ T, sinkC cmpC a (a + 1 + k) m0 = T := ⟨_, rfl⟩
      have HT2 := Lib.hid hT
      have HM0 := Lib.hid hM
      clear hM hT
      go_wp2
      go_loopw [9] (fun jj wj => ∃ (j : Nat) (m : List Cu), a ≤ j ∧ j ≤ a + 1 + k ∧ jj = .int .i64 (j : Int) ∧ m.length = n ∧ Hid (∀ x ∈ m, CuOk x) ∧ Hid (sinkC cmpC a j m = T) ∧ wj.ownsRow base 84 4 (.slice (some ⟨g, 0, none⟩) n c) n (cus m) ∧ w.grownBy wj (some g)) (fun jj _ => (intOf jj).toNat)
      case atStart => exact ⟨a + 1 + k, m0, by omega, Nat.le_refl _, val_int (by omega), hL, HM0, HT2, hown, hg⟩
      case round =>
        clear hown hg hL
        obtain ⟨j, m, hja, hjk, rfl, hL, hM, hS0, hown, hg⟩ := hrel
        by_cases hj : a < j
        · obtain ⟨q, hq⟩ : ∃ q, j = q + 1 := ⟨j - 1, by omega⟩
          subst hq
          have ho := hown
          obtain ⟨⟨c0, c1, c2, c3⟩, -, hgl⟩ := own_cu hown (q + 1) (by omega)
          obtain ⟨⟨d0, d1, d2, d3⟩, -, -⟩ := own_cu hown q (by omega)
          have hA : CuOk m[q + 1]! := by rw [getElem!_pos m (q + 1) (by omega)]; exact hM.out _ (List.getElem_mem _)
          have hB : CuOk m[q]! := by rw [getElem!_pos m q (by omega)]; exact hM.out _ (List.getElem_mem _)
          have hcm := ccmp_any m[q + 1]! m[q]! hA hB
          have hs1 : Hid (cmpC m[q + 1]! m[q]! < 0 → sinkC cmpC a q (swpL m (q + 1) q) = T) := Lib.hid fun h => by rw [← hS0.out, sinkC, if_pos ⟨by omega, h⟩]
          have hs2 : Hid (¬ cmpC m[q + 1]! m[q]! < 0 → m = T) := Lib.hid fun h => by rw [← hS0.out, sinkC, if_neg (fun h2 => h h2.2)]
          have hset : Hid (swpL m (q + 1) q = (m.set (q + 1) m[q]!).set q m[q + 1]!) := Lib.hid rfl
          have hBq0 : m[q]'(by omega) = m[q]! := (getElem!_pos m q (by omega)).symm
          have hBq := Lib.hid hBq0
          clear hBq0
          generalize cmpC m[q + 1]! m[q]! = CM at *
          generalize m[q + 1]! = A at *
          generalize m[q]! = B at *
          obtain ⟨Ax, Ay, Ap, Aw⟩ := A
          obtain ⟨Bx, By, Bp, Bw⟩ := B
          dsimp only [Cu.val] at c0 c1 c2 c3 d0 d1 d2 d3 hcm
          have HCM := Lib.hid hcm
          clear hcm hA hB hS0 HM0 HOK HN
          have hqj : IntKind.i64.wrap (((q + 1 : Nat) : Int) - 1) = (q : Int) := by
            have : ((q + 1 : Nat) : Int) - 1 = (q : Int) := by omega
            rw [this]; exact IntWalk.i64_in _ (by omega)
          have haq : (a : Int) < (q : Int) + 1 := by omega
          have hq1 : (q : Int) + 1 < (n : Int) := by omega
          have hq0 : (0 : Int) ≤ (q : Int) + 1 := by omega
          have hq2 : (q : Int) < (n : Int) := by omega
          have hwq : IntKind.i64.wrap (q : Int) = (q : Int) := IntWalk.i64_in _ (by omega)
          go_wp2_with fail
          refine wp_region_lit_txt [0, 1, 2, 3, 4, 5, 6, 7, 8, 9, 10, 11, 12, 13, 15, 16] (fun W => (W.cell? ⟨g, (q + 1) * 4, none⟩ = some (.int .i64 Ax) ∧ W.cell? ⟨g, (q + 1) * 4 + 1, none⟩ = some (.int .i64 Ay) ∧ W.cell? ⟨g, (q + 1) * 4 + 2, none⟩ = some (.int .i64 Ap) ∧ W.cell? ⟨g, (q + 1) * 4 + 3, none⟩ = some (.int .i64 Aw)) ∧ (W.cell? ⟨g, q * 4, none⟩ = some (.int .i64 Bx) ∧ W.cell? ⟨g, q * 4 + 1, none⟩ = some (.int .i64 By) ∧ W.cell? ⟨g, q * 4 + 2, none⟩ = some (.int .i64 Bp) ∧ W.cell? ⟨g, q * 4 + 3, none⟩ = some (.int .i64 Bw))) (by kernel_rfl) (by kernel_rfl) (by kernel_rfl) ⟨⟨c0, c1, c2, c3⟩, d0, d1, d2, d3⟩ ?_
          (refine txt_light ?_ rfl rfl ?_ ?_; rotate_left; · (intro w' hS; (try dsimp only at hS); go_simp; with_reducible rfl)); try simp only [Act.put, List.setIfInBounds_toArray, List.set_cons_zero, List.set_cons_succ]
          (refine txt_light ?_ rfl rfl ?_ ?_; rotate_left; · (intro w' hS; (try dsimp only at hS); go_simp; with_reducible rfl)); try simp only [Act.put, List.setIfInBounds_toArray, List.set_cons_zero, List.set_cons_succ]
          refine txt_light (.bool true) rfl rfl ?_ ?_
          · intro w' hS
            go_simp
          try simp only [Act.put, List.setIfInBounds_toArray, List.set_cons_zero, List.set_cons_succ]
          refine txt_light (.bool true) rfl rfl ?_ ?_
          · intro w' hS
            go_simp
          try simp only [Act.put, List.setIfInBounds_toArray, List.set_cons_zero, List.set_cons_succ]
          (refine txt_light ?_ rfl rfl ?_ ?_; rotate_left; · (intro w' hS; (try dsimp only at hS); go_simp; with_reducible rfl)); try simp only [Act.put, List.setIfInBounds_toArray, List.set_cons_zero, List.set_cons_succ]
          (refine txt_light ?_ rfl rfl ?_ ?_; rotate_left; · (intro w' hS; (try dsimp only at hS); go_simp; with_reducible rfl)); try simp only [Act.put, List.setIfInBounds_toArray, List.set_cons_zero, List.set_cons_succ]
          (refine txt_light ?_ rfl rfl ?_ ?_; rotate_left; · (intro w' hS; (try dsimp only at hS); go_simp; with_reducible rfl)); try simp only [Act.put, List.setIfInBounds_toArray, List.set_cons_zero, List.set_cons_succ]
          (refine txt_light ?_ rfl rfl ?_ ?_; rotate_left; · (intro w' hS; (try dsimp only at hS); go_simp; with_reducible rfl)); try simp only [Act.put, List.setIfInBounds_toArray, List.set_cons_zero, List.set_cons_succ]
          refine txt_light (.agg #[.int .i64 Ax, .int .i64 Ay, .int .i64 Ap, .int .i64 Aw]) rfl rfl ?_ ?_
          · intro w' hS
            obtain ⟨c0, c1, c2, c3⟩ := hS.1
            go_simp
          try simp only [Act.put, List.setIfInBounds_toArray, List.set_cons_zero, List.set_cons_succ]
          (refine txt_light ?_ rfl rfl ?_ ?_; rotate_left; · (intro w' hS; (try dsimp only at hS); go_simp; with_reducible rfl)); try simp only [Act.put, List.setIfInBounds_toArray, List.set_cons_zero, List.set_cons_succ]
          (refine txt_light ?_ rfl rfl ?_ ?_; rotate_left; · (intro w' hS; (try dsimp only at hS); go_simp; with_reducible rfl)); try simp only [Act.put, List.setIfInBounds_toArray, List.set_cons_zero, List.set_cons_succ]
          (refine txt_light ?_ rfl rfl ?_ ?_; rotate_left; · (intro w' hS; (try dsimp only at hS); go_simp; with_reducible rfl)); try simp only [Act.put, List.setIfInBounds_toArray, List.set_cons_zero, List.set_cons_succ]
          (refine txt_light ?_ rfl rfl ?_ ?_; rotate_left; · (intro w' hS; (try dsimp only at hS); go_simp; with_reducible rfl)); try simp only [Act.put, List.setIfInBounds_toArray, List.set_cons_zero, List.set_cons_succ]
          refine txt_light (.agg #[.int .i64 Bx, .int .i64 By, .int .i64 Bp, .int .i64 Bw]) rfl rfl ?_ ?_
          · intro w' hS
            obtain ⟨c0, c1, c2, c3⟩ := hS.2
            go_simp
          try simp only [Act.put, List.setIfInBounds_toArray, List.set_cons_zero, List.set_cons_succ]
          refine txt_callv [] [.agg #[.int .i64 Ax, .int .i64 Ay, .int .i64 Ap, .int .i64 Aw], .agg #[.int .i64 Bx, .int .i64 By, .int .i64 Bp, .int .i64 Bw]] Try.f44 rfl rfl rfl Try.func44 (by kernel_rfl) (by kernel_rfl) rfl ((HCM.out _).mono ?_)
          rintro e w1 ⟨rfl, hx1⟩
          have hgx : wr.grownBy w1 (some g) := ⟨hx1.os, hx1.tape, hx1.output, hx1.size, fun i hi _ => hx1.block i hi⟩
          have hown1 : w1.ownsRow base 84 4 (.slice (some ⟨g, 0, none⟩) n c) n (cus m) := World.ownsRow.below (w := wr.drew) hown hx1
          have hg1 := hg.trans hgx
          have kc := fun i => (hx1.cell (p := ⟨g, i, none⟩) hgl)
          have c0 := (kc _).trans c0
          have c1 := (kc _).trans c1
          have c2 := (kc _).trans c2
          have c3 := (kc _).trans c3
          have d0 := (kc _).trans d0
          have d1 := (kc _).trans d1
          have d2 := (kc _).trans d2
          have d3 := (kc _).trans d3
          refine ⟨_, rfl, ⟨⟨c0, c1, c2, c3⟩, d0, d1, d2, d3⟩, ?_⟩
          try simp only [Act.put, List.setIfInBounds_toArray, List.set_cons_zero, List.set_cons_succ]
          clear kc HCM hx1 hgx
          by_cases hneg : CM < 0
          · have hcd : decide (CM < 0) = true := decide_eq_true hneg
            refine txt_light (.bool true) rfl rfl ?_ ?_
            · intro w' hS
              go_simp
            try simp only [Act.put, List.setIfInBounds_toArray, List.set_cons_zero, List.set_cons_succ]
            refine txt_light (.bool true) rfl rfl ?_ ?_
            · intro w' hS
              go_simp
            try simp only [Act.put, List.setIfInBounds_toArray, List.set_cons_zero, List.set_cons_succ]
            refine txt_nil ?_
            have hS1 := Lib.hid (hs1.out hneg)
            clear hs1 hs2 hcd hneg
            have q0 := (own_cu hown1 (q + 1) (by omega)).2
            have q1 := (own_cu hown1 q (by omega)).2
            have hgl1 := q0.2
            have q0 := q0.1
            have q1 := q1.1
            go_wp2_with fail
            refine wp_region_lit_txtZ (some 17) [0, 1, 2, 3, 4, 5, 6, 7, 8, 9, 10, 11, 12, 14, 16] (fun W => W.cell? ⟨g, q * 4, none⟩ = some (.int .i64 Bx) ∧ W.cell? ⟨g, q * 4 + 1, none⟩ = some (.int .i64 By) ∧ W.cell? ⟨g, q * 4 + 2, none⟩ = some (.int .i64 Bp) ∧ W.cell? ⟨g, q * 4 + 3, none⟩ = some (.int .i64 Bw)) (by kernel_rfl) (by kernel_rfl) (by kernel_rfl) (by kernel_rfl) ⟨d0, d1, d2, d3⟩ ?_
            (refine txt_light ?_ rfl rfl ?_ ?_; rotate_left; · (intro w' hS; (try dsimp only at hS); go_simp; with_reducible rfl)); try simp only [Act.put, List.setIfInBounds_toArray, List.set_cons_zero, List.set_cons_succ]
            (refine txt_light ?_ rfl rfl ?_ ?_; rotate_left; · (intro w' hS; (try dsimp only at hS); go_simp; with_reducible rfl)); try simp only [Act.put, List.setIfInBounds_toArray, List.set_cons_zero, List.set_cons_succ]
            (refine txt_light ?_ rfl rfl ?_ ?_; rotate_left; · (intro w' hS; (try dsimp only at hS); go_simp; with_reducible rfl)); try simp only [Act.put, List.setIfInBounds_toArray, List.set_cons_zero, List.set_cons_succ]
            (refine txt_light ?_ rfl rfl ?_ ?_; rotate_left; · (intro w' hS; (try dsimp only at hS); go_simp; with_reducible rfl)); try simp only [Act.put, List.setIfInBounds_toArray, List.set_cons_zero, List.set_cons_succ]
            (refine txt_light ?_ rfl rfl ?_ ?_; rotate_left; · (intro w' hS; (try dsimp only at hS); go_simp; with_reducible rfl)); try simp only [Act.put, List.setIfInBounds_toArray, List.set_cons_zero, List.set_cons_succ]
            (refine txt_light ?_ rfl rfl ?_ ?_; rotate_left; · (intro w' hS; (try dsimp only at hS); go_simp; with_reducible rfl)); try simp only [Act.put, List.setIfInBounds_toArray, List.set_cons_zero, List.set_cons_succ]
            (refine txt_light ?_ rfl rfl ?_ ?_; rotate_left; · (intro w' hS; (try dsimp only at hS); go_simp; with_reducible rfl)); try simp only [Act.put, List.setIfInBounds_toArray, List.set_cons_zero, List.set_cons_succ]
            (refine txt_light ?_ rfl rfl ?_ ?_; rotate_left; · (intro w' hS; (try dsimp only at hS); go_simp; with_reducible rfl)); try simp only [Act.put, List.setIfInBounds_toArray, List.set_cons_zero, List.set_cons_succ]
            (refine txt_light ?_ rfl rfl ?_ ?_; rotate_left; · (intro w' hS; (try dsimp only at hS); go_simp; with_reducible rfl)); try simp only [Act.put, List.setIfInBounds_toArray, List.set_cons_zero, List.set_cons_succ]
            refine txt_light (.agg #[.int .i64 Bx, .int .i64 By, .int .i64 Bp, .int .i64 Bw]) rfl rfl ?_ ?_
            · intro w' hS
              obtain ⟨c0, c1, c2, c3⟩ := hS
              go_simp
            try simp only [Act.put, List.setIfInBounds_toArray, List.set_cons_zero, List.set_cons_succ]
            (refine txt_light ?_ rfl rfl ?_ ?_; rotate_left; · (intro w' hS; (try dsimp only at hS); go_simp; with_reducible rfl)); try simp only [Act.put, List.setIfInBounds_toArray, List.set_cons_zero, List.set_cons_succ]
            (refine txt_light ?_ rfl rfl ?_ ?_; rotate_left; · (intro w' hS; (try dsimp only at hS); go_simp; with_reducible rfl)); try simp only [Act.put, List.setIfInBounds_toArray, List.set_cons_zero, List.set_cons_succ]
            (refine txt_light ?_ rfl rfl ?_ ?_; rotate_left; · (intro w' hS; (try dsimp only at hS); go_simp; with_reducible rfl)); try simp only [Act.put, List.setIfInBounds_toArray, List.set_cons_zero, List.set_cons_succ]
            refine txt_heavy rfl rfl (fun K hK => ?_)
            go_step
            refine hK.out _ _ ⟨d0, d1, d2, d3⟩ ?_
            clear hK K
            try simp only [Act.put, List.setIfInBounds_toArray, List.set_cons_zero, List.set_cons_succ]
            (refine txt_light ?_ rfl rfl ?_ ?_; rotate_left; · (intro w' hS; (try dsimp only at hS); go_simp; with_reducible rfl)); try simp only [Act.put, List.setIfInBounds_toArray, List.set_cons_zero, List.set_cons_succ]
            refine txt_heavy rfl rfl (fun K hK => ?_)
            obtain ⟨f0, f1, f2, f3⟩ := q0
            obtain ⟨f4, f5, f6, f7⟩ := q1
            go_step
            have own2 := ownsRow_setS (i := (q + 1) * 4 + 3) (ownsRow_setS (i := (q + 1) * 4 + 2) (ownsRow_setS (i := (q + 1) * 4 + 1) (ownsRow_setS (W := w1) (i := (q + 1) * 4) hown1 (.int .i64 Bx)) (.int .i64 By)) (.int .i64 Bp)) (.int .i64 Bw)
            rw [cus_set m (q + 1) (by omega) ⟨Bx, By, Bp, Bw⟩] at own2
            have hl2 : (m.set (q + 1) ⟨Bx, By, Bp, Bw⟩).length = n := by simpa using hL
            obtain ⟨⟨r0, r1, r2, r3⟩, ⟨f4', f5', f6', f7'⟩, -⟩ := own_cu own2 q (by omega)
            have hq' : (m.set (q + 1) ⟨Bx, By, Bp, Bw⟩)[q]! = ⟨Bx, By, Bp, Bw⟩ := by rw [getElem!_pos _ q (by omega), List.getElem_set_ne (by omega)]; exact hBq.out
            rw [hq'] at r0 r1 r2 r3
            dsimp only at r0 r1 r2 r3
            have hg2 := (((hg1.trans (grown_setg w1 g ((q + 1) * 4) (.int .i64 Bx))).trans (grown_setg _ g ((q + 1) * 4 + 1) (.int .i64 By))).trans (grown_setg _ g ((q + 1) * 4 + 2) (.int .i64 Bp))).trans (grown_setg _ g ((q + 1) * 4 + 3) (.int .i64 Bw))
            refine hK.out _ _ ⟨r0, r1, r2, r3⟩ ?_
            clear hK K
            generalize ((((w1.setCell ⟨g, (q + 1) * 4, none⟩ (.int .i64 Bx)).setCell ⟨g, (q + 1) * 4 + 1, none⟩ (.int .i64 By)).setCell ⟨g, (q + 1) * 4 + 2, none⟩ (.int .i64 Bp)).setCell ⟨g, (q + 1) * 4 + 3, none⟩ (.int .i64 Bw)) = w2 at *
            try simp only [Act.put, List.setIfInBounds_toArray, List.set_cons_zero, List.set_cons_succ]
            (refine txt_light ?_ rfl rfl ?_ ?_; rotate_left; · (intro w' hS; (try dsimp only at hS); go_simp; with_reducible rfl)); try simp only [Act.put, List.setIfInBounds_toArray, List.set_cons_zero, List.set_cons_succ]
            refine txt_last rfl rfl rfl (fun K hK => ?_)
            go_step
            have own3 := ownsRow_setS (i := q * 4 + 3) (ownsRow_setS (i := q * 4 + 2) (ownsRow_setS (i := q * 4 + 1) (ownsRow_setS (i := q * 4) own2 (.int .i64 Ax)) (.int .i64 Ay)) (.int .i64 Ap)) (.int .i64 Aw)
            rw [cus_set _ q (by omega) ⟨Ax, Ay, Ap, Aw⟩, ← hset.out] at own3
            have hg3 := (((hg2.trans (grown_setg w2 g (q * 4) (.int .i64 Ax))).trans (grown_setg _ g (q * 4 + 1) (.int .i64 Ay))).trans (grown_setg _ g (q * 4 + 2) (.int .i64 Ap))).trans (grown_setg _ g (q * 4 + 3) (.int .i64 Aw))
            refine hK.out _ _ ?_
            clear hK K
            refine txt_nil ?_
            generalize (((w2.setCell ⟨g, q * 4, none⟩ (.int .i64 Ax)).setCell ⟨g, q * 4 + 1, none⟩ (.int .i64 Ay)).setCell ⟨g, q * 4 + 2, none⟩ (.int .i64 Ap)).setCell ⟨g, q * 4 + 3, none⟩ (.int .i64 Aw) = w3 at *
            clear own2 hg2 r0 r1 r2 r3 f0 f1 f2 f3 f4 f5 f6 f7 f4' f5' f6' f7' c0 c1 c2 c3 d0 d1 d2 d3 hown1 hg1
            go_wp2
            go_roundw
            case rel => exact ⟨q, swpL m (q + 1) q, by omega, by omega, by first | rfl | go_num, by rw [swpL_len]; exact hL, Lib.hid (fun x hx => hM.out x (swpL_mem (by omega) (by omega) hx)), hS1, ownsRow_drew own3, grown_drew hg3⟩
            case measure => simp [intOf]
          · have hcd : decide (CM < 0) = false := decide_eq_false hneg
            refine txt_light (.bool false) rfl rfl ?_ ?_
            · intro w' hS
              go_simp
            try simp only [Act.put, List.setIfInBounds_toArray, List.set_cons_zero, List.set_cons_succ]
            refine txt_light (.bool false) rfl rfl ?_ ?_
            · intro w' hS
              go_simp
            try simp only [Act.put, List.setIfInBounds_toArray, List.set_cons_zero, List.set_cons_succ]
            refine txt_nil ?_
            have hmT := hs2.out (by omega)
            clear hs1 hs2 hcd hneg c0 c1 c2 c3 d0 d1 d2 d3
            go_wp2
            refine ⟨⟨k + 1, .inl (by omega), val_int (by omega), ?_, hg1⟩, by simp [intOf]; omega⟩
            rw [HT.out, HT2.out, ← hmT]
            exact hown1
        · have hmT : sinkC cmpC a j m = m := by
            cases j with
            | zero => rfl
            | succ j => rw [sinkC, if_neg (by omega)]
          have haj : ¬ (a : Int) < (j : Int) := by omega
          have HS3 : Hid (T = m) := Lib.hid (by rw [← hS0.out, hmT])
          clear hS0 hmT
          go_wp2
          go_quiet (fail)
          go_wp2
          have hgq := hg.trans (⟨rfl, rfl, rfl, Nat.le_refl _, fun _ _ _ => rfl⟩ : wr.grownBy (wr.drewN nq) (some g))
          refine ⟨⟨k + 1, .inl (by omega), val_int (by omega), ?_, hgq⟩, by simp [intOf]; omega⟩
          rw [HT.out, HT2.out, HS3.out]
          exact hown
    · have hk0 : insC cmpC a l k = insC cmpC a l (b - (a + 1)) := by
        rcases hk with h1 | rfl
        · rw [show b - (a + 1) = k by omega]
        · rw [show b - (a + 1) = 0 by omega]
      have hlt' : ¬ (a : Int) + 1 + (k : Int) < (b : Int) := by omega
      rw [hk0] at hown
      clear hk0
      go_wp2
      refine ⟨rfl, .tuple #[], by simp [results, Try.results53, go_sem], rfl, hown, hg⟩
end Go.Proofs.Ytediblljgakoeaa
