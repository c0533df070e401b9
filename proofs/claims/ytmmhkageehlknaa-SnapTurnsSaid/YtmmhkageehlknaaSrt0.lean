/-
  Sorting, in plain terms: swaps, insertion, rotation, merging by rotation.
-/
import Derived.Test.YtmmhkageehlknaaLib
set_option linter.unusedVariables false
set_option linter.unusedSimpArgs false
namespace Go.Srt
variable {α : Type} [Inhabited α]

def swpL (l : List α) (i j : Nat) : List α := (l.set i l[j]!).set j l[i]!
theorem swpL_len (l : List α) (i j : Nat) : (swpL l i j).length = l.length := by simp [swpL]
theorem get_set (l : List α) (i k : Nat) (x : α) (hi : i < l.length) : (l.set i x)[k]! = if i = k then x else l[k]! := by
  rw [List.getElem!_eq_getElem?_getD, List.getElem?_set]
  by_cases h : i = k
  · subst h; simp [hi]
  · simp [h]
theorem swpL_get (l : List α) (i j k : Nat) (hi : i < l.length) (hj : j < l.length) : (swpL l i j)[k]! = if j = k then l[i]! else if i = k then l[j]! else l[k]! := by
  unfold swpL
  rw [get_set _ _ _ _ (by simpa using hj), get_set _ _ _ _ hi]
theorem swpL_perm (l : List α) (i j : Nat) (hi : i < l.length) (hj : j < l.length) : (swpL l i j).Perm l := by
  have h := Array.perm_iff_toList_perm.1 (Array.swap_perm (xs := l.toArray) (i := i) (j := j) (by simpa using hi) (by simpa using hj))
  rw [Array.toList_swap] at h
  unfold swpL
  rw [getElem!_pos l i hi, getElem!_pos l j hj]
  simpa using h

/-- Another order of what lies from a to b. -/
structure Prm (a b : Nat) (l l' : List α) : Prop where
  len : l'.length = l.length
  out : ∀ i, i < a ∨ b ≤ i → l'[i]! = l[i]!
  inn : ∀ i, a ≤ i → i < b → ∃ k, a ≤ k ∧ k < b ∧ l'[i]! = l[k]!
  prm : l'.Perm l
theorem Prm.refl (a b : Nat) (l : List α) : Prm a b l l := ⟨rfl, fun _ _ => rfl, fun i h1 h2 => ⟨i, h1, h2, rfl⟩, List.Perm.refl _⟩
theorem Prm.trans {a b : Nat} {l l1 l2 : List α} (h : Prm a b l l1) (h' : Prm a b l1 l2) : Prm a b l l2 :=
  ⟨h'.len.trans h.len, fun i hi => (h'.out i hi).trans (h.out i hi), fun i h1 h2 => by
    obtain ⟨k, k1, k2, e⟩ := h'.inn i h1 h2
    obtain ⟨j, j1, j2, e2⟩ := h.inn k k1 k2
    exact ⟨j, j1, j2, e.trans e2⟩, h'.prm.trans h.prm⟩
theorem Prm.wide {a b a' b' : Nat} {l l' : List α} (h : Prm a b l l') (ha : a' ≤ a) (hb : b ≤ b') : Prm a' b' l l' :=
  ⟨h.len, fun i hi => h.out i (by omega), fun i h1 h2 => by
    by_cases hi : a ≤ i ∧ i < b
    · obtain ⟨k, k1, k2, e⟩ := h.inn i hi.1 hi.2
      exact ⟨k, by omega, by omega, e⟩
    · exact ⟨i, h1, h2, h.out i (by omega)⟩, h.prm⟩
theorem Prm.swp {a b : Nat} (l : List α) (i j : Nat) (hi : a ≤ i ∧ i < b) (hj : a ≤ j ∧ j < b) (hb : b ≤ l.length) : Prm a b l (swpL l i j) := by
  refine ⟨swpL_len _ _ _, fun k hk => ?_, fun k h1 h2 => ?_, swpL_perm l i j (by omega) (by omega)⟩
  · rw [swpL_get _ _ _ _ (by omega) (by omega), if_neg (by omega), if_neg (by omega)]
  · rw [swpL_get _ _ _ _ (by omega) (by omega)]
    by_cases h : j = k
    · rw [if_pos h]; exact ⟨i, hi.1, hi.2, rfl⟩
    · rw [if_neg h]
      by_cases h : i = k
      · rw [if_pos h]; exact ⟨j, hj.1, hj.2, rfl⟩
      · rw [if_neg h]; exact ⟨k, h1, h2, rfl⟩
theorem Prm.all {a b : Nat} {l l' : List α} (h : Prm a b l l') {S : α → Prop} (hS : ∀ x ∈ l, S x) : ∀ x ∈ l', S x := fun x hx => hS x (h.prm.mem_iff.1 hx)

/-- An order that a comparison tells. -/
structure Ord (c : α → α → Int) (S : α → Prop) : Prop where
  tot : ∀ x y, S x → S y → ¬ c x y < 0 → c y x ≤ 0
  trans : ∀ x y z, S x → S y → S z → c x y ≤ 0 → c y z ≤ 0 → c x z ≤ 0
/-- In order from a to b. -/
def SR (c : α → α → Int) (l : List α) (a b : Nat) : Prop := ∀ i j, a ≤ i → i < j → j < b → c l[i]! l[j]! ≤ 0
theorem at_ok {l : List α} {S : α → Prop} (hS : ∀ x ∈ l, S x) (i : Nat) (hi : i < l.length) : S l[i]! := by rw [getElem!_pos l i hi]; exact hS _ (List.getElem_mem _)
theorem SR.congr {c : α → α → Int} {l l' : List α} {a b : Nat} (h : SR c l a b) (he : ∀ i, a ≤ i → i < b → l'[i]! = l[i]!) : SR c l' a b :=
  fun i j h1 h2 h3 => by rw [he i h1 (by omega), he j (by omega) h3]; exact h i j h1 h2 h3

/-- The j-th goes down, as far as it comes ahead. -/
def sinkC (c : α → α → Int) (a : Nat) : Nat → List α → List α
  | 0, l => l
  | j + 1, l => if a < j + 1 ∧ c l[j + 1]! l[j]! < 0 then sinkC c a j (swpL l (j + 1) j) else l
def insC (c : α → α → Int) (a : Nat) (l : List α) : Nat → List α
  | 0 => l
  | k + 1 => sinkC c a (a + 1 + k) (insC c a l k)
theorem sinkC_len (c : α → α → Int) (a j : Nat) : ∀ l : List α, (sinkC c a j l).length = l.length := by
  induction j with
  | zero => intro l; rfl
  | succ j ih => intro l; rw [sinkC]; split; rw [ih, swpL_len]; rfl
theorem insC_len (c : α → α → Int) (a : Nat) (l : List α) (k : Nat) : (insC c a l k).length = l.length := by
  induction k with
  | zero => rfl
  | succ k ih => rw [insC, sinkC_len, ih]

theorem swpL_mem {l : List α} {i j : Nat} (hi : i < l.length) (hj : j < l.length) {x : α} (h : x ∈ swpL l i j) : x ∈ l := (swpL_perm l i j hi hj).mem_iff.1 h
theorem sinkC_mem (c : α → α → Int) (a j : Nat) : ∀ {l : List α}, j < l.length → ∀ {x : α}, x ∈ sinkC c a j l → x ∈ l := by
  induction j with
  | zero => intro l _ x h; exact h
  | succ j ih =>
    intro l hl x h
    rw [sinkC] at h
    split at h
    · exact swpL_mem (by omega) (by omega) (ih (by rw [swpL_len]; omega) h)
    · exact h
theorem insC_mem (c : α → α → Int) {a : Nat} {l : List α} (k : Nat) (hk : a + k < l.length ∨ k = 0) {x : α} (h : x ∈ insC c a l k) : x ∈ l := by
  induction k with
  | zero => exact h
  | succ k ih =>
    rw [insC] at h
    exact ih (by omega) (sinkC_mem c a _ (by rw [insC_len]; omega) h)

theorem sink_ok {c : α → α → Int} {S : α → Prop} (H : Ord c S) (a : Nat) : ∀ (j : Nat) (l : List α), (∀ x ∈ l, S x) → j < l.length → a ≤ j → SR c l a j →
    Prm a (j + 1) l (sinkC c a j l) ∧ SR c (sinkC c a j l) a (j + 1) := by
  intro j
  induction j with
  | zero =>
    intro l hS hj ha hs
    exact ⟨Prm.refl _ _ _, fun i k h1 h2 h3 => by omega⟩
  | succ j ih =>
    intro l hS hj ha hs
    rw [sinkC]
    split
    · rename_i hc
      obtain ⟨haj, hneg⟩ := hc
      have hp := Prm.swp (a := a) (b := j + 1 + 1) l (j + 1) j (by omega) (by omega) (by omega)
      have hg : ∀ k, (swpL l (j + 1) j)[k]! = if j = k then l[j + 1]! else if j + 1 = k then l[j]! else l[k]! := fun k => swpL_get _ _ _ _ hj (by omega)
      obtain ⟨p2, s2⟩ := ih (swpL l (j + 1) j) (hp.all hS) (by rw [swpL_len]; omega) (by omega) (SR.congr (fun i k h1 h2 h3 => hs i k h1 h2 (by omega)) (fun i h1 h2 => by rw [hg, if_neg (by omega), if_neg (by omega)]))
      refine ⟨hp.trans (p2.wide (Nat.le_refl _) (by omega)), fun i k h1 h2 h3 => ?_⟩
      by_cases hk : k < j + 1
      · exact s2 i k h1 h2 hk
      · obtain rfl : k = j + 1 := by omega
        rw [p2.out (j + 1) (by omega), hg (j + 1), if_neg (by omega), if_pos rfl]
        obtain ⟨q, q1, q2, e⟩ := p2.inn i h1 h2
        rw [e, hg]
        by_cases hq : j = q
        · rw [if_pos hq]; omega
        · rw [if_neg hq, if_neg (by omega)]
          exact hs q j q1 (by omega) (by omega)
    · rename_i hc
      refine ⟨Prm.refl _ _ _, fun i k h1 h2 h3 => ?_⟩
      by_cases hk : k < j + 1
      · exact hs i k h1 h2 hk
      · obtain rfl : k = j + 1 := by omega
        have haj : a < j + 1 := by omega
        have hle : c l[j]! l[j + 1]! ≤ 0 := H.tot _ _ (at_ok hS _ hj) (at_ok hS _ (by omega)) (fun h => hc ⟨haj, h⟩)
        by_cases hi : i = j
        · subst hi; exact hle
        · exact H.trans _ _ _ (at_ok hS _ (by omega)) (at_ok hS _ (by omega)) (at_ok hS _ hj) (hs i j h1 (by omega) (by omega)) hle
theorem ins_ok {c : α → α → Int} {S : α → Prop} (H : Ord c S) (a : Nat) (l : List α) (hS : ∀ x ∈ l, S x) : ∀ (k : Nat), (a + 1 + k ≤ l.length ∨ k = 0) →
    Prm a (a + 1 + k) l (insC c a l k) ∧ SR c (insC c a l k) a (a + 1 + k) := by
  intro k
  induction k with
  | zero => intro _; exact ⟨Prm.refl _ _ _, fun i j h1 h2 h3 => by omega⟩
  | succ k ih =>
    intro hk
    obtain ⟨p, s⟩ := ih (.inl (by omega))
    obtain ⟨p2, s2⟩ := sink_ok H a (a + 1 + k) (insC c a l k) (p.all hS) (by rw [insC_len]; omega) (by omega) s
    exact ⟨(p.wide (Nat.le_refl _) (by omega)).trans p2, s2⟩

/-- What lies from s to m changes places with what lies from m to e. -/
def Rot (s m e : Nat) (l l' : List α) : Prop := ∀ k, l'[k]! = if s ≤ k ∧ k < s + (e - m) then l[k + m - s]! else if s + (e - m) ≤ k ∧ k < e then l[k - (e - m)]! else l[k]!
theorem Rot.left (s m : Nat) (l : List α) (h : s ≤ m) : Rot s m m l l := by
  intro k
  repeat' split
  all_goals first | rfl | omega | (congr 1; omega)
theorem Rot.right (m e : Nat) (l : List α) (h : m ≤ e) : Rot m m e l l := by
  intro k
  repeat' split
  all_goals first | rfl | omega | (congr 1; omega)

/-- n neighbours change places. -/
def swpR (l : List α) (p q : Nat) : Nat → List α
  | 0 => l
  | n + 1 => swpL (swpR l p q n) (p + n) (q + n)
theorem swpR_len (l : List α) (p q n : Nat) : (swpR l p q n).length = l.length := by
  induction n with
  | zero => rfl
  | succ n ih => rw [swpR, swpL_len, ih]
theorem swpR_prm (l : List α) (p q n a b : Nat) (ha : a ≤ p) (hpq : p ≤ q) (hq : q + n ≤ b) (hb : b ≤ l.length) : Prm a b l (swpR l p q n) := by
  induction n with
  | zero => exact Prm.refl _ _ _
  | succ n ih =>
    exact (ih (by omega)).trans (Prm.swp _ _ _ (by omega) (by omega) (by rw [swpR_len]; omega))
theorem swpR_get (l : List α) (p q n : Nat) (hpq : p + n ≤ q) (hq : q + n ≤ l.length) : ∀ k, (swpR l p q n)[k]! = if p ≤ k ∧ k < p + n then l[k + (q - p)]! else if q ≤ k ∧ k < q + n then l[k - (q - p)]! else l[k]! := by
  induction n with
  | zero => intro k; rw [if_neg (by omega), if_neg (by omega)]; rfl
  | succ n ih =>
    intro k
    have ih := ih (by omega) (by omega)
    rw [swpR, swpL_get _ _ _ _ (by rw [swpR_len]; omega) (by rw [swpR_len]; omega), ih, ih, ih]
    repeat' split
    all_goals first | rfl | omega | (congr 1; omega)

/-- The state of a rotation: what is still to be turned lies i ahead of m, j behind it. -/
theorem Rot.less {m i j : Nat} {l l1 : List α} (h : j < i) (hi : i ≤ m) (hl : m + j ≤ l.length) (hr : Rot (m - (i - j)) m (m + j) (swpR l (m - i) m j) l1) : Rot (m - i) m (m + j) l l1 := by
  intro k
  have hg := swpR_get l (m - i) m j (by omega) hl
  rw [hr k, hg, hg, hg]
  repeat' split
  all_goals first | rfl | omega | (congr 1; omega)
theorem Rot.more {m i j : Nat} {l l1 : List α} (h : i < j) (hi : i ≤ m) (hl : m + j ≤ l.length) (hr : Rot (m - i) m (m + (j - i)) (swpR l (m - i) (m + j - i) i) l1) : Rot (m - i) m (m + j) l l1 := by
  intro k
  have hg := swpR_get l (m - i) (m + j - i) i (by omega) (by omega)
  rw [hr k, hg, hg, hg]
  repeat' split
  all_goals first | rfl | omega | (congr 1; omega)
theorem Rot.even {m i : Nat} {l : List α} (hi : i ≤ m) (hl : m + i ≤ l.length) : Rot (m - i) m (m + i) l (swpR l (m - i) m i) := by
  intro k
  have hg := swpR_get l (m - i) m i (by omega) hl
  rw [hg]
  repeat' split
  all_goals first | rfl | omega | (congr 1; omega)

/-- The parts after a rotation of two rows in order. -/
theorem rot_parts {c : α → α → Int} {S : α → Prop} (H : Ord c S) {a s m e b : Nat} {l l1 : List α} (hS : ∀ x ∈ l, S x) (has : a ≤ s) (hsm : s ≤ m) (hme : m ≤ e) (heb : e ≤ b) (hb : b ≤ l.length)
    (h1 : SR c l a m) (h2 : SR c l m b) (hr : Rot s m e l l1)
    (hA : s = a ∨ e = b ∨ c l[s - 1]! l[e]! ≤ 0) (hB : s = m ∨ e = m ∨ c l[e - 1]! l[s]! ≤ 0) :
    SR c l1 a s ∧ SR c l1 s (s + (e - m)) ∧ SR c l1 (s + (e - m)) e ∧ SR c l1 e b ∧ (∀ i j, a ≤ i → i < s + (e - m) → s + (e - m) ≤ j → j < b → c l1[i]! l1[j]! ≤ 0) ∧
    (s = a ∨ s = s + (e - m) → SR c l1 a (s + (e - m))) ∧ (s + (e - m) = e ∨ e = b → SR c l1 (s + (e - m)) b) := by
  have g1 : ∀ k, k < s → l1[k]! = l[k]! := fun k hk => by rw [hr k, if_neg (by omega), if_neg (by omega)]
  have g2 : ∀ k, s ≤ k → k < s + (e - m) → l1[k]! = l[k + m - s]! := fun k h h' => by rw [hr k, if_pos ⟨h, h'⟩]
  have g3 : ∀ k, s + (e - m) ≤ k → k < e → l1[k]! = l[k - (e - m)]! := fun k h h' => by rw [hr k, if_neg (by omega), if_pos ⟨h, h'⟩]
  have g4 : ∀ k, e ≤ k → l1[k]! = l[k]! := fun k hk => by rw [hr k, if_neg (by omega), if_neg (by omega)]
  have o : ∀ k, k < b → S l[k]! := fun k hk => at_ok hS k (by omega)
  have p1 : SR c l1 a s := fun i j hi hj hk => by rw [g1 i (by omega), g1 j hk]; exact h1 i j hi hj (by omega)
  have p2 : SR c l1 s (s + (e - m)) := fun i j hi hj hk => by rw [g2 i hi (by omega), g2 j (by omega) hk]; exact h2 _ _ (by omega) (by omega) (by omega)
  have p3 : SR c l1 (s + (e - m)) e := fun i j hi hj hk => by rw [g3 i hi (by omega), g3 j (by omega) hk]; exact h1 _ _ (by omega) (by omega) (by omega)
  have p4 : SR c l1 e b := fun i j hi hj hk => by rw [g4 i hi, g4 j (by omega)]; exact h2 _ _ (by omega) (by omega) (by omega)
  refine ⟨p1, p2, p3, p4, ?_, ?_, ?_⟩
  · intro i j hi hi2 hj hj2
    by_cases his : i < s
    · rw [g1 i his]
      by_cases hje : j < e
      · rw [g3 j hj hje]
        exact h1 _ _ hi (by omega) (by omega)
      · rw [g4 j (by omega)]
        have hh : c l[s - 1]! l[e]! ≤ 0 := by rcases hA with h | h | h <;> first | omega | exact h
        have h3 : c l[i]! l[e]! ≤ 0 := by
          by_cases h4 : i = s - 1
          · rw [h4]; exact hh
          · exact H.trans _ _ _ (o _ (by omega)) (o _ (by omega)) (o _ (by omega)) (h1 i (s - 1) hi (by omega) (by omega)) hh
        by_cases h5 : j = e
        · rw [h5]; exact h3
        · exact H.trans _ _ _ (o _ (by omega)) (o _ (by omega)) (o _ (by omega)) h3 (h2 e j (by omega) (by omega) hj2)
    · rw [g2 i (by omega) hi2]
      by_cases hje : j < e
      · rw [g3 j hj hje]
        have hh : c l[e - 1]! l[s]! ≤ 0 := by rcases hB with h | h | h <;> first | omega | exact h
        have h3 : c l[i + m - s]! l[s]! ≤ 0 := by
          by_cases h4 : i + m - s = e - 1
          · rw [h4]; exact hh
          · exact H.trans _ _ _ (o _ (by omega)) (o _ (by omega)) (o _ (by omega)) (h2 (i + m - s) (e - 1) (by omega) (by omega) (by omega)) hh
        by_cases h5 : j - (e - m) = s
        · rw [h5]; exact h3
        · exact H.trans _ _ _ (o _ (by omega)) (o _ (by omega)) (o _ (by omega)) h3 (h1 s (j - (e - m)) (by omega) (by omega) (by omega))
      · rw [g4 j (by omega)]
        exact h2 _ _ (by omega) (by omega) (by omega)
  · intro h i j hi hj hk
    by_cases his : s = a
    · exact p2 i j (by omega) hj hk
    · exact p1 i j hi hj (by omega)
  · intro h i j hi hj hk
    by_cases hie : e = b
    · exact p3 i j hi hj (by omega)
    · exact p4 i j (by omega) hj hk

/-- Two rows in order, each turned in itself, one ahead of the other. -/
theorem join {c : α → α → Int} {a mid b : Nat} {l1 l2 l3 : List α}
    (hx : ∀ i j, a ≤ i → i < mid → mid ≤ j → j < b → c l1[i]! l1[j]! ≤ 0) (hp2 : Prm a mid l1 l2) (s2 : SR c l2 a mid) (hp3 : Prm mid b l2 l3) (s3 : SR c l3 mid b) : SR c l3 a b := by
  intro i j hi hj hk
  by_cases h1 : j < mid
  · rw [hp3.out i (by omega), hp3.out j (by omega)]; exact s2 i j hi hj h1
  · by_cases h2 : mid ≤ i
    · exact s3 i j h2 hj hk
    · rw [hp3.out i (by omega)]
      obtain ⟨q, q1, q2, e⟩ := hp2.inn i hi (by omega)
      obtain ⟨r, r1, r2, e2⟩ := hp3.inn j (by omega) hk
      rw [e, e2, hp2.out r (by omega)]
      exact hx q r q1 q2 r1 r2

theorem Rot.up {a k : Nat} {l l1 : List α} (hk : a ≤ k) (hl : k + 1 < l1.length) (hr : Rot a (a + 1) (k + 1) l l1) : Rot a (a + 1) (k + 1 + 1) l (swpL l1 k (k + 1)) := by
  intro j
  rw [swpL_get _ _ _ _ (by omega) (by omega), hr, hr, hr]
  repeat' split
  all_goals first | rfl | omega | (congr 1; omega)
theorem Rot.down {m k : Nat} {l l1 : List α} (hk : k + 1 ≤ m) (hl : k + 1 < l1.length) (hr : Rot (k + 1) m (m + 1) l l1) : Rot k m (m + 1) l (swpL l1 (k + 1) k) := by
  intro j
  rw [swpL_get _ _ _ _ (by omega) (by omega), hr, hr, hr]
  repeat' split
  all_goals first | rfl | omega | (congr 1; omega)
theorem up_ok {c : α → α → Int} {S : α → Prop} (H : Ord c S) {a b i : Nat} {l l1 : List α} (hS : ∀ x ∈ l, S x) (hb : b ≤ l.length) (hi : a + 1 ≤ i ∧ i ≤ b) (h2 : SR c l (a + 1) b)
    (hI : i = a + 1 ∨ c l[i - 1]! l[a]! < 0) (hJ : i = b ∨ ¬ c l[i]! l[a]! < 0) (hr : Rot a (a + 1) i l l1) : SR c l1 a b := by
  obtain ⟨p1, p2, p3, p4, px, p5, p6⟩ := rot_parts H (a := a) (b := b) hS (Nat.le_refl a) (by omega) hi.1 hi.2 hb (fun i j h1 h2 h3 => by omega) h2 hr (.inl rfl) (by rcases hI with h | h; exact .inr (.inl (by omega)); exact .inr (.inr (by omega)))
  have s3 : SR c l1 (a + (i - (a + 1))) b := by
    intro x y h1 h3 h4
    by_cases hx : x < i
    · have hxa : l1[x]! = l[a]! := by rw [hr x, if_neg (by omega), if_pos (by omega)]; congr 1; omega
      have hya : l1[y]! = l[y]! := by rw [hr y, if_neg (by omega), if_neg (by omega)]
      rw [hxa, hya]
      have h5 : c l[a]! l[i]! ≤ 0 := by
        rcases hJ with h | h
        · omega
        · exact H.tot _ _ (at_ok hS _ (by omega)) (at_ok hS _ (by omega)) h
      by_cases h6 : y = i
      · rw [h6]; exact h5
      · exact H.trans _ _ _ (at_ok hS _ (by omega)) (at_ok hS _ (by omega)) (at_ok hS _ (by omega)) h5 (h2 i y (by omega) (by omega) h4)
    · exact p4 x y (by omega) h3 h4
  exact join px (Prm.refl _ _ _) (p5 (.inl rfl)) (Prm.refl _ _ _) s3
theorem down_ok {c : α → α → Int} {S : α → Prop} (H : Ord c S) {a m i : Nat} {l l1 : List α} (hS : ∀ x ∈ l, S x) (hb : m + 1 ≤ l.length) (hi : a ≤ i ∧ i ≤ m) (h1 : SR c l a m)
    (hI : i = a ∨ ¬ c l[m]! l[i - 1]! < 0) (hJ : i = m ∨ c l[m]! l[i]! < 0) (hr : Rot i m (m + 1) l l1) : SR c l1 a (m + 1) := by
  obtain ⟨p1, p2, p3, p4, px, p5, p6⟩ := rot_parts H (a := a) (b := m + 1) hS hi.1 hi.2 (by omega) (Nat.le_refl _) hb h1 (fun i j h1 h2 h3 => by omega) hr (.inr (.inl rfl)) (by rcases hJ with h | h; exact .inl h; exact .inr (.inr (by rw [Nat.add_sub_cancel]; omega)))
  have s2 : SR c l1 a (i + (m + 1 - m)) := by
    intro x y g1 g2 g3
    by_cases hy : y < i
    · exact p1 x y g1 g2 hy
    · have hxa : l1[x]! = l[x]! := by rw [hr x, if_neg (by omega), if_neg (by omega)]
      have hya : l1[y]! = l[m]! := by rw [hr y, if_pos (by omega)]; congr 1; omega
      rw [hxa, hya]
      have h5 : c l[i - 1]! l[m]! ≤ 0 := by
        rcases hI with h | h
        · omega
        · exact H.tot _ _ (at_ok hS _ (by omega)) (at_ok hS _ (by omega)) h
      by_cases h6 : x = i - 1
      · rw [h6]; exact h5
      · exact H.trans _ _ _ (at_ok hS _ (by omega)) (at_ok hS _ (by omega)) (at_ok hS _ (by omega)) (h1 x (i - 1) g1 (by omega) (by omega)) h5
  exact join px (Prm.refl _ _ _) s2 (Prm.refl _ _ _) (p6 (.inr rfl))

theorem SR.pairwise {c : α → α → Int} {l : List α} (h : SR c l 0 l.length) : l.Pairwise (fun x y => c x y ≤ 0) := by
  rw [List.pairwise_iff_getElem]
  intro i j hi hj hij
  have := h i j (Nat.zero_le _) hij hj
  rwa [getElem!_pos l i hi, getElem!_pos l j hj] at this
end Go.Srt
