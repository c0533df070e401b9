/-
  Sorting, in plain terms: swaps, insertion, rotation, merging by rotation. Sorting by blocks, in plain terms. A stable sort, in plain terms: what stood ahead stays ahead, told by a number that each has. Values with a number each (that is no part of memory); value.Sort's comparison. Plain: a value put into a row that is in order; rows in order of the same things are equal.
-/
import Derived.Test.YtinogphhbbaobaaDoorPk1
import Derived.Test.YtinogphhbbaobaaDoorPk9
/- Sorting, in plain terms: swaps, insertion, rotation, merging by rotation. -/
set_option linter.unusedVariables false
set_option linter.unusedSimpArgs false
namespace Go.Srt
variable {α : Type} [Inhabited α]

def swpL (l : List α) (i j : Nat) : List α := (l.set i l[j]!).set j l[i]!
theorem swpL_len (l : List α) (i j : Nat) : (swpL l i j).length = l.length := by simp [swpL]
theorem get_set (l : List α) (i k : Nat) (x : α) (hi : i < l.length) : (l.set i x)[k]! = if i = k then x else l[k]! := by
  rw [List.getElem!_eq_getElem?_getD, List.getElem?_set]
  by_cases h : i = k
  · subst h; simp [hi]
  · simp [h]
theorem swpL_get (l : List α) (i j k : Nat) (hi : i < l.length) (hj : j < l.length) : (swpL l i j)[k]! = if j = k then l[i]! else if i = k then l[j]! else l[k]! := by
  unfold swpL; rw [get_set _ _ _ _ (by simpa using hj), get_set _ _ _ _ hi]
theorem swpL_perm (l : List α) (i j : Nat) (hi : i < l.length) (hj : j < l.length) : (swpL l i j).Perm l := by
  have h := Array.perm_iff_toList_perm.1 (Array.swap_perm (xs := l.toArray) (i := i) (j := j) (by simpa using hi) (by simpa using hj)); rw [Array.toList_swap] at h; unfold swpL; rw [getElem!_pos l i hi, getElem!_pos l j hj]
  simpa using h

structure Prm (a b : Nat) (l l' : List α) : Prop where
  len : l'.length = l.length
  out : ∀ i, i < a ∨ b ≤ i → l'[i]! = l[i]!
  inn : ∀ i, a ≤ i → i < b → ∃ k, a ≤ k ∧ k < b ∧ l'[i]! = l[k]!
  prm : l'.Perm l
theorem Prm.refl (a b : Nat) (l : List α) : Prm a b l l := ⟨rfl, fun _ _ => rfl, fun i h1 h2 => ⟨i, h1, h2, rfl⟩, List.Perm.refl _⟩
theorem Prm.trans {a b : Nat} {l l1 l2 : List α} (h : Prm a b l l1) (h' : Prm a b l1 l2) : Prm a b l l2 :=
  ⟨h'.len.trans h.len, fun i hi => (h'.out i hi).trans (h.out i hi), fun i h1 h2 => by
    obtain ⟨k, k1, k2, e⟩ := h'.inn i h1 h2; obtain ⟨j, j1, j2, e2⟩ := h.inn k k1 k2; exact ⟨j, j1, j2, e.trans e2⟩, h'.prm.trans h.prm⟩
theorem Prm.wide {a b a' b' : Nat} {l l' : List α} (h : Prm a b l l') (ha : a' ≤ a) (hb : b ≤ b') : Prm a' b' l l' :=
  ⟨h.len, fun i hi => h.out i (by omega), fun i h1 h2 => by
    by_cases hi : a ≤ i ∧ i < b
    · obtain ⟨k, k1, k2, e⟩ := h.inn i hi.1 hi.2; exact ⟨k, by omega, by omega, e⟩
    · exact ⟨i, h1, h2, h.out i (by omega)⟩, h.prm⟩
theorem Prm.swp {a b : Nat} (l : List α) (i j : Nat) (hi : a ≤ i ∧ i < b) (hj : a ≤ j ∧ j < b) (hb : b ≤ l.length) : Prm a b l (swpL l i j) := by
  refine ⟨swpL_len _ _ _, fun k hk => ?_, fun k h1 h2 => ?_, swpL_perm l i j (by omega) (by omega)⟩
  · rw [swpL_get _ _ _ _ (by omega) (by omega), if_neg (by omega), if_neg (by omega)]
  · rw [swpL_get _ _ _ _ (by omega) (by omega)]
    by_cases h : j = k
    · rw [if_pos h]; exact ⟨i, hi.1, hi.2, rfl⟩
    · rw [if_neg h]
      by_cases h : i = k
      · rw [if_pos h]; exact ⟨j, hj.1, hj.2, rfl⟩
      · rw [if_neg h]; exact ⟨k, h1, h2, rfl⟩
theorem Prm.all {a b : Nat} {l l' : List α} (h : Prm a b l l') {S : α → Prop} (hS : ∀ x ∈ l, S x) : ∀ x ∈ l', S x := fun x hx => hS x (h.prm.mem_iff.1 hx)

structure Ord (c : α → α → Int) (S : α → Prop) : Prop where
  tot : ∀ x y, S x → S y → ¬ c x y < 0 → c y x ≤ 0
  trans : ∀ x y z, S x → S y → S z → c x y ≤ 0 → c y z ≤ 0 → c x z ≤ 0
def SR (c : α → α → Int) (l : List α) (a b : Nat) : Prop := ∀ i j, a ≤ i → i < j → j < b → c l[i]! l[j]! ≤ 0
theorem at_ok {l : List α} {S : α → Prop} (hS : ∀ x ∈ l, S x) (i : Nat) (hi : i < l.length) : S l[i]! := by rw [getElem!_pos l i hi]; exact hS _ (List.getElem_mem _)
theorem SR.congr {c : α → α → Int} {l l' : List α} {a b : Nat} (h : SR c l a b) (he : ∀ i, a ≤ i → i < b → l'[i]! = l[i]!) : SR c l' a b :=
  fun i j h1 h2 h3 => by rw [he i h1 (by omega), he j (by omega) h3]; exact h i j h1 h2 h3

def sinkC (c : α → α → Int) (a : Nat) : Nat → List α → List α
  | 0, l => l
  | j + 1, l => if a < j + 1 ∧ c l[j + 1]! l[j]! < 0 then sinkC c a j (swpL l (j + 1) j) else l
def insC (c : α → α → Int) (a : Nat) (l : List α) : Nat → List α
  | 0 => l
  | k + 1 => sinkC c a (a + 1 + k) (insC c a l k)
theorem sinkC_len (c : α → α → Int) (a j : Nat) : ∀ l : List α, (sinkC c a j l).length = l.length := by
  induction j with
  | zero => intro l; rfl
  | succ j ih => intro l; rw [sinkC]; split; rw [ih, swpL_len]; rfl
theorem insC_len (c : α → α → Int) (a : Nat) (l : List α) (k : Nat) : (insC c a l k).length = l.length := by
  induction k with
  | zero => rfl
  | succ k ih => rw [insC, sinkC_len, ih]

theorem swpL_mem {l : List α} {i j : Nat} (hi : i < l.length) (hj : j < l.length) {x : α} (h : x ∈ swpL l i j) : x ∈ l := (swpL_perm l i j hi hj).mem_iff.1 h
theorem sinkC_mem (c : α → α → Int) (a j : Nat) : ∀ {l : List α}, j < l.length → ∀ {x : α}, x ∈ sinkC c a j l → x ∈ l := by
  induction j with
  | zero => intro l _ x h; exact h
  | succ j ih =>
    intro l hl x h; rw [sinkC] at h
    split at h
    · exact swpL_mem (by omega) (by omega) (ih (by rw [swpL_len]; omega) h)
    · exact h
theorem insC_mem (c : α → α → Int) {a : Nat} {l : List α} (k : Nat) (hk : a + k < l.length ∨ k = 0) {x : α} (h : x ∈ insC c a l k) : x ∈ l := by
  induction k with
  | zero => exact h
  | succ k ih =>
    rw [insC] at h; exact ih (by omega) (sinkC_mem c a _ (by rw [insC_len]; omega) h)

theorem sink_ok {c : α → α → Int} {S : α → Prop} (H : Ord c S) (a : Nat) : ∀ (j : Nat) (l : List α), (∀ x ∈ l, S x) → j < l.length → a ≤ j → SR c l a j →
    Prm a (j + 1) l (sinkC c a j l) ∧ SR c (sinkC c a j l) a (j + 1) := by
  intro j
  induction j with
  | zero =>
    intro l hS hj ha hs; exact ⟨Prm.refl _ _ _, fun i k h1 h2 h3 => by omega⟩
  | succ j ih =>
    intro l hS hj ha hs; rw [sinkC]
    split
    · rename_i hc; obtain ⟨haj, hneg⟩ := hc; have hp := Prm.swp (a := a) (b := j + 1 + 1) l (j + 1) j (by omega) (by omega) (by omega); have hg : ∀ k, (swpL l (j + 1) j)[k]! = if j = k then l[j + 1]! else if j + 1 = k then l[j]! else l[k]! := fun k => swpL_get _ _ _ _ hj (by omega); obtain ⟨p2, s2⟩ := ih (swpL l (j + 1) j) (hp.all hS) (by rw [swpL_len]; omega) (by omega) (SR.congr (fun i k h1 h2 h3 => hs i k h1 h2 (by omega)) (fun i h1 h2 => by rw [hg, if_neg (by omega), if_neg (by omega)])); refine ⟨hp.trans (p2.wide (Nat.le_refl _) (by omega)), fun i k h1 h2 h3 => ?_⟩
      by_cases hk : k < j + 1
      · exact s2 i k h1 h2 hk
      · obtain rfl : k = j + 1 := by omega
        rw [p2.out (j + 1) (by omega), hg (j + 1), if_neg (by omega), if_pos rfl]; obtain ⟨q, q1, q2, e⟩ := p2.inn i h1 h2; rw [e, hg]
        by_cases hq : j = q
        · rw [if_pos hq]; omega
        · rw [if_neg hq, if_neg (by omega)]; exact hs q j q1 (by omega) (by omega)
    · rename_i hc; refine ⟨Prm.refl _ _ _, fun i k h1 h2 h3 => ?_⟩
      by_cases hk : k < j + 1
      · exact hs i k h1 h2 hk
      · obtain rfl : k = j + 1 := by omega
        have haj : a < j + 1 := by omega
        have hle : c l[j]! l[j + 1]! ≤ 0 := H.tot _ _ (at_ok hS _ hj) (at_ok hS _ (by omega)) (fun h => hc ⟨haj, h⟩)
        by_cases hi : i = j
        · subst hi; exact hle
        · exact H.trans _ _ _ (at_ok hS _ (by omega)) (at_ok hS _ (by omega)) (at_ok hS _ hj) (hs i j h1 (by omega) (by omega)) hle
theorem ins_ok {c : α → α → Int} {S : α → Prop} (H : Ord c S) (a : Nat) (l : List α) (hS : ∀ x ∈ l, S x) : ∀ (k : Nat), (a + 1 + k ≤ l.length ∨ k = 0) →
    Prm a (a + 1 + k) l (insC c a l k) ∧ SR c (insC c a l k) a (a + 1 + k) := by
  intro k
  induction k with
  | zero => intro _; exact ⟨Prm.refl _ _ _, fun i j h1 h2 h3 => by omega⟩
  | succ k ih =>
    intro hk; obtain ⟨p, s⟩ := ih (.inl (by omega)); obtain ⟨p2, s2⟩ := sink_ok H a (a + 1 + k) (insC c a l k) (p.all hS) (by rw [insC_len]; omega) (by omega) s; exact ⟨(p.wide (Nat.le_refl _) (by omega)).trans p2, s2⟩

def Rot (s m e : Nat) (l l' : List α) : Prop := ∀ k, l'[k]! = if s ≤ k ∧ k < s + (e - m) then l[k + m - s]! else if s + (e - m) ≤ k ∧ k < e then l[k - (e - m)]! else l[k]!
theorem Rot.left (s m : Nat) (l : List α) (h : s ≤ m) : Rot s m m l l := by
  intro k
  repeat' split
  all_goals first | rfl | omega | (congr 1; omega)
theorem Rot.right (m e : Nat) (l : List α) (h : m ≤ e) : Rot m m e l l := by
  intro k
  repeat' split
  all_goals first | rfl | omega | (congr 1; omega)

def swpR (l : List α) (p q : Nat) : Nat → List α
  | 0 => l
  | n + 1 => swpL (swpR l p q n) (p + n) (q + n)
theorem swpR_len (l : List α) (p q n : Nat) : (swpR l p q n).length = l.length := by
  induction n with
  | zero => rfl
  | succ n ih => rw [swpR, swpL_len, ih]
theorem swpR_prm (l : List α) (p q n a b : Nat) (ha : a ≤ p) (hpq : p ≤ q) (hq : q + n ≤ b) (hb : b ≤ l.length) : Prm a b l (swpR l p q n) := by
  induction n with
  | zero => exact Prm.refl _ _ _
  | succ n ih =>
    exact (ih (by omega)).trans (Prm.swp _ _ _ (by omega) (by omega) (by rw [swpR_len]; omega))
theorem swpR_get (l : List α) (p q n : Nat) (hpq : p + n ≤ q) (hq : q + n ≤ l.length) : ∀ k, (swpR l p q n)[k]! = if p ≤ k ∧ k < p + n then l[k + (q - p)]! else if q ≤ k ∧ k < q + n then l[k - (q - p)]! else l[k]! := by
  induction n with
  | zero => intro k; rw [if_neg (by omega), if_neg (by omega)]; rfl
  | succ n ih =>
    intro k; have ih := ih (by omega) (by omega); rw [swpR, swpL_get _ _ _ _ (by rw [swpR_len]; omega) (by rw [swpR_len]; omega), ih, ih, ih]
    repeat' split
    all_goals first | rfl | omega | (congr 1; omega)

theorem Rot.less {m i j : Nat} {l l1 : List α} (h : j < i) (hi : i ≤ m) (hl : m + j ≤ l.length) (hr : Rot (m - (i - j)) m (m + j) (swpR l (m - i) m j) l1) : Rot (m - i) m (m + j) l l1 := by
  intro k; have hg := swpR_get l (m - i) m j (by omega) hl; rw [hr k, hg, hg, hg]
  repeat' split
  all_goals first | rfl | omega | (congr 1; omega)
theorem Rot.more {m i j : Nat} {l l1 : List α} (h : i < j) (hi : i ≤ m) (hl : m + j ≤ l.length) (hr : Rot (m - i) m (m + (j - i)) (swpR l (m - i) (m + j - i) i) l1) : Rot (m - i) m (m + j) l l1 := by
  intro k; have hg := swpR_get l (m - i) (m + j - i) i (by omega) (by omega); rw [hr k, hg, hg, hg]
  repeat' split
  all_goals first | rfl | omega | (congr 1; omega)
theorem Rot.even {m i : Nat} {l : List α} (hi : i ≤ m) (hl : m + i ≤ l.length) : Rot (m - i) m (m + i) l (swpR l (m - i) m i) := by
  intro k; have hg := swpR_get l (m - i) m i (by omega) hl; rw [hg]
  repeat' split
  all_goals first | rfl | omega | (congr 1; omega)

theorem rot_parts {c : α → α → Int} {S : α → Prop} (H : Ord c S) {a s m e b : Nat} {l l1 : List α} (hS : ∀ x ∈ l, S x) (has : a ≤ s) (hsm : s ≤ m) (hme : m ≤ e) (heb : e ≤ b) (hb : b ≤ l.length)
    (h1 : SR c l a m) (h2 : SR c l m b) (hr : Rot s m e l l1)
    (hA : s = a ∨ e = b ∨ c l[s - 1]! l[e]! ≤ 0) (hB : s = m ∨ e = m ∨ c l[e - 1]! l[s]! ≤ 0) :
    SR c l1 a s ∧ SR c l1 s (s + (e - m)) ∧ SR c l1 (s + (e - m)) e ∧ SR c l1 e b ∧ (∀ i j, a ≤ i → i < s + (e - m) → s + (e - m) ≤ j → j < b → c l1[i]! l1[j]! ≤ 0) ∧
    (s = a ∨ s = s + (e - m) → SR c l1 a (s + (e - m))) ∧ (s + (e - m) = e ∨ e = b → SR c l1 (s + (e - m)) b) := by
  have g1 : ∀ k, k < s → l1[k]! = l[k]! := fun k hk => by rw [hr k, if_neg (by omega), if_neg (by omega)]
  have g2 : ∀ k, s ≤ k → k < s + (e - m) → l1[k]! = l[k + m - s]! := fun k h h' => by rw [hr k, if_pos ⟨h, h'⟩]
  have g3 : ∀ k, s + (e - m) ≤ k → k < e → l1[k]! = l[k - (e - m)]! := fun k h h' => by rw [hr k, if_neg (by omega), if_pos ⟨h, h'⟩]
  have g4 : ∀ k, e ≤ k → l1[k]! = l[k]! := fun k hk => by rw [hr k, if_neg (by omega), if_neg (by omega)]
  have o : ∀ k, k < b → S l[k]! := fun k hk => at_ok hS k (by omega); have p1 : SR c l1 a s := fun i j hi hj hk => by rw [g1 i (by omega), g1 j hk]; exact h1 i j hi hj (by omega)
  have p2 : SR c l1 s (s + (e - m)) := fun i j hi hj hk => by rw [g2 i hi (by omega), g2 j (by omega) hk]; exact h2 _ _ (by omega) (by omega) (by omega)
  have p3 : SR c l1 (s + (e - m)) e := fun i j hi hj hk => by rw [g3 i hi (by omega), g3 j (by omega) hk]; exact h1 _ _ (by omega) (by omega) (by omega)
  have p4 : SR c l1 e b := fun i j hi hj hk => by rw [g4 i hi, g4 j (by omega)]; exact h2 _ _ (by omega) (by omega) (by omega)
  refine ⟨p1, p2, p3, p4, ?_, ?_, ?_⟩
  · intro i j hi hi2 hj hj2
    by_cases his : i < s
    · rw [g1 i his]
      by_cases hje : j < e
      · rw [g3 j hj hje]; exact h1 _ _ hi (by omega) (by omega)
      · rw [g4 j (by omega)]; have hh : c l[s - 1]! l[e]! ≤ 0 := by rcases hA with h | h | h <;> first | omega | exact h
        have h3 : c l[i]! l[e]! ≤ 0 := by
          by_cases h4 : i = s - 1
          · rw [h4]; exact hh
          · exact H.trans _ _ _ (o _ (by omega)) (o _ (by omega)) (o _ (by omega)) (h1 i (s - 1) hi (by omega) (by omega)) hh
        by_cases h5 : j = e
        · rw [h5]; exact h3
        · exact H.trans _ _ _ (o _ (by omega)) (o _ (by omega)) (o _ (by omega)) h3 (h2 e j (by omega) (by omega) hj2)
    · rw [g2 i (by omega) hi2]
      by_cases hje : j < e
      · rw [g3 j hj hje]; have hh : c l[e - 1]! l[s]! ≤ 0 := by rcases hB with h | h | h <;> first | omega | exact h
        have h3 : c l[i + m - s]! l[s]! ≤ 0 := by
          by_cases h4 : i + m - s = e - 1
          · rw [h4]; exact hh
          · exact H.trans _ _ _ (o _ (by omega)) (o _ (by omega)) (o _ (by omega)) (h2 (i + m - s) (e - 1) (by omega) (by omega) (by omega)) hh
        by_cases h5 : j - (e - m) = s
        · rw [h5]; exact h3
        · exact H.trans _ _ _ (o _ (by omega)) (o _ (by omega)) (o _ (by omega)) h3 (h1 s (j - (e - m)) (by omega) (by omega) (by omega))
      · rw [g4 j (by omega)]; exact h2 _ _ (by omega) (by omega) (by omega)
  · intro h i j hi hj hk
    by_cases his : s = a
    · exact p2 i j (by omega) hj hk
    · exact p1 i j hi hj (by omega)
  · intro h i j hi hj hk
    by_cases hie : e = b
    · exact p3 i j hi hj (by omega)
    · exact p4 i j (by omega) hj hk

theorem join {c : α → α → Int} {a mid b : Nat} {l1 l2 l3 : List α}
    (hx : ∀ i j, a ≤ i → i < mid → mid ≤ j → j < b → c l1[i]! l1[j]! ≤ 0) (hp2 : Prm a mid l1 l2) (s2 : SR c l2 a mid) (hp3 : Prm mid b l2 l3) (s3 : SR c l3 mid b) : SR c l3 a b := by
  intro i j hi hj hk
  by_cases h1 : j < mid
  · rw [hp3.out i (by omega), hp3.out j (by omega)]; exact s2 i j hi hj h1
  · by_cases h2 : mid ≤ i
    · exact s3 i j h2 hj hk
    · rw [hp3.out i (by omega)]; obtain ⟨q, q1, q2, e⟩ := hp2.inn i hi (by omega); obtain ⟨r, r1, r2, e2⟩ := hp3.inn j (by omega) hk; rw [e, e2, hp2.out r (by omega)]; exact hx q r q1 q2 r1 r2

theorem Rot.up {a k : Nat} {l l1 : List α} (hk : a ≤ k) (hl : k + 1 < l1.length) (hr : Rot a (a + 1) (k + 1) l l1) : Rot a (a + 1) (k + 1 + 1) l (swpL l1 k (k + 1)) := by
  intro j; rw [swpL_get _ _ _ _ (by omega) (by omega), hr, hr, hr]
  repeat' split
  all_goals first | rfl | omega | (congr 1; omega)
theorem Rot.down {m k : Nat} {l l1 : List α} (hk : k + 1 ≤ m) (hl : k + 1 < l1.length) (hr : Rot (k + 1) m (m + 1) l l1) : Rot k m (m + 1) l (swpL l1 (k + 1) k) := by
  intro j; rw [swpL_get _ _ _ _ (by omega) (by omega), hr, hr, hr]
  repeat' split
  all_goals first | rfl | omega | (congr 1; omega)
theorem up_ok {c : α → α → Int} {S : α → Prop} (H : Ord c S) {a b i : Nat} {l l1 : List α} (hS : ∀ x ∈ l, S x) (hb : b ≤ l.length) (hi : a + 1 ≤ i ∧ i ≤ b) (h2 : SR c l (a + 1) b)
    (hI : i = a + 1 ∨ c l[i - 1]! l[a]! < 0) (hJ : i = b ∨ ¬ c l[i]! l[a]! < 0) (hr : Rot a (a + 1) i l l1) : SR c l1 a b := by
  obtain ⟨p1, p2, p3, p4, px, p5, p6⟩ := rot_parts H (a := a) (b := b) hS (Nat.le_refl a) (by omega) hi.1 hi.2 hb (fun i j h1 h2 h3 => by omega) h2 hr (.inl rfl) (by rcases hI with h | h; exact .inr (.inl (by omega)); exact .inr (.inr (by omega))); have s3 : SR c l1 (a + (i - (a + 1))) b := by
    intro x y h1 h3 h4
    by_cases hx : x < i
    · have hxa : l1[x]! = l[a]! := by rw [hr x, if_neg (by omega), if_pos (by omega)]; congr 1; omega
      have hya : l1[y]! = l[y]! := by rw [hr y, if_neg (by omega), if_neg (by omega)]
      rw [hxa, hya]; have h5 : c l[a]! l[i]! ≤ 0 := by
        rcases hJ with h | h
        · omega
        · exact H.tot _ _ (at_ok hS _ (by omega)) (at_ok hS _ (by omega)) h
      by_cases h6 : y = i
      · rw [h6]; exact h5
      · exact H.trans _ _ _ (at_ok hS _ (by omega)) (at_ok hS _ (by omega)) (at_ok hS _ (by omega)) h5 (h2 i y (by omega) (by omega) h4)
    · exact p4 x y (by omega) h3 h4
  exact join px (Prm.refl _ _ _) (p5 (.inl rfl)) (Prm.refl _ _ _) s3
theorem down_ok {c : α → α → Int} {S : α → Prop} (H : Ord c S) {a m i : Nat} {l l1 : List α} (hS : ∀ x ∈ l, S x) (hb : m + 1 ≤ l.length) (hi : a ≤ i ∧ i ≤ m) (h1 : SR c l a m)
    (hI : i = a ∨ ¬ c l[m]! l[i - 1]! < 0) (hJ : i = m ∨ c l[m]! l[i]! < 0) (hr : Rot i m (m + 1) l l1) : SR c l1 a (m + 1) := by
  obtain ⟨p1, p2, p3, p4, px, p5, p6⟩ := rot_parts H (a := a) (b := m + 1) hS hi.1 hi.2 (by omega) (Nat.le_refl _) hb h1 (fun i j h1 h2 h3 => by omega) hr (.inr (.inl rfl)) (by rcases hJ with h | h; exact .inl h; exact .inr (.inr (by rw [Nat.add_sub_cancel]; omega))); have s2 : SR c l1 a (i + (m + 1 - m)) := by
    intro x y g1 g2 g3
    by_cases hy : y < i
    · exact p1 x y g1 g2 hy
    · have hxa : l1[x]! = l[x]! := by rw [hr x, if_neg (by omega), if_neg (by omega)]
      have hya : l1[y]! = l[m]! := by rw [hr y, if_pos (by omega)]; congr 1; omega
      rw [hxa, hya]; have h5 : c l[i - 1]! l[m]! ≤ 0 := by
        rcases hI with h | h
        · omega
        · exact H.tot _ _ (at_ok hS _ (by omega)) (at_ok hS _ (by omega)) h
      by_cases h6 : x = i - 1
      · rw [h6]; exact h5
      · exact H.trans _ _ _ (at_ok hS _ (by omega)) (at_ok hS _ (by omega)) (at_ok hS _ (by omega)) (h1 x (i - 1) g1 (by omega) (by omega)) h5
  exact join px (Prm.refl _ _ _) s2 (Prm.refl _ _ _) (p6 (.inr rfl))

theorem SR.pairwise {c : α → α → Int} {l : List α} (h : SR c l 0 l.length) : l.Pairwise (fun x y => c x y ≤ 0) := by
  rw [List.pairwise_iff_getElem]; intro i j hi hj hij; have := h i j (Nat.zero_le _) hij hj
  rwa [getElem!_pos l i hi, getElem!_pos l j hj] at this
end Go.Srt
/- Sorting by blocks, in plain terms. -/
set_option linter.unusedVariables false
set_option linter.unusedSimpArgs false
namespace Go.Srt
variable {α : Type} [Inhabited α]
def Bl (c : α → α → Int) (l : List α) (bs n s : Nat) : Prop := ∀ j, SR c l (s + j * bs) (min (s + j * bs + bs) n)
def Dn (c : α → α → Int) (l : List α) (B q : Nat) : Prop := ∀ j, j < q → SR c l (j * B) (j * B + B)
theorem SR.less {c : α → α → Int} {l : List α} {a b a' b' : Nat} (h : SR c l a b) (ha : a ≤ a') (hb : b' ≤ b) : SR c l a' b' := fun i j h1 h2 h3 => h i j (by omega) h2 (by omega)
theorem Bl.head {c : α → α → Int} {l : List α} {bs n s : Nat} (h : Bl c l bs n s) : SR c l s (min (s + bs) n) := by
  have := h 0; rwa [Nat.zero_mul, Nat.add_zero] at this
theorem Bl.second {c : α → α → Int} {l : List α} {bs n s : Nat} (h : Bl c l bs n s) : SR c l (s + bs) (min (s + bs + bs) n) := by
  have := h 1; rwa [Nat.one_mul] at this
theorem Bl.step {c : α → α → Int} {l l' : List α} {bs n s t : Nat} (h : Bl c l bs n s) (ht : t = s + (bs + bs)) (he : ∀ i, t ≤ i → l'[i]! = l[i]!) : Bl c l' bs n t := by
  intro j; have := h (j + 2); rw [show s + (j + 2) * bs = t + j * bs by rw [ht, Nat.add_mul]; omega] at this; exact this.congr (fun i h1 _ => he i (by omega))
theorem Dn.step {c : α → α → Int} {l l' : List α} {B q A : Nat} (h : Dn c l B q) (hA : A = q * B) (he : ∀ i, i < A → l'[i]! = l[i]!) (hs : SR c l' A (A + B)) : Dn c l' B (q + 1) := by
  intro j hj
  by_cases hq : j = q
  · subst hq; rw [← hA]; exact hs
  · have h1 : j * B + B ≤ q * B := by
      have := Nat.mul_le_mul_right B (show j + 1 ≤ q by omega); rw [Nat.add_mul] at this; omega
    exact (h j (by omega)).congr (fun i _ h2 => he i (by omega))
theorem Dn.fin {c : α → α → Int} {l l' : List α} {B q A n : Nat} (h : Dn c l B q) (hA : A = q * B) (he : ∀ i, i < A → l'[i]! = l[i]!) (hs : SR c l' A n) (hn : n ≤ A + B) : Bl c l' B n 0 := by
  intro j; rw [Nat.zero_add]
  rcases Nat.lt_trichotomy j q with hj | hj | hj
  · have h1 : j * B + B ≤ q * B := by
      have := Nat.mul_le_mul_right B (show j + 1 ≤ q by omega); rw [Nat.add_mul] at this; omega
    exact ((h j hj).congr (fun i _ h2 => he i (by omega))).less (Nat.le_refl _) (by omega)
  · subst hj; rw [← hA]; exact hs.less (Nat.le_refl _) (by omega)
  · have h1 : q * B + B ≤ j * B := by
      have := Nat.mul_le_mul_right B (show q + 1 ≤ j by omega); rw [Nat.add_mul] at this; omega
    intro x y h2 h3 h4; omega
end Go.Srt
/- A stable sort, in plain terms: what stood ahead stays ahead, told by a number that each has. -/
set_option linter.unusedVariables false
set_option linter.unusedSimpArgs false
namespace Go.Srt
variable {α : Type} [Inhabited α]
def XBf (gi : α → Nat) (l : List α) (n B A : Nat) : Prop := ∀ i j, A ≤ i → i < j → j < n → i / B < j / B → gi l[i]! < gi l[j]!
theorem xbf_start {gi : α → Nat} {l : List α} {n B : Nat} (h : ∀ i j, i < j → j < n → gi l[i]! < gi l[j]!) : XBf gi l n B 0 := fun i j _ h1 h2 _ => h i j h1 h2
theorem div_in {B q i : Nat} (hB : 0 < B) (h1 : q * B ≤ i) (h2 : i < q * B + B) : i / B = q := by
  apply Nat.div_eq_of_lt_le
  · exact h1
  · rw [Nat.add_mul]; omega
theorem xbf_prm {gi : α → Nat} {l l' : List α} {n B q A b A0 : Nat} (h : XBf gi l n B 0) (hp : Prm A b l l') (hA : A = q * B) (hb : b ≤ A + B) (hbn : b ≤ n) (hB : 0 < B) : XBf gi l' n B 0 := by
  have key : ∀ i, i < n → ∃ k, k < n ∧ l'[i]! = l[k]! ∧ k / B = i / B := by
    intro i hi
    by_cases g : A ≤ i ∧ i < b
    · obtain ⟨k, k1, k2, e⟩ := hp.inn i g.1 g.2; refine ⟨k, by omega, e, ?_⟩; rw [div_in hB (by omega : q * B ≤ k) (by omega), div_in hB (by omega : q * B ≤ i) (by omega)]
    · exact ⟨i, hi, hp.out i (by omega), rfl⟩
  intro i j _ hij hj hd; obtain ⟨i', a1, a2, a3⟩ := key i (by omega); obtain ⟨j', b1, b2, b3⟩ := key j hj; rw [a2, b2]; refine h i' j' (Nat.zero_le _) ?_ b1 (by omega); apply Decidable.byContradiction; intro c; have := Nat.div_le_div_right (c := B) (show j' ≤ i' by omega); omega
theorem xbf_dbl {gi : α → Nat} {l : List α} {n B D A : Nat} (h : XBf gi l n B A) (hD : B + B = D) : XBf gi l n D A := by
  intro i j h1 h2 h3 h4; refine h i j h1 h2 h3 ?_; apply Decidable.byContradiction; intro c; have e1 : i / D = i / B / 2 := by rw [Nat.div_div_eq_div_mul, ← hD, Nat.mul_two]
  have e2 : j / D = j / B / 2 := by rw [Nat.div_div_eq_div_mul, ← hD, Nat.mul_two]
  have := Nat.div_le_div_right (c := 2) (show j / B ≤ i / B by omega); omega
theorem xbf_later {gi : α → Nat} {l l' : List α} {n B A A' : Nat} (h : XBf gi l n B A) (hA : A ≤ A') (he : ∀ i, A' ≤ i → l'[i]! = l[i]!) : XBf gi l' n B A' := by
  intro i j h1 h2 h3 h4; rw [he i h1, he j (by omega)]; exact h i j (by omega) h2 h3 h4
theorem xbf_merge {gi : α → Nat} {l : List α} {n B D A M b q : Nat} (h : XBf gi l n B A) (hA : A = q * D) (hD : B + B = D) (hM : A + B = M) (hb : b ≤ A + D) (hbn : b ≤ n) (hB : 0 < B) : ∀ i j, A ≤ i → i < M → M ≤ j → j < b → gi l[i]! < gi l[j]! := by
  intro i j h1 h2 h3 h4; have e : q * D = 2 * q * B := by rw [← hD, Nat.mul_add, Nat.mul_comm 2 q, Nat.mul_assoc, Nat.two_mul, Nat.mul_add]
  have d1 : i / B = 2 * q := div_in hB (by omega) (by omega); have d2 : j / B = 2 * q + 1 := div_in hB (by rw [Nat.add_mul]; omega) (by rw [Nat.add_mul]; omega); exact h i j h1 (by omega) (by omega) (by omega)
theorem rot_idx {gi : α → Nat} {l l1 : List α} {a m b i E : Nat} (h : ∀ p q, a ≤ p → p < m → m ≤ q → q < b → gi l[p]! < gi l[q]!) (hai : a ≤ i) (him : i ≤ m) (hmE : m ≤ E) (hEb : E ≤ b) (hr : Rot i m E l l1) :
    (∀ p q, a ≤ p → p < i → i ≤ q → q < i + (E - m) → gi l1[p]! < gi l1[q]!) ∧ (∀ p q, i + (E - m) ≤ p → p < E → E ≤ q → q < b → gi l1[p]! < gi l1[q]!) := by
  constructor
  · intro p q h1 h2 h3 h4; rw [hr p, hr q, if_neg (by omega), if_neg (by omega), if_pos (by omega)]; exact h _ _ h1 (by omega) (by omega) (by omega)
  · intro p q h1 h2 h3 h4; rw [hr p, hr q, if_neg (by omega), if_pos (by omega), if_neg (by omega), if_neg (by omega)]; exact h _ _ (by omega) (by omega) (by omega) h4
end Go.Srt
/- Values with a number each (that is no part of memory); value.Sort's comparison. -/
set_option linter.unusedVariables false
set_option linter.unusedSimpArgs false
set_option maxRecDepth 100000
namespace Go
open Go.RowKit Go.Srt
structure Vg where
  k : Int
  t : ByteArray
  n : Int
  g : Nat
instance : Inhabited Vg := ⟨⟨0, ⟨#[]⟩, 0, 0⟩⟩
def Vg.v (x : Vg) : VV := (x.k, x.t, x.n)
def Vg.val (x : Vg) : Value := .agg #[.int .i64 x.k, .string x.t, .int .i64 x.n]
def Vg.cells (x : Vg) : List Value := [.int .i64 x.k, .string x.t, .int .i64 x.n]
def vgs (l : List Vg) : List Value := l.flatMap Vg.cells
def VgOk (x : Vg) : Prop := True
theorem vgs_len (l : List Vg) : (vgs l).length = l.length * 3 := flatMap_len Vg.cells 3 (fun _ => rfl) l
theorem vgs_get (l : List Vg) (i j : Nat) (hi : i < l.length) (hj : j < 3) : (vgs l)[i * 3 + j]? = (l[i]).cells[j]? := flatMap_get Vg.cells 3 (fun _ => rfl) l i j hi hj
theorem vgs_set (l : List Vg) (i : Nat) (hi : i < l.length) (c : Vg) : (((vgs l).set (i * 3) (.int .i64 c.k)).set (i * 3 + 1) (.string c.t)).set (i * 3 + 2) (.int .i64 c.n) = vgs (l.set i c) := by
  induction l generalizing i with
  | nil => simp at hi
  | cons a l ih =>
    cases i with
    | zero => simp [vgs, Vg.cells]
    | succ i =>
      have := ih i (by simpa using hi); simp only [vgs, List.flatMap_cons, List.set_cons_succ] at *; rw [← this]; have e : ∀ (X : List Value) (k : Nat) (v : Value), (a.cells ++ X).set ((i + 1) * 3 + k) v = a.cells ++ X.set (i * 3 + k) v := fun X k v => by
        have hl : a.cells.length = 3 := rfl; rw [List.set_append, if_neg (by rw [hl]; omega), hl, show (i + 1) * 3 + k - 3 = i * 3 + k by omega]
      have e0 := e (l.flatMap Vg.cells) 0; simp only [Nat.add_zero] at e0; rw [e0, e, e]
def cmpG (x y : Vg) : Int := if lessV x.v y.v = true then -1 else if lessV y.v x.v = true then 1 else if x.g < y.g then -1 else if y.g < x.g then 1 else 0
theorem cmpG_le (x y : Vg) : cmpG x y ≤ 0 ↔ lessV x.v y.v = true ∨ (lessV x.v y.v = false ∧ lessV y.v x.v = false ∧ x.g ≤ y.g) := by
  unfold cmpG
  cases h1 : lessV x.v y.v <;> cases h2 : lessV y.v x.v <;> simp
  split
  · omega
  · split <;> omega
theorem cmpG_lt (x y : Vg) : cmpG x y < 0 ↔ lessV x.v y.v = true ∨ (lessV x.v y.v = false ∧ lessV y.v x.v = false ∧ x.g < y.g) := by
  unfold cmpG
  cases h1 : lessV x.v y.v <;> cases h2 : lessV y.v x.v <;> simp
  split
  · omega
  · split <;> omega
theorem cmpG_ord : Ord cmpG VgOk where
  tot := fun x y _ _ h => by
    rw [cmpG_lt] at h; rw [cmpG_le]
    cases h1 : lessV y.v x.v with
    | true => exact .inl rfl
    | false =>
      cases h2 : lessV x.v y.v with
      | true => exact absurd (.inl h2) h
      | false => exact .inr ⟨rfl, rfl, by
          apply Decidable.byContradiction; intro c; exact h (.inr ⟨h2, h1, by omega⟩)⟩
  trans := fun x y z _ _ _ h g => by
    rw [cmpG_le] at h g ⊢
    rcases h with h | ⟨h1, h2, h3⟩
    · rcases g with g | ⟨g1, g2, g3⟩
      · exact .inl (lessV_trans h g)
      · left
        cases e : lessV x.v z.v with
        | true => rfl
        | false =>
          have := lessV_neg e g2; rw [h] at this; cases this
    · rcases g with g | ⟨g1, g2, g3⟩
      · left
        cases e : lessV x.v z.v with
        | true => rfl
        | false =>
          have := lessV_neg h2 e; rw [g] at this; cases this
      · exact .inr ⟨lessV_neg h1 g1, lessV_neg g2 h2, by omega⟩
theorem own_vg {W : World} {base g c n : Nat} {e : TypeId} {l : List Vg} (h : W.ownsRow base e 3 (.slice (some ⟨g, 0, none⟩) n c) n (vgs l)) (i : Nat) (hi : i < l.length) :
    (W.cell? ⟨g, i * 3, none⟩ = some (.int .i64 l[i]!.k) ∧ W.cell? ⟨g, i * 3 + 1, none⟩ = some (.string l[i]!.t) ∧ W.cell? ⟨g, i * 3 + 2, none⟩ = some (.int .i64 l[i]!.n)) ∧
    (W.frozen? ⟨g, i * 3, none⟩ = false ∧ W.frozen? ⟨g, i * 3 + 1, none⟩ = false ∧ W.frozen? ⟨g, i * 3 + 2, none⟩ = false) ∧ g < W.heap.size := by
  rw [getElem!_pos l i hi]; have h0 := ownsRow_cellS h (i := i * 3 + 0) (v := .int .i64 l[i].k) (by rw [vgs_get l i 0 hi (by omega)]; rfl); have h1 := ownsRow_cellS h (i := i * 3 + 1) (v := .string l[i].t) (by rw [vgs_get l i 1 hi (by omega)]; rfl); have h2 := ownsRow_cellS h (i := i * 3 + 2) (v := .int .i64 l[i].n) (by rw [vgs_get l i 2 hi (by omega)]; rfl); exact ⟨⟨h0.1, h1.1, h2.1⟩, ⟨h0.2.1, h1.2.1, h2.2.1⟩, h0.2.2⟩
theorem grown_setg (w : World) (B i : Nat) (v : Value) : w.grownBy (w.setCell ⟨B, i, none⟩ v) (some B) :=
  ⟨rfl, rfl, rfl, by rw [size_setCell]; exact Nat.le_refl _, fun k _ h => Below.heap_setCell _ _ _ _ (by intro e; exact h (by rw [e]))⟩
theorem ownsRow_drew {W : World} {base : Nat} {e : TypeId} {k : Nat} {v : Value} {n : Nat} {f : List Value} (h : W.ownsRow base e k v n f) : W.drew.ownsRow base e k v n f := h
theorem grown_drew {w W : World} {B : Option Nat} (h : w.grownBy W B) : w.grownBy W.drew B := h.trans ⟨rfl, rfl, rfl, Nat.le_refl _, fun _ _ _ => rfl⟩
end Go
namespace Go.Proofs.YtinogphhbbaobaaDoor
open Go.RowKit Go.Srt
set_option maxHeartbeats 1600000 in
theorem vcmp_any (a b : Vg) (ha : VgOk a) (hb : VgOk b) (hg : b.g < a.g) (w : World) :
    Calls Tryd.prog 30 #[a.val, b.val] w fun e w' => (∃ r : Int, e = .returned (.int .i64 r) ∧ (r < 0 ↔ cmpG a b < 0)) ∧ Below w.heap.size w w' := by
  have H1 := Lib.hid (fun W => vless_any a.v b.v W); have H2 := Lib.hid (fun W => vless_any b.v a.v W); have HC : Hid (cmpG a b < 0 ↔ lessV a.v b.v = true) := Lib.hid (by
    rw [cmpG_lt]; exact ⟨fun h => h.elim id (fun h => by omega), .inl⟩)
  obtain ⟨L1, hL1⟩ : ∃ x, lessV a.v b.v = x := ⟨_, rfl⟩; obtain ⟨L2, hL2⟩ : ∃ x, lessV b.v a.v = x := ⟨_, rfl⟩; rw [hL1] at H1 HC; rw [hL2] at H2; obtain ⟨CG, hCG⟩ : ∃ x, cmpG a b = x := ⟨_, rfl⟩; rw [hCG] at HC ⊢; clear hL1 hL2 hCG ha hb hg; obtain ⟨k1, t1, n1, g1⟩ := a; obtain ⟨k2, t2, n2, g2⟩ := b; dsimp only [Vg.val, Vg.v, vVal] at H1 H2 ⊢; have k0 := (Blk.lit w w.heap.size [.int .i64 k1, .string t1, .int .i64 n1] 23 rfl).alloc (.cells #[.int .i64 k2, .string t2, .int .i64 n2] 23); have k9 := Blk.lit (w.alloc (.cells #[.int .i64 k1, .string t1, .int .i64 n1] 23)) (w.heap.size + 1) [.int .i64 k2, .string t2, .int .i64 n2] 23 (by simp); have hb := (Below.new w (.cells #[.int .i64 k1, .string t1, .int .i64 n1] 23)).alloc (by simp) (.cells #[.int .i64 k2, .string t2, .int .i64 n2] 23)
  go_enter Tryd.func30, Tryd.ntmps30
  have x0 := k0.cell 0 rfl; have x1 := k0.cell 1 rfl; have x2 := k0.cell 2 rfl; have y0 := k9.cell 0 rfl; have y1 := k9.cell 1 rfl; have y2 := k9.cell 2 rfl
  go_wp2_with fail
  refine (H1.out _).mono ?_; rintro e w1 ⟨rfl, hb1⟩; have hbw := hb.trans (hb1.mono hb.size); have k0 := k0.keep hb1; have k9 := k9.keep hb1; clear x0 x1 x2 y0 y1 y2 H1 hb; have x0 := k0.cell 0 rfl; have x1 := k0.cell 1 rfl; have x2 := k0.cell 2 rfl; have y0 := k9.cell 0 rfl; have y1 := k9.cell 1 rfl; have y2 := k9.cell 2 rfl
  cases L1 with
  | true =>
    have HX : Hid ((-1 : Int) < 0 ↔ CG < 0) := Lib.hid ⟨fun _ => HC.out.2 rfl, fun _ => by decide⟩; clear HC; go_wp2; go_ret; exact ⟨⟨-1, rfl, HX.out⟩, hbw⟩
  | false =>
    have HX : Hid (¬ CG < 0) := Lib.hid (fun h => by have := HC.out.1 h; cases this); clear HC
    go_wp2_with fail
    refine (H2.out _).mono ?_; rintro e w2 ⟨rfl, hb2⟩; have hbw2 := hbw.trans (hb2.mono hbw.size)
    cases L2 with
    | true =>
      go_wp2; go_ret; exact ⟨⟨1, rfl, ⟨fun h => by omega, fun h => by have := HX.out; omega⟩⟩, hbw2⟩
    | false =>
      go_wp2; go_ret; exact ⟨⟨0, rfl, ⟨fun h => by omega, fun h => by have := HX.out; omega⟩⟩, hbw2⟩
end Go.Proofs.YtinogphhbbaobaaDoor
/- Plain: a value put into a row that is in order; rows in order of the same things are equal. -/
set_option linter.unusedVariables false
set_option linter.unusedSimpArgs false
namespace Go
open Go.RowKit Go.Srt
theorem cmpG_trans {x y z : Vg} (h : cmpG x y ≤ 0) (g : cmpG y z ≤ 0) : cmpG x z ≤ 0 := cmpG_ord.trans x y z trivial trivial trivial h g
theorem sr_pairwise {l : List Vg} : SR cmpG l 0 l.length ↔ l.Pairwise (fun a b => cmpG a b ≤ 0) := by
  rw [List.pairwise_iff_getElem]; constructor
  · intro h i j hi hj hij; have := h i j (Nat.zero_le _) hij hj
    rwa [getElem!_pos l i hi, getElem!_pos l j hj] at this
  · intro h i j _ hij hj; rw [getElem!_pos l i (by omega), getElem!_pos l j hj]; exact h i j (by omega) hj hij
theorem cmpG_le_of_not {x y : Vg} (h : lessV x.v y.v = false) (hg : y.g ≤ x.g) : cmpG y x ≤ 0 := by
  rw [cmpG_le]
  cases e : lessV y.v x.v with
  | true => exact .inl rfl
  | false => exact .inr ⟨rfl, h, hg⟩
theorem ins_pairwise {x : Vg} {L : List Vg} {j : Nat} (hj : j ≤ L.length) (hL : L.Pairwise (fun a b => cmpG a b ≤ 0)) (hg : ∀ y ∈ L, y.g ≤ x.g)
    (h1 : j = L.length ∨ lessV x.v L[j]!.v = true) (h2 : j = 0 ∨ lessV x.v L[j - 1]!.v = false) : (L.take j ++ x :: L.drop j).Pairwise (fun a b => cmpG a b ≤ 0) := by
  have hA : ∀ a ∈ L.take j, cmpG a x ≤ 0 := by
    intro a ha; obtain ⟨i, hi, rfl⟩ := List.mem_iff_getElem.1 ha; rw [List.length_take] at hi; rw [List.getElem_take]
    rcases h2 with rfl | h2
    · omega
    · rw [getElem!_pos L (j - 1) (by omega)] at h2; have h3 := cmpG_le_of_not h2 (hg _ (List.getElem_mem _))
      by_cases e : i = j - 1
      · subst e; exact h3
      · exact cmpG_trans (List.pairwise_iff_getElem.1 hL i (j - 1) (by omega) (by omega) (by omega)) h3
  have hB : ∀ b ∈ L.drop j, cmpG x b ≤ 0 := by
    intro b hb; obtain ⟨i, hi, rfl⟩ := List.mem_iff_getElem.1 hb; rw [List.length_drop] at hi; rw [List.getElem_drop]
    rcases h1 with rfl | h1
    · omega
    · rw [getElem!_pos L j (by omega)] at h1; have h3 : cmpG x L[j] ≤ 0 := by rw [cmpG_le]; exact .inl h1
      by_cases e : i = 0
      · subst e; exact h3
      · exact cmpG_trans h3 (List.pairwise_iff_getElem.1 hL j (j + i) (by omega) (by omega) (by omega))
  rw [List.pairwise_append]; refine ⟨hL.sublist (List.take_sublist _ _), List.pairwise_cons.2 ⟨hB, hL.sublist (List.drop_sublist _ _)⟩, ?_⟩; intro a ha b hb
  rcases List.mem_cons.1 hb with rfl | hb
  · exact hA a ha
  · exact cmpG_trans (hA a ha) (hB b hb)
theorem ins_perm {x : Vg} {L X : List Vg} {j k : Nat} (hk : k < X.length) (hx : X[k] = x) (hL : L.Perm (X.take k)) : (L.take j ++ x :: L.drop j).Perm (X.take (k + 1)) := by
  rw [List.take_succ_eq_append_getElem hk, hx]; refine List.perm_middle.trans ?_; rw [List.take_append_drop]; exact (List.Perm.cons x hL).trans (List.perm_append_singleton x _).symm
theorem ordered_eq {X l1 l2 : List Vg} (hx : ∀ i j, i < j → j < X.length → X[i]!.g < X[j]!.g) (h1 : l1.Perm X) (h2 : l2.Perm X)
    (s1 : l1.Pairwise (fun a b => cmpG a b ≤ 0)) (s2 : l2.Pairwise (fun a b => cmpG a b ≤ 0)) : l1 = l2 := by
  refine List.Perm.eq_of_pairwise (le := fun a b => cmpG a b ≤ 0) ?_ s1 s2 (h1.trans h2.symm); intro a b ha hb hab hba; have hg : a.g = b.g := by
    rw [cmpG_le] at hab hba
    rcases hab with h | ⟨_, _, h⟩
    · rcases hba with g | ⟨g1, g2, _⟩
      · rw [lessV_asym h] at g; cases g
      · rw [h] at g2; cases g2
    · rcases hba with g | ⟨_, _, g⟩
      · rename_i h1 h2; rw [g] at h2; cases h2
      · omega
  obtain ⟨i, hi, rfl⟩ := List.mem_iff_getElem.1 (h1.mem_iff.1 ha); obtain ⟨j, hj, rfl⟩ := List.mem_iff_getElem.1 (h2.mem_iff.1 hb)
  rcases Nat.lt_trichotomy i j with h | rfl | h
  · have := hx i j h hj; rw [getElem!_pos X i hi, getElem!_pos X j hj] at this; omega
  · rfl
  · have := hx j i h hi; rw [getElem!_pos X i hi, getElem!_pos X j hj] at this; omega
theorem vgs_take (l : List Vg) (n : Nat) : (vgs l).take (n * 3) = vgs (l.take n) := by
  induction l generalizing n with
  | nil => simp [vgs]
  | cons p l ih =>
    cases n with
    | zero => simp [vgs]
    | succ n =>
      have := ih n; simp only [vgs, List.flatMap_cons, List.take_succ_cons] at *; rw [← this, show (n + 1) * 3 = 3 + n * 3 by omega, List.take_add]; simp [Vg.cells]
theorem vgs_drop (l : List Vg) (n : Nat) : (vgs l).drop (n * 3) = vgs (l.drop n) := by
  induction l generalizing n with
  | nil => simp [vgs]
  | cons p l ih =>
    cases n with
    | zero => simp [vgs]
    | succ n =>
      have := ih n; simp only [vgs, List.flatMap_cons, List.drop_succ_cons] at *; rw [← this, show (n + 1) * 3 = 3 + n * 3 by omega, ← List.drop_drop]; simp [Vg.cells]
theorem Rd.vg {w : World} {a : Option Addr} {l : List Vg} (h : Rd w a (vgs l)) (i : Nat) (hi : i < l.length) :
    ∃ b off, a = some ⟨b, off, none⟩ ∧ b < w.heap.size ∧ w.cell? ⟨b, off + i * 3, none⟩ = some (.int .i64 l[i].k) ∧ w.cell? ⟨b, off + i * 3 + 1, none⟩ = some (.string l[i].t) ∧ w.cell? ⟨b, off + i * 3 + 2, none⟩ = some (.int .i64 l[i].n) := by
  have g : ∀ j, j < 3 → (vgs l)[i * 3 + j]? = (l[i]).cells[j]? := fun j hj => vgs_get l i j hi hj; obtain ⟨b, off, rfl, h0, hb⟩ := h.at (i := i * 3 + 0) (v := .int .i64 l[i].k) (by rw [g 0 (by omega)]; rfl); obtain ⟨b', off', e, h1, -⟩ := h.at (i := i * 3 + 1) (v := .string l[i].t) (by rw [g 1 (by omega)]; rfl)
  cases e
  obtain ⟨b', off', e, h2, -⟩ := h.at (i := i * 3 + 2) (v := .int .i64 l[i].n) (by rw [g 2 (by omega)]; rfl)
  cases e
  refine ⟨b, off, rfl, hb, h0, ?_, ?_⟩
  · rw [Nat.add_assoc]; exact h1
  · rw [Nat.add_assoc]; exact h2
end Go
