/-
  Turns about a point, by what lies to its right and by what lies above it, are the same (plain). graticuleref03.behind, aboveLeft.
-/
import Derived.Test.YtccamjnomjcchaaPk32
import Derived.Test.YtccamjnomjcchaaPk9
import Derived.Test.YtccamjnomjcchaaPk29
import Derived.Test.YtccamjnomjcchaaPk27
import Derived.Test.YtccamjnomjcchaaPk2
import Derived.Maps.AppendAt
import Derived.Test.YtccamjnomjcchaaPk6
import Derived.BigRegion
import Derived.RegionTactic
/- Turns about a point, by what lies to its right and by what lies above it, are the same (plain). -/
set_option linter.unusedVariables false
set_option linter.unusedSimpArgs false
namespace Go
theorem pl_tele (q : Pt → Int) : ∀ (x : Pt) (l : List Pt) (y : Pt), pl (fun a b => q b - q a) (x :: l ++ [y]) = q y - q x
  | x, [], y => by simp [pl]
  | x, z :: l, y => by
    have := pl_tele q z l y; simp only [List.cons_append, pl] at this ⊢; rw [this]; omega
theorem edges_tele (q : Pt → Int) (l : List Pt) : ((edges l).map fun e => q e.2 - q e.1).sum = 0 := by
  cases l with
  | nil => rfl
  | cons p t =>
    have := edges_pl (fun a b => q b - q a) p t; rw [this, pl_tele]; omega
theorem sum_sub {α : Type} (f g : α → Int) (l : List α) : (l.map fun e => f e - g e).sum = (l.map f).sum - (l.map g).sum := by
  induction l with
  | nil => rfl
  | cons a l ih => simp only [List.map_cons, List.sum_cons, ih]; omega
theorem sum_same {α : Type} (f g : α → Int) (l : List α) (h : ∀ e ∈ l, f e = g e) : (l.map f).sum = (l.map g).sum := by
  rw [List.map_congr_left h]
theorem edges_alike (f g : Pt × Pt → Int) (q : Pt → Int) (l : List Pt) (h : ∀ e ∈ edges l, f e - g e = q e.2 - q e.1) : ((edges l).map f).sum = ((edges l).map g).sum := by
  have h1 := sum_sub f g (edges l); rw [sum_same _ _ _ h, edges_tele] at h1; omega
def q1 (x y : Int) : Int := if 0 < x ∧ 0 < y then 1 else 0
theorem sgn_prod (x y : Int) : (0 < x → 0 < y → 0 < x * y) ∧ (0 < x → y ≤ 0 → x * y ≤ 0) ∧ (x ≤ 0 → 0 < y → x * y ≤ 0) ∧ (x ≤ 0 → y ≤ 0 → 0 ≤ x * y) :=
  ⟨fun h k => Int.mul_pos h k, fun h k => Int.mul_nonpos_of_nonneg_of_nonpos (by omega) k, fun h k => Int.mul_nonpos_of_nonpos_of_nonneg h (by omega), fun h k => Int.mul_nonneg_of_nonpos_of_nonpos h k⟩
theorem quad (x1 y1 x2 y2 C : Int) (hC : C = x1 * y2 - x2 * y1) (h0 : C = 0 → ¬ ((x1 ≤ 0 ∧ y1 ≤ 0) ∧ 0 < x2 ∧ 0 < y2) ∧ ¬ ((x2 ≤ 0 ∧ y2 ≤ 0) ∧ 0 < x1 ∧ 0 < y1)) :
    (if y1 ≤ 0 ∧ 0 < y2 ∧ 0 < C then (1 : Int) else if y2 ≤ 0 ∧ 0 < y1 ∧ C < 0 then -1 else 0) - (if x1 ≤ 0 ∧ 0 < x2 ∧ C < 0 then -1 else if x2 ≤ 0 ∧ 0 < x1 ∧ 0 < C then 1 else 0) = q1 x2 y2 - q1 x1 y1 := by
  have a1 := sgn_prod x1 y2; have a2 := sgn_prod x2 y1; generalize x1 * y2 = P at *; generalize x2 * y1 = Q at *; unfold q1
  by_cases b1 : 0 < x1 <;> by_cases b2 : 0 < y1 <;> by_cases b3 : 0 < x2 <;> by_cases b4 : 0 < y2 <;> by_cases b5 : 0 < C <;> by_cases b6 : C < 0
  all_goals (
    have c1 : x1 ≤ 0 ↔ ¬ 0 < x1 := by omega
    have c2 : y1 ≤ 0 ↔ ¬ 0 < y1 := by omega
    have c3 : x2 ≤ 0 ↔ ¬ 0 < x2 := by omega
    have c4 : y2 ≤ 0 ↔ ¬ 0 < y2 := by omega
    first | (exfalso; omega) | (simp only [b1, b2, b3, b4, b5, b6, c1, c2, c3, c4, true_and, and_true, false_and, and_false, not_true, not_false_eq_true, if_true, if_false, ite_true, ite_false] <;> (first | rfl | omega)))
def abvE (p : Pt) (e : Pt × Pt) : Int :=
  if e.1.x ≤ p.x ∧ p.x < e.2.x ∧ crs e.1 e.2 p < 0 then -1 else if e.2.x ≤ p.x ∧ p.x < e.1.x ∧ 0 < crs e.1 e.2 p then 1 else 0
def abvS (p : Pt) : List (Pt × Pt) → Int
  | [] => 0
  | e :: r => abvE p e + abvS p r
theorem abvS_append (p : Pt) (l r : List (Pt × Pt)) : abvS p (l ++ r) = abvS p l + abvS p r := by
  induction l with
  | nil => simp [abvS]
  | cons e l ih => simp only [List.cons_append, abvS, ih]; omega
theorem abvS_snoc (p : Pt) (l : List (Pt × Pt)) (e : Pt × Pt) : abvS p (l ++ [e]) = abvS p l + abvE p e := by
  rw [abvS_append]; simp [abvS]
theorem abvE_bd (p : Pt) (e : Pt × Pt) : -1 ≤ abvE p e ∧ abvE p e ≤ 1 := by
  unfold abvE; split
  · omega
  · split <;> omega
theorem abvS_bd (p : Pt) (l : List (Pt × Pt)) : -(l.length : Int) ≤ abvS p l ∧ abvS p l ≤ l.length := by
  induction l with
  | nil => simp [abvS]
  | cons e l ih => have := abvE_bd p e; simp only [abvS, List.length_cons]; omega
theorem abvS_sum (p : Pt) (l : List (Pt × Pt)) : abvS p l = (l.map (abvE p)).sum := by
  induction l with
  | nil => rfl
  | cons e l ih => simp only [abvS, List.map_cons, List.sum_cons, ih]
theorem sg_lt (z : Int) : (0 < sg z ↔ 0 < z) ∧ (sg z < 0 ↔ z < 0) := by
  unfold sg
  repeat' split
  all_goals omega
theorem wind_edge (p a b : Pt) (h : onX a b p = false) : windE p (a, b) - abvE p (a, b) = q1 (b.x - p.x) (b.y - p.y) - q1 (a.x - p.x) (a.y - p.y) := by
  have hC : crs a b p = (a.x - p.x) * (b.y - p.y) - (b.x - p.x) * (a.y - p.y) := by unfold crs; grind
  have h0 : crs a b p = 0 → ¬ ((a.x - p.x ≤ 0 ∧ a.y - p.y ≤ 0) ∧ 0 < b.x - p.x ∧ 0 < b.y - p.y) ∧ ¬ ((b.x - p.x ≤ 0 ∧ b.y - p.y ≤ 0) ∧ 0 < a.x - p.x ∧ 0 < a.y - p.y) := by
    intro h1; unfold onX boxB at h; rw [decide_eq_true h1, Bool.true_and, ← Bool.decide_and, decide_eq_false_iff_not] at h; omega
  have k := quad _ _ _ _ _ hC h0; rw [← k]; unfold windE abvE; dsimp only; generalize crs a b p = C at *; simp only [(sg_lt C).1, (sg_lt C).2]; have e1 : (a.y - p.y ≤ 0) = (a.y ≤ p.y) := by apply propext; omega
  have e2 : (0 < b.y - p.y) = (p.y < b.y) := by apply propext; omega
  have e3 : (b.y - p.y ≤ 0) = (b.y ≤ p.y) := by apply propext; omega
  have e4 : (0 < a.y - p.y) = (p.y < a.y) := by apply propext; omega
  have e5 : (a.x - p.x ≤ 0) = (a.x ≤ p.x) := by apply propext; omega
  have e6 : (0 < b.x - p.x) = (p.x < b.x) := by apply propext; omega
  have e7 : (b.x - p.x ≤ 0) = (b.x ≤ p.x) := by apply propext; omega
  have e8 : (0 < a.x - p.x) = (p.x < a.x) := by apply propext; omega
  simp only [e1, e2, e3, e4, e5, e6, e7, e8]
theorem windS_abvS (p : Pt) (l : List Pt) (h : (edges l).all (offB p) = true) : windS p (edges l) = abvS p (edges l) := by
  rw [windS_sum, abvS_sum]; refine edges_alike (fun e => windE p (e.1, e.2)) (abvE p) (fun a => q1 (a.x - p.x) (a.y - p.y)) l (fun e he => ?_); have := List.all_eq_true.1 h e he; unfold offB at this; exact wind_edge p e.1 e.2 (by simpa using this)

def behB (m v : Pt) (x : Int) : Bool := decide (m.x < x) || (decide (x = m.x) && decide (-v.y < 0))
def dblP (p : Pt) : Pt := ⟨2 * p.x, 2 * p.y⟩
def albS (m v a b : Pt) : Int := if crs (dblP a) (dblP b) m = 0 then (2 * b.x - 2 * a.x) * v.x - (2 * b.y - 2 * a.y) * -v.y else crs (dblP a) (dblP b) m
def albE (m v : Pt) (e : Pt × Pt) : Int :=
  if behB m v (2 * e.1.x) = false ∧ behB m v (2 * e.2.x) = true ∧ albS m v e.1 e.2 < 0 then -1 else if behB m v (2 * e.1.x) = true ∧ behB m v (2 * e.2.x) = false ∧ 0 < albS m v e.1 e.2 then 1 else 0
theorem albS_eq (m v a b : Pt) : albS m v a b = 2 * besSide m v a b := by
  have e1 : crs (dblP a) (dblP b) m = 2 * besN m a b := by unfold crs dblP besN; grind
  unfold albS besSide; rw [e1]
  by_cases h : besN m a b = 0
  · rw [if_pos (by omega), if_pos h]; grind
  · rw [if_neg (by omega), if_neg h]
theorem lex_pos (K C D : Int) (h1 : -K < D) (h2 : D < K) : (0 < (if C = 0 then D else C) ↔ 0 < K * C + D) ∧ ((if C = 0 then D else C) < 0 ↔ K * C + D < 0) ∧ (K * C + D = 0 → C = 0 ∧ D = 0) := by
  rcases Int.lt_trichotomy C 0 with h | h | h
  · have : K * C ≤ -K := by have := Int.mul_le_mul_of_nonneg_left (show C ≤ -1 by omega) (show 0 ≤ K by omega); omega
    rw [if_neg (by omega)]; omega
  · subst h; rw [if_pos rfl, Int.mul_zero]; omega
  · have : K ≤ K * C := by have := Int.mul_le_mul_of_nonneg_left (show 1 ≤ C by omega) (show 0 ≤ K by omega); omega
    rw [if_neg (by omega)]; omega
theorem over_lex (K : Int) (m v : Pt) (y : Int) (h1 : -K < v.x) (h2 : v.x < K) : besOver m v y = true ↔ 0 < K * (2 * y - m.y) + -v.x := by
  have k := lex_pos K (2 * y - m.y) (-v.x) (by omega) (by omega); rw [← k.1]; unfold besOver
  split <;> split <;> simp only [decide_eq_true_eq] <;> omega
theorem beh_lex (K : Int) (m v : Pt) (x : Int) (h1 : -K < v.y) (h2 : v.y < K) : behB m v (2 * x) = true ↔ 0 < K * (2 * x - m.x) + v.y := by
  have k := lex_pos K (2 * x - m.x) (v.y) (by omega) (by omega); rw [← k.1]; unfold behB; simp only [Bool.or_eq_true, Bool.and_eq_true, decide_eq_true_eq]
  split <;> omega
theorem bfalse {b : Bool} {p : Prop} (h : b = true ↔ p) : b = false ↔ ¬ p := by rw [← h]; simp
theorem bes_edge (m v a b : Pt) (hv : ¬ (v.x = 0 ∧ v.y = 0)) (h : besHas m v a b = false) :
    besE m v (a, b) - albE m v (a, b) = (if besOver m v b.y = true ∧ behB m v (2 * b.x) = true then 1 else 0) - (if besOver m v a.y = true ∧ behB m v (2 * a.x) = true then 1 else 0) := by
  obtain ⟨d, hd⟩ : ∃ d, d = (b.x - a.x) * v.x + (b.y - a.y) * v.y := ⟨_, rfl⟩; obtain ⟨K, hK1, hK2, hK3, hK4, hK5, hK6⟩ : ∃ K : Int, -K < v.x ∧ v.x < K ∧ -K < v.y ∧ v.y < K ∧ -K < d ∧ d < K := by
    refine ⟨(v.x.natAbs + v.y.natAbs + d.natAbs + 1 : Nat), ?_, ?_, ?_, ?_, ?_, ?_⟩ <;> omega
  have hN : besSide m v a b = if besN m a b = 0 then d else besN m a b := by unfold besSide; rw [hd]
  obtain ⟨l1, l2, l3⟩ := lex_pos K (besN m a b) d hK5 hK6; rw [← hN] at l1 l2; have o1 := over_lex K m v a.y hK1 hK2; have o2 := over_lex K m v b.y hK1 hK2; have p1 := beh_lex K m v a.x hK3 hK4; have p2 := beh_lex K m v b.x hK3 hK4; have hK : 0 < K := by omega
  have hC : 2 * (K * (K * besN m a b + d)) = (K * (2 * a.x - m.x) + v.y) * (K * (2 * b.y - m.y) + -v.x) - (K * (2 * b.x - m.x) + v.y) * (K * (2 * a.y - m.y) + -v.x) := by
    rw [hd]; unfold besN; grind
  have kx1 := lex_pos K (2 * a.x - m.x) v.y (by omega) (by omega); have kx2 := lex_pos K (2 * b.x - m.x) v.y (by omega) (by omega); have ky1 := lex_pos K (2 * a.y - m.y) (-v.x) (by omega) (by omega); have ky2 := lex_pos K (2 * b.y - m.y) (-v.x) (by omega) (by omega); have hs1 : ∀ z : Int, (0 < 2 * (K * z) ↔ 0 < z) ∧ (2 * (K * z) < 0 ↔ z < 0) ∧ (2 * (K * z) = 0 ↔ z = 0) := by
    intro z
    rcases Int.lt_trichotomy z 0 with g | g | g
    · have := Int.mul_neg_of_pos_of_neg hK g; omega
    · subst g; rw [Int.mul_zero]; omega
    · have := Int.mul_pos hK g; omega
  have hs := hs1 (K * besN m a b + d); have h0 : 2 * (K * (K * besN m a b + d)) = 0 → ¬ ((K * (2 * a.x - m.x) + v.y ≤ 0 ∧ K * (2 * a.y - m.y) + -v.x ≤ 0) ∧ 0 < K * (2 * b.x - m.x) + v.y ∧ 0 < K * (2 * b.y - m.y) + -v.x) ∧ ¬ ((K * (2 * b.x - m.x) + v.y ≤ 0 ∧ K * (2 * b.y - m.y) + -v.x ≤ 0) ∧ 0 < K * (2 * a.x - m.x) + v.y ∧ 0 < K * (2 * a.y - m.y) + -v.x) := by
    intro h1; obtain ⟨n1, n2⟩ := l3 (hs.2.2.1 h1); have hpar : (b.x - a.x) * v.y = (b.y - a.y) * v.x → b.x - a.x = 0 ∧ b.y - a.y = 0 := by
      intro e; rw [hd] at n2; have hp := sq_pos v.x v.y hv; have e1 : (v.x * v.x + v.y * v.y) * (b.x - a.x) = 0 := by grind
      have e2 : (v.x * v.x + v.y * v.y) * (b.y - a.y) = 0 := by grind
      have e3 := Int.mul_eq_zero.1 e1; have e4 := Int.mul_eq_zero.1 e2; omega
    have hin : (min a.x b.x * 2 ≤ m.x ∧ m.x ≤ 2 * max a.x b.x ∧ 2 * min a.y b.y ≤ m.y ∧ m.y ≤ 2 * max a.y b.y) → b.x - a.x = 0 ∧ b.y - a.y = 0 := by
      intro ⟨g1, g2, g3, g4⟩; apply hpar; unfold besHas besIn at h; have e1 : (b.x - a.x) * (m.y - 2 * a.y) = (b.y - a.y) * (m.x - 2 * a.x) := by unfold besN at n1; omega
      rw [decide_eq_true e1, decide_eq_true (show 2 * min a.x b.x ≤ m.x by omega), decide_eq_true g2, decide_eq_true g3, decide_eq_true g4] at h
      simpa using h
    constructor
    · intro ⟨⟨g1, g2⟩, g3, g4⟩; have q1 : 2 * a.x - m.x ≤ 0 := by
        apply Decidable.byContradiction; intro c; have := Int.mul_le_mul_of_nonneg_left (show 1 ≤ 2 * a.x - m.x by omega) (show 0 ≤ K by omega); omega
      have q2 : 2 * a.y - m.y ≤ 0 := by
        apply Decidable.byContradiction; intro c; have := Int.mul_le_mul_of_nonneg_left (show 1 ≤ 2 * a.y - m.y by omega) (show 0 ≤ K by omega); omega
      have q3 : 0 ≤ 2 * b.x - m.x := by
        apply Decidable.byContradiction; intro c; have := Int.mul_le_mul_of_nonneg_left (show 2 * b.x - m.x ≤ -1 by omega) (show 0 ≤ K by omega); omega
      have q4 : 0 ≤ 2 * b.y - m.y := by
        apply Decidable.byContradiction; intro c; have := Int.mul_le_mul_of_nonneg_left (show 2 * b.y - m.y ≤ -1 by omega) (show 0 ≤ K by omega); omega
      obtain ⟨r1, r2⟩ := hin ⟨by omega, by omega, by omega, by omega⟩; have r3 : b.x = a.x := by omega
      rw [r3] at g3; omega
    · intro ⟨⟨g1, g2⟩, g3, g4⟩; have q1 : 2 * b.x - m.x ≤ 0 := by
        apply Decidable.byContradiction; intro c; have := Int.mul_le_mul_of_nonneg_left (show 1 ≤ 2 * b.x - m.x by omega) (show 0 ≤ K by omega); omega
      have q2 : 2 * b.y - m.y ≤ 0 := by
        apply Decidable.byContradiction; intro c; have := Int.mul_le_mul_of_nonneg_left (show 1 ≤ 2 * b.y - m.y by omega) (show 0 ≤ K by omega); omega
      have q3 : 0 ≤ 2 * a.x - m.x := by
        apply Decidable.byContradiction; intro c; have := Int.mul_le_mul_of_nonneg_left (show 2 * a.x - m.x ≤ -1 by omega) (show 0 ≤ K by omega); omega
      have q4 : 0 ≤ 2 * a.y - m.y := by
        apply Decidable.byContradiction; intro c; have := Int.mul_le_mul_of_nonneg_left (show 2 * a.y - m.y ≤ -1 by omega) (show 0 ≤ K by omega); omega
      obtain ⟨r1, r2⟩ := hin ⟨by omega, by omega, by omega, by omega⟩; have r3 : b.x = a.x := by omega
      rw [r3] at g1; omega
  have k := quad _ _ _ _ _ hC h0; have r1 : (K * (2 * a.x - m.x) + v.y ≤ 0) = (behB m v (2 * a.x) = false) := propext ((by omega : _ ↔ _).trans (bfalse p1).symm); have r2 : (K * (2 * b.x - m.x) + v.y ≤ 0) = (behB m v (2 * b.x) = false) := propext ((by omega : _ ↔ _).trans (bfalse p2).symm); have r3 : (K * (2 * a.y - m.y) + -v.x ≤ 0) = (besOver m v a.y = false) := propext ((by omega : _ ↔ _).trans (bfalse o1).symm); have r4 : (K * (2 * b.y - m.y) + -v.x ≤ 0) = (besOver m v b.y = false) := propext ((by omega : _ ↔ _).trans (bfalse o2).symm); unfold q1 at k; simp only [hs.1, hs.2.1, ← l1, ← l2] at k; simp only [r1, r2, r3, r4, ← p1, ← p2, ← o1, ← o2] at k; unfold besE albE; dsimp only; rw [albS_eq]; have s1 : (2 * besSide m v a b < 0) = (besSide m v a b < 0) := propext (by omega); have s2 : (0 < 2 * besSide m v a b) = (0 < besSide m v a b) := propext (by omega); simp only [s1, s2]; simp only [and_comm (a := besOver m v a.y = true) (b := behB m v (2 * a.x) = true), and_comm (a := besOver m v b.y = true) (b := behB m v (2 * b.x) = true)]; have t1 : (besOver m v a.y = true ∧ besOver m v b.y = false ∧ besSide m v a b < 0) = (besOver m v b.y = false ∧ besOver m v a.y = true ∧ besSide m v a b < 0) := propext (by constructor <;> (intro ⟨a, b, c⟩; exact ⟨b, a, c⟩)); have t2 : (behB m v (2 * a.x) = true ∧ behB m v (2 * b.x) = false ∧ 0 < besSide m v a b) = (behB m v (2 * b.x) = false ∧ behB m v (2 * a.x) = true ∧ 0 < besSide m v a b) := propext (by constructor <;> (intro ⟨a, b, c⟩; exact ⟨b, a, c⟩)); simp only [t1, t2]
  exact k
def albT (m v : Pt) : List (Pt × Pt) → Int
  | [] => 0
  | e :: r => albE m v e + albT m v r
theorem albT_append (m v : Pt) (l r : List (Pt × Pt)) : albT m v (l ++ r) = albT m v l + albT m v r := by
  induction l with
  | nil => simp [albT]
  | cons e l ih => simp only [List.cons_append, albT, ih]; omega
theorem albT_snoc (m v : Pt) (l : List (Pt × Pt)) (e : Pt × Pt) : albT m v (l ++ [e]) = albT m v l + albE m v e := by
  rw [albT_append]; simp [albT]
theorem albE_bd (m v : Pt) (e : Pt × Pt) : -1 ≤ albE m v e ∧ albE m v e ≤ 1 := by
  unfold albE; repeat' split
  all_goals omega
theorem albT_bd (m v : Pt) (l : List (Pt × Pt)) : -(l.length : Int) ≤ albT m v l ∧ albT m v l ≤ l.length := by
  induction l with
  | nil => simp [albT]
  | cons e l ih => have := albE_bd m v e; simp only [albT, List.length_cons]; omega
theorem albT_sum (m v : Pt) (l : List (Pt × Pt)) : albT m v l = (l.map (albE m v)).sum := by
  induction l with
  | nil => rfl
  | cons e l ih => simp only [albT, List.map_cons, List.sum_cons, ih]
theorem besS_sum (m v : Pt) (l : List (Pt × Pt)) : besS m v l = (l.map (besE m v)).sum := by
  induction l with
  | nil => rfl
  | cons e l ih => simp only [besS, List.map_cons, List.sum_cons, ih]
theorem besS_albT (m v : Pt) (hv : ¬ (v.x = 0 ∧ v.y = 0)) (l : List Pt) (h : (edges l).all (offM m v) = true) : besS m v (edges l) = albT m v (edges l) := by
  rw [besS_sum, albT_sum]; refine edges_alike (besE m v) (albE m v) (fun a => if besOver m v a.y = true ∧ behB m v (2 * a.x) = true then 1 else 0) l (fun e he => ?_); have := List.all_eq_true.1 h e he; unfold offM at this; exact bes_edge m v e.1 e.2 hv (by simpa using this)
theorem between_iff {d t L S : Int} (hL : 0 < L) (h : t * L = S * d) (h1 : 0 ≤ S) (h2 : S ≤ L) : (0 ≤ d → 0 ≤ t ∧ t ≤ d) ∧ (d ≤ 0 → d ≤ t ∧ t ≤ 0) := by
  have key : ∀ d t : Int, t * L = S * d → 0 ≤ d → 0 ≤ t ∧ t ≤ d := by
    intro d t h hd; have g1 : 0 ≤ t * L := by rw [h]; exact Int.mul_nonneg h1 hd
    have g2 : t * L ≤ d * L := by rw [h, Int.mul_comm d L]; exact Int.mul_le_mul_of_nonneg_right h2 hd
    exact ⟨Int.nonneg_of_mul_nonneg_left g1 hL, Int.le_of_mul_le_mul_right g2 hL⟩
  refine ⟨key d t h, fun hd => ?_⟩; have := key (-d) (-t) (by rw [Int.neg_mul, h, Int.mul_neg]) (by omega); omega
theorem onX_onP (a b p : Pt) : onX a b p = onP a b p := by
  by_cases hab : a = b
  · subst hab; unfold onX onP boxB; rw [if_pos rfl]; obtain ⟨x, y⟩ := a; obtain ⟨u, v⟩ := p; rw [← Bool.decide_and, ← Bool.decide_and]; apply decide_eq_decide.2; unfold crs; simp only [Pt.mk.injEq, Int.sub_self, Int.zero_mul, true_and]; omega
  · unfold onX onP; rw [if_neg hab]
    by_cases hc : crs a b p = 0
    · rw [decide_eq_true hc, Bool.true_and, Bool.true_and]; unfold boxB; rw [← Bool.decide_and, ← Bool.decide_and]; apply decide_eq_decide.2; have hp := sq_pos _ _ (pt_ne hab); have ex : (p.x - a.x) * longP a b = dotP a b p * (b.x - a.x) := by unfold crs at hc; unfold longP dotP; grind
      have ey : (p.y - a.y) * longP a b = dotP a b p * (b.y - a.y) := by unfold crs at hc; unfold longP dotP; grind
      have eL : longP a b = (b.x - a.x) * (b.x - a.x) + (b.y - a.y) * (b.y - a.y) := rfl; have eD : dotP a b p = (p.x - a.x) * (b.x - a.x) + (p.y - a.y) * (b.y - a.y) := rfl; constructor
      · intro ⟨h1, h2⟩; have key : ∀ t d : Int, (0 ≤ d ∧ 0 ≤ t ∧ t ≤ d) ∨ (d ≤ 0 ∧ d ≤ t ∧ t ≤ 0) → 0 ≤ t * d ∧ t * d ≤ d * d := by
          intro t d h
          rcases h with ⟨h1, h2, h3⟩ | ⟨h1, h2, h3⟩
          · exact ⟨Int.mul_nonneg h2 h1, Int.mul_le_mul_of_nonneg_right h3 h1⟩
          · exact ⟨Int.mul_nonneg_of_nonpos_of_nonpos h3 h1, by
              have := Int.mul_le_mul_of_nonneg_right (show -t ≤ -d by omega) (show 0 ≤ -d by omega); rw [Int.neg_mul_neg, Int.neg_mul_neg] at this; exact this⟩
        have k1 := key (p.x - a.x) (b.x - a.x) (by omega); have k2 := key (p.y - a.y) (b.y - a.y) (by omega); rw [eD, eL]; omega
      · intro ⟨h1, h2⟩; have hp' : 0 < longP a b := hp; have k1 := between_iff hp' ex h1 h2; have k2 := between_iff hp' ey h1 h2; omega
    · rw [decide_eq_false hc, Bool.false_and, Bool.false_and]
end Go
/- graticuleref03.behind, aboveLeft. -/
set_option linter.unusedVariables false
set_option linter.unusedSimpArgs false
set_option maxRecDepth 100000
namespace Go
open Go.RowKit
theorem edges_take (L : List Pt) (k : Nat) (hk : k < L.length) : (edges L).take (k + 1) = (edges L).take k ++ [(L[k], L[(k + 1) % L.length]'(Nat.mod_lt _ (by omega)))] := by
  have hm := Nat.mod_lt (k + 1) (show 0 < L.length by omega); have hek : (edges L)[k]? = some (L[k], L[(k + 1) % L.length]) := by
    unfold edges; rw [List.getElem?_map, List.getElem?_range hk]; simp only [Option.map_some]; rw [getElem!_pos L k hk, getElem!_pos L _ hm]
  rw [List.take_add_one, hek]; rfl
theorem edges_mem (L : List Pt) (k : Nat) (hk : k < L.length) : (L[k], L[(k + 1) % L.length]'(Nat.mod_lt _ (by omega))) ∈ edges L := by
  have h := edges_take L k hk; have : (L[k], L[(k + 1) % L.length]'(Nat.mod_lt _ (by omega))) ∈ (edges L).take (k + 1) := by rw [h]; simp
  exact List.mem_of_mem_take this
theorem edges_length (L : List Pt) : (edges L).length = L.length := by simp [edges]
end Go
namespace Go.Proofs.Ytccamjnomjcchaa
open Go.RowKit

theorem rbehind_any (x at_ mv : Int) (w : World) :
    Calls Try.prog 109 #[.int .i64 x, .int .i64 at_, .int .i64 mv] w fun e w' => e = .returned (.bool (decide (at_ < x) || (decide (x = at_) && decide (mv < 0)))) ∧ w = w' := by
  obtain ⟨R, hR⟩ : ∃ R, (decide (at_ < x) || (decide (x = at_) && decide (mv < 0))) = R := ⟨_, rfl⟩; rw [hR]; have HR : ∀ b, (decide (at_ < x) || (decide (x = at_) && decide (mv < 0))) = b → b = R := fun b h => h.symm.trans hR; clear hR
  go_enter Try.func109, Try.ntmps109
  rcases Int.lt_trichotomy at_ x with h | h | h
  · go_wp2; go_ret; exact ⟨ret_bool (HR _ (by simp [h])), rfl⟩
  · subst h
    by_cases h2 : mv < 0
    · go_wp2; go_ret; exact ⟨ret_bool (HR _ (by simp [h2])), rfl⟩
    · go_wp2; go_ret; exact ⟨ret_bool (HR _ (by simp [h2])), rfl⟩
  · have h1 : ¬ at_ < x := by omega
    have h2 : ¬ x = at_ := by omega
    have h3 : (x == at_) = false := by simpa using h2
    go_wp2; go_ret; exact ⟨ret_bool (HR _ (by simp [h1, h2])), rfl⟩
theorem four_lit (w : World) (T : TypeId) (a b c d : Pt) :
    Blk ((((w.alloc (.cells #[.int .i64 a.x, .int .i64 a.y] T)).alloc (.cells #[.int .i64 b.x, .int .i64 b.y] T)).alloc (.cells #[.int .i64 c.x, .int .i64 c.y] T)).alloc (.cells #[.int .i64 d.x, .int .i64 d.y] T)) w.heap.size a.cells ∧
    Blk ((((w.alloc (.cells #[.int .i64 a.x, .int .i64 a.y] T)).alloc (.cells #[.int .i64 b.x, .int .i64 b.y] T)).alloc (.cells #[.int .i64 c.x, .int .i64 c.y] T)).alloc (.cells #[.int .i64 d.x, .int .i64 d.y] T)) (w.heap.size + 1) b.cells ∧
    Blk ((((w.alloc (.cells #[.int .i64 a.x, .int .i64 a.y] T)).alloc (.cells #[.int .i64 b.x, .int .i64 b.y] T)).alloc (.cells #[.int .i64 c.x, .int .i64 c.y] T)).alloc (.cells #[.int .i64 d.x, .int .i64 d.y] T)) (w.heap.size + 1 + 1) c.cells ∧
    Blk ((((w.alloc (.cells #[.int .i64 a.x, .int .i64 a.y] T)).alloc (.cells #[.int .i64 b.x, .int .i64 b.y] T)).alloc (.cells #[.int .i64 c.x, .int .i64 c.y] T)).alloc (.cells #[.int .i64 d.x, .int .i64 d.y] T)) (w.heap.size + 1 + 1 + 1) d.cells ∧
    Below w.heap.size w ((((w.alloc (.cells #[.int .i64 a.x, .int .i64 a.y] T)).alloc (.cells #[.int .i64 b.x, .int .i64 b.y] T)).alloc (.cells #[.int .i64 c.x, .int .i64 c.y] T)).alloc (.cells #[.int .i64 d.x, .int .i64 d.y] T)) :=
  ⟨(three_lit w T a b c).1.alloc _, (three_lit w T a b c).2.1.alloc _, (three_lit w T a b c).2.2.1.alloc _, Blk.lit _ (w.heap.size + 1 + 1 + 1) d.cells T (by simp),
   ((three_lit w T a b c).2.2.2.alloc (by simp; omega) _)⟩
def ablS (p q m d : Pt) : Int := if crs p q m = 0 then (q.x - p.x) * d.y - (q.y - p.y) * d.x else crs p q m
def ablB (m d : Pt) (x : Int) : Bool := decide (m.x < x) || (decide (x = m.x) && decide (d.x < 0))
def ablF (p q m d : Pt) : Int := if ablB m d p.x = false ∧ ablB m d q.x = true ∧ ablS p q m d < 0 then -1 else if ablB m d p.x = true ∧ ablB m d q.x = false ∧ 0 < ablS p q m d then 1 else 0

set_option maxHeartbeats 6400000 in
theorem rabl_any (p q m d : Pt) (hp : okW p) (hq : okW q) (hm : okW m) (hd : okW d) (w : World) :
    Calls Try.prog 93 #[p.val, q.val, m.val, d.val] w fun e w' => e = .returned (.int .i64 (ablF p q m d)) ∧ Below w.heap.size w w' := by
  have HX := Lib.hid (fun w => rcross_wide p q m hp hq hm w); have HB1 := Lib.hid (fun w => rbehind_any p.x m.x d.x w); have HB2 := Lib.hid (fun w => rbehind_any q.x m.x d.x w); obtain ⟨kA, kB, kC, kD, hbl⟩ := four_lit w 73 p q m d; have HR : Hid (ablF p q m d = if ablB m d p.x = false ∧ ablB m d q.x = true ∧ ablS p q m d < 0 then -1 else if ablB m d p.x = true ∧ ablB m d q.x = false ∧ 0 < ablS p q m d then 1 else 0) := Lib.hid rfl; have HS : Hid (ablS p q m d = if crs p q m = 0 then (q.x - p.x) * d.y - (q.y - p.y) * d.x else crs p q m) := Lib.hid rfl; rw [show (decide (m.x < p.x) || (decide (p.x = m.x) && decide (d.x < 0))) = ablB m d p.x from rfl] at HB1; rw [show (decide (m.x < q.x) || (decide (q.x = m.x) && decide (d.x < 0))) = ablB m d q.x from rfl] at HB2; generalize ablF p q m d = R at *; generalize ablB m d p.x = B1 at *; generalize ablB m d q.x = B2 at *; generalize ablS p q m d = S at *; generalize crs p q m = C at *; unfold okW at hp hq hm hd; obtain ⟨ax, ay⟩ := p; obtain ⟨bx, bY⟩ := q; obtain ⟨px, py⟩ := m; obtain ⟨vx, vy⟩ := d; dsimp only [Pt.val, Pt.cells] at *; have m1 := mul_bd (bx - ax) vy 67108864 33554432 (by omega) (by omega) (by omega) (by omega); have m2 := mul_bd (bY - ay) vx 67108864 33554432 (by omega) (by omega) (by omega) (by omega); simp only [Int.reduceMul, Int.reduceNeg] at m1 m2; obtain ⟨U1, hU1⟩ : ∃ U, bx - ax = U := ⟨_, rfl⟩; obtain ⟨U2, hU2⟩ : ∃ U, bY - ay = U := ⟨_, rfl⟩; have z1 : IntKind.i64.wrap (bx - ax) = U1 := by rw [hU1]; exact IntWalk.i64_in _ (by omega)
  have z2 : IntKind.i64.wrap (bY - ay) = U2 := by rw [hU2]; exact IntWalk.i64_in _ (by omega)
  rw [hU1] at m1; rw [hU2] at m2; rw [hU1, hU2] at HS; obtain ⟨P1, hP1⟩ : ∃ U, U1 * vy = U := ⟨_, rfl⟩; obtain ⟨P2, hP2⟩ : ∃ U, U2 * vx = U := ⟨_, rfl⟩; rw [hP1] at m1; rw [hP2] at m2; rw [hP1, hP2] at HS; have p1 : IntKind.i64.wrap (U1 * vy) = P1 := by rw [hP1]; exact IntWalk.i64_in _ (by omega)
  have p2 : IntKind.i64.wrap (U2 * vx) = P2 := by rw [hP2]; exact IntWalk.i64_in _ (by omega)
  obtain ⟨D, hD⟩ : ∃ U, P1 - P2 = U := ⟨_, rfl⟩; have s1 : IntKind.i64.wrap (P1 - P2) = D := by rw [hD]; exact IntWalk.i64_in _ (by omega)
  rw [hD] at HS; clear hU1 hU2 hP1 hP2 hD; clear hp hq hm hd m1 m2; have a0 := kA.cell 0 rfl; have a1 := kA.cell 1 rfl; have b0 := kB.cell 0 rfl; have b1 := kB.cell 1 rfl; have c0 := kC.cell 0 rfl; have c1 := kC.cell 1 rfl; have d0 := kD.cell 0 rfl; have d1 := kD.cell 1 rfl
  go_enter Try.func93, Try.ntmps93
  go_wp2_with fail
  refine (HX.out _).mono ?_; rintro e w1 ⟨rfl, hx1⟩; have kA := kA.keep hx1; have kB := kB.keep hx1; have kC := kC.keep hx1; have kD := kD.keep hx1; have hbl := hbl.trans (hx1.mono hbl.size); clear a0 a1 b0 b1 c0 c1 d0 d1 hx1 HX; have a0 := kA.cell 0 rfl; have a1 := kA.cell 1 rfl; have b0 := kB.cell 0 rfl; have b1 := kB.cell 1 rfl; have c0 := kC.cell 0 rfl; have c1 := kC.cell 1 rfl; have d0 := kD.cell 0 rfl; have d1 := kD.cell 1 rfl; clear kA kB kC kD
  by_cases h0 : C = 0
  · subst h0; have HS := Lib.hid (HS.out.trans (if_pos rfl)); obtain rfl := HS.out; clear HS
    cases B1 with
    | true =>
      cases B2 with
      | true =>
        go_wp2_with fail
        refine (HB1.out _).mono ?_; rintro e w5 ⟨rfl, rfl⟩
        go_wp2_with fail
        refine (HB1.out _).mono ?_; rintro e w5 ⟨rfl, rfl⟩
        go_wp2_with fail
        refine (HB2.out _).mono ?_; rintro e w5 ⟨rfl, rfl⟩; go_wp2; go_ret; exact ⟨ret_int (by rw [HR.out]; simp), hbl⟩
      | false =>
        go_wp2_with fail
        refine (HB1.out _).mono ?_; rintro e w5 ⟨rfl, rfl⟩
        go_wp2_with fail
        refine (HB1.out _).mono ?_; rintro e w5 ⟨rfl, rfl⟩
        go_wp2_with fail
        refine (HB2.out _).mono ?_; rintro e w5 ⟨rfl, rfl⟩
        by_cases h9 : 0 < S
        · go_wp2; go_ret; exact ⟨ret_int (by rw [HR.out]; simp [h9]), hbl⟩
        · go_wp2; go_ret; exact ⟨ret_int (by rw [HR.out]; simp [h9]), hbl⟩
    | false =>
      cases B2 with
      | true =>
        go_wp2_with fail
        refine (HB1.out _).mono ?_; rintro e w5 ⟨rfl, rfl⟩
        go_wp2_with fail
        refine (HB2.out _).mono ?_; rintro e w5 ⟨rfl, rfl⟩
        by_cases h9 : S < 0
        · go_wp2; go_ret; exact ⟨ret_int (by rw [HR.out]; simp [h9]), hbl⟩
        · go_wp2_with fail
          refine (HB1.out _).mono ?_; rintro e w5 ⟨rfl, rfl⟩; go_wp2; go_ret; exact ⟨ret_int (by rw [HR.out]; simp [h9]), hbl⟩
      | false =>
        go_wp2_with fail
        refine (HB1.out _).mono ?_; rintro e w5 ⟨rfl, rfl⟩
        go_wp2_with fail
        refine (HB2.out _).mono ?_; rintro e w5 ⟨rfl, rfl⟩
        go_wp2_with fail
        refine (HB1.out _).mono ?_; rintro e w5 ⟨rfl, rfl⟩; go_wp2; go_ret; exact ⟨ret_int (by rw [HR.out]; simp), hbl⟩
  · have h0' : (C == 0) = false := by simpa using h0
    have HS := Lib.hid (HS.out.trans (if_neg h0)); obtain rfl := HS.out; clear z1 z2 p1 p2 s1 HS
    cases B1 with
    | true =>
      cases B2 with
      | true =>
        go_wp2_with fail
        refine (HB1.out _).mono ?_; rintro e w5 ⟨rfl, rfl⟩
        go_wp2_with fail
        refine (HB1.out _).mono ?_; rintro e w5 ⟨rfl, rfl⟩
        go_wp2_with fail
        refine (HB2.out _).mono ?_; rintro e w5 ⟨rfl, rfl⟩; go_wp2; go_ret; exact ⟨ret_int (by rw [HR.out]; simp), hbl⟩
      | false =>
        go_wp2_with fail
        refine (HB1.out _).mono ?_; rintro e w5 ⟨rfl, rfl⟩
        go_wp2_with fail
        refine (HB1.out _).mono ?_; rintro e w5 ⟨rfl, rfl⟩
        go_wp2_with fail
        refine (HB2.out _).mono ?_; rintro e w5 ⟨rfl, rfl⟩
        by_cases h9 : 0 < S
        · go_wp2; go_ret; exact ⟨ret_int (by rw [HR.out]; simp [h9]), hbl⟩
        · go_wp2; go_ret; exact ⟨ret_int (by rw [HR.out]; simp [h9]), hbl⟩
    | false =>
      cases B2 with
      | true =>
        go_wp2_with fail
        refine (HB1.out _).mono ?_; rintro e w5 ⟨rfl, rfl⟩
        go_wp2_with fail
        refine (HB2.out _).mono ?_; rintro e w5 ⟨rfl, rfl⟩
        by_cases h9 : S < 0
        · go_wp2; go_ret; exact ⟨ret_int (by rw [HR.out]; simp [h9]), hbl⟩
        · go_wp2_with fail
          refine (HB1.out _).mono ?_; rintro e w5 ⟨rfl, rfl⟩; go_wp2; go_ret; exact ⟨ret_int (by rw [HR.out]; simp [h9]), hbl⟩
      | false =>
        go_wp2_with fail
        refine (HB1.out _).mono ?_; rintro e w5 ⟨rfl, rfl⟩
        go_wp2_with fail
        refine (HB2.out _).mono ?_; rintro e w5 ⟨rfl, rfl⟩
        go_wp2_with fail
        refine (HB1.out _).mono ?_; rintro e w5 ⟨rfl, rfl⟩; go_wp2; go_ret; exact ⟨ret_int (by rw [HR.out]; simp), hbl⟩

end Go.Proofs.Ytccamjnomjcchaa
