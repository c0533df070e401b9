/-
  Edges that lie as a coverage's, at one height (plain). A point in a coverage is gone round once (plain).
-/
import Derived.Test.YtccamjnomjcchaaPk36
/- Edges that lie as a coverage's, at one height (plain). -/
set_option linter.unusedVariables false
set_option linter.unusedSimpArgs false
namespace Go
open Go.RowKit
def nE (a b : Pt) (h : Int) : Int := 4 * a.x * (b.y - a.y) + (h - 4 * a.y) * (b.x - a.x)
def tE (a b c d : Pt) (h : Int) : Int := (d.y - c.y) * nE a b h - (b.y - a.y) * nE c d h
theorem tE_lin (a b c d : Pt) (h : Int) : tE a b c d h = crs a b c * (4 * d.y - h) + crs a b d * (h - 4 * c.y) := by
  unfold tE nE crs; grind
theorem tE_anti (a b c d : Pt) (h : Int) : tE c d a b h = -tE a b c d h := by
  unfold tE; omega
theorem lin_neg {U V p q r s : Int} (h1 : U * p + V * q < 0) (h2 : 0 < U * r + V * s) (hp : 0 ≤ p) (hq : 0 ≤ q) (hr : 0 ≤ r) (hs : 0 ≤ s) (hpr : r ≤ p) (hqs : q ≤ s) : U < 0 ∧ 0 < V := by
  constructor
  · apply Decidable.byContradiction; intro hc; have hU : 0 ≤ U := by omega
    have a1 := Int.mul_nonneg hU hp; have hV : V < 0 := by
      apply Decidable.byContradiction; intro g; have := Int.mul_nonneg (show 0 ≤ V by omega) hq; omega
    have a2 := Int.mul_le_mul_of_nonneg_left hpr hU; have a3 := Int.mul_le_mul_of_nonneg_left hqs (show 0 ≤ -V by omega); rw [Int.neg_mul, Int.neg_mul] at a3; omega
  · apply Decidable.byContradiction; intro hc; have hV : 0 ≤ -V := by omega
    have a1 := Int.mul_nonneg hV hs; rw [Int.neg_mul] at a1; have hU : 0 < U := by
      apply Decidable.byContradiction; intro g; have := Int.mul_nonneg (show 0 ≤ -U by omega) hr; rw [Int.neg_mul] at this; omega
    have a2 := Int.mul_le_mul_of_nonneg_left hpr (show 0 ≤ U by omega); have a3 := Int.mul_le_mul_of_nonneg_left hqs hV; rw [Int.neg_mul, Int.neg_mul] at a3; omega
structure Good2 (a b c d : Pt) : Prop where
  cross : ¬ ((0 < crs a b c ∧ crs a b d < 0) ∧ crs c d a < 0 ∧ 0 < crs c d b)
  cross' : ¬ ((crs a b c < 0 ∧ 0 < crs a b d) ∧ 0 < crs c d a ∧ crs c d b < 0)
  off : ∀ v, v = c ∨ v = d → a.y < v.y → v.y < b.y → crs a b v ≠ 0
  tie : ∀ h, 4 * a.y < h → h < 4 * b.y → 4 * c.y < h → h < 4 * d.y → tE a b c d h = 0 → a = c ∧ b = d
theorem tE_self (a b : Pt) (h : Int) : tE a b a b h = 0 := by unfold tE; omega
theorem Good2.order {a b c d : Pt} (g : Good2 a b c d) (hab : a.y < b.y) (hcd : c.y < d.y) {h k : Int} (h1 : 4 * a.y ≤ h) (h2 : h ≤ 4 * b.y) (h3 : 4 * c.y ≤ h) (h4 : h ≤ 4 * d.y) (k1 : 4 * a.y ≤ k) (k2 : k ≤ 4 * b.y) (k3 : 4 * c.y ≤ k) (k4 : k ≤ 4 * d.y) (e1 : tE a b c d h < 0) (e2 : 0 < tE a b c d k) : False := by
  have f1 : 0 < tE c d a b h := by rw [tE_anti]; omega
  have f2 : tE c d a b k < 0 := by rw [tE_anti]; omega
  rw [tE_lin] at e1 e2 f1 f2
  rcases Int.lt_or_le h k with hk | hk
  · have r1 := lin_neg e1 e2 (by omega) (by omega) (by omega) (by omega) (by omega) (by omega); have r2 := lin_neg (U := -crs c d a) (V := -crs c d b) (p := 4 * b.y - h) (q := h - 4 * a.y) (r := 4 * b.y - k) (s := k - 4 * a.y) (by rw [Int.neg_mul, Int.neg_mul]; omega) (by rw [Int.neg_mul, Int.neg_mul]; omega) (by omega) (by omega) (by omega) (by omega) (by omega) (by omega); exact g.cross' ⟨r1, by omega, by omega⟩
  · have r1 := lin_neg (U := -crs a b c) (V := -crs a b d) (p := 4 * d.y - k) (q := k - 4 * c.y) (r := 4 * d.y - h) (s := h - 4 * c.y) (by rw [Int.neg_mul, Int.neg_mul]; omega) (by rw [Int.neg_mul, Int.neg_mul]; omega) (by omega) (by omega) (by omega) (by omega) (by omega) (by omega); have r2 := lin_neg f2 f1 (by omega) (by omega) (by omega) (by omega) (by omega) (by omega); exact g.cross ⟨⟨by omega, by omega⟩, by omega, by omega⟩
theorem tE_zero_all {a b c d : Pt} (h : a = c ∧ b = d) (k : Int) : tE a b c d k = 0 := by
  obtain ⟨rfl, rfl⟩ := h; exact tE_self _ _ _
theorem Good2.alike {a b c d : Pt} (g : Good2 a b c d) (hab : a.y < b.y) (hcd : c.y < d.y) {h k : Int} (h1 : 4 * a.y < h) (h2 : h < 4 * b.y) (h3 : 4 * c.y < h) (h4 : h < 4 * d.y) (k1 : 4 * a.y ≤ k) (k2 : k ≤ 4 * b.y) (k3 : 4 * c.y ≤ k) (k4 : k ≤ 4 * d.y) (e : tE a b c d k ≠ 0) : (tE a b c d h < 0 ↔ tE a b c d k < 0) ∧ tE a b c d h ≠ 0 := by
  have hn : tE a b c d h ≠ 0 := fun h0 => e (tE_zero_all (g.tie h h1 h2 h3 h4 h0) k); refine ⟨⟨fun x => ?_, fun x => ?_⟩, hn⟩
  · apply Decidable.byContradiction; intro hc; exact g.order hab hcd (by omega) (by omega) (by omega) (by omega) k1 k2 k3 k4 x (by omega)
  · apply Decidable.byContradiction; intro hc; exact g.order hab hcd (k := h) k1 k2 k3 k4 (by omega) (by omega) (by omega) (by omega) x (by omega)
theorem tE_at_c (a b c d : Pt) : tE a b c d (4 * c.y) = crs a b c * (4 * (d.y - c.y)) := by rw [tE_lin]; grind
theorem tE_at_d (a b c d : Pt) : tE a b c d (4 * d.y) = crs a b d * (4 * (d.y - c.y)) := by rw [tE_lin]; grind
theorem mul_sign {n k : Int} (hk : 0 < k) : (n * k < 0 ↔ n < 0) ∧ (n * k = 0 ↔ n = 0) := by
  rcases Int.lt_trichotomy n 0 with h | h | h
  · have := Int.mul_neg_of_neg_of_pos h hk; omega
  · subst h; rw [Int.zero_mul]; omega
  · have := Int.mul_pos h hk; omega
def sgnE (a b : Pt) (h : Int) : Int := if 4 * a.y < h ∧ h < 4 * b.y then 1 else if 4 * b.y < h ∧ h < 4 * a.y then -1 else 0
def loE (a b : Pt) : Pt := if a.y < b.y then a else b
def hiE (a b : Pt) : Pt := if a.y < b.y then b else a
def rightK (k : Bool) (t : Int) : Prop := t < 0 ∨ (k = true ∧ t = 0)
instance (k : Bool) (t : Int) : Decidable (rightK k t) := by unfold rightK; infer_instance
def cE (k : Bool) (lo hi : Pt) (h : Int) (e : Pt × Pt) : Int := if rightK k (tE lo hi (loE e.1 e.2) (hiE e.1 e.2) h) then sgnE e.1 e.2 h else 0
def winE (lo hi : Pt) (h k : Int) (v : Pt) : Int := if h < 4 * v.y ∧ 4 * v.y < k ∧ crs lo hi v < 0 then 1 else 0
def GoodE (lo hi : Pt) (e : Pt × Pt) : Prop := (∀ v, v = e.1 ∨ v = e.2 → lo.y < v.y → v.y < hi.y → crs lo hi v ≠ 0) ∧ (e.1.y ≠ e.2.y → Good2 lo hi (loE e.1 e.2) (hiE e.1 e.2)) ∧ (e.1.y = e.2.y → lo.y < e.1.y → e.1.y < hi.y → (crs lo hi e.1 < 0 ↔ crs lo hi e.2 < 0))
theorem rightK_congr {k : Bool} {s t : Int} (h : s < 0 ↔ t < 0) (h1 : s ≠ 0) (h2 : t ≠ 0) : rightK k s ↔ rightK k t := by
  unfold rightK; rw [h]; constructor
  · rintro (g | ⟨-, g⟩)
    · exact .inl g
    · exact absurd g h1
  · rintro (g | ⟨-, g⟩)
    · exact .inl g
    · exact absurd g h2
theorem rightK_iff {k : Bool} {s : Int} (h1 : s ≠ 0) : rightK k s ↔ s < 0 := by
  unfold rightK; exact ⟨fun h => h.elim id (fun g => absurd g.2 h1), .inl⟩
theorem step_up (kk : Bool) {lo hi a b : Pt} (hl : lo.y < hi.y) (hab : a.y < b.y) (g : Good2 lo hi a b) {h k : Int} (hh : h % 2 = 1) (hk : k % 2 = 1) (h1 : 4 * lo.y < h) (hhk : h < k) (k1 : k < 4 * hi.y) :
    cE kk lo hi k (a, b) - cE kk lo hi h (a, b) = winE lo hi h k a - winE lo hi h k b := by
  unfold cE winE loE hiE sgnE; dsimp only; rw [if_pos hab, if_pos hab]; have p4 : 0 < 4 * (b.y - a.y) := by omega
  have qa := tE_at_c lo hi a b; have qb := tE_at_d lo hi a b; have ma := mul_sign (n := crs lo hi a) p4; have mb := mul_sign (n := crs lo hi b) p4; rw [← qa] at ma; rw [← qb] at mb
  rcases (by omega : 4 * b.y < h ∨ (4 * a.y < h ∧ h < 4 * b.y ∧ 4 * b.y < k) ∨ (4 * a.y < h ∧ k < 4 * b.y) ∨ (h < 4 * a.y ∧ 4 * b.y < k) ∨ (h < 4 * a.y ∧ 4 * a.y < k ∧ k < 4 * b.y) ∨ k < 4 * a.y) with c | ⟨c1, c2, c3⟩ | ⟨c1, c2⟩ | ⟨c1, c2⟩ | ⟨c1, c2, c3⟩ | c
  · rw [if_neg (show ¬ (4 * a.y < k ∧ k < 4 * b.y) by omega), if_neg (show ¬ (4 * b.y < k ∧ k < 4 * a.y) by omega), if_neg (show ¬ (4 * a.y < h ∧ h < 4 * b.y) by omega), if_neg (show ¬ (4 * b.y < h ∧ h < 4 * a.y) by omega), if_neg (show ¬ (h < 4 * a.y ∧ 4 * a.y < k ∧ crs lo hi a < 0) by omega), if_neg (show ¬ (h < 4 * b.y ∧ 4 * b.y < k ∧ crs lo hi b < 0) by omega)]; simp
  · have hb := g.off b (.inr rfl) (by omega) (by omega); have hal := g.alike hl hab h1 (by omega) c1 c2 (k := 4 * b.y) (by omega) (by omega) (by omega) (by omega) (fun e => hb (mb.2.1 e)); rw [if_neg (show ¬ (4 * a.y < k ∧ k < 4 * b.y) by omega), if_neg (show ¬ (4 * b.y < k ∧ k < 4 * a.y) by omega), if_pos (show 4 * a.y < h ∧ h < 4 * b.y by omega), if_neg (show ¬ (h < 4 * a.y ∧ 4 * a.y < k ∧ crs lo hi a < 0) by omega)]; have hr := rightK_iff (k := kk) hal.2; rw [hal.1, mb.1] at hr
    by_cases hs : crs lo hi b < 0
    · rw [if_pos (hr.2 hs), if_pos (show h < 4 * b.y ∧ 4 * b.y < k ∧ crs lo hi b < 0 from ⟨c2, c3, hs⟩)]; simp
    · rw [if_neg (fun x => hs (hr.1 x)), if_neg (show ¬ (h < 4 * b.y ∧ 4 * b.y < k ∧ crs lo hi b < 0) from fun x => hs x.2.2)]; simp
  · rw [if_pos (show 4 * a.y < k ∧ k < 4 * b.y by omega), if_pos (show 4 * a.y < h ∧ h < 4 * b.y by omega), if_neg (show ¬ (h < 4 * a.y ∧ 4 * a.y < k ∧ crs lo hi a < 0) by omega), if_neg (show ¬ (h < 4 * b.y ∧ 4 * b.y < k ∧ crs lo hi b < 0) by omega)]; have hr : rightK kk (tE lo hi a b k) ↔ rightK kk (tE lo hi a b h) := by
      by_cases e : tE lo hi a b h = 0
      · have := tE_zero_all (g.tie h h1 (by omega) c1 (by omega) e) k; rw [e, this]
      · have hal := g.alike hl hab (h := k) (k := h) (by omega) (by omega) (by omega) (by omega) (by omega) (by omega) (by omega) (by omega) e; exact rightK_congr hal.1 hal.2 e
    by_cases hs : rightK kk (tE lo hi a b h)
    · rw [if_pos hs, if_pos (hr.2 hs)]; simp
    · rw [if_neg hs, if_neg (fun x => hs (hr.1 x))]
  · have ha := g.off a (.inl rfl) (by omega) (by omega); have hb := g.off b (.inr rfl) (by omega) (by omega); rw [if_neg (show ¬ (4 * a.y < k ∧ k < 4 * b.y) by omega), if_neg (show ¬ (4 * b.y < k ∧ k < 4 * a.y) by omega), if_neg (show ¬ (4 * a.y < h ∧ h < 4 * b.y) by omega), if_neg (show ¬ (4 * b.y < h ∧ h < 4 * a.y) by omega)]; have hs : crs lo hi a < 0 ↔ crs lo hi b < 0 := by
      constructor
      · intro x; apply Decidable.byContradiction; intro y; refine g.order hl hab (h := 4 * a.y) (k := 4 * b.y) (by omega) (by omega) (by omega) (by omega) (by omega) (by omega) (by omega) (by omega) (ma.1.2 x) ?_; have : ¬ (tE lo hi a b (4 * b.y) < 0) := fun z => y (mb.1.1 z); have : tE lo hi a b (4 * b.y) ≠ 0 := fun z => hb (mb.2.1 z); omega
      · intro x; apply Decidable.byContradiction; intro y; refine g.order hl hab (h := 4 * b.y) (k := 4 * a.y) (by omega) (by omega) (by omega) (by omega) (by omega) (by omega) (by omega) (by omega) (mb.1.2 x) ?_; have : ¬ (tE lo hi a b (4 * a.y) < 0) := fun z => y (ma.1.1 z); have : tE lo hi a b (4 * a.y) ≠ 0 := fun z => ha (ma.2.1 z); omega
    by_cases x : crs lo hi a < 0
    · rw [if_pos (show h < 4 * a.y ∧ 4 * a.y < k ∧ crs lo hi a < 0 from ⟨c1, by omega, x⟩), if_pos (show h < 4 * b.y ∧ 4 * b.y < k ∧ crs lo hi b < 0 from ⟨by omega, c2, hs.1 x⟩)]; simp
    · rw [if_neg (show ¬ (h < 4 * a.y ∧ 4 * a.y < k ∧ crs lo hi a < 0) from fun z => x z.2.2), if_neg (show ¬ (h < 4 * b.y ∧ 4 * b.y < k ∧ crs lo hi b < 0) from fun z => x (hs.2 z.2.2))]; simp
  · have ha := g.off a (.inl rfl) (by omega) (by omega); have hal := g.alike hl hab (h := k) (by omega) (by omega) (by omega) c3 (k := 4 * a.y) (by omega) (by omega) (by omega) (by omega) (fun e => ha (ma.2.1 e)); rw [if_pos (show 4 * a.y < k ∧ k < 4 * b.y by omega), if_neg (show ¬ (4 * a.y < h ∧ h < 4 * b.y) by omega), if_neg (show ¬ (4 * b.y < h ∧ h < 4 * a.y) by omega), if_neg (show ¬ (h < 4 * b.y ∧ 4 * b.y < k ∧ crs lo hi b < 0) by omega)]; have hr := rightK_iff (k := kk) hal.2; rw [hal.1, ma.1] at hr
    by_cases hs : crs lo hi a < 0
    · rw [if_pos (hr.2 hs), if_pos (show h < 4 * a.y ∧ 4 * a.y < k ∧ crs lo hi a < 0 from ⟨c1, c2, hs⟩)]; simp
    · rw [if_neg (fun x => hs (hr.1 x)), if_neg (show ¬ (h < 4 * a.y ∧ 4 * a.y < k ∧ crs lo hi a < 0) from fun x => hs x.2.2)]; simp
  · rw [if_neg (show ¬ (4 * a.y < k ∧ k < 4 * b.y) by omega), if_neg (show ¬ (4 * b.y < k ∧ k < 4 * a.y) by omega), if_neg (show ¬ (4 * a.y < h ∧ h < 4 * b.y) by omega), if_neg (show ¬ (4 * b.y < h ∧ h < 4 * a.y) by omega), if_neg (show ¬ (h < 4 * a.y ∧ 4 * a.y < k ∧ crs lo hi a < 0) by omega), if_neg (show ¬ (h < 4 * b.y ∧ 4 * b.y < k ∧ crs lo hi b < 0) by omega)]; simp
theorem lo_swap {a b : Pt} (h : a.y ≠ b.y) : loE b a = loE a b ∧ hiE b a = hiE a b := by
  unfold loE hiE
  rcases Int.lt_or_gt_of_ne h with g | g
  · rw [if_neg (by omega), if_pos g, if_neg (by omega), if_pos g]; exact ⟨rfl, rfl⟩
  · rw [if_pos g, if_neg (by omega), if_pos g, if_neg (by omega)]; exact ⟨rfl, rfl⟩
theorem sgnE_anti (a b : Pt) (h : Int) : sgnE b a h = -sgnE a b h := by
  unfold sgnE
  split <;> split <;> (try split) <;> omega
theorem cE_anti (k : Bool) (lo hi : Pt) (h : Int) {a b : Pt} (hab : a.y ≠ b.y) : cE k lo hi h (b, a) = -cE k lo hi h (a, b) := by
  unfold cE; dsimp only; rw [(lo_swap hab).1, (lo_swap hab).2, sgnE_anti]
  split <;> rfl
theorem cE_flat (k : Bool) (lo hi : Pt) (h : Int) {a b : Pt} (hab : a.y = b.y) : cE k lo hi h (a, b) = 0 := by
  unfold cE sgnE; dsimp only; rw [hab, if_neg (show ¬ (4 * b.y < h ∧ h < 4 * b.y) by omega), if_neg (show ¬ (4 * b.y < h ∧ h < 4 * b.y) by omega)]
  split <;> rfl
theorem step_edge (kk : Bool) {lo hi : Pt} {e : Pt × Pt} (hl : lo.y < hi.y) (g : GoodE lo hi e) {h k : Int} (hh : h % 2 = 1) (hk : k % 2 = 1) (h1 : 4 * lo.y < h) (hhk : h < k) (k1 : k < 4 * hi.y) :
    cE kk lo hi k e - cE kk lo hi h e = (-winE lo hi h k e.2) - (-winE lo hi h k e.1) := by
  obtain ⟨a, b⟩ := e; obtain ⟨g1, g2, g3⟩ := g; dsimp only at g1 g2 g3 ⊢
  rcases Int.lt_trichotomy a.y b.y with c | c | c
  · have g2 := g2 (by omega); unfold loE hiE at g2; rw [if_pos c, if_pos c] at g2; have := step_up kk hl c g2 hh hk h1 hhk k1; omega
  · rw [cE_flat kk lo hi k c, cE_flat kk lo hi h c]; have hw : winE lo hi h k a = winE lo hi h k b := by
      unfold winE; rw [c]
      by_cases hy : h < 4 * b.y ∧ 4 * b.y < k
      · have := g3 c (by omega) (by omega)
        by_cases x : crs lo hi a < 0
        · rw [if_pos ⟨hy.1, hy.2, x⟩, if_pos ⟨hy.1, hy.2, this.1 x⟩]
        · rw [if_neg (fun z => x z.2.2), if_neg (fun z => x (this.2 z.2.2))]
      · rw [if_neg (fun z => hy ⟨z.1, z.2.1⟩), if_neg (fun z => hy ⟨z.1, z.2.1⟩)]
    omega
  · have g2 := g2 (by omega); rw [(lo_swap (show b.y ≠ a.y by omega)).1, (lo_swap (show b.y ≠ a.y by omega)).2] at g2; unfold loE hiE at g2; rw [if_pos c, if_pos c] at g2; have := step_up kk hl c g2 hh hk h1 hhk k1; have e1 := cE_anti kk lo hi k (show b.y ≠ a.y by omega); have e2 := cE_anti kk lo hi h (show b.y ≠ a.y by omega); omega
theorem ring_const (kk : Bool) {lo hi : Pt} (hl : lo.y < hi.y) (r : List Pt) (g : ∀ e ∈ edges r, GoodE lo hi e) {h k : Int} (hh : h % 2 = 1) (hk : k % 2 = 1) (h1 : 4 * lo.y < h) (h2 : h < 4 * hi.y) (k1 : 4 * lo.y < k) (k2 : k < 4 * hi.y) :
    ((edges r).map (cE kk lo hi h)).sum = ((edges r).map (cE kk lo hi k)).sum := by
  rcases Int.lt_trichotomy h k with c | c | c
  · exact (edges_alike _ _ (fun v => -winE lo hi h k v) r (fun e he => step_edge kk hl (g e he) hh hk h1 c k2)).symm
  · rw [c]
  · exact edges_alike _ _ (fun v => -winE lo hi k h v) r (fun e he => step_edge kk hl (g e he) hk hh k1 c h2)
end Go
/- A point in a coverage is gone round once (plain). -/
set_option linter.unusedVariables false
set_option linter.unusedSimpArgs false
namespace Go
open Go.RowKit
def okC (c : Int) : Prop := c = 0 ∨ c = 1 ∨ c = 5
theorem on_false {a b p : Pt} (hab : a ≠ b) (h : crs a b p ≠ 0) : onP a b p = false := by
  cases ho : onP a b p with
  | false => rfl
  | true => exact absurd (onP_line hab ho) h
theorem no_cross {a b c d : Pt} (hab : a ≠ b) (hcd : c ≠ d) (hc : okC (rclsF a b c d)) : ¬ ((0 < crs a b c ∧ crs a b d < 0) ∧ crs c d a < 0 ∧ 0 < crs c d b) ∧ ¬ ((crs a b c < 0 ∧ 0 < crs a b d) ∧ 0 < crs c d a ∧ crs c d b < 0) := by
  have key : crs a b c ≠ 0 → crs a b d ≠ 0 → crs c d a ≠ 0 → crs c d b ≠ 0 → sg (crs a b c) ≠ sg (crs a b d) → sg (crs c d a) ≠ sg (crs c d b) → False := by
    intro n1 n2 n3 n4 s1 s2; have h5 : ¬ ((a = c ∧ b = d) ∨ (a = d ∧ b = c)) := by
      rintro (⟨rfl, rfl⟩ | ⟨rfl, rfl⟩)
      · apply n1; unfold crs; grind
      · apply n1; unfold crs; grind
    unfold okC rclsF at hc; rw [if_neg h5, on_false hcd n3, on_false hcd n4, on_false hab n1, on_false hab n2] at hc; simp only [b2i, Bool.false_and, Bool.false_eq_true, if_false] at hc; rw [if_neg (by decide), if_neg (by decide), if_pos ⟨s1, s2⟩] at hc; omega
  constructor
  · rintro ⟨⟨h1, h2⟩, h3, h4⟩; exact key (by omega) (by omega) (by omega) (by omega) (by rw [sg_pos h1, sg_neg h2]; decide) (by rw [sg_neg h3, sg_pos h4]; decide)
  · rintro ⟨⟨h1, h2⟩, h3, h4⟩; exact key (by omega) (by omega) (by omega) (by omega) (by rw [sg_neg h1, sg_pos h2]; decide) (by rw [sg_pos h3, sg_neg h4]; decide)
theorem no_tee {a b c d : Pt} (hab : a ≠ b) (hcd : c ≠ d) (hc : okC (rclsF a b c d)) : onP a b c = true → c = a ∨ c = b := by
  intro ho; apply Decidable.byContradiction; intro hn; have n1 : a ≠ c := fun e => hn (.inl e.symm); have n2 : b ≠ c := fun e => hn (.inr e.symm); have h5 : ¬ ((a = c ∧ b = d) ∨ (a = d ∧ b = c)) := by
    rintro (⟨e, -⟩ | ⟨-, e⟩)
    · exact n1 e
    · exact n2 e
  unfold okC rclsF at hc; rw [if_neg h5, ho] at hc; have e1 : decide (a = c) = false := decide_eq_false n1; have e2 : decide (b = c) = false := decide_eq_false n2; rw [e1, e2] at hc; have o4 : a = d ∨ b = d → onP a b d = true := by
    rintro (rfl | rfl)
    · exact onP_first hab
    · exact onP_last hab
  have hx : ¬ (a = d ∧ b = d) := fun e => hab (e.1.trans e.2.symm)
  by_cases q1 : a = d
  · have q2 : ¬ b = d := fun e => hx ⟨q1, e⟩; rw [o4 (.inl q1), decide_eq_true q1, decide_eq_false q2] at hc; generalize onP c d a = A at *; generalize onP c d b = B at *
    cases A <;> cases B <;> revert hc <;> simp [b2i]
  · by_cases q2 : b = d
    · rw [o4 (.inr q2), decide_eq_false q1, decide_eq_true q2] at hc; generalize onP c d a = A at *; generalize onP c d b = B at *
      cases A <;> cases B <;> revert hc <;> simp [b2i]
    · rw [decide_eq_false q1, decide_eq_false q2] at hc; generalize onP c d a = A at *; generalize onP c d b = B at *; generalize onP a b d = D at *
      cases A <;> cases B <;> cases D <;> revert hc <;> simp [b2i]
theorem on_between {a b v : Pt} (h1 : a.y < v.y) (h2 : v.y < b.y) (h0 : crs a b v = 0) : onP a b v = true := by
  rw [← onX_onP]; unfold onX boxB; rw [decide_eq_true h0, Bool.true_and, ← Bool.decide_and]; apply decide_eq_true; have hx : (v.x - a.x) * (b.y - a.y) = (v.y - a.y) * (b.x - a.x) := by unfold crs at h0; grind
  have := between_iff (show 0 < b.y - a.y by omega) hx (by omega) (by omega); omega
theorem okC_swap {a b c d : Pt} (hab : a ≠ b) (hcd : c ≠ d) (h : okC (rclsF a b c d)) : okC (rclsF c d a b) ∧ okC (rclsF b a c d) ∧ okC (rclsF a b d c) := by
  have e1 := rcls_segs a b c d hab hcd; have e2 := rcls_ends a b c d hab; have e3 : rclsF a b d c = rclsF a b c d := by
    rw [rcls_segs d c a b (Ne.symm hcd) hab, rcls_ends c d a b hcd, e1]
  rw [e1, e2, e3]; exact ⟨h, h, h⟩
theorem off_in {a b c d : Pt} (hab : a ≠ b) (hcd : c ≠ d) (hc : okC (rclsF a b c d)) (v : Pt) (hv : v = c ∨ v = d) (h1 : a.y < v.y) (h2 : v.y < b.y) : crs a b v ≠ 0 := by
  intro h0; have ho := on_between h1 h2 h0
  rcases hv with rfl | rfl
  · rcases no_tee hab hcd hc ho with e | e
    · rw [e] at h1; omega
    · rw [e] at h2; omega
  · rcases no_tee hab (Ne.symm hcd) (okC_swap hab hcd hc).2.2 ho with e | e
    · rw [e] at h1; omega
    · rw [e] at h2; omega
theorem flat_eq {a b c : Pt} (hab : a.y < b.y) (h0 : crs a b c = 0) : (c.y = a.y → a = c) ∧ (c.y = b.y → b = c) := by
  constructor
  · intro e; have h1 : (b.y - a.y) * (c.x - a.x) = 0 := by unfold crs at h0; rw [e] at h0; grind
    rcases Int.mul_eq_zero.1 h1 with g | g
    · omega
    · exact pt_eq (by omega) (by omega)
  · intro e; have h1 : (b.y - a.y) * (c.x - b.x) = 0 := by unfold crs at h0; rw [e] at h0; grind
    rcases Int.mul_eq_zero.1 h1 with g | g
    · omega
    · exact pt_eq (by omega) (by omega)
theorem zero_two {U V p q : Int} (h : U * p + V * q = 0) (hp : 0 < p) (hq : 0 < q) : (U = 0 ∧ V = 0) ∨ (U < 0 ∧ 0 < V) ∨ (0 < U ∧ V < 0) := by
  rcases Int.lt_trichotomy U 0 with g | g | g
  · have := Int.mul_neg_of_neg_of_pos g hp; have h2 : 0 < V * q := by omega
    have := (mul_sign (n := V) hq); omega
  · subst g; rw [Int.zero_mul] at h; have := (mul_sign (n := V) hq); omega
  · have := Int.mul_pos g hp; have := (mul_sign (n := V) hq); omega
theorem good2_of {a b c d : Pt} (hab : a.y < b.y) (hcd : c.y < d.y) (hc : okC (rclsF a b c d)) : Good2 a b c d := by
  have nab : a ≠ b := fun e => by rw [e] at hab; omega
  have ncd : c ≠ d := fun e => by rw [e] at hcd; omega
  have hx := no_cross nab ncd hc; have hs := (okC_swap nab ncd hc).1; refine ⟨hx.1, hx.2, fun v hv h1 h2 => off_in nab ncd hc v hv h1 h2, fun h h1 h2 h3 h4 h0 => ?_⟩; have h0' : tE c d a b h = 0 := by rw [tE_anti, h0]; rfl
  have z1 := h0; have z2 := h0'; rw [tE_lin] at z1 z2; have t1 := zero_two z1 (by omega) (by omega); have t2 := zero_two z2 (by omega) (by omega); obtain ⟨e1, -, -⟩ := cross_ids a b c d; have hcol : crs a b c = 0 ∧ crs a b d = 0 ∧ crs c d a = 0 ∧ crs c d b = 0 := by omega
  obtain ⟨c1, c2, c3, c4⟩ := hcol; have ha : c.y = a.y := by
    rcases Int.lt_trichotomy c.y a.y with g | g | g
    · exact absurd c3 (off_in ncd nab hs a (.inl rfl) g (by omega))
    · exact g
    · exact absurd c1 (off_in nab ncd hc c (.inl rfl) g (by omega))
  have hb : d.y = b.y := by
    rcases Int.lt_trichotomy d.y b.y with g | g | g
    · exact absurd c2 (off_in nab ncd hc d (.inr rfl) (by omega) g)
    · exact g
    · exact absurd c4 (off_in ncd nab hs b (.inr rfl) (by omega) g)
  exact ⟨(flat_eq hab c1).1 ha, (flat_eq hab c2).2 hb⟩
theorem loE_pair (a b : Pt) : (loE a b = a ∧ hiE a b = b) ∨ (loE a b = b ∧ hiE a b = a) := by
  unfold loE hiE
  split
  · exact .inl ⟨rfl, rfl⟩
  · exact .inr ⟨rfl, rfl⟩
theorem loE_lt {a b : Pt} (h : a.y ≠ b.y) : (loE a b).y < (hiE a b).y := by
  unfold loE hiE
  split <;> omega
theorem goodE_of {lo hi a b : Pt} (hl : lo.y < hi.y) (hab : a ≠ b) (hc : okC (rclsF lo hi a b)) : GoodE lo hi (a, b) := by
  have nl : lo ≠ hi := fun e => by rw [e] at hl; omega
  have hsw := (okC_swap nl hab hc).2.2; refine ⟨fun v hv h1 h2 => off_in nl hab hc v hv h1 h2, fun hy => ?_, fun hy h1 h2 => ?_⟩
  · dsimp only at hy ⊢
    rcases loE_pair a b with ⟨e1, e2⟩ | ⟨e1, e2⟩
    · have := loE_lt hy; rw [e1, e2] at this ⊢; exact good2_of hl this hc
    · have := loE_lt hy; rw [e1, e2] at this ⊢; exact good2_of hl this hsw
  · dsimp only at hy h1 h2 ⊢; have na := off_in nl hab hc a (.inl rfl) h1 h2; have nb := off_in nl hab hc b (.inr rfl) (by omega) (by omega); obtain ⟨x1, x2⟩ := no_cross nl hab hc; have hbx : b.x - a.x ≠ 0 := fun e => hab (pt_eq e (by omega)); have e1 : crs a b lo = (b.x - a.x) * (lo.y - a.y) := by unfold crs; rw [hy]; grind
    have e2 : crs a b hi = (b.x - a.x) * (hi.y - a.y) := by unfold crs; rw [hy]; grind
    have hsame : (crs a b lo < 0 ∧ 0 < crs a b hi) ∨ (0 < crs a b lo ∧ crs a b hi < 0) := by
      rw [e1, e2]
      rcases Int.lt_or_gt_of_ne hbx with g | g
      · exact .inr ⟨Int.mul_pos_of_neg_of_neg g (by omega), Int.mul_neg_of_neg_of_pos g (by omega)⟩
      · exact .inl ⟨Int.mul_neg_of_pos_of_neg g (by omega), Int.mul_pos g (by omega)⟩
    obtain ⟨ids, -, -⟩ := cross_ids lo hi a b; constructor
    · intro x; apply Decidable.byContradiction; intro y
      rcases hsame with ⟨s1, s2⟩ | ⟨s1, s2⟩
      · omega
      · exact x2 ⟨⟨x, by omega⟩, s1, s2⟩
    · intro x; apply Decidable.byContradiction; intro y
      rcases hsame with ⟨s1, s2⟩ | ⟨s1, s2⟩
      · exact x1 ⟨⟨by omega, x⟩, s1, s2⟩
      · omega
theorem pass_anti (p q a b : Pt) : passF q p a b = -passF p q a b := by
  have hs : sideF q p a b = -sideF p q a b := by
    unfold sideF; dsimp only; have e1 : (p.x - q.x) * ((a.y + b.y) - 2 * q.y) - (p.y - q.y) * ((a.x + b.x) - 2 * q.x) = -((q.x - p.x) * ((a.y + b.y) - 2 * p.y) - (q.y - p.y) * ((a.x + b.x) - 2 * p.x)) := by grind
    rw [e1]
    by_cases h : (q.x - p.x) * ((a.y + b.y) - 2 * p.y) - (q.y - p.y) * ((a.x + b.x) - 2 * p.x) = 0
    · rw [if_pos (by omega), if_pos h]; grind
    · rw [if_neg (by omega), if_neg h]
  unfold passF; dsimp only; rw [hs]; generalize sideF p q a b = s
  cases overF (a.y + b.y) (b.x - a.x) p.y <;> cases overF (a.y + b.y) (b.x - a.x) q.y <;> simp
  · by_cases h : 0 < s
    · rw [if_pos h, if_pos h]
    · rw [if_neg h, if_neg h]; rfl
  · by_cases h : s < 0
    · rw [if_pos h, if_pos h]; rfl
    · rw [if_neg h, if_neg h]; rfl
def hMid (A B : Pt) : Int := 2 * (A.y + B.y) + (if B.x - A.x < 0 then -1 else 1)
theorem over_h (A B : Pt) (y : Int) : overF (A.y + B.y) (B.x - A.x) y = decide (hMid A B < 4 * y) := by
  unfold overF hMid
  split
  · rename_i h; rw [decide_eq_true h, Bool.and_true, ← Bool.decide_or]; apply decide_eq_decide.2; omega
  · rename_i h; rw [decide_eq_false h, Bool.and_false, Bool.or_false]; apply decide_eq_decide.2; omega
theorem hMid_in {A B : Pt} (h : A.y ≠ B.y) : hMid A B % 2 = 1 ∧ 4 * (loE A B).y < hMid A B ∧ hMid A B < 4 * (hiE A B).y := by
  unfold hMid
  rcases loE_pair A B with ⟨e1, e2⟩ | ⟨e1, e2⟩
  · have := loE_lt h; rw [e1, e2] at this ⊢
    split <;> omega
  · have := loE_lt h; rw [e1, e2] at this ⊢
    split <;> omega
theorem pass_up {A B p q : Pt} (hAB : A.y ≠ B.y) (hpq : p.y < q.y) (g : Good2 (loE A B) (hiE A B) p q) :
    passF p q A B = cE (decide (A.y < B.y)) (loE A B) (hiE A B) (hMid A B) (p, q) := by
  have hl := loE_lt hAB; obtain ⟨m1, m2, m3⟩ := hMid_in hAB; have hsum : (loE A B).y + (hiE A B).y = A.y + B.y ∧ (loE A B).x + (hiE A B).x = A.x + B.x := by
    rcases loE_pair A B with ⟨e1, e2⟩ | ⟨e1, e2⟩
    · rw [e1, e2]; exact ⟨rfl, rfl⟩
    · rw [e1, e2]; omega
  unfold cE loE hiE sgnE; dsimp only; rw [if_pos hpq, if_pos hpq]; unfold passF; dsimp only; rw [over_h, over_h]
  by_cases hcr : 4 * p.y < hMid A B ∧ hMid A B < 4 * q.y
  · rw [if_pos hcr, decide_eq_false (show ¬ hMid A B < 4 * p.y by omega), decide_eq_true hcr.2]; simp only [Bool.false_eq_true, if_false, Bool.true_and, Bool.false_and]; have hdef : (if A.y < B.y then A else B) = loE A B ∧ (if A.y < B.y then B else A) = hiE A B := ⟨rfl, rfl⟩; rw [hdef.1, hdef.2]; generalize hlo : loE A B = lo at *; generalize hhi : hiE A B = hi at *; have hs : (q.x - p.x) * ((A.y + B.y) - 2 * p.y) - (q.y - p.y) * ((A.x + B.x) - 2 * p.x) = crs p q lo + crs p q hi := by
      rw [← hsum.1, ← hsum.2]; unfold crs; grind
    have hT : tE lo hi p q (2 * (A.y + B.y)) = -((crs p q lo + crs p q hi) * (2 * (hi.y - lo.y))) := by
      rw [← hsum.1, tE_anti p q lo hi, tE_lin]; grind
    have hms := mul_sign (n := crs p q lo + crs p q hi) (k := 2 * (hi.y - lo.y)) (by omega); have hmid : hMid A B = 2 * (A.y + B.y) + 1 ∨ hMid A B = 2 * (A.y + B.y) - 1 := by unfold hMid; split <;> omega
    by_cases s0 : crs p q lo + crs p q hi = 0
    · have hT0 : tE lo hi p q (2 * (A.y + B.y)) = 0 := by rw [hT, s0]; omega
      have hsame : lo = p ∧ hi = q := by
        rcases (by omega : 4 * p.y = 2 * (A.y + B.y) ∨ 4 * p.y < 2 * (A.y + B.y)) with e | e
        · exfalso
          have := g.off p (.inl rfl) (by omega) (by omega); rw [← e, tE_at_c] at hT0; exact this ((mul_sign (n := crs lo hi p) (k := 4 * (q.y - p.y)) (by omega)).2.1 hT0)
        · rcases (by omega : 4 * q.y = 2 * (A.y + B.y) ∨ 2 * (A.y + B.y) < 4 * q.y) with e2 | e2
          · exfalso
            have := g.off q (.inr rfl) (by omega) (by omega); rw [← e2, tE_at_d] at hT0; exact this ((mul_sign (n := crs lo hi q) (k := 4 * (q.y - p.y)) (by omega)).2.1 hT0)
          · exact g.tie _ (by omega) (by omega) e e2 hT0
      rw [tE_zero_all hsame]; obtain ⟨rfl, rfl⟩ := hsame; have hside : sideF lo hi A B = (hi.x - lo.x) * (B.x - A.x) + (hi.y - lo.y) * (B.y - A.y) := by
        unfold sideF; dsimp only; rw [hs, if_pos s0]
      rw [hside]; have hpos := sq_pos (hi.x - lo.x) (hi.y - lo.y) (by omega)
      rcases loE_pair A B with ⟨e1, e2⟩ | ⟨e1, e2⟩
      · rw [hlo] at e1; rw [hhi] at e2; subst e1 e2; rw [decide_eq_true hl, decide_eq_true hpos, if_pos rfl, if_pos (show rightK true 0 from .inr ⟨rfl, rfl⟩)]
      · rw [hlo] at e1; rw [hhi] at e2; subst e1 e2; have hneg : ¬ (0 < (hi.x - lo.x) * (lo.x - hi.x) + (hi.y - lo.y) * (lo.y - hi.y)) := by
          have : (hi.x - lo.x) * (lo.x - hi.x) + (hi.y - lo.y) * (lo.y - hi.y) = -((hi.x - lo.x) * (hi.x - lo.x) + (hi.y - lo.y) * (hi.y - lo.y)) := by grind
          omega
        rw [decide_eq_false (show ¬ hi.y < lo.y by omega), decide_eq_false hneg, if_neg (by decide), if_neg (show ¬ rightK false 0 from fun h => h.elim (by omega) (fun h => by cases h.1))]
    · have hside : sideF p q A B = crs p q lo + crs p q hi := by
        unfold sideF; dsimp only; rw [hs, if_neg s0]
      rw [hside]; have hal := g.alike hl hpq (h := hMid A B) (k := 2 * (A.y + B.y)) m2 m3 hcr.1 hcr.2 (by omega) (by omega) (by omega) (by omega) (fun e => s0 (hms.2.1 (by omega))); have hr := rightK_iff (k := decide (A.y < B.y)) hal.2; rw [hal.1] at hr
      by_cases hp : 0 < crs p q lo + crs p q hi
      · have : 0 < (crs p q lo + crs p q hi) * (2 * (hi.y - lo.y)) := Int.mul_pos hp (by omega); rw [decide_eq_true hp, if_pos rfl, if_pos (hr.2 (by omega))]
      · have : (crs p q lo + crs p q hi) * (2 * (hi.y - lo.y)) < 0 := hms.1.2 (by omega); rw [decide_eq_false hp, if_neg (by decide), if_neg (fun x => by have := hr.1 x; omega)]
  · rw [if_neg hcr, if_neg (show ¬ (4 * q.y < hMid A B ∧ hMid A B < 4 * p.y) by omega)]; have hov : decide (hMid A B < 4 * p.y) = decide (hMid A B < 4 * q.y) := by
      apply decide_eq_decide.2; omega
    rw [if_pos hov]; simp
theorem pass_edge {A B p q : Pt} (hAB : A.y ≠ B.y) (g : GoodE (loE A B) (hiE A B) (p, q)) : passF p q A B = cE (decide (A.y < B.y)) (loE A B) (hiE A B) (hMid A B) (p, q) := by
  obtain ⟨-, g2, -⟩ := g; dsimp only at g2
  rcases Int.lt_trichotomy p.y q.y with h | h | h
  · have g2 := g2 (by omega); unfold loE at g2; unfold hiE at g2; rw [if_pos h, if_pos h] at g2; exact pass_up hAB h g2
  · rw [cE_flat _ _ _ _ h]; unfold passF; dsimp only; rw [h, if_pos rfl]
  · have g2 := g2 (by omega); rw [(lo_swap (show q.y ≠ p.y by omega)).1, (lo_swap (show q.y ≠ p.y by omega)).2] at g2; have e1 : loE q p = q ∧ hiE q p = p := by unfold loE hiE; rw [if_pos h, if_pos h]; exact ⟨rfl, rfl⟩
    rw [e1.1, e1.2] at g2; have := pass_up hAB h g2; rw [pass_anti, this, cE_anti _ _ _ _ (show q.y ≠ p.y by omega)]
end Go
