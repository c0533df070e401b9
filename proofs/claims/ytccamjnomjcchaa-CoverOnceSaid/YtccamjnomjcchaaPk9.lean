/-
  exact.within, Right, Cross. How two segments lie, plain: by turns, and by common points. exact.Turn.
-/
import Derived.Test.YtccamjnomjcchaaPk1
/- exact.within, Right, Cross. -/
set_option linter.unusedVariables false
set_option linter.unusedSimpArgs false
namespace Go.Proofs.Ytccamjnomjcchaa
open Go.RowKit

set_option maxHeartbeats 800000 in
theorem xcross_any (a b c : Pt) (ha : okPt a = true) (hb : okPt b = true) (hc : okPt c = true) (w : World) :
    Calls Try.prog 104 #[a.val, b.val, c.val] w fun e w' => e = .returned (.int .i64 (crs a b c)) ∧ Below w.heap.size w w' := by
  have hall : ([a, b, c].all okPt) = true := by simp [ha, hb, hc]
  have hB := crs_bd a b c ha hb hc; rw [okPt_iff] at ha hb hc; have h1 := mul_bd (b.x - a.x) (c.y - a.y) 33554432 33554432 (by omega) (by omega) (by omega) (by omega); have h2 := mul_bd (b.y - a.y) (c.x - a.x) 33554432 33554432 (by omega) (by omega) (by omega) (by omega); simp only [Int.reduceMul, Int.reduceNeg] at h1 h2; obtain ⟨z, hz⟩ : ∃ z, crs a b c = z := ⟨_, rfl⟩; have HZ := Lib.hid hz; have HALL := Lib.hid hall; rw [hz] at hB ⊢; clear hz hall; have hri := fun W h => xright_any (some ⟨w.heap.size + 1 + 1 + 1, 0, none⟩) 3 [a, b, c] (by simp [maxLen]) W h; rw [HALL.out] at hri; have HRI := Lib.hid hri; clear hri HALL; obtain ⟨ax, ay⟩ := a; obtain ⟨bx, bY⟩ := b; obtain ⟨cx, cy⟩ := c; dsimp only [Pt.val, crs] at *
  go_enter Try.func104, Try.ntmps104
  go_wp2_with fail
  refine (HRI.out _ (Rd.lit _ _ [.int .i64 ax, .int .i64 ay, .int .i64 bx, .int .i64 bY, .int .i64 cx, .int .i64 cy] _ (by simp))).mono ?_; rintro e w1 ⟨rfl, hb1⟩; have hA := ((((Blk.lit w w.heap.size [.int .i64 ax, .int .i64 ay] 46 rfl).alloc (.cells #[.int .i64 bx, .int .i64 bY] 46)).alloc (.cells #[.int .i64 cx, .int .i64 cy] 46)).alloc (.cells #[.int .i64 ax, .int .i64 ay, .int .i64 bx, .int .i64 bY, .int .i64 cx, .int .i64 cy] 46)).keep hb1; have hB2 := (((Blk.lit (w.alloc (.cells #[.int .i64 ax, .int .i64 ay] 46)) (w.heap.size + 1) [.int .i64 bx, .int .i64 bY] 46 (by simp)).alloc (.cells #[.int .i64 cx, .int .i64 cy] 46)).alloc (.cells #[.int .i64 ax, .int .i64 ay, .int .i64 bx, .int .i64 bY, .int .i64 cx, .int .i64 cy] 46)).keep hb1; have hC2 := ((Blk.lit ((w.alloc (.cells #[.int .i64 ax, .int .i64 ay] 46)).alloc (.cells #[.int .i64 bx, .int .i64 bY] 46)) (w.heap.size + 1 + 1) [.int .i64 cx, .int .i64 cy] 46 (by simp)).alloc (.cells #[.int .i64 ax, .int .i64 ay, .int .i64 bx, .int .i64 bY, .int .i64 cx, .int .i64 cy] 46)).keep hb1; have a0 := hA.cell 0 rfl; have a1 := hA.cell 1 rfl; have b0 := hB2.cell 0 rfl; have b1 := hB2.cell 1 rfl; have c0 := hC2.cell 0 rfl; have c1 := hC2.cell 1 rfl; have hbl := ((((Below.new w (.cells #[.int .i64 ax, .int .i64 ay] 46)).alloc (by simp) (.cells #[.int .i64 bx, .int .i64 bY] 46)).alloc (by simp; omega) (.cells #[.int .i64 cx, .int .i64 cy] 46)).alloc (by simp; omega) (.cells #[.int .i64 ax, .int .i64 ay, .int .i64 bx, .int .i64 bY, .int .i64 cx, .int .i64 cy] 46)).trans (hb1.mono (by simp; omega))
  clear hA hB2 hC2 hb1 HRI; go_wp2; go_ret; exact ⟨ret_int HZ.out, hbl⟩
end Go.Proofs.Ytccamjnomjcchaa
/- How two segments lie, plain: by turns, and by common points. -/
set_option linter.unusedVariables false
set_option linter.unusedSimpArgs false
namespace Go
theorem mul_zero_cases {a b : Int} (h : a * b = 0) : a = 0 ∨ b = 0 := Int.mul_eq_zero.1 h
theorem sq_pos (x y : Int) (h : ¬ (x = 0 ∧ y = 0)) : 0 < x * x + y * y := by
  have h1 : 0 ≤ x * x := by rcases Int.le_total 0 x with h | h; exact Int.mul_nonneg h h; exact Int.mul_nonneg_of_nonpos_of_nonpos h h
  have h2 : 0 ≤ y * y := by rcases Int.le_total 0 y with h | h; exact Int.mul_nonneg h h; exact Int.mul_nonneg_of_nonpos_of_nonpos h h
  by_cases hx : x = 0
  · have hy : y ≠ 0 := fun e => h ⟨hx, e⟩; have : y * y ≠ 0 := fun e => by rcases Int.mul_eq_zero.1 e with e | e <;> exact hy e
    omega
  · have : x * x ≠ 0 := fun e => by rcases Int.mul_eq_zero.1 e with e | e <;> exact hx e
    omega

theorem par {vx vy sx sy tx ty : Int} (hv : ¬ (vx = 0 ∧ vy = 0)) (h1 : vx * sy - vy * sx = 0) (h2 : vx * ty - vy * tx = 0) : sx * ty - sy * tx = 0 := by
  have hp := sq_pos vx vy hv; have e : (vx * vx + vy * vy) * (sx * ty - sy * tx) = 0 := by grind
  rcases Int.mul_eq_zero.1 e with e | e
  · omega
  · exact e

def dotP (a b p : Pt) : Int := (p.x - a.x) * (b.x - a.x) + (p.y - a.y) * (b.y - a.y)
def longP (a b : Pt) : Int := (b.x - a.x) * (b.x - a.x) + (b.y - a.y) * (b.y - a.y)
def onP (a b p : Pt) : Bool := if a = b then decide (p = a) else decide (crs a b p = 0) && (decide (0 ≤ dotP a b p) && decide (dotP a b p ≤ longP a b))

theorem pt_ne {a b : Pt} (h : a ≠ b) : ¬ (b.x - a.x = 0 ∧ b.y - a.y = 0) := by
  intro ⟨h1, h2⟩; apply h
  cases a; cases b
  simp at h1 h2 ⊢; omega
theorem pt_eq {a b : Pt} (h1 : b.x - a.x = 0) (h2 : b.y - a.y = 0) : a = b := by
  cases a; cases b
  simp at h1 h2 ⊢; omega

theorem sgn_mul {s t w x : Int} (hs : 0 < s) (h : s * x = t * w) : (0 < t → (0 < x ↔ 0 < w) ∧ (x < 0 ↔ w < 0)) ∧ (t < 0 → (0 < x ↔ w < 0) ∧ (x < 0 ↔ 0 < w)) ∧ (t = 0 → x = 0) := by
  have p1 : ∀ a b : Int, 0 < a → 0 < b → 0 < a * b := fun a b h1 h2 => Int.mul_pos h1 h2; have n1 : ∀ a b : Int, 0 < a → b < 0 → a * b < 0 := fun a b h1 h2 => Int.mul_neg_of_pos_of_neg h1 h2; have n2 : ∀ a b : Int, a < 0 → 0 < b → a * b < 0 := fun a b h1 h2 => Int.mul_neg_of_neg_of_pos h1 h2; have p2 : ∀ a b : Int, a < 0 → b < 0 → 0 < a * b := fun a b h1 h2 => Int.mul_pos_of_neg_of_neg h1 h2; have z : ∀ a : Int, a * 0 = 0 := Int.mul_zero; have key : ∀ x w : Int, s * x = t * w → (0 < t → 0 < x → 0 < w) ∧ (0 < t → x < 0 → w < 0) ∧ (0 < t → x = 0 → w = 0) ∧ (t < 0 → 0 < x → w < 0) ∧ (t < 0 → x < 0 → 0 < w) ∧ (t < 0 → x = 0 → w = 0) := by
    intro x w h; refine ⟨?_, ?_, ?_, ?_, ?_, ?_⟩ <;> intro ht hx
    all_goals rcases Int.lt_trichotomy w 0 with hw | hw | hw
    all_goals first | exact hw | skip
    all_goals exfalso
    all_goals first | subst hx | skip
    all_goals first | subst hw | skip
    all_goals try simp only [Int.mul_zero] at h
    all_goals first
      | (have a1 := p1 s x hs hx; first | omega | (have a2 := n1 t w ht hw; omega) | (have a2 := p2 t w ht hw; omega) | (have a2 := p1 t w ht hw; omega) | (have a2 := n2 t w ht hw; omega))
      | (have a1 := n1 s x hs hx; first | omega | (have a2 := p1 t w ht hw; omega) | (have a2 := n2 t w ht hw; omega) | (have a2 := p2 t w ht hw; omega) | (have a2 := n1 t w ht hw; omega))
      | (have a2 := n1 t w ht hw; omega) | (have a2 := p2 t w ht hw; omega) | (have a2 := p1 t w ht hw; omega) | (have a2 := n2 t w ht hw; omega)
  obtain ⟨k1, k2, k3, k4, k5, k6⟩ := key x w h; refine ⟨fun ht => ?_, fun ht => ?_, fun ht => ?_⟩
  · have k1 := k1 ht; have k2 := k2 ht; have k3 := k3 ht; constructor <;> constructor <;> intro h1 <;> rcases Int.lt_trichotomy x 0 with hx | hx | hx <;> first | exact hx | (exfalso; have := k1; have := k2; omega) | omega
  · have k4 := k4 ht; have k5 := k5 ht; have k6 := k6 ht; constructor <;> constructor <;> intro h1 <;> rcases Int.lt_trichotomy x 0 with hx | hx | hx <;> first | exact hx | omega
  · subst ht; rw [Int.zero_mul] at h
    rcases Int.mul_eq_zero.1 h with h | h
    · omega
    · exact h

theorem on_side (a b c d : Pt) (hcd : c ≠ d) (hY : crs c d a = 0) (hN : ¬ (crs a b c = 0 ∧ crs a b d = 0)) :
    (0 ≤ dotP c d a ∧ dotP c d a ≤ longP c d) ↔ ¬ (0 < crs a b c ∧ 0 < crs a b d) ∧ ¬ (crs a b c < 0 ∧ crs a b d < 0) := by
  obtain ⟨ax, ay⟩ := a; obtain ⟨bx, b_y⟩ := b; obtain ⟨cx, cy⟩ := c; obtain ⟨dx, dy⟩ := d; have hne := pt_ne hcd; simp only [crs, dotP, longP] at *; obtain ⟨px, hpx⟩ : ∃ px, px = cx - ax := ⟨_, rfl⟩; obtain ⟨py, hpy⟩ : ∃ py, py = cy - ay := ⟨_, rfl⟩; obtain ⟨qx, hqx⟩ : ∃ qx, qx = dx - ax := ⟨_, rfl⟩; obtain ⟨qy, hqy⟩ : ∃ qy, qy = dy - ay := ⟨_, rfl⟩; obtain ⟨ux, hux⟩ : ∃ ux, ux = bx - ax := ⟨_, rfl⟩; obtain ⟨uy, huy⟩ : ∃ uy, uy = b_y - ay := ⟨_, rfl⟩; have hpq : px * qy - py * qx = 0 := by grind
  have e1 : (ax - cx) * (dx - cx) + (ay - cy) * (dy - cy) = (px * px + py * py) - (px * qx + py * qy) := by grind
  have e2 : (dx - cx) * (dx - cx) + (dy - cy) * (dy - cy) - ((ax - cx) * (dx - cx) + (ay - cy) * (dy - cy)) = (qx * qx + qy * qy) - (px * qx + py * qy) := by grind
  rw [← hux, ← huy, ← hpx, ← hpy, ← hqx, ← hqy] at hN ⊢; rw [e1] at e2 ⊢; have e3 : (px * px + py * py - (px * qx + py * qy) ≤ (dx - cx) * (dx - cx) + (dy - cy) * (dy - cy)) ↔ (px * qx + py * qy ≤ qx * qx + qy * qy) := by omega
  rw [e3]; have i1 : (px * px + py * py) * (ux * qy - uy * qx) = (px * qx + py * qy) * (ux * py - uy * px) := by grind
  have i2 : (qx * qx + qy * qy) * (ux * py - uy * px) = (px * qx + py * qy) * (ux * qy - uy * qx) := by grind
  have i3 : ((px * px + py * py) - (px * qx + py * qy)) * ((qx * qx + qy * qy) - (px * qx + py * qy)) = -((px * qx + py * qy) * ((qx - px) * (qx - px) + (qy - py) * (qy - py))) := by grind
  have hd := sq_pos (qx - px) (qy - py) (by omega); have hp0 : px = 0 ∧ py = 0 ∨ 0 < px * px + py * py := by
    by_cases h : px = 0 ∧ py = 0
    · exact .inl h
    · exact .inr (sq_pos px py h)
  have hq0 : qx = 0 ∧ qy = 0 ∨ 0 < qx * qx + qy * qy := by
    by_cases h : qx = 0 ∧ qy = 0
    · exact .inl h
    · exact .inr (sq_pos qx qy h)
  rcases hp0 with ⟨h1, h2⟩ | hp
  · rw [h1, h2]; have hq : 0 ≤ qx * qx + qy * qy := by rcases hq0 with ⟨h3, h4⟩ | h; rw [h3, h4]; decide; omega
    simp only [Int.zero_mul, Int.mul_zero, Int.add_zero, Int.sub_self]; constructor
    · intro _; omega
    · intro _; exact ⟨Int.le_refl _, hq⟩
  · rcases hq0 with ⟨h1, h2⟩ | hq
    · rw [h1, h2]; simp only [Int.zero_mul, Int.mul_zero, Int.add_zero, Int.sub_self]; constructor
      · intro _; omega
      · intro _; omega
    · generalize hW : ux * py - uy * px = W at *; generalize hX : ux * qy - uy * qx = X at *; generalize hS : px * qx + py * qy = S at *; generalize hPP : px * px + py * py = PP at *; generalize hQQ : qx * qx + qy * qy = QQ at *; generalize hDD : (qx - px) * (qx - px) + (qy - py) * (qy - py) = DD at *; obtain ⟨s1, s2, s3⟩ := sgn_mul hp i1; obtain ⟨t1, t2, t3⟩ := sgn_mul hq i2
      rcases Int.lt_trichotomy S 0 with h | h | h
      · have := s2 h; constructor
        · intro _; omega
        · intro _; omega
      · have := s3 h; have := t3 h; exact absurd ⟨this, s3 h⟩ hN
      · have := s1 h; have := t1 h; constructor
        · rintro ⟨g1, g2⟩
          exfalso
          have h1 : 0 ≤ (PP - S) * (QQ - S) := Int.mul_nonneg (by omega) (by omega); have h2 : 0 < S * DD := Int.mul_pos h hd; omega
        · rintro ⟨g1, g2⟩; omega

/-! All on one line: in the order of keys. -/
def keyP (p : Pt) : Int := p.x * 67108864 + p.y
def lessP (a b : Pt) : Bool := decide (a.x < b.x) || (decide (a.x = b.x) && decide (a.y < b.y))

theorem less_key {a b : Pt} (ha : okPt a = true) (hb : okPt b = true) : lessP a b = decide (keyP a < keyP b) := by
  rw [okPt_iff] at ha hb; unfold lessP keyP; rw [Bool.eq_iff_iff]; simp only [Bool.or_eq_true, Bool.and_eq_true, decide_eq_true_eq]; omega
theorem eq_key {a b : Pt} (ha : okPt a = true) (hb : okPt b = true) : a = b ↔ keyP a = keyP b := by
  rw [okPt_iff] at ha hb; constructor
  · rintro rfl; rfl
  · intro h; unfold keyP at h; exact pt_eq (by omega) (by omega)

theorem dot_key {ux uy vx vy : Int} (hu : ¬ (ux = 0 ∧ uy = 0)) (h : ux * vy - uy * vx = 0) (b1 : -33554432 ≤ ux ∧ ux ≤ 33554432) (b2 : -33554432 ≤ uy ∧ uy ≤ 33554432) (b3 : -33554432 ≤ vy ∧ vy ≤ 33554432) :
    (0 < ux * 67108864 + uy → (0 ≤ vx * ux + vy * uy ↔ 0 ≤ vx * 67108864 + vy)) ∧ (ux * 67108864 + uy < 0 → (0 ≤ vx * ux + vy * uy ↔ vx * 67108864 + vy ≤ 0)) := by
  by_cases hx : ux = 0
  · subst hx; have hy : uy ≠ 0 := fun e => hu ⟨rfl, e⟩; have hv : vx = 0 := by
      have h2 : uy * vx = 0 := by omega
      rcases Int.mul_eq_zero.1 h2 with e | e
      · exact absurd e hy
      · exact e
    subst hv; simp only [Int.zero_mul, Int.mul_zero, Int.zero_add]; constructor
    · intro h1; constructor
      · intro h2
        rcases Int.lt_or_le vy 0 with h3 | h3
        · have := Int.mul_neg_of_neg_of_pos h3 h1; omega
        · exact h3
      · intro h2; exact Int.mul_nonneg h2 (by omega)
    · intro h1; constructor
      · intro h2
        rcases Int.lt_or_le 0 vy with h3 | h3
        · have := Int.mul_neg_of_pos_of_neg h3 h1; omega
        · exact h3
      · intro h2; exact Int.mul_nonneg_of_nonpos_of_nonpos h2 (by omega)
  · have e : (ux * ux) * (vx * ux + vy * uy) = (ux * ux + uy * uy) * (vx * ux) := by grind
    have hs := sq_pos ux uy (by omega); have hxx := sq_pos ux 0 (by omega); simp only [Int.mul_zero, Int.add_zero] at hxx; obtain ⟨s1, s2, -⟩ := sgn_mul hxx e; obtain ⟨s1a, s1b⟩ := s1 hs; have hvz : vx = 0 → vy = 0 := fun e0 => by
      subst e0; have h2 : ux * vy = 0 := by omega
      rcases Int.mul_eq_zero.1 h2 with e | e
      · exact absurd e hx
      · exact e
    have hdz : vx = 0 → vx * ux + vy * uy = 0 := fun e0 => by rw [e0, hvz e0]; simp
    generalize vx * ux + vy * uy = D at *
    rcases Int.lt_trichotomy ux 0 with h1 | h1 | h1
    · have m1 : 0 < vx → vx * ux < 0 := fun h2 => Int.mul_neg_of_pos_of_neg h2 h1; have m2 : vx < 0 → 0 < vx * ux := fun h2 => Int.mul_pos_of_neg_of_neg h2 h1; generalize vx * ux = M at *; constructor
      · intro _; omega
      · intro _
        rcases Int.lt_trichotomy vx 0 with h2 | h2 | h2
        · have := m2 h2; constructor <;> intro _ <;> omega
        · have := hdz h2; have := hvz h2; constructor <;> intro _ <;> omega
        · have := m1 h2; constructor <;> intro _ <;> omega
    · exact absurd h1 hx
    · have m1 : 0 < vx → 0 < vx * ux := fun h2 => Int.mul_pos h2 h1; have m2 : vx < 0 → vx * ux < 0 := fun h2 => Int.mul_neg_of_neg_of_pos h2 h1; generalize vx * ux = M at *; constructor
      · intro _
        rcases Int.lt_trichotomy vx 0 with h2 | h2 | h2
        · have := m2 h2; constructor <;> intro _ <;> omega
        · have := hdz h2; have := hvz h2; constructor <;> intro _ <;> omega
        · have := m1 h2; constructor <;> intro _ <;> omega
      · intro _; omega

theorem on_key (a b p : Pt) (ha : okPt a = true) (hb : okPt b = true) (hp : okPt p = true) (hab : a ≠ b) (h : crs a b p = 0) :
    onP a b p = decide ((keyP a ≤ keyP p ∧ keyP p ≤ keyP b) ∨ (keyP b ≤ keyP p ∧ keyP p ≤ keyP a)) := by
  have hk := mt (eq_key ha hb).2 hab; unfold onP; rw [if_neg hab, decide_eq_true h, Bool.true_and, ← Bool.decide_and]; rw [okPt_iff] at ha hb hp; have hne := pt_ne hab; unfold crs at h; have d1 := dot_key hne h (by omega) (by omega) (by omega); have h' : (b.x - a.x) * ((b.y - a.y) - (p.y - a.y)) - (b.y - a.y) * ((b.x - a.x) - (p.x - a.x)) = 0 := by grind
  have d2 := dot_key hne h' (by omega) (by omega) (by omega); have e : ((b.x - a.x) - (p.x - a.x)) * (b.x - a.x) + ((b.y - a.y) - (p.y - a.y)) * (b.y - a.y) = longP a b - dotP a b p := by unfold longP dotP; grind
  rw [e] at d2; unfold keyP at *; have e2 : dotP a b p = (p.x - a.x) * (b.x - a.x) + (p.y - a.y) * (b.y - a.y) := rfl; rw [← e2] at d1; generalize dotP a b p = D at *; generalize longP a b = L at *; apply decide_eq_decide.2
  rcases Int.lt_trichotomy ((b.x - a.x) * 67108864 + (b.y - a.y)) 0 with g | g | g
  · have d1 := d1.2 g; have d2 := d2.2 g; omega
  · omega
  · have d1 := d1.1 g; have d2 := d2.1 g; omega

def sg (n : Int) : Int := if 0 < n then 1 else if n < 0 then -1 else 0
def lineF (a b c d : Pt) : Int :=
  let a' := if lessP b a then b else a
  let b' := if lessP b a then a else b
  let c' := if lessP d c then d else c
  let d' := if lessP d c then c else d
  if lessP b' c' || lessP d' a' then 0 else if decide (b' = c') || decide (d' = a') then 1 else 4
def clsF (a b c d : Pt) : Int :=
  if (a = c ∧ b = d) ∨ (a = d ∧ b = c) then 5
  else if sg (crs a b c) = 0 ∧ sg (crs a b d) = 0 then lineF a b c d
  else if 0 < sg (crs a b c) * sg (crs a b d) ∨ 0 < sg (crs c d a) * sg (crs c d b) then 0
  else if sg (crs a b c) * sg (crs a b d) = 0 then (if sg (crs c d a) * sg (crs c d b) = 0 then 1 else 2)
  else if sg (crs c d a) * sg (crs c d b) = 0 then 2 else 3
def b2i (b : Bool) : Int := if b then 1 else 0
def rclsF (a b c d : Pt) : Int :=
  if (a = c ∧ b = d) ∨ (a = d ∧ b = c) then 5
  else
    let n := b2i (onP c d a) + b2i (onP c d b)
    let both := b2i (onP c d a && (decide (a = c) || decide (a = d))) + b2i (onP c d b && (decide (b = c) || decide (b = d)))
    let m := b2i (onP a b c) + b2i (onP a b d)
    if 1 < n + m - both then 4
    else if n + m - both = 1 then (if both = 1 then 1 else 2)
    else if sg (crs a b c) ≠ sg (crs a b d) ∧ sg (crs c d a) ≠ sg (crs c d b) then 3 else 0

theorem sg_pos {n : Int} (h : 0 < n) : sg n = 1 := by unfold sg; rw [if_pos h]
theorem sg_neg {n : Int} (h : n < 0) : sg n = -1 := by unfold sg; rw [if_neg (by omega), if_pos h]
theorem sg_z {n : Int} (h : n = 0) : sg n = 0 := by unfold sg; rw [if_neg (by omega), if_neg (by omega)]
theorem sg_zero {n : Int} : sg n = 0 ↔ n = 0 := by unfold sg; split <;> (try split) <;> omega
theorem crs_swap (a b p : Pt) : crs b a p = - crs a b p := by unfold crs; grind

set_option maxHeartbeats 8000000 in
theorem line_ints (A B C D : Int) (hab : A ≠ B) (hcd : C ≠ D) (hs : ¬ ((A = C ∧ B = D) ∨ (A = D ∧ B = C))) :
    (if (decide ((if B < A then A else B) < (if D < C then D else C)) || decide ((if D < C then C else D) < (if B < A then B else A))) = true then (0 : Int) else if (decide ((if B < A then A else B) = (if D < C then D else C)) || decide ((if D < C then C else D) = (if B < A then B else A))) = true then 1 else 4)
    = (if 1 < b2i (decide ((C ≤ A ∧ A ≤ D) ∨ (D ≤ A ∧ A ≤ C))) + b2i (decide ((C ≤ B ∧ B ≤ D) ∨ (D ≤ B ∧ B ≤ C))) + (b2i (decide ((A ≤ C ∧ C ≤ B) ∨ (B ≤ C ∧ C ≤ A))) + b2i (decide ((A ≤ D ∧ D ≤ B) ∨ (B ≤ D ∧ D ≤ A)))) - (b2i (decide ((C ≤ A ∧ A ≤ D) ∨ (D ≤ A ∧ A ≤ C)) && (decide (A = C) || decide (A = D))) + b2i (decide ((C ≤ B ∧ B ≤ D) ∨ (D ≤ B ∧ B ≤ C)) && (decide (B = C) || decide (B = D)))) then (4 : Int)
      else if b2i (decide ((C ≤ A ∧ A ≤ D) ∨ (D ≤ A ∧ A ≤ C))) + b2i (decide ((C ≤ B ∧ B ≤ D) ∨ (D ≤ B ∧ B ≤ C))) + (b2i (decide ((A ≤ C ∧ C ≤ B) ∨ (B ≤ C ∧ C ≤ A))) + b2i (decide ((A ≤ D ∧ D ≤ B) ∨ (B ≤ D ∧ D ≤ A)))) - (b2i (decide ((C ≤ A ∧ A ≤ D) ∨ (D ≤ A ∧ A ≤ C)) && (decide (A = C) || decide (A = D))) + b2i (decide ((C ≤ B ∧ B ≤ D) ∨ (D ≤ B ∧ B ≤ C)) && (decide (B = C) || decide (B = D)))) = 1 then (if b2i (decide ((C ≤ A ∧ A ≤ D) ∨ (D ≤ A ∧ A ≤ C)) && (decide (A = C) || decide (A = D))) + b2i (decide ((C ≤ B ∧ B ≤ D) ∨ (D ≤ B ∧ B ≤ C)) && (decide (B = C) || decide (B = D))) = 1 then 1 else 2) else 0) := by
  simp only [← Bool.decide_or, ← Bool.decide_and, b2i, decide_eq_true_eq]
  rcases Int.lt_or_gt_of_ne hab with h1 | h1 <;> rcases Int.lt_or_gt_of_ne hcd with h2 | h2 <;> rcases Int.lt_trichotomy A C with h3 | h3 | h3 <;> rcases Int.lt_trichotomy A D with h4 | h4 | h4 <;> rcases Int.lt_trichotomy B C with h5 | h5 | h5 <;> rcases Int.lt_trichotomy B D with h6 | h6 | h6
  all_goals first
    | (exfalso; omega)
    | (repeat' (first | rw [if_pos (by omega)] | rw [if_neg (by omega)]))

theorem onP_line {a b p : Pt} (hab : a ≠ b) : onP a b p = true → crs a b p = 0 := by
  intro h; unfold onP at h; rw [if_neg hab] at h; simp at h; exact h.1
theorem onP_iff {a b p : Pt} (hab : a ≠ b) : onP a b p = true ↔ crs a b p = 0 ∧ (0 ≤ dotP a b p ∧ dotP a b p ≤ longP a b) := by
  unfold onP; rw [if_neg hab]; simp

set_option maxHeartbeats 4000000 in
theorem cls_signs (W X Y Z : Int) (O1 O2 O3 O4 T1 T2 T3 T4 : Bool) (hcol : ¬ (W = 0 ∧ X = 0)) (hcol2 : ¬ (Y = 0 ∧ Z = 0))
    (u1 : O1 = decide (Y = 0 ∧ (¬(0 < W ∧ 0 < X) ∧ ¬(W < 0 ∧ X < 0)))) (u2 : O2 = decide (Z = 0 ∧ (¬(0 < -W ∧ 0 < -X) ∧ ¬(-W < 0 ∧ -X < 0))))
    (u3 : O3 = decide (W = 0 ∧ (¬(0 < Y ∧ 0 < Z) ∧ ¬(Y < 0 ∧ Z < 0)))) (u4 : O4 = decide (X = 0 ∧ (¬(0 < -Y ∧ 0 < -Z) ∧ ¬(-Y < 0 ∧ -Z < 0))))
    (t1 : T1 = decide (W = 0 ∧ Y = 0)) (t2 : T2 = decide (X = 0 ∧ Y = 0)) (t3 : T3 = decide (W = 0 ∧ Z = 0)) (t4 : T4 = decide (X = 0 ∧ Z = 0)) :
    (if 0 < sg W * sg X ∨ 0 < sg Y * sg Z then (0 : Int) else if sg W * sg X = 0 then (if sg Y * sg Z = 0 then 1 else 2) else if sg Y * sg Z = 0 then 2 else 3)
    = (if 1 < b2i O1 + b2i O2 + (b2i O3 + b2i O4) - (b2i (O1 && (T1 || T2)) + b2i (O2 && (T3 || T4))) then 4
      else if b2i O1 + b2i O2 + (b2i O3 + b2i O4) - (b2i (O1 && (T1 || T2)) + b2i (O2 && (T3 || T4))) = 1 then (if b2i (O1 && (T1 || T2)) + b2i (O2 && (T3 || T4)) = 1 then 1 else 2)
      else if sg W ≠ sg X ∧ sg Y ≠ sg Z then 3 else 0) := by
  rcases Int.lt_trichotomy W 0 with h1 | h1 | h1 <;> rcases Int.lt_trichotomy X 0 with h2 | h2 | h2 <;> rcases Int.lt_trichotomy Y 0 with h3 | h3 | h3 <;> rcases Int.lt_trichotomy Z 0 with h4 | h4 | h4
  all_goals first
    | (exfalso; omega)
    | (first | rw [sg_pos h1] | rw [sg_neg h1] | rw [sg_z h1]
       first | rw [sg_pos h2] | rw [sg_neg h2] | rw [sg_z h2]
       first | rw [sg_pos h3] | rw [sg_neg h3] | rw [sg_z h3]
       first | rw [sg_pos h4] | rw [sg_neg h4] | rw [sg_z h4]
       first | (replace u1 := u1.trans (decide_eq_true (by omega))) | (replace u1 := u1.trans (decide_eq_false (by omega)))
       first | (replace u2 := u2.trans (decide_eq_true (by omega))) | (replace u2 := u2.trans (decide_eq_false (by omega)))
       first | (replace u3 := u3.trans (decide_eq_true (by omega))) | (replace u3 := u3.trans (decide_eq_false (by omega)))
       first | (replace u4 := u4.trans (decide_eq_true (by omega))) | (replace u4 := u4.trans (decide_eq_false (by omega)))
       first | (replace t1 := t1.trans (decide_eq_true (by omega))) | (replace t1 := t1.trans (decide_eq_false (by omega)))
       first | (replace t2 := t2.trans (decide_eq_true (by omega))) | (replace t2 := t2.trans (decide_eq_false (by omega)))
       first | (replace t3 := t3.trans (decide_eq_true (by omega))) | (replace t3 := t3.trans (decide_eq_false (by omega)))
       first | (replace t4 := t4.trans (decide_eq_true (by omega))) | (replace t4 := t4.trans (decide_eq_false (by omega)))
       subst u1 u2 u3 u4 t1 t2 t3 t4
       decide)

set_option maxHeartbeats 1000000 in
theorem cls_eq (a b c d : Pt) (ha : okPt a = true) (hb : okPt b = true) (hc : okPt c = true) (hd : okPt d = true) (hab : a ≠ b) (hcd : c ≠ d) : clsF a b c d = rclsF a b c d := by
  by_cases hs : (a = c ∧ b = d) ∨ (a = d ∧ b = c)
  · unfold clsF rclsF; rw [if_pos hs, if_pos hs]
  · unfold clsF rclsF; rw [if_neg hs, if_neg hs]; simp only [sg_zero]; have nv := pt_ne hab; have nw := pt_ne hcd
    by_cases hcol : crs a b c = 0 ∧ crs a b d = 0
    · rw [if_pos hcol]; obtain ⟨hW, hX⟩ := hcol; have hY : crs c d a = 0 := by
        have := par nv (sx := c.x - a.x) (sy := c.y - a.y) (tx := d.x - a.x) (ty := d.y - a.y) hW hX; unfold crs; grind
      have hZ : crs c d b = 0 := by
        have := par nv (sx := c.x - a.x) (sy := c.y - a.y) (tx := d.x - a.x) (ty := d.y - a.y) hW hX; unfold crs at *; grind
      rw [on_key c d a hc hd ha hcd hY, on_key c d b hc hd hb hcd hZ, on_key a b c ha hb hc hab hW, on_key a b d ha hb hd hab hX]; have e0 : ¬ (sg (crs a b c) ≠ sg (crs a b d) ∧ sg (crs c d a) ≠ sg (crs c d b)) := by rw [hW, hX]; simp
      rw [if_neg e0]; have kab := mt (eq_key ha hb).2 hab; have kcd := mt (eq_key hc hd).2 hcd; have ks : ¬ ((keyP a = keyP c ∧ keyP b = keyP d) ∨ (keyP a = keyP d ∧ keyP b = keyP c)) := by
        rw [← eq_key ha hc, ← eq_key hb hd, ← eq_key ha hd, ← eq_key hb hc]; exact hs
      have k := line_ints (keyP a) (keyP b) (keyP c) (keyP d) kab kcd ks; have l1 : lineF a b c d = (if (decide ((if keyP b < keyP a then keyP a else keyP b) < (if keyP d < keyP c then keyP d else keyP c)) || decide ((if keyP d < keyP c then keyP c else keyP d) < (if keyP b < keyP a then keyP b else keyP a))) = true then (0 : Int) else if (decide ((if keyP b < keyP a then keyP a else keyP b) = (if keyP d < keyP c then keyP d else keyP c)) || decide ((if keyP d < keyP c then keyP c else keyP d) = (if keyP b < keyP a then keyP b else keyP a))) = true then 1 else 4) := by
        unfold lineF; rw [less_key hb ha, less_key hd hc]; simp only [decide_eq_true_eq]
        by_cases g1 : keyP b < keyP a <;> by_cases g2 : keyP d < keyP c
        all_goals simp only [g1, g2, if_true, if_false]
        all_goals rw [less_key (by assumption) (by assumption), less_key (by assumption) (by assumption)]
        · rw [decide_eq_decide.2 (eq_key ha hd), decide_eq_decide.2 (eq_key hc hb)]
        · rw [decide_eq_decide.2 (eq_key ha hc), decide_eq_decide.2 (eq_key hd hb)]
        · rw [decide_eq_decide.2 (eq_key hb hd), decide_eq_decide.2 (eq_key hc ha)]
        · rw [decide_eq_decide.2 (eq_key hb hc), decide_eq_decide.2 (eq_key hd ha)]
      rw [l1, k]; have f1 : decide (a = c) = decide (keyP a = keyP c) := decide_eq_decide.2 (eq_key ha hc); have f2 : decide (a = d) = decide (keyP a = keyP d) := decide_eq_decide.2 (eq_key ha hd); have f3 : decide (b = c) = decide (keyP b = keyP c) := decide_eq_decide.2 (eq_key hb hc); have f4 : decide (b = d) = decide (keyP b = keyP d) := decide_eq_decide.2 (eq_key hb hd); rw [f1, f2, f3, f4]
    · rw [if_neg hcol]; have hcol2 : ¬ (crs c d a = 0 ∧ crs c d b = 0) := by
        rintro ⟨hY, hZ⟩; have h0 := par nw (sx := a.x - c.x) (sy := a.y - c.y) (tx := b.x - c.x) (ty := b.y - c.y) hY hZ; apply hcol; have p1 := par nw (sx := b.x - a.x) (sy := b.y - a.y) (tx := c.x - a.x) (ty := c.y - a.y) (by unfold crs at hY hZ; grind) (by unfold crs at hY hZ; grind); have p2 := par nw (sx := b.x - a.x) (sy := b.y - a.y) (tx := d.x - a.x) (ty := d.y - a.y) (by unfold crs at hY hZ; grind) (by unfold crs at hY hZ; grind); exact ⟨p1, p2⟩
      have A1 := fun h => on_side a b c d hcd h hcol; have A2 := fun h => on_side b a c d hcd h (by rw [crs_swap a b c, crs_swap a b d]; omega); have C1 := fun h => on_side c d a b hab h hcol2; have C2 := fun h => on_side d c a b hab h (by rw [crs_swap c d a, crs_swap c d b]; omega); rw [crs_swap a b c, crs_swap a b d] at A2; rw [crs_swap c d a, crs_swap c d b] at C2; have oA1 := onP_iff (a := c) (b := d) (p := a) hcd; have oA2 := onP_iff (a := c) (b := d) (p := b) hcd; have oC1 := onP_iff (a := a) (b := b) (p := c) hab; have oC2 := onP_iff (a := a) (b := b) (p := d) hab; have e1 : ∀ {p q : Pt}, crs p q p = 0 := fun {p q} => by unfold crs; grind
      have e2 : ∀ {p q : Pt}, crs p q q = 0 := fun {p q} => by unfold crs; grind
      -- common ends
      have s1 : a = c → crs a b c = 0 ∧ crs c d a = 0 := by rintro rfl; exact ⟨e1, e1⟩
      have s2 : a = d → crs a b d = 0 ∧ crs c d a = 0 := by rintro rfl; exact ⟨e1, e2⟩
      have s3 : b = c → crs a b c = 0 ∧ crs c d b = 0 := by rintro rfl; exact ⟨e2, e1⟩
      have s4 : b = d → crs a b d = 0 ∧ crs c d b = 0 := by rintro rfl; exact ⟨e2, e2⟩
      have q1 : crs a b c = 0 → crs c d a = 0 → a = c := fun g1 g2 => by
        apply Decidable.byContradiction; intro hne; have hp := pt_ne hne; apply hcol; refine ⟨g1, ?_⟩; have := par hp (sx := b.x - a.x) (sy := b.y - a.y) (tx := d.x - a.x) (ty := d.y - a.y) (by unfold crs at g1 g2; grind) (by unfold crs at g1 g2; grind); exact this
      have q2 : crs a b d = 0 → crs c d a = 0 → a = d := fun g1 g2 => by
        apply Decidable.byContradiction; intro hne; have hp := pt_ne hne; apply hcol; refine ⟨?_, g1⟩; have := par hp (sx := b.x - a.x) (sy := b.y - a.y) (tx := c.x - a.x) (ty := c.y - a.y) (by unfold crs at g1 g2; grind) (by unfold crs at g1 g2; grind); exact this
      have q3 : crs a b c = 0 → crs c d b = 0 → b = c := fun g1 g2 => by
        apply Decidable.byContradiction; intro hne; have hp := pt_ne hne; apply hcol; refine ⟨g1, ?_⟩; have := par hp (sx := b.x - a.x) (sy := b.y - a.y) (tx := d.x - b.x) (ty := d.y - b.y) (by unfold crs at g1 g2; grind) (by unfold crs at g1 g2; grind); unfold crs; grind
      have q4 : crs a b d = 0 → crs c d b = 0 → b = d := fun g1 g2 => by
        apply Decidable.byContradiction; intro hne; have hp := pt_ne hne; apply hcol; refine ⟨?_, g1⟩; have := par hp (sx := b.x - a.x) (sy := b.y - a.y) (tx := c.x - b.x) (ty := c.y - b.y) (by unfold crs at g1 g2; grind) (by unfold crs at g1 g2; grind); unfold crs; grind
      generalize crs a b c = W at *; generalize crs a b d = X at *; generalize crs c d a = Y at *; generalize crs c d b = Z at *; generalize (0 ≤ dotP c d a ∧ dotP c d a ≤ longP c d) = D1 at *; generalize (0 ≤ dotP c d b ∧ dotP c d b ≤ longP c d) = D2 at *; generalize (0 ≤ dotP a b c ∧ dotP a b c ≤ longP a b) = D3 at *; generalize (0 ≤ dotP a b d ∧ dotP a b d ≤ longP a b) = D4 at *; generalize onP c d a = O1 at *; generalize onP c d b = O2 at *; generalize onP a b c = O3 at *; generalize onP a b d = O4 at *; have t1 : decide (a = c) = decide (W = 0 ∧ Y = 0) := decide_eq_decide.2 ⟨fun h => ⟨(s1 h).1, (s1 h).2⟩, fun h => q1 h.1 h.2⟩; have t2 : decide (a = d) = decide (X = 0 ∧ Y = 0) := decide_eq_decide.2 ⟨fun h => ⟨(s2 h).1, (s2 h).2⟩, fun h => q2 h.1 h.2⟩; have t3 : decide (b = c) = decide (W = 0 ∧ Z = 0) := decide_eq_decide.2 ⟨fun h => ⟨(s3 h).1, (s3 h).2⟩, fun h => q3 h.1 h.2⟩; have t4 : decide (b = d) = decide (X = 0 ∧ Z = 0) := decide_eq_decide.2 ⟨fun h => ⟨(s4 h).1, (s4 h).2⟩, fun h => q4 h.1 h.2⟩; clear s1 s2 s3 s4 q1 q2 q3 q4 hs nv nw e1 e2; have u1 : O1 = decide (Y = 0 ∧ (¬(0 < W ∧ 0 < X) ∧ ¬(W < 0 ∧ X < 0))) := by
        rw [Bool.eq_iff_iff, decide_eq_true_eq, oA1]; exact ⟨fun h => ⟨h.1, (A1 h.1).1 h.2⟩, fun h => ⟨h.1, (A1 h.1).2 h.2⟩⟩
      have u2 : O2 = decide (Z = 0 ∧ (¬(0 < -W ∧ 0 < -X) ∧ ¬(-W < 0 ∧ -X < 0))) := by
        rw [Bool.eq_iff_iff, decide_eq_true_eq, oA2]; exact ⟨fun h => ⟨h.1, (A2 h.1).1 h.2⟩, fun h => ⟨h.1, (A2 h.1).2 h.2⟩⟩
      have u3 : O3 = decide (W = 0 ∧ (¬(0 < Y ∧ 0 < Z) ∧ ¬(Y < 0 ∧ Z < 0))) := by
        rw [Bool.eq_iff_iff, decide_eq_true_eq, oC1]; exact ⟨fun h => ⟨h.1, (C1 h.1).1 h.2⟩, fun h => ⟨h.1, (C1 h.1).2 h.2⟩⟩
      have u4 : O4 = decide (X = 0 ∧ (¬(0 < -Y ∧ 0 < -Z) ∧ ¬(-Y < 0 ∧ -Z < 0))) := by
        rw [Bool.eq_iff_iff, decide_eq_true_eq, oC2]; exact ⟨fun h => ⟨h.1, (C2 h.1).1 h.2⟩, fun h => ⟨h.1, (C2 h.1).2 h.2⟩⟩
      clear A1 A2 C1 C2 oA1 oA2 oC1 oC2; generalize decide (a = c) = T1 at *; generalize decide (a = d) = T2 at *; generalize decide (b = c) = T3 at *; generalize decide (b = d) = T4 at *; exact cls_signs W X Y Z O1 O2 O3 O4 T1 T2 T3 T4 hcol hcol2 u1 u2 u3 u4 t1 t2 t3 t4
end Go
/- exact.Turn. -/
set_option linter.unusedVariables false
set_option linter.unusedSimpArgs false
set_option maxRecDepth 100000
namespace Go.Proofs.Ytccamjnomjcchaa
open Go.RowKit

set_option maxHeartbeats 800000 in
theorem xturn_any (a b c : Pt) (ha : okPt a = true) (hb : okPt b = true) (hc : okPt c = true) (w : World) :
    Calls Try.prog 79 #[a.val, b.val, c.val] w fun e w' => e = .returned (.int .i64 (sg (crs a b c))) ∧ Below w.heap.size w w' := by
  have hx := xcross_any a b c ha hb hc; generalize crs a b c = n at *; have HX := Lib.hid hx; obtain ⟨ax, ay⟩ := a; obtain ⟨bx, bY⟩ := b; obtain ⟨cx, cy⟩ := c; dsimp only [Pt.val] at *; clear hx ha hb hc
  go_enter Try.func79, Try.ntmps79
  go_wp2_with fail
  refine (HX.out _).mono ?_; rintro e w1 ⟨rfl, hb1⟩; have hbl := (((Below.new w (.cells #[.int .i64 ax, .int .i64 ay] 46)).alloc (by simp) (.cells #[.int .i64 bx, .int .i64 bY] 46)).alloc (by simp; omega) (.cells #[.int .i64 cx, .int .i64 cy] 46)).trans (hb1.mono (by simp; omega)); clear HX hb1
  rcases Int.lt_trichotomy n 0 with h | h | h
  · have h' : ¬ 0 < n := by omega
    go_wp2; go_ret; exact ⟨ret_int (sg_neg h).symm, hbl⟩
  · subst h; go_wp2; go_ret; exact ⟨rfl, hbl⟩
  · go_wp2; go_ret; exact ⟨ret_int (sg_pos h).symm, hbl⟩
end Go.Proofs.Ytccamjnomjcchaa
