/-
  A point in a coverage is gone round once: the sums (plain). A point in a coverage is gone round once (plain): the law. CoverOnce: the walk.
-/
import Derived.Test.YtccamjnomjcchaaPk37
import Derived.Test.YtccamjnomjcchaaPk27
import Derived.Test.YtccamjnomjcchaaPk29
/- A point in a coverage is gone round once: the sums (plain). -/
set_option linter.unusedVariables false
set_option linter.unusedSimpArgs false
namespace Go
open Go.RowKit
def sumG (g : Pt × Pt → Int) (S : List Sd) (j : Int) : Int := (S.map fun t => if (t.f : Int) = j then g (t.a, t.b) else 0).sum
theorem sumG_append (g : Pt × Pt → Int) (A B : List Sd) (j : Int) : sumG g (A ++ B) j = sumG g A j + sumG g B j := by
  unfold sumG; rw [List.map_append, List.sum_append]
theorem sumG_none (g : Pt × Pt → Int) (S : List Sd) (j : Int) (h : ∀ s ∈ S, (s.f : Int) ≠ j) : sumG g S j = 0 := by
  induction S with
  | nil => rfl
  | cons s S ih =>
    have h1 := ih (fun x hx => h x (List.mem_cons_of_mem _ hx)); unfold sumG at h1 ⊢; rw [List.map_cons, List.sum_cons, h1, if_neg (h s List.mem_cons_self)]
    rfl
theorem sumG_congr {g h : Pt × Pt → Int} {S : List Sd} (e : ∀ t ∈ S, g (t.a, t.b) = h (t.a, t.b)) (j : Int) : sumG g S j = sumG h S j := by
  unfold sumG
  congr 1
  apply List.map_congr_left; intro t ht; rw [e t ht]
theorem sumG_ring (g : Pt × Pt → Int) (i k : Nat) (r : List Pt) : sumG g (ringSd i k r) i = ((edges r).map g).sum := by
  unfold sumG ringSd; rw [List.map_map]
  congr 1
  apply List.map_congr_left; intro e _; show (if (i : Int) = (i : Int) then g (e.1, e.2) else 0) = _; rw [if_pos rfl]
def ringsG (g : Pt × Pt → Int) (f : List (List Pt)) : Int := (f.map fun r => ((edges r).map g).sum).sum
theorem sumG_face (g : Pt × Pt → Int) (i : Nat) (f : List (List Pt)) (n : Nat) (hn : n ≤ f.length) : sumG g (faceSd i f n) i = ringsG g (f.take n) := by
  induction n with
  | zero => rfl
  | succ n ih =>
    rw [faceSd_succ, sumG_append, ih (by omega), sumG_ring, List.take_succ_eq_append_getElem (show n < f.length by omega), getElem!_pos f n (by omega)]; unfold ringsG; rw [List.map_append, List.sum_append]; simp
theorem sumG_some (g : Pt × Pt → Int) (F : List (List (List Pt))) (k n : Nat) : sumG g (someSd F n) k = if k < n then ringsG g F[k]! else 0 := by
  induction n with
  | zero => rfl
  | succ n ih =>
    rw [someSd_succ, sumG_append, ih]
    by_cases h : k = n
    · subst h; rw [if_neg (Nat.lt_irrefl _), if_pos (Nat.lt_succ_self _), sumG_face g k _ _ (Nat.le_refl _), List.take_length]; omega
    · rw [sumG_none g _ k (fun s hs => by have := (mem_faceSd hs).1; omega)]
      by_cases q : k < n
      · rw [if_pos q, if_pos (by omega)]; omega
      · rw [if_neg q, if_neg (by omega)]; rfl
theorem sumG_all (g : Pt × Pt → Int) (F : List (List (List Pt))) (k : Nat) (hk : k < F.length) : sumG g (allSd F) k = ringsG g F[k]! := by
  unfold allSd; rw [sumG_some, if_pos hk]
theorem sumS_G (a b : Pt) (S : List Sd) (j : Int) : sumS a b S j = sumG (fun e => passF e.1 e.2 a b) S j := rfl
theorem cls_all {F : List (List (List Pt))} (h : smpR F) (hm : matchP (allSd F) (allSd F).length) {s t : Sd} (hs : s ∈ allSd F) (ht : t ∈ allSd F) : okC (rclsF s.a s.b t.a t.b) := by
  have is := sd_in h s hs; have it := sd_in h t ht; unfold okC
  by_cases hsame : sameR s t
  · obtain ⟨i, k, n, h1, h2, h3, rfl⟩ := mem_allSd.1 hs; obtain ⟨i', k', m, h1', h2', h3', rfl⟩ := mem_allSd.1 ht; obtain ⟨e1, e2⟩ := hsame; dsimp only at e1 e2; subst e1 e2; have hr := h _ (mem_getE h1) _ (mem_getE h2); generalize (F[i]!)[k]! = r at *
    rcases Nat.lt_trichotomy n m with g | g | g
    · have h4 := hr.2.2.2 m h3' n g; unfold clsOk at h4; rw [rcls_segs _ _ _ _ is.2.2 it.2.2] at h4; dsimp only; rw [h4]; unfold wantS
      split <;> simp
    · subst g; right; right; unfold rclsF; rw [if_pos (.inl ⟨rfl, rfl⟩)]
    · have h4 := hr.2.2.2 n h3 m g; unfold clsOk at h4; dsimp only; rw [h4]; unfold wantS
      split <;> simp
  · obtain ⟨i, hi, e1⟩ := List.mem_iff_getElem.1 hs; obtain ⟨j, hj, e2⟩ := List.mem_iff_getElem.1 ht
    rcases Nat.lt_trichotomy i j with g | g | g
    · have h4 := hm j hj i g; rw [getElem!_pos _ i hi, getElem!_pos _ j hj, e1, e2] at h4; unfold mOk at h4; rw [rcls_swap is it] at h4
      rcases h4 with h4 | h4
      · exact absurd ⟨h4.1.symm, h4.2.symm⟩ hsame
      · exact h4
    · subst g; rw [e1] at e2; subst e2; exact absurd ⟨rfl, rfl⟩ hsame
    · have h4 := hm i hi j g; rw [getElem!_pos _ i hi, getElem!_pos _ j hj, e1, e2] at h4; unfold mOk at h4
      rcases h4 with h4 | h4
      · exact absurd h4 hsame
      · exact h4
theorem good_all {F : List (List (List Pt))} (h : smpR F) (hm : matchP (allSd F) (allSd F).length) {s t : Sd} (hs : s ∈ allSd F) (ht : t ∈ allSd F) (hy : s.a.y ≠ s.b.y) : GoodE (loE s.a s.b) (hiE s.a s.b) (t.a, t.b) := by
  have is := sd_in h s hs; have it := sd_in h t ht; have hc := cls_all h hm hs ht; have hl := loE_lt hy
  rcases loE_pair s.a s.b with ⟨e1, e2⟩ | ⟨e1, e2⟩
  · rw [e1, e2] at hl ⊢; exact goodE_of hl it.2.2 hc
  · rw [e1, e2] at hl ⊢; exact goodE_of hl it.2.2 (okC_swap is.2.2 it.2.2 hc).2.1
theorem sum_const {F : List (List (List Pt))} (h : smpR F) (hm : matchP (allSd F) (allSd F).length) {s : Sd} (hs : s ∈ allSd F) (hy : s.a.y ≠ s.b.y) (kk : Bool) {p q : Int} (hp : p % 2 = 1) (hq : q % 2 = 1) (p1 : 4 * (loE s.a s.b).y < p) (p2 : p < 4 * (hiE s.a s.b).y) (q1 : 4 * (loE s.a s.b).y < q) (q2 : q < 4 * (hiE s.a s.b).y) (j : Nat) :
    sumG (cE kk (loE s.a s.b) (hiE s.a s.b) p) (allSd F) j = sumG (cE kk (loE s.a s.b) (hiE s.a s.b) q) (allSd F) j := by
  by_cases hj : j < F.length
  · rw [sumG_all _ F j hj, sumG_all _ F j hj]; unfold ringsG
    congr 1
    apply List.map_congr_left; intro r hr; refine ring_const kk (loE_lt hy) r (fun e he => ?_) hp hq p1 p2 q1 q2; obtain ⟨t, ht, e1, e2⟩ := edge_side (mem_getE hj) hr he; have := good_all h hm hs ht hy; rw [e1, e2] at this; exact this
  · rw [sumG_none _ _ _ (fun t ht => by have := sd_f ht; omega), sumG_none _ _ _ (fun t ht => by have := sd_f ht; omega)]
theorem pass_sum {F : List (List (List Pt))} (h : smpR F) (hm : matchP (allSd F) (allSd F).length) {s : Sd} (hs : s ∈ allSd F) (hy : s.a.y ≠ s.b.y) (j : Int) :
    sumS s.a s.b (allSd F) j = sumG (cE (decide (s.a.y < s.b.y)) (loE s.a s.b) (hiE s.a s.b) (hMid s.a s.b)) (allSd F) j := by
  rw [sumS_G]; exact sumG_congr (fun t ht => pass_edge hy (good_all h hm hs ht hy)) j
theorem left_sum {F : List (List (List Pt))} (h : smpR F) (hm : matchP (allSd F) (allSd F).length) (hsd : sidesOk (allSd F)) {s : Sd} (hs : s ∈ allSd F) (hy : s.a.y ≠ s.b.y) {p : Int} (hp : p % 2 = 1) (p1 : 4 * (loE s.a s.b).y < p) (p2 : p < 4 * (hiE s.a s.b).y) (j : Nat) :
    sumG (cE (decide (s.a.y < s.b.y)) (loE s.a s.b) (hiE s.a s.b) p) (allSd F) j = if j = s.f then 1 else 0 := by
  obtain ⟨m1, m2, m3⟩ := hMid_in hy; rw [sum_const h hm hs hy _ hp m1 p1 p2 m2 m3, ← pass_sum h hm hs hy, (hsd s hs).1 j]
  by_cases e : j = s.f
  · rw [if_pos e, if_pos (by omega)]
  · rw [if_neg e, if_neg (by omega)]
def atR (p : Pt) (t : Sd) : Bool := decide (t.a.y ≠ t.b.y) && (decide (4 * (loE t.a t.b).y < 4 * p.y + 1) && (decide (4 * p.y + 1 < 4 * (hiE t.a t.b).y) && decide (0 < crs (loE t.a t.b) (hiE t.a t.b) p)))
theorem atR_iff (p : Pt) (t : Sd) : atR p t = true ↔ t.a.y ≠ t.b.y ∧ 4 * (loE t.a t.b).y < 4 * p.y + 1 ∧ 4 * p.y + 1 < 4 * (hiE t.a t.b).y ∧ 0 < crs (loE t.a t.b) (hiE t.a t.b) p := by
  unfold atR; simp only [Bool.and_eq_true, decide_eq_true_eq]
theorem wind_atR (p : Pt) (t : Sd) : windE p (t.a, t.b) = if atR p t = true then sgnE t.a t.b (4 * p.y + 1) else 0 := by
  have hsg := sg_lt (crs t.a t.b p); unfold windE sgnE; dsimp only
  by_cases hR : atR p t = true
  · rw [if_pos hR]; obtain ⟨h1, h2, h3, h4⟩ := (atR_iff p t).1 hR
    rcases Int.lt_or_gt_of_ne h1 with g | g
    · have e : loE t.a t.b = t.a ∧ hiE t.a t.b = t.b := by unfold loE hiE; rw [if_pos g, if_pos g]; exact ⟨rfl, rfl⟩
      rw [e.1, e.2] at h4; rw [e.1] at h2; rw [e.2] at h3; rw [if_pos ⟨by omega, by omega, hsg.1.2 h4⟩, if_pos ⟨h2, h3⟩]
    · have e : loE t.a t.b = t.b ∧ hiE t.a t.b = t.a := by unfold loE hiE; rw [if_neg (by omega), if_neg (by omega)]; exact ⟨rfl, rfl⟩
      rw [e.1, e.2] at h4; rw [e.1] at h2; rw [e.2] at h3; rw [crs_swap] at h4; rw [if_neg (by omega), if_pos ⟨by omega, by omega, hsg.2.2 (by omega)⟩, if_neg (by omega), if_pos ⟨h2, h3⟩]
  · rw [if_neg hR]; have hn := fun h => hR ((atR_iff p t).2 h); rw [if_neg, if_neg]
    · rintro ⟨g1, g2, g3⟩; have e : loE t.a t.b = t.b ∧ hiE t.a t.b = t.a := by unfold loE hiE; rw [if_neg (by omega), if_neg (by omega)]; exact ⟨rfl, rfl⟩
      refine hn ⟨by omega, by rw [e.1]; omega, by rw [e.2]; omega, ?_⟩; rw [e.1, e.2, crs_swap]; have := hsg.2.1 g3; omega
    · rintro ⟨g1, g2, g3⟩; have e : loE t.a t.b = t.a ∧ hiE t.a t.b = t.b := by unfold loE hiE; rw [if_pos (by omega), if_pos (by omega)]; exact ⟨rfl, rfl⟩
      refine hn ⟨by omega, by rw [e.1]; omega, by rw [e.2]; omega, ?_⟩; rw [e.1, e.2]; exact hsg.1.1 g3
theorem frac_trans {A B C p q r : Int} (hp : 0 < p) (hq : 0 < q) (hr : 0 < r) (h1 : A * q ≤ B * p) (h2 : B * r ≤ C * q) : A * r ≤ C * p := by
  apply Decidable.byContradiction; intro hc; have a1 := Int.mul_le_mul_of_nonneg_right h1 (show 0 ≤ r by omega); have a2 := Int.mul_le_mul_of_nonneg_right h2 (show 0 ≤ p by omega); have a3 := Int.mul_lt_mul_of_pos_right (show C * p < A * r by omega) hq; have e1 : A * q * r = A * r * q := by grind
  have e2 : B * p * r = B * r * p := by grind
  have e3 : C * q * p = C * p * q := by grind
  omega
theorem nearest (h : Int) : ∀ L : List Sd, L ≠ [] → (∀ t ∈ L, t.a.y ≠ t.b.y) → ∃ s ∈ L, ∀ t ∈ L, tE (loE s.a s.b) (hiE s.a s.b) (loE t.a t.b) (hiE t.a t.b) h ≤ 0
  | [], h0, _ => absurd rfl h0
  | [s], _, hy => ⟨s, List.mem_cons_self, fun t ht => by
      rw [List.mem_singleton] at ht; rw [ht, tE_self]; omega⟩
  | s :: u :: L, _, hy => by
      obtain ⟨m, hm, hmin⟩ := nearest h (u :: L) (by simp) (fun t ht => hy t (List.mem_cons_of_mem _ ht)); have hs := loE_lt (hy s List.mem_cons_self); have hmy := loE_lt (hy m (List.mem_cons_of_mem _ hm))
      by_cases c : tE (loE m.a m.b) (hiE m.a m.b) (loE s.a s.b) (hiE s.a s.b) h ≤ 0
      · refine ⟨m, List.mem_cons_of_mem _ hm, fun t ht => ?_⟩
        rcases List.mem_cons.1 ht with rfl | ht
        · exact c
        · exact hmin t ht
      · refine ⟨s, List.mem_cons_self, fun t ht => ?_⟩
        rcases List.mem_cons.1 ht with rfl | ht
        · rw [tE_self]; omega
        · have hty := loE_lt (hy t (List.mem_cons_of_mem _ ht)); have h1 := hmin t ht; unfold tE at h1 c ⊢; generalize nE (loE s.a s.b) (hiE s.a s.b) h = A at *; generalize nE (loE m.a m.b) (hiE m.a m.b) h = B at *; generalize nE (loE t.a t.b) (hiE t.a t.b) h = C at *; have := frac_trans (A := A) (B := B) (C := C) (p := (hiE s.a s.b).y - (loE s.a s.b).y) (q := (hiE m.a m.b).y - (loE m.a m.b).y) (r := (hiE t.a t.b).y - (loE t.a t.b).y) (by omega) (by omega) (by omega) (by rw [Int.mul_comm A, Int.mul_comm B]; omega) (by rw [Int.mul_comm B, Int.mul_comm C]; omega); rw [Int.mul_comm A, Int.mul_comm C] at this; omega
theorem nE_at (a b p : Pt) : nE a b (4 * p.y) = 4 * (crs a b p + (b.y - a.y) * p.x) := by unfold nE crs; grind
theorem wind_near {F : List (List (List Pt))} (h : smpR F) (hm : matchP (allSd F) (allSd F).length) (p : Pt) {s : Sd} (hs : s ∈ allSd F) (hR : atR p s = true) (hmin : ∀ t ∈ allSd F, atR p t = true → tE (loE s.a s.b) (hiE s.a s.b) (loE t.a t.b) (hiE t.a t.b) (4 * p.y + 1) ≤ 0) {t : Sd} (ht : t ∈ allSd F) :
    windE p (t.a, t.b) = cE true (loE s.a s.b) (hiE s.a s.b) (4 * p.y + 1) (t.a, t.b) := by
  obtain ⟨s1, s2, s3, s4⟩ := (atR_iff p s).1 hR; have hl := loE_lt s1; rw [wind_atR]; unfold cE; dsimp only
  by_cases hty : t.a.y = t.b.y
  · have : sgnE t.a t.b (4 * p.y + 1) = 0 := by
      unfold sgnE; rw [hty, if_neg (by omega), if_neg (by omega)]
    rw [this]
    split <;> split <;> rfl
  · have htl := loE_lt hty
    by_cases hcr : 4 * (loE t.a t.b).y < 4 * p.y + 1 ∧ 4 * p.y + 1 < 4 * (hiE t.a t.b).y
    · have g := (good_all h hm hs ht s1).2.1 hty; dsimp only at g; have hiff : atR p t = true ↔ rightK true (tE (loE s.a s.b) (hiE s.a s.b) (loE t.a t.b) (hiE t.a t.b) (4 * p.y + 1)) := by
        constructor
        · intro x; have := hmin t ht x; unfold rightK
          by_cases e : tE (loE s.a s.b) (hiE s.a s.b) (loE t.a t.b) (hiE t.a t.b) (4 * p.y + 1) = 0
          · exact .inr ⟨rfl, e⟩
          · exact .inl (by omega)
        · intro x; rw [atR_iff]; refine ⟨hty, hcr.1, hcr.2, ?_⟩; apply Decidable.byContradiction; intro y; have hpos : 0 < tE (loE s.a s.b) (hiE s.a s.b) (loE t.a t.b) (hiE t.a t.b) (4 * p.y) := by
            unfold tE; rw [nE_at, nE_at]; generalize crs (loE s.a s.b) (hiE s.a s.b) p = P at *; generalize crs (loE t.a t.b) (hiE t.a t.b) p = Q at *; have d0 : 0 < (hiE s.a s.b).y - (loE s.a s.b).y := by omega
            generalize (hiE s.a s.b).y - (loE s.a s.b).y = ds at *; have d1 : 0 < (hiE t.a t.b).y - (loE t.a t.b).y := by omega
            generalize (hiE t.a t.b).y - (loE t.a t.b).y = dt at *; have a1 := Int.mul_pos d1 s4; have a2 := Int.mul_nonneg (show 0 ≤ ds by omega) (show 0 ≤ -Q by omega); have e3 : dt * (4 * (P + ds * p.x)) - ds * (4 * (Q + dt * p.x)) = 4 * (dt * P) + 4 * (ds * -Q) := by grind
            omega
          rcases x with x | ⟨-, x⟩
          · exact g.order hl htl (h := 4 * p.y + 1) (k := 4 * p.y) (by omega) (by omega) (by omega) (by omega) (by omega) (by omega) (by omega) (by omega) x hpos
          · have := tE_zero_all (g.tie _ s2 s3 hcr.1 hcr.2 x) (4 * p.y); omega
      by_cases x : atR p t = true
      · rw [if_pos x, if_pos (hiff.1 x)]
      · rw [if_neg x, if_neg (fun y => x (hiff.2 y))]
    · have : sgnE t.a t.b (4 * p.y + 1) = 0 := by
        unfold sgnE
        rcases loE_pair t.a t.b with ⟨e1, e2⟩ | ⟨e1, e2⟩
        · rw [e1, e2] at hcr htl; rw [if_neg hcr, if_neg (by omega)]
        · rw [e1, e2] at hcr htl; rw [if_neg (by omega), if_neg hcr]
      rw [this]
      split <;> split <;> rfl
end Go
/- A point in a coverage is gone round once (plain): the law. -/
set_option linter.unusedVariables false
set_option linter.unusedSimpArgs false
namespace Go
open Go.RowKit
theorem sumG_add (g h : Pt × Pt → Int) (S : List Sd) (j : Int) : sumG (fun e => g e + h e) S j = sumG g S j + sumG h S j := by
  induction S with
  | nil => rfl
  | cons s S ih =>
    unfold sumG at ih ⊢; simp only [List.map_cons, List.sum_cons, ih]
    split <;> omega
theorem sumG_zero (S : List Sd) (j : Int) : sumG (fun _ => 0) S j = 0 := by
  unfold sumG
  induction S with
  | nil => rfl
  | cons x S ih =>
    rw [List.map_cons, List.sum_cons, ih]
    split <;> rfl
theorem sumG_one (g : Pt × Pt → Int) : ∀ (S : List Sd), (S.map Sd.key).Nodup → ∀ s ∈ S, (∀ t ∈ S, t.key ≠ s.key → g (t.a, t.b) = 0) → ∀ j : Int, sumG g S j = if (s.f : Int) = j then g (s.a, s.b) else 0
  | [], _, s, hs, _, _ => absurd hs (by simp)
  | u :: S, hn, s, hs, h0, j => by
      rw [List.map_cons, List.nodup_cons] at hn; have hcons : sumG g (u :: S) j = (if (u.f : Int) = j then g (u.a, u.b) else 0) + sumG g S j := by unfold sumG; rw [List.map_cons, List.sum_cons]
      rw [hcons]
      rcases List.mem_cons.1 hs with rfl | hs
      · have hz : sumG g S j = 0 := by
          have : sumG g S j = sumG (fun _ => 0) S j := sumG_congr (fun t ht => h0 t (List.mem_cons_of_mem _ ht) (fun e => hn.1 (by rw [← e]; exact List.mem_map_of_mem ht))) j; rw [this, sumG_zero]
        rw [hz]; omega
      · have := sumG_one g S hn.2 s hs (fun t ht => h0 t (List.mem_cons_of_mem _ ht)) j; rw [this]; have hu : g (u.a, u.b) = 0 := h0 u List.mem_cons_self (fun e => hn.1 (by rw [e]; exact List.mem_map_of_mem hs)); rw [hu]
        split <;> split <;> omega
def windJ (p : Pt) (F : List (List (List Pt))) (j : Nat) : Int := sumG (windE p) (allSd F) j
theorem once_up {F : List (List (List Pt))} (h : smpR F) (hm : matchP (allSd F) (allSd F).length) (hsd : sidesOk (allSd F)) {s : Sd} (hs : s ∈ allSd F) (hy : s.a.y < s.b.y) {p : Int} (hp : p % 2 = 1) (p1 : 4 * s.a.y < p) (p2 : p < 4 * s.b.y) (j : Nat) :
    sumG (cE true s.a s.b p) (allSd F) j = if j = s.f then 1 else 0 := by
  have e : loE s.a s.b = s.a ∧ hiE s.a s.b = s.b := by unfold loE hiE; rw [if_pos hy, if_pos hy]; exact ⟨rfl, rfl⟩
  have := left_sum h hm hsd hs (by omega) hp (by rw [e.1]; exact p1) (by rw [e.2]; exact p2) j; rw [e.1, e.2, decide_eq_true hy] at this; exact this
theorem once_law {F : List (List (List Pt))} (h : smpR F) (hm : matchP (allSd F) (allSd F).length) (hn : ((allSd F).map Sd.key).Nodup) (hsd : sidesOk (allSd F)) (p : Pt) :
    ∃ who : Option Nat, ∀ j : Nat, windJ p F j = if some j = who then 1 else 0 := by
  by_cases hC : (allSd F).filter (atR p) = []
  · refine ⟨none, fun j => ?_⟩; have hz : ∀ t ∈ allSd F, windE p (t.a, t.b) = 0 := by
      intro t ht; rw [wind_atR, if_neg]; intro hR; have : t ∈ (allSd F).filter (atR p) := List.mem_filter.2 ⟨ht, hR⟩; rw [hC] at this
      cases this
    rw [if_neg (by simp)]; unfold windJ; rw [sumG_congr (h := fun _ => 0) hz, sumG_zero]
  · obtain ⟨s, hsC, hmin⟩ := nearest (4 * p.y + 1) _ hC (fun t ht => ((atR_iff p t).1 (List.mem_filter.1 ht).2).1); obtain ⟨hs, hR⟩ := List.mem_filter.1 hsC; obtain ⟨s1, s2, s3, s4⟩ := (atR_iff p s).1 hR; have hw : ∀ j : Nat, windJ p F j = sumG (cE true (loE s.a s.b) (hiE s.a s.b) (4 * p.y + 1)) (allSd F) j := fun j =>
      sumG_congr (fun t ht => wind_near h hm p hs hR (fun u hu hRu => hmin u (List.mem_filter.2 ⟨hu, hRu⟩)) ht) j
    by_cases hup : ∃ u ∈ allSd F, u.a = loE s.a s.b ∧ u.b = hiE s.a s.b
    · obtain ⟨u, hu, e1, e2⟩ := hup; refine ⟨some u.f, fun j => ?_⟩; rw [hw j, ← e1, ← e2]; have hl := loE_lt s1; rw [← e1, ← e2] at hl; rw [← e1] at s2; rw [← e2] at s3; rw [once_up h hm hsd hu hl (by omega) s2 s3 j]
      by_cases e : j = u.f
      · rw [if_pos e, if_pos (by rw [e])]
      · rw [if_neg e, if_neg (by simpa using e)]
    · have hdown : s.a = hiE s.a s.b ∧ s.b = loE s.a s.b ∧ s.b.y < s.a.y := by
        rcases loE_pair s.a s.b with ⟨e1, e2⟩ | ⟨e1, e2⟩
        · exact absurd ⟨s, hs, e1.symm, e2.symm⟩ hup
        · have := loE_lt s1; rw [e1, e2] at this; exact ⟨e2.symm, e1.symm, this⟩
      obtain ⟨d1, d2, d3⟩ := hdown; refine ⟨none, fun j => ?_⟩; rw [if_neg (by simp), hw j]; have hL := left_sum h hm hsd hs s1 (p := 4 * p.y + 1) (by omega) s2 s3 j; rw [decide_eq_false (show ¬ s.a.y < s.b.y by omega)] at hL; have hsplit : ∀ t ∈ allSd F, cE true (loE s.a s.b) (hiE s.a s.b) (4 * p.y + 1) (t.a, t.b) = cE false (loE s.a s.b) (hiE s.a s.b) (4 * p.y + 1) (t.a, t.b) + (if t.key = s.key then -1 else 0) := by
        intro t ht; have hg := good_all h hm hs ht s1
        by_cases hk : t.key = s.key
        · have ek : t.a = s.a ∧ t.b = s.b := by
            unfold Sd.key at hk
            simpa using hk
          rw [if_pos hk, ek.1, ek.2]; unfold cE; dsimp only; rw [tE_self, if_pos (show rightK true 0 from .inr ⟨rfl, rfl⟩), if_neg (show ¬ rightK false 0 from fun x => x.elim (by omega) (fun x => by cases x.1))]; unfold sgnE; rw [← d2] at s2; rw [← d1] at s3; rw [if_neg (by omega), if_pos ⟨s2, s3⟩]
          rfl
        · rw [if_neg hk, Int.add_zero]; unfold cE; dsimp only
          by_cases hty : t.a.y = t.b.y
          · have : sgnE t.a t.b (4 * p.y + 1) = 0 := by
              unfold sgnE; rw [hty, if_neg (by omega), if_neg (by omega)]
            rw [this]
            split <;> split <;> rfl
          · have hg2 := hg.2.1 hty; dsimp only at hg2
            by_cases hcr : 4 * (loE t.a t.b).y < 4 * p.y + 1 ∧ 4 * p.y + 1 < 4 * (hiE t.a t.b).y
            · have hne : tE (loE s.a s.b) (hiE s.a s.b) (loE t.a t.b) (hiE t.a t.b) (4 * p.y + 1) ≠ 0 := by
                intro e; obtain ⟨e1, e2⟩ := hg2.tie _ s2 s3 hcr.1 hcr.2 e
                rcases loE_pair t.a t.b with ⟨q1, q2⟩ | ⟨q1, q2⟩
                · exact hup ⟨t, ht, by rw [e1, q1], by rw [e2, q2]⟩
                · apply hk; have r1 : t.a = s.a := by rw [d1, e2]; exact q2.symm
                  have r2 : t.b = s.b := by rw [d2, e1]; exact q1.symm
                  unfold Sd.key; rw [r1, r2]
              have hr : rightK true (tE (loE s.a s.b) (hiE s.a s.b) (loE t.a t.b) (hiE t.a t.b) (4 * p.y + 1)) ↔ rightK false (tE (loE s.a s.b) (hiE s.a s.b) (loE t.a t.b) (hiE t.a t.b) (4 * p.y + 1)) := by
                rw [rightK_iff hne, rightK_iff hne]
              by_cases x : rightK false (tE (loE s.a s.b) (hiE s.a s.b) (loE t.a t.b) (hiE t.a t.b) (4 * p.y + 1))
              · rw [if_pos x, if_pos (hr.2 x)]
              · rw [if_neg x, if_neg (fun y => x (hr.1 y))]
            · have : sgnE t.a t.b (4 * p.y + 1) = 0 := by
                have htl := loE_lt hty; unfold sgnE
                rcases loE_pair t.a t.b with ⟨e1, e2⟩ | ⟨e1, e2⟩
                · rw [e1, e2] at hcr htl; rw [if_neg hcr, if_neg (by omega)]
                · rw [e1, e2] at hcr htl; rw [if_neg (by omega), if_neg hcr]
              rw [this]
              split <;> split <;> rfl
      have h2 : sumG (cE true (loE s.a s.b) (hiE s.a s.b) (4 * p.y + 1)) (allSd F) j = sumG (fun e => cE false (loE s.a s.b) (hiE s.a s.b) (4 * p.y + 1) e + (if e = (s.a, s.b) then -1 else 0)) (allSd F) j := sumG_congr (fun t ht => by
        rw [hsplit t ht]
        rfl) j
      rw [h2, sumG_add, hL, sumG_one (fun e => if e = (s.a, s.b) then -1 else 0) (allSd F) hn s hs (fun t ht hk => if_neg hk) j, if_pos rfl]
      by_cases e : j = s.f
      · rw [if_pos e, if_pos (by omega)]; rfl
      · rw [if_neg e, if_neg (by omega)]; rfl
end Go
/- CoverOnce: the walk. -/
set_option linter.unusedVariables false
set_option linter.unusedSimpArgs false
set_option maxRecDepth 100000
namespace Go
open Go.RowKit
theorem fwS_rings (p : Pt) : ∀ f : List (List Pt), fwOk p f = true → fwS p f = ringsG (windE p) f
  | [], _ => rfl
  | r :: f, h => by
    unfold fwOk at h; rw [List.all_cons, Bool.and_eq_true] at h; have h2 := fwS_rings p f h.2; have e : fwS p (r :: f) = windF r p + fwS p f := rfl; rw [e, h2]; unfold ringsG; rw [List.map_cons, List.sum_cons]
    congr 1
    unfold windF; rw [if_pos h.1, windS_sum]
theorem valid_parts {F : List (List (List Pt))} (h : validB F = 0) : smpR F ∧ matchP (allSd F) (allSd F).length ∧ ((allSd F).map Sd.key).Nodup ∧ sidesOk (allSd F) := by
  rw [validB_S] at h; unfold vS v5 at h
  by_cases hR : rightR F = false
  · rw [if_pos hR] at h; cases h
  · rw [if_neg hR] at h; have hR' : rightR F = true := by simpa using hR
    by_cases h1 : PW badS (allSd F)
    · rw [if_neg (fun g => g h1)] at h
      by_cases h2 : PW badT (allSd F)
      · rw [if_neg (fun g => g h2)] at h
        by_cases h3 : ((allSd F).map Sd.key).Nodup
        · rw [if_neg (fun g => g h3)] at h
          by_cases h4 : sidesOk (allSd F)
          · have hs := (smp_iff F).2 ⟨hR', h1⟩; exact ⟨hs, (match_PW (sd_in hs)).2 h2, h3, h4⟩
          · rw [if_pos h4] at h; cases h
        · rw [if_pos h3] at h; cases h
      · rw [if_pos h2] at h; cases h
    · rw [if_pos h1] at h; cases h
theorem once_fw {F : List (List (List Pt))} (h : validB F = 0) (p : Pt) : ∃ who : Option Nat, ∀ j, j < F.length → fwOk p F[j]! = true → fwF p F[j]! = if some j = who then 1 else 0 := by
  obtain ⟨h1, h2, h3, h4⟩ := valid_parts h; obtain ⟨who, hw⟩ := once_law h1 h2 h3 h4 p; refine ⟨who, fun j hj hok => ?_⟩; rw [← hw j]; unfold fwF windJ; rw [if_pos hok, fwS_rings p _ hok, sumG_all _ _ _ hj]
def zAt (who : Option Nat) (p : Pt) (F : List (List (List Pt))) (k : Nat) (z : Int) : Prop := (z = -1 ∧ ∀ a, a < k → fwOk p F[a]! = true → ¬ some a = who) ∨ ∃ a : Nat, a < k ∧ z = (a : Int) ∧ some a = who ∧ fwOk p F[a]! = true
def bAt (p : Pt) (F : List (List (List Pt))) (k : Nat) (b : Bool) : Prop := (b = true ∧ ∃ a, a < k ∧ fwOk p F[a]! = false) ∨ (b = false ∧ ∀ a, a < k → fwOk p F[a]! = true)
theorem zAt_bad {who : Option Nat} {p : Pt} {F : List (List (List Pt))} {k : Nat} {z : Int} (h : zAt who p F k z) (hk : fwOk p F[k]! = false ∨ ¬ some k = who) : zAt who p F (k + 1) z := by
  rcases h with ⟨h, g⟩ | ⟨a, h1, h2, h3, h4⟩
  · refine .inl ⟨h, fun a ha ho => ?_⟩
    by_cases e : a = k
    · subst e
      rcases hk with hk | hk
      · rw [hk] at ho; cases ho
      · exact hk
    · exact g a (by omega) ho
  · exact .inr ⟨a, by omega, h2, h3, h4⟩
theorem zAt_new {who : Option Nat} {p : Pt} {F : List (List (List Pt))} {k : Nat} {z : Int} (h : zAt who p F k z) (hk : some k = who) (hok : fwOk p F[k]! = true) : z = -1 ∧ zAt who p F (k + 1) k := by
  refine ⟨?_, .inr ⟨k, by omega, rfl, hk, hok⟩⟩
  rcases h with ⟨h, -⟩ | ⟨a, h1, -, h3, -⟩
  · exact h
  · rw [← hk] at h3
    cases h3
    omega
theorem bAt_bad {p : Pt} {F : List (List (List Pt))} {k : Nat} (hk : fwOk p F[k]! = false) : bAt p F (k + 1) true := .inl ⟨rfl, k, by omega, hk⟩
theorem bAt_good {p : Pt} {F : List (List (List Pt))} {k : Nat} {b : Bool} (h : bAt p F k b) (hk : fwOk p F[k]! = true) : bAt p F (k + 1) b := by
  rcases h with ⟨h, a, g, e⟩ | ⟨h, g⟩
  · exact .inl ⟨h, a, by omega, e⟩
  · refine .inr ⟨h, fun a ha => ?_⟩
    by_cases e : a = k
    · rw [e]; exact hk
    · exact g a (by omega)
theorem mem_F {F : List (List (List Pt))} {P : List (List Pt) → Prop} (h : ∀ a, a < F.length → P F[a]!) : ∀ f ∈ F, P f := by
  intro f hf; obtain ⟨i, hi, rfl⟩ := List.mem_iff_getElem.1 hf; have := h i hi; rw [getElem!_pos F i hi] at this; exact this
theorem loc_out {p : Pt} {F : List (List (List Pt))} {x : Int} (h : LocIs p F x) (hb : bAt p F F.length true) : x = -1 ∨ x = -2 := by
  rcases hb with ⟨-, a, ha, e⟩ | ⟨h, -⟩
  · exact h.1 ⟨F[a]!, mem_getE ha, e⟩
  · cases h
theorem loc_in {who : Option Nat} {p : Pt} {F : List (List (List Pt))} {x z : Int} (hw : ∀ j, j < F.length → fwOk p F[j]! = true → fwF p F[j]! = if some j = who then 1 else 0) (h : LocIs p F x) (hz : zAt who p F F.length z) (hb : bAt p F F.length false) : x = z := by
  rcases hb with ⟨h, -⟩ | ⟨-, hall⟩
  · cases h
  · have hf := h.2 (mem_F hall)
    rcases hf with ⟨i, hi, rfl, h1, h2⟩ | ⟨rfl, h2⟩
    · rw [hw i hi (hall i hi)] at h1; have hwi : some i = who := by
        apply Decidable.byContradiction; intro g; rw [if_neg g] at h1; omega
      rcases hz with ⟨-, g⟩ | ⟨a, -, rfl, h3, -⟩
      · exact absurd hwi (g i hi (hall i hi))
      · rw [← hwi] at h3; cases h3; rfl
    · rcases hz with ⟨rfl, -⟩ | ⟨a, h1, rfl, h3, h4⟩
      · rfl
      · have := h2 a h1; rw [hw a h1 h4, if_pos h3] at this; omega
end Go
namespace Go.Proofs.Ytccamjnomjcchaa
open Go.RowKit
set_option maxHeartbeats 6400000 in
theorem conce_walk (a : Option Addr) (c : Nat) (X : List Fc) (hl : X.length ≤ c) (hm : c ≤ maxLen) (p : Pt) (w : World) (hr : Rd w a (fcs X)) (hx : ∀ y ∈ X, FcIn w y) :
    Calls Try.prog 7 #[.slice a X.length c, p.val] w fun e w' => e = .returned (.bool true) ∧ Below w.heap.size w w' := by
  have kP0 := Blk.lit w w.heap.size [.int .i64 p.x, .int .i64 p.y] 46 rfl; have hHS0 := Below.new w (.cells #[.int .i64 p.x, .int .i64 p.y] 46); have HFW := Lib.hid (few_any a c X hl hm 40 (by decide) (w.alloc (.cells #[.int .i64 p.x, .int .i64 p.y] 46)) (hr.alloc _) (fun f hf => ⟨((hx f hf).in).1.keep hHS0, ((hx f hf).in).2⟩)); have HWF := Lib.hid (fun f hf => (hx f hf).2.2); have HLO := Lib.hid (fun (a1 : Option Addr) (c1 : Nat) (fs : List Fc) h1 h2 (W : World) h3 h4 => locate_any p a1 c1 fs h1 h2 W h3 h4); have HFN := Lib.hid (fun (f : Fc) h1 h2 (W : World) h3 => fwind_any f h1 h2 p W h3); generalize X.length = N at *; clear hr hl hm; obtain ⟨px, py⟩ := p; dsimp only [Pt.val] at kP0 hHS0 HFW HLO HFN ⊢; obtain ⟨B, hB⟩ : ∃ B, w.heap.size = B := ⟨_, rfl⟩; have HBQ := Lib.hid hB
  go_enter Try.func7, Try.ntmps7
  go_wp2_with fail
  generalize w.alloc (.cells #[.int .i64 px, .int .i64 py] 46) = wS at *; rw [hB] at kP0; clear hB; refine HFW.out.mono ?_; rintro e w1 ⟨fs, v, rfl, hO, hT, hP, hb1⟩; obtain ⟨s1, s2, s3, s4, s5⟩ := few_13 hP Pt.Wf (fun f hf => HWF.out f hf); obtain ⟨a1, c1, rfl, hc1, hc2, hc3, hR1, -⟩ := hO.form; have hOK : ∀ f ∈ fs, f.Ok w1 := fun f hf => (hT f hf).1; have HV := Lib.hid (fun W (hW : Below w1.heap.size w1 W) => valid_any a1 c1 fs (by omega) (by omega) (by rw [allEd_len]; omega) (by omega) (fun f hf r hr => by have := (s2 f hf).2.2 r hr; omega) (fun f hf => by have := s2 f hf; omega) s5 W (hR1.keep hW) (fun f hf => (hOK f hf).keep hW)); have HLW := Lib.hid (fun W (hW : Below w1.heap.size w1 W) => HLO.out a1 c1 fs (by omega) (fun f hf => by have := s2 f hf; exact ⟨by omega, fun r hr => by have := this.2.2 r hr; omega⟩) W (hR1.keep hW) (fun f hf => (hOK f hf).keep hW)); have HWI := Lib.hid (fun f (hf : f ∈ fs) W (hW : Below w1.heap.size w1 W) => HFN.out f (by have := s2 f hf; omega) (fun r hr => by have := (s2 f hf).2.2 r hr; omega) W ((hOK f hf).keep hW)); have HRR : Hid (∀ k, (h : k < fs.length) → (fs.map Fc.rings)[k]! = fs[k].rings) := Lib.hid (fun k h => by rw [getElem!_pos _ k (by simpa using h)]; simp); have HR1 := Lib.hid hR1; have hbS := hHS0.trans (hb1.mono hHS0.size); have kP1 := kP0.keep hb1; have hFL : (fs.map Fc.rings).length = fs.length := by simp
  obtain ⟨n, hn⟩ : ∃ n, fs.length = n := ⟨_, rfl⟩; have HN := Lib.hid hn; obtain ⟨RL, hRL⟩ : ∃ R, fs.map Fc.rings = R := ⟨_, rfl⟩; rw [hn] at hc1 HV HLW s1 hFL ⊢; rw [hRL] at HV HLW HRR hFL; have HFL := Lib.hid hFL; clear hO hT hP hR1 s2 s3 s4 s5 HFW HWF hn hx hOK hRL HLO HFN hb1 hHS0 kP0 hFL
  go_wp2_with fail
  refine (HV.out w1 (Below.refl _ _)).mono ?_; rintro e w2 ⟨⟨x, rfl, hx⟩, hb2⟩; have hbS2 := hbS.trans (hb2.mono hbS.size); have hvx := (validIs_iff _ _).1 hx; clear hx HV
  by_cases hx0 : x = 0
  · obtain ⟨who, hwho⟩ := once_fw (hvx.symm.trans hx0) ⟨px, py⟩; have HW := Lib.hid hwho; rw [HFL.out] at hwho; have HW2 := Lib.hid hwho; subst hx0; clear hvx hwho; have HB2 := Lib.hid hb2; clear hb2; go_wp2
    go_loopw [5, 6, 7] (fun z bb i W => ∃ (k : Nat) (y : Int) (q : Bool), k ≤ n ∧ i = .int .i64 k ∧ z = .int .i64 y ∧ bb = .bool q ∧ Hid (zAt who ⟨px, py⟩ RL k y) ∧ Hid (bAt ⟨px, py⟩ RL k q) ∧ Hid (Below w1.heap.size w1 W)) (fun _ _ i _ => n - (intOf i).toNat)
    case atStart => exact ⟨0, -1, false, by omega, rfl, rfl, rfl, Lib.hid (.inl ⟨rfl, fun a h => by omega⟩), Lib.hid (.inr ⟨rfl, fun a h => by omega⟩), HB2⟩
    case round =>
      obtain ⟨k, y, q, hk, rfl, rfl, rfl, HZ, HQ, HBK⟩ := hrel
      by_cases hkn : k < n
      · as_aux_lemma =>
        have hkn' : (k : Int) < (n : Int) := by omega
        have hkl : k < fs.length := by rw [HN.out]; exact hkn
        obtain ⟨b, o, rfl, hb, x0, x1⟩ := HR1.out.fc k hkl; have HC := Lib.hid (HWI.out _ (List.getElem_mem hkl)); have HRK := Lib.hid (HRR.out k hkl); clear HWI HRR HLW HR1; generalize fs[k] = P at *; obtain ⟨prs, pra, prc, pls, paa, pac⟩ := P; dsimp only [Fc.val, Fc.rval, Fc.aval] at x0 x1 HC; have HK1 : Hid (fwOk ⟨px, py⟩ (⟨prs, pra, prc, pls, paa, pac⟩ : Fc).rings = fwOk ⟨px, py⟩ RL[k]!) := Lib.hid (by rw [HRK.out]); have HK2 : Hid (fwF ⟨px, py⟩ (⟨prs, pra, prc, pls, paa, pac⟩ : Fc).rings = fwF ⟨px, py⟩ RL[k]!) := Lib.hid (by rw [HRK.out]); rw [HK1.out, HK2.out] at HC; generalize prs.length = PN at *; generalize pls.length = PL at *; obtain ⟨OB, hob⟩ : ∃ q, fwOk ⟨px, py⟩ RL[k]! = q := ⟨_, rfl⟩; obtain ⟨NB, hnb⟩ : ∃ q, fwF ⟨px, py⟩ RL[k]! = q := ⟨_, rfl⟩; have HOB := Lib.hid hob; have HNB : Hid (OB = true → NB = if some k = who then 1 else 0) := Lib.hid (fun h => by rw [← hnb]; exact HW2.out k hkn (hob.trans h)); rw [hob, hnb] at HC; clear hob hnb HK1 HK2 HRK
        go_wp2_with fail
        refine wp_region_lit_txt [0, 1, 2, 3, 4, 6, 7, 8, 9, 10] (fun W => Below w1.heap.size w1 W) (by kernel_rfl) (by kernel_rfl) (by kernel_rfl) HBK.out.drew ?_; have hbd := HBK.out.drew; generalize wr.drew = W0 at *
        iterate 3 ((refine txt_light ?_ rfl rfl ?_ ?_; rotate_left; · (intro w' hS; (try dsimp only at hS); go_simp; with_reducible rfl)); try simp only [Act.put, List.getElem_toArray, List.getElem_cons_succ, List.getElem_cons_zero, List.setIfInBounds_toArray, List.set_cons_zero, List.set_cons_succ])
        refine txt_light (.agg #[.slice pra PN prc, .slice paa PL pac]) rfl rfl ?_ ?_
        · intro w' hS; have c7 := (hS.cell (p := ⟨b, o + k * 2, none⟩) hb).trans x0; have c8 := (hS.cell (p := ⟨b, o + k * 2 + 1, none⟩) hb).trans x1; clear hS; go_simp
        try simp only [Act.put, List.getElem_toArray, List.getElem_cons_succ, List.getElem_cons_zero, List.setIfInBounds_toArray, List.set_cons_zero, List.set_cons_succ]
        refine txt_light (.agg #[.int .i64 px, .int .i64 py]) rfl rfl ?_ ?_
        · intro w' hS; have c7 := (kP1.keep hS).cell 0 rfl; have c8 := (kP1.keep hS).cell 1 rfl; clear hS; go_simp
        try simp only [Act.put, List.getElem_toArray, List.getElem_cons_succ, List.getElem_cons_zero, List.setIfInBounds_toArray, List.set_cons_zero, List.set_cons_succ]
        refine txt_heavy rfl rfl (fun K hK => ?_); go_step; refine (HC.out W0 hbd).mono ?_; rintro e W1 ⟨rfl, hx1⟩; have hbe := hbd.trans (hx1.mono hbd.size); refine hK.out _ _ hbe ?_; clear hK K
        try simp only [Act.put, List.getElem_toArray, List.getElem_cons_succ, List.getElem_cons_zero, List.setIfInBounds_toArray, List.set_cons_zero, List.set_cons_succ]
        iterate 5 ((refine txt_light ?_ rfl rfl ?_ ?_; rotate_left; · (intro w' hS; (try dsimp only at hS); go_simp; with_reducible rfl)); try simp only [Act.put, List.getElem_toArray, List.getElem_cons_succ, List.getElem_cons_zero, List.setIfInBounds_toArray, List.set_cons_zero, List.set_cons_succ])
        refine txt_nil ?_; clear x0 x1 HC
        cases OB with
        | false =>
          have HZ2 := Lib.hid (zAt_bad HZ.out (.inl HOB.out)); have HQ2 := Lib.hid (bAt_bad HOB.out); go_wp2; exact ⟨⟨k + 1, y, true, by omega, by go_num, by go_num, by go_num, HZ2, HQ2, Lib.hid hbe⟩, by simp [intOf]; omega⟩
        | true =>
          have HQ2 := Lib.hid (bAt_good HQ.out HOB.out); have hnb := HNB.out rfl
          by_cases hw : some k = who
          · rw [if_pos hw] at hnb; subst hnb; obtain ⟨hy1, hz2⟩ := zAt_new HZ.out hw HOB.out; subst hy1; have HZ2 := Lib.hid hz2; clear hz2 hw; go_wp2; exact ⟨⟨k + 1, k, q, by omega, by go_num, by go_num, by go_num, HZ2, HQ2, Lib.hid hbe⟩, by simp [intOf]; omega⟩
          · rw [if_neg hw] at hnb; subst hnb; have HZ2 := Lib.hid (zAt_bad HZ.out (.inr hw)); clear hw; go_wp2; exact ⟨⟨k + 1, y, q, by omega, by go_num, by go_num, by go_num, HZ2, HQ2, Lib.hid hbe⟩, by simp [intOf]; omega⟩
      · obtain rfl : n = k := by omega
        have hkn' : ¬ (n : Int) < (n : Int) := by omega
        have p0 := (kP1.keep HBK.out).cell 0 rfl; have p1 := (kP1.keep HBK.out).cell 1 rfl; have hbS3 := hbS.trans (HBK.out.mono hbS.size)
        go_wp2_with fail
        refine (HLW.out _ HBK.out).mono ?_; rintro e w3 ⟨⟨u, rfl, hu⟩, hb3⟩; have hbS4 := hbS3.trans (hb3.mono hbS3.size)
        cases q with
        | false =>
          have hxy : u = y := loc_in HW.out hu (by rw [HFL.out]; exact HZ.out) (by rw [HFL.out]; exact HQ.out); subst hxy; clear hu HW HW2 HZ HQ
          go_wp2_with fail
          refine (known13 w3).mono ?_; rintro e w4 ⟨rfl, hb4⟩; have hbS5 := hbS4.trans (hb4.mono hbS4.size); go_wp2; go_ret; exact ⟨rfl, hbS5⟩
        | true =>
          have huu := loc_out hu (by rw [HFL.out]; exact HQ.out); clear hu HW HW2 HZ HQ
          go_wp2_with fail
          refine (known13 w3).mono ?_; rintro e w4 ⟨rfl, hb4⟩; have hbS5 := hbS4.trans (hb4.mono hbS4.size)
          rcases huu with rfl | rfl
          · go_wp2; go_ret; exact ⟨rfl, hbS5⟩
          · go_wp2; go_ret; exact ⟨rfl, hbS5⟩
  · have hx0' : (x != 0) = true := by simp [hx0]
    clear hvx hx0
    go_wp2_with fail
    refine (known13 w2).mono ?_; rintro e w3 ⟨rfl, hb3⟩; have hbS3 := hbS2.trans (hb3.mono hbS2.size); go_wp2; go_ret; exact ⟨rfl, hbS3⟩
theorem conce_law {w : World} (a : Option Addr) (c : Nat) (X : List Fc) (hl : X.length ≤ c) (hm : c ≤ maxLen) (hn : a = none → c = 0) (hr : Rd w a (fcs X)) (hx : ∀ y ∈ X, FcIn w y) (p : Pt) {Q : Prop} (hp : Q) :
    Calls Try.prog 7 #[.slice a X.length c, p.val] w fun e w' => e = .returned (.bool true) ∧ Below w.heap.size w w' :=
  conce_walk a c X hl hm p w hr hx
end Go.Proofs.Ytccamjnomjcchaa
