/-
  slices.Reverse of points; ring.Turned.
-/
import Derived.Test.YtebplobagmjfeaaProw
import Derived.Test.YtebplobagmjfeaaReg
import Derived.Test.YtebplobagmjfeaaPclone
set_option linter.unusedVariables false
set_option linter.unusedSimpArgs false
set_option maxRecDepth 100000
namespace Go
open Go.RowKit
/-- The places from k on, n of them: the first t and the last t changed for one another. -/
def swpR (R : List Pt) (k n t : Nat) : List Pt := (List.range R.length).map fun p => if k ≤ p ∧ p < k + n ∧ (p < k + t ∨ k + (n - t) ≤ p) then R[k + (n - 1 - (p - k))]! else R[p]!
theorem swpR_len (R : List Pt) (k n t : Nat) : (swpR R k n t).length = R.length := by simp [swpR]
theorem swpR_zero (R : List Pt) (k n : Nat) : swpR R k n 0 = R := by
  apply List.ext_getElem
  · exact swpR_len _ _ _ _
  · intro i h1 h2
    simp only [swpR, List.getElem_map, List.getElem_range]
    rw [if_neg (by omega), getElem!_pos R i h2]
theorem swpR_get (R : List Pt) (k n t p : Nat) (hp : p < R.length) (h1 : k + t ≤ p) (h2 : p < k + (n - t)) : (swpR R k n t)[p]! = R[p]! := by
  rw [getElem!_pos _ p (by rw [swpR_len]; exact hp)]
  simp only [swpR, List.getElem_map, List.getElem_range]
  rw [if_neg (by omega)]
theorem swpR_step (R : List Pt) (k n t : Nat) (hn : k + n ≤ R.length) (ht : t + 1 < n - t) : ((swpR R k n t).set (k + t) R[k + (n - 1 - t)]!).set (k + (n - 1 - t)) R[k + t]! = swpR R k n (t + 1) := by
  apply List.ext_getElem
  · simp [swpR_len]
  · intro i h1 h2
    rw [swpR_len] at h2
    rw [List.getElem_set, List.getElem_set]
    simp only [swpR, List.getElem_map, List.getElem_range]
    by_cases e1 : k + (n - 1 - t) = i
    · rw [if_pos e1, if_pos (by omega)]
      congr 1; omega
    · rw [if_neg e1]
      by_cases e2 : k + t = i
      · rw [if_pos e2, if_pos (by omega)]
        congr 1; omega
      · rw [if_neg e2]
        by_cases e3 : k ≤ i ∧ i < k + n ∧ (i < k + t ∨ k + (n - t) ≤ i)
        · rw [if_pos e3, if_pos (by omega)]
        · rw [if_neg e3, if_neg (by omega)]
theorem swpR_turned (p : Pt) (l : List Pt) (t : Nat) (ht : ¬ (t + 1 < l.length - t)) (h2 : 2 * t ≤ l.length) : swpR (p :: l) 1 l.length t = p :: l.reverse := by
  apply List.ext_getElem
  · simp [swpR_len]
  · intro i h1 h3
    rw [swpR_len] at h1
    simp only [swpR, List.getElem_map, List.getElem_range]
    cases i with
    | zero => rw [if_neg (by omega)]; rfl
    | succ i =>
      have hi : i < l.length := by simpa using h1
      rw [List.getElem_cons_succ, List.getElem_reverse]
      by_cases e : 1 ≤ i + 1 ∧ i + 1 < 1 + l.length ∧ (i + 1 < 1 + t ∨ 1 + (l.length - t) ≤ i + 1)
      · rw [if_pos e, getElem!_pos (p :: l) _ (by simp; omega)]
        have : 1 + (l.length - 1 - (i + 1 - 1)) = (l.length - 1 - i) + 1 := by omega
        simp only [this, List.getElem_cons_succ]
      · rw [if_neg e, getElem!_pos (p :: l) (i + 1) h1, List.getElem_cons_succ]
        congr 1; omega
theorem pts_put (R : List Pt) (TL : List Value) (i : Nat) (hi : i < R.length) (p : Pt) :
    ((pts R ++ TL).set (i * 2) (.int .i64 p.x)).set (i * 2 + 1) (.int .i64 p.y) = pts (R.set i p) ++ TL := by
  have hR : R = R.take i ++ R[i] :: R.drop (i + 1) := by rw [← List.drop_eq_getElem_cons hi, List.take_append_drop]
  have hS : R.set i p = (R.take i ++ [p]) ++ R.drop (i + 1) := by
    rw [List.set_eq_take_append_cons_drop, if_pos hi]; simp
  rw [hS]
  have := row_set (R.take i) (R.drop (i + 1)) R[i] p TL i (by simp; omega)
  rw [← hR] at this
  exact this
theorem grown_seti (w : World) (B i : Nat) (v : Value) : w.grownBy (w.setCell ⟨B, i, none⟩ v) (some B) :=
  ⟨rfl, rfl, rfl, by simp [World.setCell], fun k _ hk => Below.heap_setCell w ⟨B, i, none⟩ v k (fun e => hk (by rw [e]))⟩
theorem grownBy_refl_drew (w : World) {r : Option Nat} : w.grownBy w.drew r := ⟨rfl, rfl, rfl, Nat.le_refl _, fun _ _ _ => rfl⟩
end Go
namespace Go.Proofs.Ytebplobagmjfeaa
open Go.RowKit

set_option maxHeartbeats 3200000 in
theorem reverse_any (g k n c : Nat) (R : List Pt) (TL : List Value) (hn : k + n ≤ R.length) (hR : R.length ≤ 1000000) (w : World) (hg : w.heap[g]? = some (.cells (pts R ++ TL).toArray 37 (0, 0))) :
    Calls Try.prog 46 #[.slice (some ⟨g, k * 2, none⟩) n c] w fun e w' => e = .returned (.tuple #[]) ∧ (∃ t, 2 * t ≤ n ∧ ¬ (t + 1 < n - t) ∧ w'.heap[g]? = some (.cells (pts (swpR R k n t) ++ TL).toArray 37 (0, 0))) ∧ w.grownBy w' (some g) := by
  go_enter Try.func46, Try.ntmps46
  go_wp2
  go_loopw [2, 3] (fun i j wr => ∃ t : Nat, 2 * t ≤ n ∧ i = .int .i64 t ∧ j = .int .i64 ((n : Int) - 1 - (t : Int)) ∧ Hid (wr.heap[g]? = some (.cells (pts (swpR R k n t) ++ TL).toArray 37 (0, 0))) ∧ w.grownBy wr (some g)) (fun i _ _ => n - (intOf i).toNat)
  case atStart => exact ⟨0, by omega, rfl, by first | rfl | (simp; done) | go_num, Lib.hid (by rw [swpR_zero]; exact hg), World.grownBy.refl _ _⟩
  case round =>
    obtain ⟨t, ht, rfl, rfl, HG, hgr⟩ := hrel
    by_cases hlt : t + 1 < n - t
    · obtain ⟨J, hJ⟩ : ∃ J : Nat, n - 1 - t = J := ⟨_, rfl⟩
      have hJi : (n : Int) - 1 - (t : Int) = (J : Int) := by omega
      have hJt : (t : Int) < (J : Int) := by omega
      have HST := Lib.hid (swpR_step R k n t hn hlt)
      have hL := swpR_len R k n t
      have g1 := swpR_get R k n t (k + t) (by omega) (by omega) (by omega)
      have g2 := swpR_get R k n t (k + J) (by omega) (by omega) (by omega)
      rw [hJ] at HST
      have HL := Lib.hid hL
      obtain ⟨a0, a1⟩ := cellP HG.out (k + t) (by omega)
      obtain ⟨b0, b1⟩ := cellP HG.out (k + J) (by omega)
      rw [g1] at a0 a1
      rw [g2] at b0 b1
      have HB : Hid (Blk wr g (pts (swpR R k n t) ++ TL)) := Lib.hid ⟨_, HG.out⟩
      generalize swpR R k n t = L at *
      generalize R[k + t]! = p at *
      generalize R[k + J]! = q at *
      obtain ⟨px, py⟩ := p
      obtain ⟨qx, qy⟩ := q
      dsimp only at a0 a1 b0 b1
      have hJn : (J : Int) < (n : Int) ∧ 0 ≤ (J : Int) := by omega
      have htn : (t : Int) < (n : Int) := by omega
      have e1 : (k + t) * 2 = k * 2 + t * 2 := by omega
      have e2 : (k + J) * 2 = k * 2 + J * 2 := by omega
      have E1 := Lib.hid e1
      have E2 := Lib.hid e2
      rw [e1] at a0 a1
      rw [e2] at b0 b1
      rw [hJi]
      have G2 := Lib.hid g2
      clear g1 g2 hL e1 e2
      go_wp2_with fail
      have HG0 : wr.drew.heap[g]? = some (.cells (pts L ++ TL).toArray 37 (0, 0)) := HG.out
      have hgr0 : w.grownBy wr.drew (some g) := hgr.trans (grownBy_refl_drew wr)
      have a0 : wr.drew.cell? ⟨g, k * 2 + t * 2, none⟩ = some (.int .i64 px) := a0
      have a1 : wr.drew.cell? ⟨g, k * 2 + t * 2 + 1, none⟩ = some (.int .i64 py) := a1
      have b0 : wr.drew.cell? ⟨g, k * 2 + J * 2, none⟩ = some (.int .i64 qx) := b0
      have b1 : wr.drew.cell? ⟨g, k * 2 + J * 2 + 1, none⟩ = some (.int .i64 qy) := b1
      refine wp_region_lit_txtZ (some 15) [0, 1, 2, 3, 4, 5, 6, 7, 8, 9, 10, 12, 14] (fun W => W.cell? ⟨g, k * 2 + J * 2, none⟩ = some (.int .i64 qx) ∧ W.cell? ⟨g, k * 2 + J * 2 + 1, none⟩ = some (.int .i64 qy)) (by kernel_rfl) (by kernel_rfl) (by kernel_rfl) (by kernel_rfl) ⟨b0, b1⟩ ?_
      generalize wr.drew = W0 at *
      (refine txt_light ?_ rfl rfl ?_ ?_; rotate_left; · (intro w' hS; (try dsimp only at hS); go_simp; with_reducible rfl)); try simp only [Act.put, List.setIfInBounds_toArray, List.set_cons_zero, List.set_cons_succ]
      (refine txt_light ?_ rfl rfl ?_ ?_; rotate_left; · (intro w' hS; (try dsimp only at hS); go_simp; with_reducible rfl)); try simp only [Act.put, List.setIfInBounds_toArray, List.set_cons_zero, List.set_cons_succ]
      (refine txt_light ?_ rfl rfl ?_ ?_; rotate_left; · (intro w' hS; (try dsimp only at hS); go_simp; with_reducible rfl)); try simp only [Act.put, List.setIfInBounds_toArray, List.set_cons_zero, List.set_cons_succ]
      (refine txt_light ?_ rfl rfl ?_ ?_; rotate_left; · (intro w' hS; (try dsimp only at hS); go_simp; with_reducible rfl)); try simp only [Act.put, List.setIfInBounds_toArray, List.set_cons_zero, List.set_cons_succ]
      (refine txt_light ?_ rfl rfl ?_ ?_; rotate_left; · (intro w' hS; (try dsimp only at hS); go_simp; with_reducible rfl)); try simp only [Act.put, List.setIfInBounds_toArray, List.set_cons_zero, List.set_cons_succ]
      (refine txt_light ?_ rfl rfl ?_ ?_; rotate_left; · (intro w' hS; (try dsimp only at hS); go_simp; with_reducible rfl)); try simp only [Act.put, List.setIfInBounds_toArray, List.set_cons_zero, List.set_cons_succ]
      (refine txt_light ?_ rfl rfl ?_ ?_; rotate_left; · (intro w' hS; (try dsimp only at hS); go_simp; with_reducible rfl)); try simp only [Act.put, List.setIfInBounds_toArray, List.set_cons_zero, List.set_cons_succ]
      refine txt_light (.agg #[.int .i64 qx, .int .i64 qy]) rfl rfl ?_ ?_
      · intro w' hS
        obtain ⟨s0, s1⟩ := hS
        go_simp
      try simp only [Act.put, List.setIfInBounds_toArray, List.set_cons_zero, List.set_cons_succ]
      (refine txt_light ?_ rfl rfl ?_ ?_; rotate_left; · (intro w' hS; (try dsimp only at hS); go_simp; with_reducible rfl)); try simp only [Act.put, List.setIfInBounds_toArray, List.set_cons_zero, List.set_cons_succ]
      (refine txt_light ?_ rfl rfl ?_ ?_; rotate_left; · (intro w' hS; (try dsimp only at hS); go_simp; with_reducible rfl)); try simp only [Act.put, List.setIfInBounds_toArray, List.set_cons_zero, List.set_cons_succ]
      (refine txt_light ?_ rfl rfl ?_ ?_; rotate_left; · (intro w' hS; (try dsimp only at hS); go_simp; with_reducible rfl)); try simp only [Act.put, List.setIfInBounds_toArray, List.set_cons_zero, List.set_cons_succ]
      refine txt_heavy rfl rfl (fun K hK => ?_)
      go_step
      refine hK.out _ _ ⟨b0, b1⟩ ?_
      clear hK K
      try simp only [Act.put, List.setIfInBounds_toArray, List.set_cons_zero, List.set_cons_succ]
      (refine txt_light ?_ rfl rfl ?_ ?_; rotate_left; · (intro w' hS; (try dsimp only at hS); go_simp; with_reducible rfl)); try simp only [Act.put, List.setIfInBounds_toArray, List.set_cons_zero, List.set_cons_succ]
      refine txt_heavy rfl rfl (fun K hK => ?_)
      have kb : Blk W0 g (pts L ++ TL) := ⟨_, HG0⟩
      have f0 := kb.free (k * 2 + t * 2)
      have f1 := kb.free (k * 2 + t * 2 + 1)
      have f1b := (kb.set (k * 2 + t * 2) (.int .i64 qx)).free (k * 2 + t * 2 + 1)
      go_step
      have hg1 := blkT_set (blkT_set HG0 (k * 2 + t * 2) (.int .i64 qx)) (k * 2 + t * 2 + 1) (.int .i64 qy)
      rw [← E1.out, show (Value.int IntKind.i64 qx) = .int .i64 (⟨qx, qy⟩ : Pt).x from rfl, show (Value.int IntKind.i64 qy) = .int .i64 (⟨qx, qy⟩ : Pt).y from rfl, pts_put L TL (k + t) (by rw [HL.out]; omega) ⟨qx, qy⟩] at hg1
      dsimp only at hg1
      rw [E1.out] at hg1
      have hgr1 := (hgr0.trans (grown_seti W0 g (k * 2 + t * 2) (.int .i64 qx))).trans (grown_seti _ g (k * 2 + t * 2 + 1) (.int .i64 qy))
      obtain ⟨r0, r1⟩ := cellP hg1 (k + J) (by rw [List.length_set, HL.out]; omega)
      have hx : (L.set (k + t) ⟨qx, qy⟩)[k + J]! = ⟨qx, qy⟩ := by rw [getElem!_pos _ _ (by rw [List.length_set, HL.out]; omega), List.getElem_set_ne (by omega), ← getElem!_pos L (k + J) (by rw [HL.out]; omega)]; exact G2.out
      rw [hx, E2.out] at r0 r1
      dsimp only at r0 r1
      refine hK.out _ _ ⟨r0, r1⟩ ?_
      clear hK K f0 f1 f1b kb
      generalize (W0.setCell ⟨g, k * 2 + t * 2, none⟩ (.int .i64 qx)).setCell ⟨g, k * 2 + t * 2 + 1, none⟩ (.int .i64 qy) = W1 at *
      try simp only [Act.put, List.setIfInBounds_toArray, List.set_cons_zero, List.set_cons_succ]
      (refine txt_light ?_ rfl rfl ?_ ?_; rotate_left; · (intro w' hS; (try dsimp only at hS); go_simp; with_reducible rfl)); try simp only [Act.put, List.setIfInBounds_toArray, List.set_cons_zero, List.set_cons_succ]
      have kb : Blk W1 g (pts (L.set (k + t) ⟨qx, qy⟩) ++ TL) := ⟨_, hg1⟩
      have f0 := kb.free (k * 2 + J * 2)
      have f1 := kb.free (k * 2 + J * 2 + 1)
      refine txt_last rfl rfl rfl (fun K hK => ?_)
      go_step
      have hg2 := blkT_set (blkT_set hg1 (k * 2 + J * 2) (.int .i64 px)) (k * 2 + J * 2 + 1) (.int .i64 py)
      rw [← E2.out, show (Value.int IntKind.i64 px) = .int .i64 (⟨px, py⟩ : Pt).x from rfl, show (Value.int IntKind.i64 py) = .int .i64 (⟨px, py⟩ : Pt).y from rfl, pts_put _ TL (k + J) (by rw [List.length_set, HL.out]; omega) ⟨px, py⟩, HST.out] at hg2
      dsimp only at hg2
      rw [E2.out] at hg2
      have hgr2 := (hgr1.trans (grown_seti W1 g (k * 2 + J * 2) (.int .i64 px))).trans (grown_seti _ g (k * 2 + J * 2 + 1) (.int .i64 py))
      refine hK.out _ _ ?_
      clear hK K
      refine txt_nil ?_
      generalize (W1.setCell ⟨g, k * 2 + J * 2, none⟩ (.int .i64 px)).setCell ⟨g, k * 2 + J * 2 + 1, none⟩ (.int .i64 py) = W2 at *
      clear a0 a1 b0 b1 r0 r1 f0 f1 hgr hgr0 hgr1
      go_wp2
      exact ⟨⟨t + 1, by omega, by go_num, val_int (by omega), Lib.hid hg2, hgr2⟩, by simp [intOf]; omega⟩
    · have HGR := Lib.hid hgr
      clear hgr
      go_wp2
      exact ⟨rfl, .tuple #[], by simp [results, Try.results46, go_sem], rfl, ⟨t, ht, hlt, HG.out⟩, HGR.out⟩
end Go.Proofs.Ytebplobagmjfeaa
