/-
  graticuleref16.World, Point.
-/
import Derived.Test.YtmmhkageehlknaaRrnd
import Derived.Test.YtmmhkageehlknaaZrlines
set_option linter.unusedVariables false
set_option linter.unusedSimpArgs false
set_option maxRecDepth 100000
namespace Go
open Go.RowKit
theorem round_shift (v z : Int) (h : levelB z = true) : roundF v (powD z) = shiftF v (powD z) := by
  have e : ∀ d : Int, 0 < d → (d = 1 ∨ d % 2 = 0) → roundF v d = shiftF v d := by
    intro d hd h2
    have e1 := Int.mul_ediv_add_emod v d
    have e2 := Int.emod_nonneg v (by omega : d ≠ 0)
    have e3 := Int.emod_lt_of_pos v hd
    have e1' : v / d * d = v - v % d := by rw [Int.mul_comm]; omega
    unfold roundF shiftF
    rw [e1']
    generalize hq : v / d = q at *
    generalize v % d = r at *
    have e4 : d * q = q * d := Int.mul_comm _ _
    by_cases hr : d - (v - (v - r)) ≤ v - (v - r)
    · rw [if_pos hr]
      symm
      rw [Int.ediv_eq_iff_of_pos hd] <;> (rw [Int.add_mul]; omega)
    · rw [if_neg hr]
      symm
      rw [Int.ediv_eq_iff_of_pos hd]; omega
  refine e _ ?_ ?_
  · rcases level_cases h with rfl | rfl | rfl | rfl | rfl <;> decide
  · rcases level_cases h with rfl | rfl | rfl | rfl | rfl <;> decide
end Go
namespace Go.Proofs.Ytmmhkageehlknaa
open Go.RowKit

set_option maxHeartbeats 1600000 in
theorem rworld_any (p : Pt) (w : World) : Calls Try.prog 12 #[p.val] w fun e w' => e = .returned (.bool (worldB p)) ∧ Below w.heap.size w w' := by
  have hL : Hid (worldB p = decide ((0 ≤ p.x ∧ p.x ≤ 65536) ∧ (0 ≤ p.y ∧ p.y ≤ 65536))) := Lib.hid rfl
  generalize worldB p = L at *
  obtain ⟨x, y⟩ := p
  dsimp only [Pt.val] at *
  have hb := Below.new w (.cells #[.int .i64 x, .int .i64 y] 31)
  have k0 := Blk.lit w w.heap.size [.int .i64 x, .int .i64 y] 31 rfl
  have c0 := k0.cell 0 rfl
  have c1 := k0.cell 1 rfl
  go_enter Try.func12, Try.ntmps12
  by_cases h1 : 0 ≤ x
  · by_cases h2 : x ≤ 65536
    · by_cases h3 : 0 ≤ y
      · by_cases h4 : y ≤ 65536
        · have hl : L = true := by rw [hL.out]; simp; omega
          subst hl
          go_wp2
          go_ret
          exact ⟨rfl, hb⟩
        · have hl : L = false := by rw [hL.out]; simp; omega
          subst hl
          go_wp2
          go_ret
          exact ⟨rfl, hb⟩
      · have hl : L = false := by rw [hL.out]; simp; omega
        subst hl
        go_wp2
        go_ret
        exact ⟨rfl, hb⟩
    · have hl : L = false := by rw [hL.out]; simp; omega
      subst hl
      go_wp2
      go_ret
      exact ⟨rfl, hb⟩
  · have hl : L = false := by rw [hL.out]; simp; omega
    subst hl
    go_wp2
    go_ret
    exact ⟨rfl, hb⟩


set_option maxHeartbeats 3200000 in
theorem rpoint_any (p : Pt) (z : Int) (hz : levelB z = true) (hp : worldB p = true) (w : World) :
    Calls Try.prog 14 #[p.val, .int .i64 z] w fun e w' => e = .returned (snapP p z).val ∧ Below w.heap.size w w' := by
  have hw : (0 ≤ p.x ∧ p.x ≤ 65536) ∧ (0 ≤ p.y ∧ p.y ≤ 65536) := by unfold worldB at hp; simpa using hp
  have hzr : 0 ≤ z ∧ z ≤ 4 := by unfold levelB at hz; simpa using hz
  obtain ⟨x, y⟩ := p
  have HRx := Lib.hid (fun w => rround_ok x (powD z) (by rcases level_cases hz with rfl | rfl | rfl | rfl | rfl <;> decide) (by dsimp only at hw; omega) w)
  have HRy := Lib.hid (fun w => rround_ok y (powD z) (by rcases level_cases hz with rfl | rfl | rfl | rfl | rfl <;> decide) (by dsimp only at hw; omega) w)
  rw [round_shift x z hz] at HRx
  rw [round_shift y z hz] at HRy
  have HP := Lib.hid (fun w => rpow_any (4 - z) (by omega) w)
  have e1 : (2 : Int) ^ (4 - z).toNat = powD z := rfl
  rw [e1] at HP
  have e2 : snapP ⟨x, y⟩ z = ⟨shiftF x (powD z), shiftF y (powD z)⟩ := rfl
  rw [e2]
  dsimp only [Pt.val]
  clear e1 e2 hw hp hz
  generalize shiftF x (powD z) = qx at *
  generalize shiftF y (powD z) = qy at *
  generalize powD z = d at *
  have ka := (Blk.lit w w.heap.size [.int .i64 x, .int .i64 y] 31 rfl).alloc (.cells #[.int .i64 0, .int .i64 0] 31)
  have kb := Blk.lit (w.alloc (.cells #[.int .i64 x, .int .i64 y] 31)) (w.heap.size + 1) [.int .i64 0, .int .i64 0] 31 (by simp)
  have hb := (Below.new w (.cells #[.int .i64 x, .int .i64 y] 31)).alloc (by simp) (.cells #[.int .i64 0, .int .i64 0] 31)
  go_enter Try.func14, Try.ntmps14
  go_wp2_with fail
  refine (HP.out _).mono ?_
  rintro e w1 ⟨rfl, rfl⟩
  generalize ((w.alloc (.cells #[.int .i64 x, .int .i64 y] 31)).alloc (.cells #[.int .i64 0, .int .i64 0] 31)) = w1 at *
  clear HP
  go_wp2
  refine wp_region_lit_txt [0, 1, 2, 4, 5, 6, 8] (fun W => Blk W w.heap.size [.int .i64 x, .int .i64 y] ∧ (∃ u v, Blk W (w.heap.size + 1) [.int .i64 u, .int .i64 v]) ∧ Below w.heap.size w W) (by kernel_rfl) (by kernel_rfl) (by kernel_rfl) ⟨ka.drew, ⟨_, _, kb.drew⟩, hb.drew⟩ ?_
  have ka := ka.drew
  have kb := kb.drew
  have hb := hb.drew
  generalize w1.drew = wa at *
  (refine txt_light ?_ rfl rfl ?_ ?_; rotate_left; · (intro w' hS; (try dsimp only at hS); go_simp; with_reducible rfl)); try simp only [Act.put, List.setIfInBounds_toArray, List.set_cons_zero, List.set_cons_succ]
  refine txt_light (.int .i64 x) rfl rfl ?_ ?_
  · intro w' hS
    have c0 := hS.1.cell 0 rfl
    go_simp
  try simp only [Act.put, List.setIfInBounds_toArray, List.set_cons_zero, List.set_cons_succ]
  (refine txt_light ?_ rfl rfl ?_ ?_; rotate_left; · (intro w' hS; (try dsimp only at hS); go_simp; with_reducible rfl)); try simp only [Act.put, List.setIfInBounds_toArray, List.set_cons_zero, List.set_cons_succ]
  refine txt_call [.int .i64 x, .int .i64 d] Try.f27 rfl rfl Try.func27 (by kernel_rfl) (by kernel_rfl) rfl ((HRx.out _).mono ?_)
  rintro e wy ⟨rfl, rfl⟩
  refine ⟨_, rfl, ⟨ka, ⟨_, _, kb⟩, hb⟩, ?_⟩
  try simp only [Act.put, List.setIfInBounds_toArray, List.set_cons_zero, List.set_cons_succ]
  (refine txt_light ?_ rfl rfl ?_ ?_; rotate_left; · (intro w' hS; (try dsimp only at hS); go_simp; with_reducible rfl)); try simp only [Act.put, List.setIfInBounds_toArray, List.set_cons_zero, List.set_cons_succ]
  refine txt_light (.int .i64 y) rfl rfl ?_ ?_
  · intro w' hS
    have c0 := hS.1.cell 1 rfl
    go_simp
  try simp only [Act.put, List.setIfInBounds_toArray, List.set_cons_zero, List.set_cons_succ]
  (refine txt_light ?_ rfl rfl ?_ ?_; rotate_left; · (intro w' hS; (try dsimp only at hS); go_simp; with_reducible rfl)); try simp only [Act.put, List.setIfInBounds_toArray, List.set_cons_zero, List.set_cons_succ]
  refine txt_call [.int .i64 y, .int .i64 d] Try.f27 rfl rfl Try.func27 (by kernel_rfl) (by kernel_rfl) rfl ((HRy.out _).mono ?_)
  rintro e wy ⟨rfl, rfl⟩
  refine ⟨_, rfl, ⟨ka, ⟨_, _, kb⟩, hb⟩, ?_⟩
  try simp only [Act.put, List.setIfInBounds_toArray, List.set_cons_zero, List.set_cons_succ]
  (refine txt_light ?_ rfl rfl ?_ ?_; rotate_left; · (intro w' hS; (try dsimp only at hS); go_simp; with_reducible rfl)); try simp only [Act.put, List.setIfInBounds_toArray, List.set_cons_zero, List.set_cons_succ]
  have f0 := kb.free 0
  have d0 := kb.cell 0 rfl
  have kb1 := kb.set 0 (.int .i64 qx)
  have f1 := kb1.free 1
  have d1 := kb1.cell 1 rfl
  have kb2 : Blk _ _ [.int .i64 qx, .int .i64 qy] := kb1.set 1 (.int .i64 qy)
  have ka2 := (ka.set_at (b' := w.heap.size + 1) (o := 0) (by omega) (.int .i64 qx)).set_at (b' := w.heap.size + 1) (o := 1) (by omega) (.int .i64 qy)
  have hb2 := (hb.setCell (p := ⟨w.heap.size + 1, 0, none⟩) (by simp) (.int .i64 qx)).setCell (p := ⟨w.heap.size + 1, 1, none⟩) (by simp) (.int .i64 qy)
  refine txt_heavy rfl rfl (fun K hK => ?_)
  go_step
  refine hK.out _ _ ⟨ka2, ⟨_, _, kb2⟩, hb2⟩ ?_
  clear hK K f0 d0 f1 d1 kb1 ka kb hb ka2
  generalize ((wa.setCell ⟨w.heap.size + 1, 0, none⟩ (.int .i64 qx)).setCell ⟨w.heap.size + 1, 1, none⟩ (.int .i64 qy)) = w2 at *
  try simp only [Act.put, List.setIfInBounds_toArray, List.set_cons_zero, List.set_cons_succ]
  refine txt_nil ?_
  have q0 := kb2.cell 0 rfl
  have q1 := kb2.cell 1 rfl
  go_wp2
  refine bodyPost_ret (v := .agg #[.int .i64 qx, .int .i64 qy]) (by simp [results, Try.results14, go_sem, q0, q1]) rfl ⟨rfl, hb2⟩
end Go.Proofs.Ytmmhkageehlknaa
