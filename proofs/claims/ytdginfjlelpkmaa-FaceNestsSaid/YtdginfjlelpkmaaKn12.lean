/-
  The example of chapter 12.
-/
import Derived.Test.YtdginfjlelpkmaaFc
import Derived.Test.YtdginfjlelpkmaaReg
import Derived.Test.YtdginfjlelpkmaaProw
set_option linter.unusedVariables false
set_option linter.unusedSimpArgs false
set_option maxRecDepth 100000
namespace Go.Proofs.Ytdginfjlelpkmaa
open Go.RowKit
set_option maxHeartbeats 1600000 in
theorem box_left (w : World) :
    Calls Try.prog 30 #[.int .i64 0, .int .i64 0, .int .i64 9, .bool true] w fun e w' => ∃ p, e = .returned (.slice p 4 4) ∧ Rd w' p (pts [⟨0, 0⟩, ⟨9, 0⟩, ⟨9, 9⟩, ⟨0, 9⟩]) ∧ Below w.heap.size w w' := by
  go_enter Try.func30, Try.ntmps30
  go_wp2
  go_ret
  exact ⟨_, rfl, Rd.lit _ _ [.int .i64 0, .int .i64 0, .int .i64 9, .int .i64 0, .int .i64 9, .int .i64 9, .int .i64 0, .int .i64 9] _ (by simp), (Below.refl _ _).alloc (Nat.le_refl _) _⟩
set_option maxHeartbeats 1600000 in
theorem box_right (w : World) :
    Calls Try.prog 30 #[.int .i64 3, .int .i64 3, .int .i64 2, .bool false] w fun e w' => ∃ p, e = .returned (.slice p 4 4) ∧ Rd w' p (pts [⟨3, 3⟩, ⟨3, 5⟩, ⟨5, 5⟩, ⟨5, 3⟩]) ∧ Below w.heap.size w w' := by
  go_enter Try.func30, Try.ntmps30
  go_wp2
  have HB : Below w.heap.size w (w.alloc (.cells (#[.int .i64 3, .int .i64 3, .int .i64 5, .int .i64 3, .int .i64 5, .int .i64 5, .int .i64 3, .int .i64 5] : Array Value) 37)).drew := ((Below.refl w.heap.size w).alloc (Nat.le_refl _) (.cells #[.int .i64 3, .int .i64 3, .int .i64 5, .int .i64 3, .int .i64 5, .int .i64 5, .int .i64 3, .int .i64 5] 37)).drew
  have k0 : Blk (w.alloc (.cells (#[.int .i64 3, .int .i64 3, .int .i64 5, .int .i64 3, .int .i64 5, .int .i64 5, .int .i64 3, .int .i64 5] : Array Value) 37)).drew w.heap.size [.int .i64 3, .int .i64 3, .int .i64 5, .int .i64 3, .int .i64 5, .int .i64 5, .int .i64 3, .int .i64 5] := Blk.lit w _ [.int .i64 3, .int .i64 3, .int .i64 5, .int .i64 3, .int .i64 5, .int .i64 5, .int .i64 3, .int .i64 5] 37 rfl
  obtain ⟨B, hBl⟩ : ∃ B, w.heap.size = B := ⟨_, rfl⟩
  rw [hBl] at k0 HB ⊢
  have b0 := k0.cell 6 (v := .int .i64 3) rfl
  have b1 := k0.cell 7 (v := .int .i64 5) rfl
  refine wp_region_lit_txtZ (some 11) [0, 1, 2, 3, 4, 5, 6, 8, 10] (fun W => W.cell? ⟨B, 6, none⟩ = some (.int .i64 3) ∧ W.cell? ⟨B, 7, none⟩ = some (.int .i64 5)) (by kernel_rfl) (by kernel_rfl) (by kernel_rfl) (by kernel_rfl) ⟨b0, b1⟩ ?_
  generalize (w.alloc (.cells (#[.int .i64 3, .int .i64 3, .int .i64 5, .int .i64 3, .int .i64 5, .int .i64 5, .int .i64 3, .int .i64 5] : Array Value) 37)).drew = W0 at *
  have HE := Lib.hid hBl
  clear hBl
  (refine txt_light ?_ rfl rfl ?_ ?_; rotate_left; · (intro w' hS; (try dsimp only at hS); go_simp; with_reducible rfl)); try simp only [Act.put, List.setIfInBounds_toArray, List.set_cons_zero, List.set_cons_succ]
  (refine txt_light ?_ rfl rfl ?_ ?_; rotate_left; · (intro w' hS; (try dsimp only at hS); go_simp; with_reducible rfl)); try simp only [Act.put, List.setIfInBounds_toArray, List.set_cons_zero, List.set_cons_succ]
  (refine txt_light ?_ rfl rfl ?_ ?_; rotate_left; · (intro w' hS; (try dsimp only at hS); go_simp; with_reducible rfl)); try simp only [Act.put, List.setIfInBounds_toArray, List.set_cons_zero, List.set_cons_succ]
  (refine txt_light ?_ rfl rfl ?_ ?_; rotate_left; · (intro w' hS; (try dsimp only at hS); go_simp; with_reducible rfl)); try simp only [Act.put, List.setIfInBounds_toArray, List.set_cons_zero, List.set_cons_succ]
  refine txt_light (.agg #[.int .i64 3, .int .i64 5]) rfl rfl ?_ ?_
  · intro w' hS
    obtain ⟨s0, s1⟩ := hS
    go_simp
  try simp only [Act.put, List.setIfInBounds_toArray, List.set_cons_zero, List.set_cons_succ]
  (refine txt_light ?_ rfl rfl ?_ ?_; rotate_left; · (intro w' hS; (try dsimp only at hS); go_simp; with_reducible rfl)); try simp only [Act.put, List.setIfInBounds_toArray, List.set_cons_zero, List.set_cons_succ]
  (refine txt_light ?_ rfl rfl ?_ ?_; rotate_left; · (intro w' hS; (try dsimp only at hS); go_simp; with_reducible rfl)); try simp only [Act.put, List.setIfInBounds_toArray, List.set_cons_zero, List.set_cons_succ]
  have c0 := k0.cell 2 (v := .int .i64 5) rfl
  have c1 := k0.cell 3 (v := .int .i64 3) rfl
  refine txt_heavy rfl rfl (fun K hK => ?_)
  go_step
  refine hK.out _ _ ⟨b0, b1⟩ ?_
  clear hK K
  try simp only [Act.put, List.setIfInBounds_toArray, List.set_cons_zero, List.set_cons_succ]
  (refine txt_light ?_ rfl rfl ?_ ?_; rotate_left; · (intro w' hS; (try dsimp only at hS); go_simp; with_reducible rfl)); try simp only [Act.put, List.setIfInBounds_toArray, List.set_cons_zero, List.set_cons_succ]
  refine txt_heavy rfl rfl (fun K hK => ?_)
  have f0 := k0.free 2
  have f1 := k0.free 3
  have f1b := (k0.set 2 (.int .i64 3)).free 3
  go_step
  have k1 := (k0.set 2 (.int .i64 3)).set 3 (.int .i64 5)
  have HB1 := (HB.setCell (p := ⟨B, 2, none⟩) (Nat.le_refl B) (.int .i64 3)).setCell (p := ⟨B, 3, none⟩) (Nat.le_refl B) (.int .i64 5)
  have r0 := k1.cell 6 (v := .int .i64 3) rfl
  have r1 := k1.cell 7 (v := .int .i64 5) rfl
  refine hK.out _ _ ⟨r0, r1⟩ ?_
  clear hK K f0 f1 f1b
  generalize (W0.setCell ⟨B, 2, none⟩ (.int .i64 3)).setCell ⟨B, 3, none⟩ (.int .i64 5) = W1 at *
  try simp only [Act.put, List.setIfInBounds_toArray, List.set_cons_zero, List.set_cons_succ]
  (refine txt_light ?_ rfl rfl ?_ ?_; rotate_left; · (intro w' hS; (try dsimp only at hS); go_simp; with_reducible rfl)); try simp only [Act.put, List.setIfInBounds_toArray, List.set_cons_zero, List.set_cons_succ]
  have f0 := k1.free 6
  have f1 := k1.free 7
  have f1b := (k1.set 6 (.int .i64 5)).free 7
  refine txt_last rfl rfl rfl (fun K hK => ?_)
  go_step
  have k2 := (k1.set 6 (.int .i64 5)).set 7 (.int .i64 3)
  have HB2 := (HB1.setCell (p := ⟨B, 6, none⟩) (Nat.le_refl B) (.int .i64 5)).setCell (p := ⟨B, 7, none⟩) (Nat.le_refl B) (.int .i64 3)
  refine hK.out _ _ ?_
  clear hK K
  refine txt_nil ?_
  generalize (W1.setCell ⟨B, 6, none⟩ (.int .i64 5)).setCell ⟨B, 7, none⟩ (.int .i64 3) = W2 at *
  go_wp2
  go_ret
  exact ⟨_, rfl, Rd.of_blk k2, by rw [HE.out]; exact HB2⟩
end Go.Proofs.Ytdginfjlelpkmaa
