/-
  graticuleref02.Class, of points that may be, and segments with two ends.
-/
import Derived.Test.YtccamjnomjcchaaPk29
import Derived.Test.YtccamjnomjcchaaPk2
/- graticuleref02.Class, of points that may be, and segments with two ends. -/
set_option linter.unusedVariables false
set_option linter.unusedSimpArgs false
set_option maxRecDepth 100000
namespace Go
def nTo (x y : Bool) (k : Nat) : Int := if k = 0 then 0 else if k = 1 then b2i x else b2i x + b2i y
theorem nTo_two (x y : Bool) : nTo x y 2 = b2i x + b2i y := rfl
theorem b2i_bd (x : Bool) : 0 ≤ b2i x ∧ b2i x ≤ 1 := by cases x <;> decide
theorem eq_of_bools (a b : Pt) (h1 : a.x = b.x) (h2 : a.y = b.y) : a = b := by cases a; cases b; simp at *; exact ⟨h1, h2⟩
end Go
namespace Go.Proofs.Ytccamjnomjcchaa
open Go.RowKit

set_option maxHeartbeats 3200000 in
theorem rclass_any (a b c d : Pt) (oa : okPt a = true) (ob : okPt b = true) (oc : okPt c = true) (od : okPt d = true) (hab : a ≠ b) (hcd : c ≠ d) (w : World) :
    Calls Try.prog 65 #[a.val, b.val, c.val, d.val] w fun e w' => e = .returned (.int .i64 (rclsF a b c d)) ∧ Below w.heap.size w w' := by
  obtain ⟨R, hR⟩ : ∃ R, rclsF a b c d = R := ⟨_, rfl⟩; rw [hR]; have t1 := ron_any c d a oc od oa hcd; have t2 := ron_any c d b oc od ob hcd; have t3 := ron_any a b c oa ob oc hab; have t4 := ron_any a b d oa ob od hab; have z1 := rcross_any a b c oa ob oc; have z2 := rcross_any a b d oa ob od; have z3 := rcross_any c d a oc od oa; have z4 := rcross_any c d b oc od ob; unfold rclsF at hR; generalize onP c d a = O1 at *; generalize onP c d b = O2 at *; generalize onP a b c = O3 at *; generalize onP a b d = O4 at *; generalize crs a b c = X1 at *; generalize crs a b d = X2 at *; generalize crs c d a = X3 at *; generalize crs c d b = X4 at *; obtain ⟨E1, hE1⟩ : ∃ E, (decide (a = c) || decide (a = d)) = E := ⟨_, rfl⟩; obtain ⟨E2, hE2⟩ : ∃ E, (decide (b = c) || decide (b = d)) = E := ⟨_, rfl⟩; rw [hE1, hE2] at hR; obtain ⟨ax, ay⟩ := a; obtain ⟨bx, bY⟩ := b; obtain ⟨cx, cy⟩ := c; obtain ⟨dx, dy⟩ := d; simp only [Pt.mk.injEq] at hR hE1 hE2; dsimp only [Pt.val] at *; have T1 := Lib.hid t1; have T2 := Lib.hid t2; have T3 := Lib.hid t3; have T4 := Lib.hid t4; have Z1 := Lib.hid z1; have Z2 := Lib.hid z2; have Z3 := Lib.hid z3; have Z4 := Lib.hid z4; have HR := Lib.hid hR; have HE1 := Lib.hid hE1; have HE2 := Lib.hid hE2; clear t1 t2 t3 t4 z1 z2 z3 z4 hR hE1 hE2 oa ob oc od hab hcd; have k0 := ((((Blk.lit w w.heap.size [.int .i64 ax, .int .i64 ay] 73 rfl).alloc (.cells #[.int .i64 bx, .int .i64 bY] 73)).alloc (.cells #[.int .i64 cx, .int .i64 cy] 73)).alloc (.cells #[.int .i64 dx, .int .i64 dy] 73)); have k1 := (((Blk.lit (w.alloc (.cells #[.int .i64 ax, .int .i64 ay] 73)) (w.heap.size + 1) [.int .i64 bx, .int .i64 bY] 73 (by simp)).alloc (.cells #[.int .i64 cx, .int .i64 cy] 73)).alloc (.cells #[.int .i64 dx, .int .i64 dy] 73))
  have k2 := ((Blk.lit ((w.alloc (.cells #[.int .i64 ax, .int .i64 ay] 73)).alloc (.cells #[.int .i64 bx, .int .i64 bY] 73)) (w.heap.size + 1 + 1) [.int .i64 cx, .int .i64 cy] 73 (by simp)).alloc (.cells #[.int .i64 dx, .int .i64 dy] 73)); have k3 := (Blk.lit (((w.alloc (.cells #[.int .i64 ax, .int .i64 ay] 73)).alloc (.cells #[.int .i64 bx, .int .i64 bY] 73)).alloc (.cells #[.int .i64 cx, .int .i64 cy] 73)) (w.heap.size + 1 + 1 + 1) [.int .i64 dx, .int .i64 dy] 73 (by simp)); have hbl := (((Below.new w (.cells #[.int .i64 ax, .int .i64 ay] 73)).alloc (by simp) (.cells #[.int .i64 bx, .int .i64 bY] 73)).alloc (by simp; omega) (.cells #[.int .i64 cx, .int .i64 cy] 73)).alloc (by simp; omega) (.cells #[.int .i64 dx, .int .i64 dy] 73); have hs2 : ∀ {W}, Below w.heap.size w W → w.heap.size ≤ W.heap.size := fun h => h.size; have hs := hs2 hbl; obtain ⟨S0, hS0⟩ : ∃ S0, w.heap.size = S0 := ⟨_, rfl⟩; rw [hS0] at k0 k1 k2 k3
  go_enter Try.func65, Try.ntmps65
  go_step; go_step; rename_i K0 hK0; replace hK0 := Lib.hid hK0; go_wp2; refine hK0.out _ _ ?_; clear hK0; go_step; rename_i K1 hK1; have main : ¬ (((ax = cx ∧ ay = cy) ∧ bx = dx ∧ bY = dy) ∨ ((ax = dx ∧ ay = dy) ∧ bx = cx ∧ bY = cy)) → ∀ (u20 u21 u22 u23 u24 u25 u26 u27 u28 u29 u30 u31 u32 u33 u34 u35 u36 u37 : Value), K1 { tmps := List.toArray ((.agg #[.int .i64 ax, .int .i64 ay]) :: (.agg #[.int .i64 bx, .int .i64 bY]) :: (.agg #[.int .i64 cx, .int .i64 cy]) :: (.agg #[.int .i64 dx, .int .i64 dy]) :: (.pointer (some ⟨S0, 0, none⟩)) :: (.pointer (some ⟨S0 + 1, 0, none⟩)) :: (.pointer (some ⟨S0 + 1 + 1, 0, none⟩)) :: (.pointer (some ⟨S0 + 1 + 1 + 1, 0, none⟩)) :: (.int .i64 0) :: undef :: undef :: undef :: undef :: undef :: undef :: undef :: undef :: undef :: undef :: undef :: u20 :: u21 :: u22 :: u23 :: u24 :: u25 :: u26 :: u27 :: u28 :: u29 :: u30 :: u31 :: u32 :: u33 :: u34 :: u35 :: u36 :: u37 :: undef :: undef :: undef :: undef :: undef :: undef :: undef :: undef :: undef :: undef :: undef :: undef :: undef :: undef :: undef :: undef :: undef :: undef :: undef :: undef :: undef :: undef :: undef :: undef :: undef :: undef :: undef :: undef :: undef :: undef :: undef :: undef :: undef :: undef :: undef :: undef :: undef :: undef :: undef :: undef :: undef :: undef :: undef :: undef :: undef :: undef :: undef :: undef :: undef :: undef :: undef :: undef :: undef :: undef :: undef :: undef :: undef :: undef :: undef :: undef :: undef :: undef :: undef :: undef :: undef :: undef :: undef :: undef :: undef :: undef :: undef :: undef :: undef :: undef :: undef :: undef :: undef :: undef :: undef :: undef :: undef :: undef :: undef :: undef :: undef :: undef :: undef :: []), defers := [] } ((((w.alloc (.cells #[.int .i64 ax, .int .i64 ay] 73)).alloc (.cells #[.int .i64 bx, .int .i64 bY] 73)).alloc (.cells #[.int .i64 cx, .int .i64 cy] 73)).alloc (.cells #[.int .i64 dx, .int .i64 dy] 73)) := by
    intro ne u20 u21 u22 u23 u24 u25 u26 u27 u28 u29 u30 u31 u32 u33 u34 u35 u36 u37; have hR2 := HR.out; rw [if_neg ne] at hR2; have HR2 := Lib.hid hR2; clear hR2 HR ne; refine hK1 _ _ ?_; clear hK1; obtain ⟨wA, hwA⟩ : ∃ wA, ((((w.alloc (.cells #[.int .i64 ax, .int .i64 ay] 73)).alloc (.cells #[.int .i64 bx, .int .i64 bY] 73)).alloc (.cells #[.int .i64 cx, .int .i64 cy] 73)).alloc (.cells #[.int .i64 dx, .int .i64 dy] 73)) = wA := ⟨_, rfl⟩; rw [hwA] at k0 k1 k2 k3 hbl hs; have a0 := k0.cell 0 rfl; have a1 := k0.cell 1 rfl; have b0 := k1.cell 0 rfl; have b1 := k1.cell 1 rfl; have x0 := k2.cell 0 rfl; have x1 := k2.cell 1 rfl; have y0 := k3.cell 0 rfl; have y1 := k3.cell 1 rfl; rw [hwA]; clear hwA; go_wp2; have kl := Blk.new wA [.int .i64 ax, .int .i64 ay, .int .i64 bx, .int .i64 bY] 73; have k0 := k0.alloc (.cells #[.int .i64 ax, .int .i64 ay, .int .i64 bx, .int .i64 bY] 73); have k1 := k1.alloc (.cells #[.int .i64 ax, .int .i64 ay, .int .i64 bx, .int .i64 bY] 73); have k2 := k2.alloc (.cells #[.int .i64 ax, .int .i64 ay, .int .i64 bx, .int .i64 bY] 73); have k3 := k3.alloc (.cells #[.int .i64 ax, .int .i64 ay, .int .i64 bx, .int .i64 bY] 73); have hbl := hbl.alloc hs (.cells #[.int .i64 ax, .int .i64 ay, .int .i64 bx, .int .i64 bY] 73); have hs := hs2 hbl; obtain ⟨LB, hLB⟩ : ∃ B, wA.heap.size = B := ⟨_, rfl⟩; rw [hLB] at kl ⊢; generalize wA.alloc (.cells #[.int .i64 ax, .int .i64 ay, .int .i64 bx, .int .i64 bY] 73) = wAX at *; clear a0 a1 b0 b1 x0 x1 y0 y1
    go_loopw [9, 10, 12] (fun n bo i W => ∃ k : Nat, k ≤ 2 ∧ i = .int .i64 k ∧ n = .int .i64 (nTo O1 O2 k) ∧ bo = .int .i64 (nTo (O1 && E1) (O2 && E2) k) ∧ ((Blk W S0 [.int .i64 ax, .int .i64 ay] ∧ Blk W (S0 + 1) [.int .i64 bx, .int .i64 bY] ∧ Blk W (S0 + 1 + 1) [.int .i64 cx, .int .i64 cy] ∧ Blk W (S0 + 1 + 1 + 1) [.int .i64 dx, .int .i64 dy]) ∧ Blk W LB [.int .i64 ax, .int .i64 ay, .int .i64 bx, .int .i64 bY]) ∧ Below w.heap.size w W) (fun _ _ i _ => 2 - (intOf i).toNat)
    case atStart => exact ⟨0, by omega, rfl, rfl, rfl, ⟨⟨k0, k1, k2, k3⟩, kl⟩, hbl⟩
    case round =>
      clear k0 k1 k2 k3 kl hbl hs; obtain ⟨k, hk, rfl, rfl, rfl, ⟨⟨k0, k1, k2, k3⟩, kl⟩, hbl⟩ := hrel; have hs := hs2 hbl; have hk3 : k = 0 ∨ k = 1 ∨ k = 2 := by omega
      clear hk
      rcases hk3 with rfl | rfl | rfl
      · have hn1 : nTo O1 O2 1 = nTo O1 O2 0 + b2i O1 := by cases O1 <;> cases O2 <;> rfl
        have hn2 : nTo (O1 && E1) (O2 && E2) 1 = nTo (O1 && E1) (O2 && E2) 0 + b2i (O1 && E1) := by generalize (O1 && E1) = A1; generalize (O2 && E2) = A2; cases A1 <;> cases A2 <;> rfl
        have hb1 : 0 ≤ nTo O1 O2 0 ∧ nTo O1 O2 0 ≤ 2 := by cases O1 <;> cases O2 <;> decide
        have hb2 : 0 ≤ nTo (O1 && E1) (O2 && E2) 0 ∧ nTo (O1 && E1) (O2 && E2) 0 ≤ 2 := by generalize (O1 && E1) = A1; generalize (O2 && E2) = A2; cases A1 <;> cases A2 <;> decide
        have HN1 := Lib.hid hn1; have HN2 := Lib.hid hn2; clear hn1 hn2; generalize nTo O1 O2 0 = N0 at *; generalize nTo (O1 && E1) (O2 && E2) 0 = M0 at *
        go_wp2_with fail
        refine wp_region_lit_txt [0, 1, 2, 3, 4, 5] (fun W => (Blk W S0 [.int .i64 ax, .int .i64 ay] ∧ Blk W (S0 + 1) [.int .i64 bx, .int .i64 bY] ∧ Blk W (S0 + 1 + 1) [.int .i64 cx, .int .i64 cy] ∧ Blk W (S0 + 1 + 1 + 1) [.int .i64 dx, .int .i64 dy]) ∧ Blk W LB [.int .i64 ax, .int .i64 ay, .int .i64 bx, .int .i64 bY]) (by kernel_rfl) (by kernel_rfl) (by kernel_rfl) ⟨⟨k0.drew, k1.drew, k2.drew, k3.drew⟩, kl.drew⟩ ?_; have k0 := k0.drew; have k1 := k1.drew; have k2 := k2.drew; have k3 := k3.drew; have kl := kl.drew; have hbl := hbl.drew; refine txt_light (.agg #[.int .i64 cx, .int .i64 cy]) rfl rfl ?_ ?_
        · intro w' hS; have c0 := hS.1.2.2.1.cell 0 rfl; have c1 := hS.1.2.2.1.cell 1 rfl; go_simp
        try simp only [Act.put, List.setIfInBounds_toArray, List.set_cons_zero, List.set_cons_succ]
        refine txt_light (.agg #[.int .i64 dx, .int .i64 dy]) rfl rfl ?_ ?_
        · intro w' hS; have c0 := hS.1.2.2.2.cell 0 rfl; have c1 := hS.1.2.2.2.cell 1 rfl; go_simp
        try simp only [Act.put, List.setIfInBounds_toArray, List.set_cons_zero, List.set_cons_succ]
        iterate 3 ((refine txt_light ?_ rfl rfl ?_ ?_; rotate_left; · (intro w' hS; (try dsimp only at hS); go_simp; with_reducible rfl)); try simp only [Act.put, List.setIfInBounds_toArray, List.set_cons_zero, List.set_cons_succ])
        refine txt_light (.agg #[.int .i64 ax, .int .i64 ay]) rfl rfl ?_ ?_
        · intro w' hS; have c0 := hS.2.cell 0 rfl; have c1 := hS.2.cell 1 rfl; go_simp
        try simp only [Act.put, List.setIfInBounds_toArray, List.set_cons_zero, List.set_cons_succ]
        refine txt_call [.agg #[.int .i64 cx, .int .i64 cy], .agg #[.int .i64 dx, .int .i64 dy], .agg #[.int .i64 ax, .int .i64 ay]] Try.f91 rfl rfl Try.func91 (by kernel_rfl) (by kernel_rfl) rfl ((T1.out _).mono ?_); rintro e w11 ⟨rfl, hx11⟩; have k0 := k0.keep hx11; have k1 := k1.keep hx11; have k2 := k2.keep hx11; have k3 := k3.keep hx11; have kl := kl.keep hx11; have hbl := hbl.trans (hx11.mono hs); have hs := hs2 hbl; refine ⟨_, rfl, ⟨⟨k0, k1, k2, k3⟩, kl⟩, ?_⟩
        try simp only [Act.put, List.setIfInBounds_toArray, List.set_cons_zero, List.set_cons_succ]
        refine txt_nil ?_; clear hx11
        cases hO1 : O1 with
        | false =>
          go_wp2; go_roundw
          case rel => exact ⟨1, by omega, rfl, by rw [HN1.out, hO1]; simp [b2i], by rw [HN2.out, hO1]; simp [b2i], ⟨⟨k0, k1, k2, k3⟩, kl⟩, hbl⟩
          case measure => simp [intOf]
        | true =>
          have a0 := k0.cell 0 rfl; have a1 := k0.cell 1 rfl; have b0 := k1.cell 0 rfl; have b1 := k1.cell 1 rfl; have x0 := k2.cell 0 rfl; have x1 := k2.cell 1 rfl; have y0 := k3.cell 0 rfl; have y1 := k3.cell 1 rfl; have l0 := kl.cell 0 rfl; have l1 := kl.cell 1 rfl; have l2 := kl.cell 2 rfl; have l3 := kl.cell 3 rfl; have HEE := HE1.out
          by_cases g1 : ax = cx <;> by_cases g2 : ay = cy <;> by_cases g3 : ax = dx <;> by_cases g4 : ay = dy
          · have hEv : Hid (E1 = true) := Lib.hid (by rw [← HEE, (decide_eq_true (by omega) : decide (ax = cx ∧ ay = cy) = true), (decide_eq_true (by omega) : decide (ax = dx ∧ ay = dy) = true)]; rfl); have j1 : (ax == cx) = true := by simpa using g1
            have j2 : (ay == cy) = true := by simpa using g2
            have j3 : (ax == dx) = true := by simpa using g3
            have j4 : (ay == dy) = true := by simpa using g4
            clear g1 g2 g3 g4 HEE
            go_wp2_with fail
            go_quiet (fail)
            go_wp2; go_roundw
            case rel => exact ⟨1, by omega, by go_num, by rw [HN1.out, hO1]; simp [b2i], by rw [HN2.out, hO1, hEv.out]; simp [b2i], ⟨⟨k0.drewN _, k1.drewN _, k2.drewN _, k3.drewN _⟩, kl.drewN _⟩, below_drewN hbl _⟩
            case measure => simp [intOf]
          · have hEv : Hid (E1 = true) := Lib.hid (by rw [← HEE, (decide_eq_true (by omega) : decide (ax = cx ∧ ay = cy) = true), (decide_eq_false (by omega) : decide (ax = dx ∧ ay = dy) = false)]; rfl); have j1 : (ax == cx) = true := by simpa using g1
            have j2 : (ay == cy) = true := by simpa using g2
            have j3 : (ax == dx) = true := by simpa using g3
            have j4 : (ay == dy) = false := by simpa using g4
            clear g1 g2 g3 g4 HEE
            go_wp2_with fail
            go_quiet (fail)
            go_wp2; go_roundw
            case rel => exact ⟨1, by omega, by go_num, by rw [HN1.out, hO1]; simp [b2i], by rw [HN2.out, hO1, hEv.out]; simp [b2i], ⟨⟨k0.drewN _, k1.drewN _, k2.drewN _, k3.drewN _⟩, kl.drewN _⟩, below_drewN hbl _⟩
            case measure => simp [intOf]
          · have hEv : Hid (E1 = true) := Lib.hid (by rw [← HEE, (decide_eq_true (by omega) : decide (ax = cx ∧ ay = cy) = true), (decide_eq_false (by omega) : decide (ax = dx ∧ ay = dy) = false)]; rfl); have j1 : (ax == cx) = true := by simpa using g1
            have j2 : (ay == cy) = true := by simpa using g2
            have j3 : (ax == dx) = false := by simpa using g3
            have j4 : (ay == dy) = true := by simpa using g4
            clear g1 g2 g3 g4 HEE
            go_wp2_with fail
            go_quiet (fail)
            go_wp2; go_roundw
            case rel => exact ⟨1, by omega, by go_num, by rw [HN1.out, hO1]; simp [b2i], by rw [HN2.out, hO1, hEv.out]; simp [b2i], ⟨⟨k0.drewN _, k1.drewN _, k2.drewN _, k3.drewN _⟩, kl.drewN _⟩, below_drewN hbl _⟩
            case measure => simp [intOf]
          · have hEv : Hid (E1 = true) := Lib.hid (by rw [← HEE, (decide_eq_true (by omega) : decide (ax = cx ∧ ay = cy) = true), (decide_eq_false (by omega) : decide (ax = dx ∧ ay = dy) = false)]; rfl); have j1 : (ax == cx) = true := by simpa using g1
            have j2 : (ay == cy) = true := by simpa using g2
            have j3 : (ax == dx) = false := by simpa using g3
            have j4 : (ay == dy) = false := by simpa using g4
            clear g1 g2 g3 g4 HEE
            go_wp2_with fail
            go_quiet (fail)
            go_wp2; go_roundw
            case rel => exact ⟨1, by omega, by go_num, by rw [HN1.out, hO1]; simp [b2i], by rw [HN2.out, hO1, hEv.out]; simp [b2i], ⟨⟨k0.drewN _, k1.drewN _, k2.drewN _, k3.drewN _⟩, kl.drewN _⟩, below_drewN hbl _⟩
            case measure => simp [intOf]
          · have hEv : Hid (E1 = true) := Lib.hid (by rw [← HEE, (decide_eq_false (by omega) : decide (ax = cx ∧ ay = cy) = false), (decide_eq_true (by omega) : decide (ax = dx ∧ ay = dy) = true)]; rfl); have j1 : (ax == cx) = true := by simpa using g1
            have j2 : (ay == cy) = false := by simpa using g2
            have j3 : (ax == dx) = true := by simpa using g3
            have j4 : (ay == dy) = true := by simpa using g4
            clear g1 g2 g3 g4 HEE
            go_wp2_with fail
            go_quiet (fail)
            go_wp2; go_roundw
            case rel => exact ⟨1, by omega, by go_num, by rw [HN1.out, hO1]; simp [b2i], by rw [HN2.out, hO1, hEv.out]; simp [b2i], ⟨⟨k0.drewN _, k1.drewN _, k2.drewN _, k3.drewN _⟩, kl.drewN _⟩, below_drewN hbl _⟩
            case measure => simp [intOf]
          · have hEv : Hid (E1 = false) := Lib.hid (by rw [← HEE, (decide_eq_false (by omega) : decide (ax = cx ∧ ay = cy) = false), (decide_eq_false (by omega) : decide (ax = dx ∧ ay = dy) = false)]; rfl); have j1 : (ax == cx) = true := by simpa using g1
            have j2 : (ay == cy) = false := by simpa using g2
            have j3 : (ax == dx) = true := by simpa using g3
            have j4 : (ay == dy) = false := by simpa using g4
            clear g1 g2 g3 g4 HEE
            go_wp2_with fail
            go_quiet (fail)
            go_wp2; go_roundw
            case rel => exact ⟨1, by omega, by go_num, by rw [HN1.out, hO1]; simp [b2i], by rw [HN2.out, hO1, hEv.out]; simp [b2i], ⟨⟨k0.drewN _, k1.drewN _, k2.drewN _, k3.drewN _⟩, kl.drewN _⟩, below_drewN hbl _⟩
            case measure => simp [intOf]
          · have hEv : Hid (E1 = false) := Lib.hid (by rw [← HEE, (decide_eq_false (by omega) : decide (ax = cx ∧ ay = cy) = false), (decide_eq_false (by omega) : decide (ax = dx ∧ ay = dy) = false)]; rfl); have j1 : (ax == cx) = true := by simpa using g1
            have j2 : (ay == cy) = false := by simpa using g2
            have j3 : (ax == dx) = false := by simpa using g3
            have j4 : (ay == dy) = true := by simpa using g4
            clear g1 g2 g3 g4 HEE
            go_wp2_with fail
            go_quiet (fail)
            go_wp2; go_roundw
            case rel => exact ⟨1, by omega, by go_num, by rw [HN1.out, hO1]; simp [b2i], by rw [HN2.out, hO1, hEv.out]; simp [b2i], ⟨⟨k0.drewN _, k1.drewN _, k2.drewN _, k3.drewN _⟩, kl.drewN _⟩, below_drewN hbl _⟩
            case measure => simp [intOf]
          · have hEv : Hid (E1 = false) := Lib.hid (by rw [← HEE, (decide_eq_false (by omega) : decide (ax = cx ∧ ay = cy) = false), (decide_eq_false (by omega) : decide (ax = dx ∧ ay = dy) = false)]; rfl); have j1 : (ax == cx) = true := by simpa using g1
            have j2 : (ay == cy) = false := by simpa using g2
            have j3 : (ax == dx) = false := by simpa using g3
            have j4 : (ay == dy) = false := by simpa using g4
            clear g1 g2 g3 g4 HEE
            go_wp2_with fail
            go_quiet (fail)
            go_wp2; go_roundw
            case rel => exact ⟨1, by omega, by go_num, by rw [HN1.out, hO1]; simp [b2i], by rw [HN2.out, hO1, hEv.out]; simp [b2i], ⟨⟨k0.drewN _, k1.drewN _, k2.drewN _, k3.drewN _⟩, kl.drewN _⟩, below_drewN hbl _⟩
            case measure => simp [intOf]
          · have hEv : Hid (E1 = true) := Lib.hid (by rw [← HEE, (decide_eq_false (by omega) : decide (ax = cx ∧ ay = cy) = false), (decide_eq_true (by omega) : decide (ax = dx ∧ ay = dy) = true)]; rfl); have j1 : (ax == cx) = false := by simpa using g1
            have j2 : (ay == cy) = true := by simpa using g2
            have j3 : (ax == dx) = true := by simpa using g3
            have j4 : (ay == dy) = true := by simpa using g4
            clear g1 g2 g3 g4 HEE
            go_wp2_with fail
            go_quiet (fail)
            go_wp2; go_roundw
            case rel => exact ⟨1, by omega, by go_num, by rw [HN1.out, hO1]; simp [b2i], by rw [HN2.out, hO1, hEv.out]; simp [b2i], ⟨⟨k0.drewN _, k1.drewN _, k2.drewN _, k3.drewN _⟩, kl.drewN _⟩, below_drewN hbl _⟩
            case measure => simp [intOf]
          · have hEv : Hid (E1 = false) := Lib.hid (by rw [← HEE, (decide_eq_false (by omega) : decide (ax = cx ∧ ay = cy) = false), (decide_eq_false (by omega) : decide (ax = dx ∧ ay = dy) = false)]; rfl); have j1 : (ax == cx) = false := by simpa using g1
            have j2 : (ay == cy) = true := by simpa using g2
            have j3 : (ax == dx) = true := by simpa using g3
            have j4 : (ay == dy) = false := by simpa using g4
            clear g1 g2 g3 g4 HEE
            go_wp2_with fail
            go_quiet (fail)
            go_wp2; go_roundw
            case rel => exact ⟨1, by omega, by go_num, by rw [HN1.out, hO1]; simp [b2i], by rw [HN2.out, hO1, hEv.out]; simp [b2i], ⟨⟨k0.drewN _, k1.drewN _, k2.drewN _, k3.drewN _⟩, kl.drewN _⟩, below_drewN hbl _⟩
            case measure => simp [intOf]
          · have hEv : Hid (E1 = false) := Lib.hid (by rw [← HEE, (decide_eq_false (by omega) : decide (ax = cx ∧ ay = cy) = false), (decide_eq_false (by omega) : decide (ax = dx ∧ ay = dy) = false)]; rfl); have j1 : (ax == cx) = false := by simpa using g1
            have j2 : (ay == cy) = true := by simpa using g2
            have j3 : (ax == dx) = false := by simpa using g3
            have j4 : (ay == dy) = true := by simpa using g4
            clear g1 g2 g3 g4 HEE
            go_wp2_with fail
            go_quiet (fail)
            go_wp2; go_roundw
            case rel => exact ⟨1, by omega, by go_num, by rw [HN1.out, hO1]; simp [b2i], by rw [HN2.out, hO1, hEv.out]; simp [b2i], ⟨⟨k0.drewN _, k1.drewN _, k2.drewN _, k3.drewN _⟩, kl.drewN _⟩, below_drewN hbl _⟩
            case measure => simp [intOf]
          · have hEv : Hid (E1 = false) := Lib.hid (by rw [← HEE, (decide_eq_false (by omega) : decide (ax = cx ∧ ay = cy) = false), (decide_eq_false (by omega) : decide (ax = dx ∧ ay = dy) = false)]; rfl); have j1 : (ax == cx) = false := by simpa using g1
            have j2 : (ay == cy) = true := by simpa using g2
            have j3 : (ax == dx) = false := by simpa using g3
            have j4 : (ay == dy) = false := by simpa using g4
            clear g1 g2 g3 g4 HEE
            go_wp2_with fail
            go_quiet (fail)
            go_wp2; go_roundw
            case rel => exact ⟨1, by omega, by go_num, by rw [HN1.out, hO1]; simp [b2i], by rw [HN2.out, hO1, hEv.out]; simp [b2i], ⟨⟨k0.drewN _, k1.drewN _, k2.drewN _, k3.drewN _⟩, kl.drewN _⟩, below_drewN hbl _⟩
            case measure => simp [intOf]
          · have hEv : Hid (E1 = true) := Lib.hid (by rw [← HEE, (decide_eq_false (by omega) : decide (ax = cx ∧ ay = cy) = false), (decide_eq_true (by omega) : decide (ax = dx ∧ ay = dy) = true)]; rfl); have j1 : (ax == cx) = false := by simpa using g1
            have j2 : (ay == cy) = false := by simpa using g2
            have j3 : (ax == dx) = true := by simpa using g3
            have j4 : (ay == dy) = true := by simpa using g4
            clear g1 g2 g3 g4 HEE
            go_wp2_with fail
            go_quiet (fail)
            go_wp2; go_roundw
            case rel => exact ⟨1, by omega, by go_num, by rw [HN1.out, hO1]; simp [b2i], by rw [HN2.out, hO1, hEv.out]; simp [b2i], ⟨⟨k0.drewN _, k1.drewN _, k2.drewN _, k3.drewN _⟩, kl.drewN _⟩, below_drewN hbl _⟩
            case measure => simp [intOf]
          · have hEv : Hid (E1 = false) := Lib.hid (by rw [← HEE, (decide_eq_false (by omega) : decide (ax = cx ∧ ay = cy) = false), (decide_eq_false (by omega) : decide (ax = dx ∧ ay = dy) = false)]; rfl); have j1 : (ax == cx) = false := by simpa using g1
            have j2 : (ay == cy) = false := by simpa using g2
            have j3 : (ax == dx) = true := by simpa using g3
            have j4 : (ay == dy) = false := by simpa using g4
            clear g1 g2 g3 g4 HEE
            go_wp2_with fail
            go_quiet (fail)
            go_wp2; go_roundw
            case rel => exact ⟨1, by omega, by go_num, by rw [HN1.out, hO1]; simp [b2i], by rw [HN2.out, hO1, hEv.out]; simp [b2i], ⟨⟨k0.drewN _, k1.drewN _, k2.drewN _, k3.drewN _⟩, kl.drewN _⟩, below_drewN hbl _⟩
            case measure => simp [intOf]
          · have hEv : Hid (E1 = false) := Lib.hid (by rw [← HEE, (decide_eq_false (by omega) : decide (ax = cx ∧ ay = cy) = false), (decide_eq_false (by omega) : decide (ax = dx ∧ ay = dy) = false)]; rfl); have j1 : (ax == cx) = false := by simpa using g1
            have j2 : (ay == cy) = false := by simpa using g2
            have j3 : (ax == dx) = false := by simpa using g3
            have j4 : (ay == dy) = true := by simpa using g4
            clear g1 g2 g3 g4 HEE
            go_wp2_with fail
            go_quiet (fail)
            go_wp2; go_roundw
            case rel => exact ⟨1, by omega, by go_num, by rw [HN1.out, hO1]; simp [b2i], by rw [HN2.out, hO1, hEv.out]; simp [b2i], ⟨⟨k0.drewN _, k1.drewN _, k2.drewN _, k3.drewN _⟩, kl.drewN _⟩, below_drewN hbl _⟩
            case measure => simp [intOf]
          · have hEv : Hid (E1 = false) := Lib.hid (by rw [← HEE, (decide_eq_false (by omega) : decide (ax = cx ∧ ay = cy) = false), (decide_eq_false (by omega) : decide (ax = dx ∧ ay = dy) = false)]; rfl); have j1 : (ax == cx) = false := by simpa using g1
            have j2 : (ay == cy) = false := by simpa using g2
            have j3 : (ax == dx) = false := by simpa using g3
            have j4 : (ay == dy) = false := by simpa using g4
            clear g1 g2 g3 g4 HEE
            go_wp2_with fail
            go_quiet (fail)
            go_wp2; go_roundw
            case rel => exact ⟨1, by omega, by go_num, by rw [HN1.out, hO1]; simp [b2i], by rw [HN2.out, hO1, hEv.out]; simp [b2i], ⟨⟨k0.drewN _, k1.drewN _, k2.drewN _, k3.drewN _⟩, kl.drewN _⟩, below_drewN hbl _⟩
            case measure => simp [intOf]
      · have hn1 : nTo O1 O2 2 = nTo O1 O2 1 + b2i O2 := by cases O1 <;> cases O2 <;> rfl
        have hn2 : nTo (O1 && E1) (O2 && E2) 2 = nTo (O1 && E1) (O2 && E2) 1 + b2i (O2 && E2) := by generalize (O1 && E1) = A1; generalize (O2 && E2) = A2; cases A1 <;> cases A2 <;> rfl
        have hb1 : 0 ≤ nTo O1 O2 1 ∧ nTo O1 O2 1 ≤ 2 := by cases O1 <;> cases O2 <;> decide
        have hb2 : 0 ≤ nTo (O1 && E1) (O2 && E2) 1 ∧ nTo (O1 && E1) (O2 && E2) 1 ≤ 2 := by generalize (O1 && E1) = A1; generalize (O2 && E2) = A2; cases A1 <;> cases A2 <;> decide
        have HN1 := Lib.hid hn1; have HN2 := Lib.hid hn2; clear hn1 hn2; generalize nTo O1 O2 1 = N0 at *; generalize nTo (O1 && E1) (O2 && E2) 1 = M0 at *
        go_wp2_with fail
        refine wp_region_lit_txt [0, 1, 2, 3, 4, 5] (fun W => (Blk W S0 [.int .i64 ax, .int .i64 ay] ∧ Blk W (S0 + 1) [.int .i64 bx, .int .i64 bY] ∧ Blk W (S0 + 1 + 1) [.int .i64 cx, .int .i64 cy] ∧ Blk W (S0 + 1 + 1 + 1) [.int .i64 dx, .int .i64 dy]) ∧ Blk W LB [.int .i64 ax, .int .i64 ay, .int .i64 bx, .int .i64 bY]) (by kernel_rfl) (by kernel_rfl) (by kernel_rfl) ⟨⟨k0.drew, k1.drew, k2.drew, k3.drew⟩, kl.drew⟩ ?_; have k0 := k0.drew; have k1 := k1.drew; have k2 := k2.drew; have k3 := k3.drew; have kl := kl.drew; have hbl := hbl.drew; refine txt_light (.agg #[.int .i64 cx, .int .i64 cy]) rfl rfl ?_ ?_
        · intro w' hS; have c0 := hS.1.2.2.1.cell 0 rfl; have c1 := hS.1.2.2.1.cell 1 rfl; go_simp
        try simp only [Act.put, List.setIfInBounds_toArray, List.set_cons_zero, List.set_cons_succ]
        refine txt_light (.agg #[.int .i64 dx, .int .i64 dy]) rfl rfl ?_ ?_
        · intro w' hS; have c0 := hS.1.2.2.2.cell 0 rfl; have c1 := hS.1.2.2.2.cell 1 rfl; go_simp
        try simp only [Act.put, List.setIfInBounds_toArray, List.set_cons_zero, List.set_cons_succ]
        iterate 3 ((refine txt_light ?_ rfl rfl ?_ ?_; rotate_left; · (intro w' hS; (try dsimp only at hS); go_simp; with_reducible rfl)); try simp only [Act.put, List.setIfInBounds_toArray, List.set_cons_zero, List.set_cons_succ])
        refine txt_light (.agg #[.int .i64 bx, .int .i64 bY]) rfl rfl ?_ ?_
        · intro w' hS; have c0 := hS.2.cell 2 rfl; have c1 := hS.2.cell 3 rfl; go_simp
        try simp only [Act.put, List.setIfInBounds_toArray, List.set_cons_zero, List.set_cons_succ]
        refine txt_call [.agg #[.int .i64 cx, .int .i64 cy], .agg #[.int .i64 dx, .int .i64 dy], .agg #[.int .i64 bx, .int .i64 bY]] Try.f91 rfl rfl Try.func91 (by kernel_rfl) (by kernel_rfl) rfl ((T2.out _).mono ?_); rintro e w11 ⟨rfl, hx11⟩; have k0 := k0.keep hx11; have k1 := k1.keep hx11; have k2 := k2.keep hx11; have k3 := k3.keep hx11; have kl := kl.keep hx11; have hbl := hbl.trans (hx11.mono hs); have hs := hs2 hbl; refine ⟨_, rfl, ⟨⟨k0, k1, k2, k3⟩, kl⟩, ?_⟩
        try simp only [Act.put, List.setIfInBounds_toArray, List.set_cons_zero, List.set_cons_succ]
        refine txt_nil ?_; clear hx11
        cases hO2 : O2 with
        | false =>
          go_wp2; go_roundw
          case rel => exact ⟨2, by omega, rfl, by rw [HN1.out, hO2]; simp [b2i], by rw [HN2.out, hO2]; simp [b2i], ⟨⟨k0, k1, k2, k3⟩, kl⟩, hbl⟩
          case measure => simp [intOf]
        | true =>
          have a0 := k0.cell 0 rfl; have a1 := k0.cell 1 rfl; have b0 := k1.cell 0 rfl; have b1 := k1.cell 1 rfl; have x0 := k2.cell 0 rfl; have x1 := k2.cell 1 rfl; have y0 := k3.cell 0 rfl; have y1 := k3.cell 1 rfl; have l0 := kl.cell 0 rfl; have l1 := kl.cell 1 rfl; have l2 := kl.cell 2 rfl; have l3 := kl.cell 3 rfl; have HEE := HE2.out
          by_cases g1 : bx = cx <;> by_cases g2 : bY = cy <;> by_cases g3 : bx = dx <;> by_cases g4 : bY = dy
          · have hEv : Hid (E2 = true) := Lib.hid (by rw [← HEE, (decide_eq_true (by omega) : decide (bx = cx ∧ bY = cy) = true), (decide_eq_true (by omega) : decide (bx = dx ∧ bY = dy) = true)]; rfl); have j1 : (bx == cx) = true := by simpa using g1
            have j2 : (bY == cy) = true := by simpa using g2
            have j3 : (bx == dx) = true := by simpa using g3
            have j4 : (bY == dy) = true := by simpa using g4
            clear g1 g2 g3 g4 HEE
            go_wp2_with fail
            go_quiet (fail)
            go_wp2; go_roundw
            case rel => exact ⟨2, by omega, by go_num, by rw [HN1.out, hO2]; simp [b2i], by rw [HN2.out, hO2, hEv.out]; simp [b2i], ⟨⟨k0.drewN _, k1.drewN _, k2.drewN _, k3.drewN _⟩, kl.drewN _⟩, below_drewN hbl _⟩
            case measure => simp [intOf]
          · have hEv : Hid (E2 = true) := Lib.hid (by rw [← HEE, (decide_eq_true (by omega) : decide (bx = cx ∧ bY = cy) = true), (decide_eq_false (by omega) : decide (bx = dx ∧ bY = dy) = false)]; rfl); have j1 : (bx == cx) = true := by simpa using g1
            have j2 : (bY == cy) = true := by simpa using g2
            have j3 : (bx == dx) = true := by simpa using g3
            have j4 : (bY == dy) = false := by simpa using g4
            clear g1 g2 g3 g4 HEE
            go_wp2_with fail
            go_quiet (fail)
            go_wp2; go_roundw
            case rel => exact ⟨2, by omega, by go_num, by rw [HN1.out, hO2]; simp [b2i], by rw [HN2.out, hO2, hEv.out]; simp [b2i], ⟨⟨k0.drewN _, k1.drewN _, k2.drewN _, k3.drewN _⟩, kl.drewN _⟩, below_drewN hbl _⟩
            case measure => simp [intOf]
          · have hEv : Hid (E2 = true) := Lib.hid (by rw [← HEE, (decide_eq_true (by omega) : decide (bx = cx ∧ bY = cy) = true), (decide_eq_false (by omega) : decide (bx = dx ∧ bY = dy) = false)]; rfl); have j1 : (bx == cx) = true := by simpa using g1
            have j2 : (bY == cy) = true := by simpa using g2
            have j3 : (bx == dx) = false := by simpa using g3
            have j4 : (bY == dy) = true := by simpa using g4
            clear g1 g2 g3 g4 HEE
            go_wp2_with fail
            go_quiet (fail)
            go_wp2; go_roundw
            case rel => exact ⟨2, by omega, by go_num, by rw [HN1.out, hO2]; simp [b2i], by rw [HN2.out, hO2, hEv.out]; simp [b2i], ⟨⟨k0.drewN _, k1.drewN _, k2.drewN _, k3.drewN _⟩, kl.drewN _⟩, below_drewN hbl _⟩
            case measure => simp [intOf]
          · have hEv : Hid (E2 = true) := Lib.hid (by rw [← HEE, (decide_eq_true (by omega) : decide (bx = cx ∧ bY = cy) = true), (decide_eq_false (by omega) : decide (bx = dx ∧ bY = dy) = false)]; rfl); have j1 : (bx == cx) = true := by simpa using g1
            have j2 : (bY == cy) = true := by simpa using g2
            have j3 : (bx == dx) = false := by simpa using g3
            have j4 : (bY == dy) = false := by simpa using g4
            clear g1 g2 g3 g4 HEE
            go_wp2_with fail
            go_quiet (fail)
            go_wp2; go_roundw
            case rel => exact ⟨2, by omega, by go_num, by rw [HN1.out, hO2]; simp [b2i], by rw [HN2.out, hO2, hEv.out]; simp [b2i], ⟨⟨k0.drewN _, k1.drewN _, k2.drewN _, k3.drewN _⟩, kl.drewN _⟩, below_drewN hbl _⟩
            case measure => simp [intOf]
          · have hEv : Hid (E2 = true) := Lib.hid (by rw [← HEE, (decide_eq_false (by omega) : decide (bx = cx ∧ bY = cy) = false), (decide_eq_true (by omega) : decide (bx = dx ∧ bY = dy) = true)]; rfl); have j1 : (bx == cx) = true := by simpa using g1
            have j2 : (bY == cy) = false := by simpa using g2
            have j3 : (bx == dx) = true := by simpa using g3
            have j4 : (bY == dy) = true := by simpa using g4
            clear g1 g2 g3 g4 HEE
            go_wp2_with fail
            go_quiet (fail)
            go_wp2; go_roundw
            case rel => exact ⟨2, by omega, by go_num, by rw [HN1.out, hO2]; simp [b2i], by rw [HN2.out, hO2, hEv.out]; simp [b2i], ⟨⟨k0.drewN _, k1.drewN _, k2.drewN _, k3.drewN _⟩, kl.drewN _⟩, below_drewN hbl _⟩
            case measure => simp [intOf]
          · have hEv : Hid (E2 = false) := Lib.hid (by rw [← HEE, (decide_eq_false (by omega) : decide (bx = cx ∧ bY = cy) = false), (decide_eq_false (by omega) : decide (bx = dx ∧ bY = dy) = false)]; rfl); have j1 : (bx == cx) = true := by simpa using g1
            have j2 : (bY == cy) = false := by simpa using g2
            have j3 : (bx == dx) = true := by simpa using g3
            have j4 : (bY == dy) = false := by simpa using g4
            clear g1 g2 g3 g4 HEE
            go_wp2_with fail
            go_quiet (fail)
            go_wp2; go_roundw
            case rel => exact ⟨2, by omega, by go_num, by rw [HN1.out, hO2]; simp [b2i], by rw [HN2.out, hO2, hEv.out]; simp [b2i], ⟨⟨k0.drewN _, k1.drewN _, k2.drewN _, k3.drewN _⟩, kl.drewN _⟩, below_drewN hbl _⟩
            case measure => simp [intOf]
          · have hEv : Hid (E2 = false) := Lib.hid (by rw [← HEE, (decide_eq_false (by omega) : decide (bx = cx ∧ bY = cy) = false), (decide_eq_false (by omega) : decide (bx = dx ∧ bY = dy) = false)]; rfl); have j1 : (bx == cx) = true := by simpa using g1
            have j2 : (bY == cy) = false := by simpa using g2
            have j3 : (bx == dx) = false := by simpa using g3
            have j4 : (bY == dy) = true := by simpa using g4
            clear g1 g2 g3 g4 HEE
            go_wp2_with fail
            go_quiet (fail)
            go_wp2; go_roundw
            case rel => exact ⟨2, by omega, by go_num, by rw [HN1.out, hO2]; simp [b2i], by rw [HN2.out, hO2, hEv.out]; simp [b2i], ⟨⟨k0.drewN _, k1.drewN _, k2.drewN _, k3.drewN _⟩, kl.drewN _⟩, below_drewN hbl _⟩
            case measure => simp [intOf]
          · have hEv : Hid (E2 = false) := Lib.hid (by rw [← HEE, (decide_eq_false (by omega) : decide (bx = cx ∧ bY = cy) = false), (decide_eq_false (by omega) : decide (bx = dx ∧ bY = dy) = false)]; rfl); have j1 : (bx == cx) = true := by simpa using g1
            have j2 : (bY == cy) = false := by simpa using g2
            have j3 : (bx == dx) = false := by simpa using g3
            have j4 : (bY == dy) = false := by simpa using g4
            clear g1 g2 g3 g4 HEE
            go_wp2_with fail
            go_quiet (fail)
            go_wp2; go_roundw
            case rel => exact ⟨2, by omega, by go_num, by rw [HN1.out, hO2]; simp [b2i], by rw [HN2.out, hO2, hEv.out]; simp [b2i], ⟨⟨k0.drewN _, k1.drewN _, k2.drewN _, k3.drewN _⟩, kl.drewN _⟩, below_drewN hbl _⟩
            case measure => simp [intOf]
          · have hEv : Hid (E2 = true) := Lib.hid (by rw [← HEE, (decide_eq_false (by omega) : decide (bx = cx ∧ bY = cy) = false), (decide_eq_true (by omega) : decide (bx = dx ∧ bY = dy) = true)]; rfl); have j1 : (bx == cx) = false := by simpa using g1
            have j2 : (bY == cy) = true := by simpa using g2
            have j3 : (bx == dx) = true := by simpa using g3
            have j4 : (bY == dy) = true := by simpa using g4
            clear g1 g2 g3 g4 HEE
            go_wp2_with fail
            go_quiet (fail)
            go_wp2; go_roundw
            case rel => exact ⟨2, by omega, by go_num, by rw [HN1.out, hO2]; simp [b2i], by rw [HN2.out, hO2, hEv.out]; simp [b2i], ⟨⟨k0.drewN _, k1.drewN _, k2.drewN _, k3.drewN _⟩, kl.drewN _⟩, below_drewN hbl _⟩
            case measure => simp [intOf]
          · have hEv : Hid (E2 = false) := Lib.hid (by rw [← HEE, (decide_eq_false (by omega) : decide (bx = cx ∧ bY = cy) = false), (decide_eq_false (by omega) : decide (bx = dx ∧ bY = dy) = false)]; rfl); have j1 : (bx == cx) = false := by simpa using g1
            have j2 : (bY == cy) = true := by simpa using g2
            have j3 : (bx == dx) = true := by simpa using g3
            have j4 : (bY == dy) = false := by simpa using g4
            clear g1 g2 g3 g4 HEE
            go_wp2_with fail
            go_quiet (fail)
            go_wp2; go_roundw
            case rel => exact ⟨2, by omega, by go_num, by rw [HN1.out, hO2]; simp [b2i], by rw [HN2.out, hO2, hEv.out]; simp [b2i], ⟨⟨k0.drewN _, k1.drewN _, k2.drewN _, k3.drewN _⟩, kl.drewN _⟩, below_drewN hbl _⟩
            case measure => simp [intOf]
          · have hEv : Hid (E2 = false) := Lib.hid (by rw [← HEE, (decide_eq_false (by omega) : decide (bx = cx ∧ bY = cy) = false), (decide_eq_false (by omega) : decide (bx = dx ∧ bY = dy) = false)]; rfl); have j1 : (bx == cx) = false := by simpa using g1
            have j2 : (bY == cy) = true := by simpa using g2
            have j3 : (bx == dx) = false := by simpa using g3
            have j4 : (bY == dy) = true := by simpa using g4
            clear g1 g2 g3 g4 HEE
            go_wp2_with fail
            go_quiet (fail)
            go_wp2; go_roundw
            case rel => exact ⟨2, by omega, by go_num, by rw [HN1.out, hO2]; simp [b2i], by rw [HN2.out, hO2, hEv.out]; simp [b2i], ⟨⟨k0.drewN _, k1.drewN _, k2.drewN _, k3.drewN _⟩, kl.drewN _⟩, below_drewN hbl _⟩
            case measure => simp [intOf]
          · have hEv : Hid (E2 = false) := Lib.hid (by rw [← HEE, (decide_eq_false (by omega) : decide (bx = cx ∧ bY = cy) = false), (decide_eq_false (by omega) : decide (bx = dx ∧ bY = dy) = false)]; rfl); have j1 : (bx == cx) = false := by simpa using g1
            have j2 : (bY == cy) = true := by simpa using g2
            have j3 : (bx == dx) = false := by simpa using g3
            have j4 : (bY == dy) = false := by simpa using g4
            clear g1 g2 g3 g4 HEE
            go_wp2_with fail
            go_quiet (fail)
            go_wp2; go_roundw
            case rel => exact ⟨2, by omega, by go_num, by rw [HN1.out, hO2]; simp [b2i], by rw [HN2.out, hO2, hEv.out]; simp [b2i], ⟨⟨k0.drewN _, k1.drewN _, k2.drewN _, k3.drewN _⟩, kl.drewN _⟩, below_drewN hbl _⟩
            case measure => simp [intOf]
          · have hEv : Hid (E2 = true) := Lib.hid (by rw [← HEE, (decide_eq_false (by omega) : decide (bx = cx ∧ bY = cy) = false), (decide_eq_true (by omega) : decide (bx = dx ∧ bY = dy) = true)]; rfl); have j1 : (bx == cx) = false := by simpa using g1
            have j2 : (bY == cy) = false := by simpa using g2
            have j3 : (bx == dx) = true := by simpa using g3
            have j4 : (bY == dy) = true := by simpa using g4
            clear g1 g2 g3 g4 HEE
            go_wp2_with fail
            go_quiet (fail)
            go_wp2; go_roundw
            case rel => exact ⟨2, by omega, by go_num, by rw [HN1.out, hO2]; simp [b2i], by rw [HN2.out, hO2, hEv.out]; simp [b2i], ⟨⟨k0.drewN _, k1.drewN _, k2.drewN _, k3.drewN _⟩, kl.drewN _⟩, below_drewN hbl _⟩
            case measure => simp [intOf]
          · have hEv : Hid (E2 = false) := Lib.hid (by rw [← HEE, (decide_eq_false (by omega) : decide (bx = cx ∧ bY = cy) = false), (decide_eq_false (by omega) : decide (bx = dx ∧ bY = dy) = false)]; rfl); have j1 : (bx == cx) = false := by simpa using g1
            have j2 : (bY == cy) = false := by simpa using g2
            have j3 : (bx == dx) = true := by simpa using g3
            have j4 : (bY == dy) = false := by simpa using g4
            clear g1 g2 g3 g4 HEE
            go_wp2_with fail
            go_quiet (fail)
            go_wp2; go_roundw
            case rel => exact ⟨2, by omega, by go_num, by rw [HN1.out, hO2]; simp [b2i], by rw [HN2.out, hO2, hEv.out]; simp [b2i], ⟨⟨k0.drewN _, k1.drewN _, k2.drewN _, k3.drewN _⟩, kl.drewN _⟩, below_drewN hbl _⟩
            case measure => simp [intOf]
          · have hEv : Hid (E2 = false) := Lib.hid (by rw [← HEE, (decide_eq_false (by omega) : decide (bx = cx ∧ bY = cy) = false), (decide_eq_false (by omega) : decide (bx = dx ∧ bY = dy) = false)]; rfl); have j1 : (bx == cx) = false := by simpa using g1
            have j2 : (bY == cy) = false := by simpa using g2
            have j3 : (bx == dx) = false := by simpa using g3
            have j4 : (bY == dy) = true := by simpa using g4
            clear g1 g2 g3 g4 HEE
            go_wp2_with fail
            go_quiet (fail)
            go_wp2; go_roundw
            case rel => exact ⟨2, by omega, by go_num, by rw [HN1.out, hO2]; simp [b2i], by rw [HN2.out, hO2, hEv.out]; simp [b2i], ⟨⟨k0.drewN _, k1.drewN _, k2.drewN _, k3.drewN _⟩, kl.drewN _⟩, below_drewN hbl _⟩
            case measure => simp [intOf]
          · have hEv : Hid (E2 = false) := Lib.hid (by rw [← HEE, (decide_eq_false (by omega) : decide (bx = cx ∧ bY = cy) = false), (decide_eq_false (by omega) : decide (bx = dx ∧ bY = dy) = false)]; rfl); have j1 : (bx == cx) = false := by simpa using g1
            have j2 : (bY == cy) = false := by simpa using g2
            have j3 : (bx == dx) = false := by simpa using g3
            have j4 : (bY == dy) = false := by simpa using g4
            clear g1 g2 g3 g4 HEE
            go_wp2_with fail
            go_quiet (fail)
            go_wp2; go_roundw
            case rel => exact ⟨2, by omega, by go_num, by rw [HN1.out, hO2]; simp [b2i], by rw [HN2.out, hO2, hEv.out]; simp [b2i], ⟨⟨k0.drewN _, k1.drewN _, k2.drewN _, k3.drewN _⟩, kl.drewN _⟩, below_drewN hbl _⟩
            case measure => simp [intOf]
      · have HN : Hid (nTo O1 O2 2 = b2i O1 + b2i O2) := Lib.hid rfl; have HM : Hid (nTo (O1 && E1) (O2 && E2) 2 = b2i (O1 && E1) + b2i (O2 && E2)) := Lib.hid rfl; clear T1 T2 HE1 HE2; generalize nTo O1 O2 2 = N0 at *; generalize nTo (O1 && E1) (O2 && E2) 2 = M0 at *; have a0 := k0.cell 0 rfl; have a1 := k0.cell 1 rfl; have b0 := k1.cell 0 rfl; have b1 := k1.cell 1 rfl; have x0 := k2.cell 0 rfl; have x1 := k2.cell 1 rfl; have y0 := k3.cell 0 rfl; have y1 := k3.cell 1 rfl; go_wp2; have kl := Blk.new wr [.int .i64 cx, .int .i64 cy, .int .i64 dx, .int .i64 dy] 73; have k0 := k0.alloc (.cells #[.int .i64 cx, .int .i64 cy, .int .i64 dx, .int .i64 dy] 73); have k1 := k1.alloc (.cells #[.int .i64 cx, .int .i64 cy, .int .i64 dx, .int .i64 dy] 73); have k2 := k2.alloc (.cells #[.int .i64 cx, .int .i64 cy, .int .i64 dx, .int .i64 dy] 73); have k3 := k3.alloc (.cells #[.int .i64 cx, .int .i64 cy, .int .i64 dx, .int .i64 dy] 73); have hbl := hbl.alloc hs (.cells #[.int .i64 cx, .int .i64 cy, .int .i64 dx, .int .i64 dy] 73); have hs := hs2 hbl; obtain ⟨LC, hLC⟩ : ∃ B, wr.heap.size = B := ⟨_, rfl⟩; rw [hLC] at kl ⊢; generalize wr.alloc (.cells #[.int .i64 cx, .int .i64 cy, .int .i64 dx, .int .i64 dy] 73) = wrX at *; clear a0 a1 b0 b1 x0 x1 y0 y1
        go_loopw [13, 14] (fun n i W => ∃ k : Nat, k ≤ 2 ∧ i = .int .i64 k ∧ n = .int .i64 (nTo O3 O4 k) ∧ ((Blk W S0 [.int .i64 ax, .int .i64 ay] ∧ Blk W (S0 + 1) [.int .i64 bx, .int .i64 bY] ∧ Blk W (S0 + 1 + 1) [.int .i64 cx, .int .i64 cy] ∧ Blk W (S0 + 1 + 1 + 1) [.int .i64 dx, .int .i64 dy]) ∧ Blk W LC [.int .i64 cx, .int .i64 cy, .int .i64 dx, .int .i64 dy]) ∧ Below w.heap.size w W) (fun _ i _ => 2 - (intOf i).toNat)
        case atStart => exact ⟨0, by omega, rfl, rfl, ⟨⟨k0, k1, k2, k3⟩, kl⟩, hbl⟩
        case round =>
          clear k0 k1 k2 k3 kl hbl hs; obtain ⟨k, hk, rfl, rfl, ⟨⟨k0, k1, k2, k3⟩, kl⟩, hbl⟩ := hrel; have hs := hs2 hbl; have hk3 : k = 0 ∨ k = 1 ∨ k = 2 := by omega
          clear hk
          rcases hk3 with rfl | rfl | rfl
          · have hn1 : nTo O3 O4 1 = nTo O3 O4 0 + b2i O3 := by cases O3 <;> cases O4 <;> rfl
            have hb1 : 0 ≤ nTo O3 O4 0 ∧ nTo O3 O4 0 ≤ 2 := by cases O3 <;> cases O4 <;> decide
            have HN1 := Lib.hid hn1; clear hn1; generalize nTo O3 O4 0 = Q0 at *
            go_wp2_with fail
            refine wp_region_lit_txt [0, 1, 2, 3, 4, 5] (fun W => (Blk W S0 [.int .i64 ax, .int .i64 ay] ∧ Blk W (S0 + 1) [.int .i64 bx, .int .i64 bY] ∧ Blk W (S0 + 1 + 1) [.int .i64 cx, .int .i64 cy] ∧ Blk W (S0 + 1 + 1 + 1) [.int .i64 dx, .int .i64 dy]) ∧ Blk W LC [.int .i64 cx, .int .i64 cy, .int .i64 dx, .int .i64 dy]) (by kernel_rfl) (by kernel_rfl) (by kernel_rfl) ⟨⟨k0.drew, k1.drew, k2.drew, k3.drew⟩, kl.drew⟩ ?_; have k0 := k0.drew; have k1 := k1.drew; have k2 := k2.drew; have k3 := k3.drew; have kl := kl.drew; have hbl := hbl.drew; refine txt_light (.agg #[.int .i64 ax, .int .i64 ay]) rfl rfl ?_ ?_
            · intro w' hS; have c0 := hS.1.1.cell 0 rfl; have c1 := hS.1.1.cell 1 rfl; go_simp
            try simp only [Act.put, List.setIfInBounds_toArray, List.set_cons_zero, List.set_cons_succ]
            refine txt_light (.agg #[.int .i64 bx, .int .i64 bY]) rfl rfl ?_ ?_
            · intro w' hS; have c0 := hS.1.2.1.cell 0 rfl; have c1 := hS.1.2.1.cell 1 rfl; go_simp
            try simp only [Act.put, List.setIfInBounds_toArray, List.set_cons_zero, List.set_cons_succ]
            iterate 3 ((refine txt_light ?_ rfl rfl ?_ ?_; rotate_left; · (intro w' hS; (try dsimp only at hS); go_simp; with_reducible rfl)); try simp only [Act.put, List.setIfInBounds_toArray, List.set_cons_zero, List.set_cons_succ])
            refine txt_light (.agg #[.int .i64 cx, .int .i64 cy]) rfl rfl ?_ ?_
            · intro w' hS; have c0 := hS.2.cell 0 rfl; have c1 := hS.2.cell 1 rfl; go_simp
            try simp only [Act.put, List.setIfInBounds_toArray, List.set_cons_zero, List.set_cons_succ]
            refine txt_call [.agg #[.int .i64 ax, .int .i64 ay], .agg #[.int .i64 bx, .int .i64 bY], .agg #[.int .i64 cx, .int .i64 cy]] Try.f91 rfl rfl Try.func91 (by kernel_rfl) (by kernel_rfl) rfl ((T3.out _).mono ?_); rintro e w12 ⟨rfl, hx12⟩; have k0 := k0.keep hx12; have k1 := k1.keep hx12; have k2 := k2.keep hx12; have k3 := k3.keep hx12; have kl := kl.keep hx12; have hbl := hbl.trans (hx12.mono hs); have hs := hs2 hbl; refine ⟨_, rfl, ⟨⟨k0, k1, k2, k3⟩, kl⟩, ?_⟩
            try simp only [Act.put, List.setIfInBounds_toArray, List.set_cons_zero, List.set_cons_succ]
            refine txt_nil ?_; clear hx12
            cases hO3 : O3 with
            | false =>
              go_wp2; go_roundw
              case rel => exact ⟨1, by omega, by go_num, by rw [HN1.out, hO3]; simp [b2i], ⟨⟨k0, k1, k2, k3⟩, kl⟩, hbl⟩
              case measure => simp [intOf]
            | true =>
              go_wp2; go_roundw
              case rel => exact ⟨1, by omega, by go_num, by rw [HN1.out, hO3]; simp [b2i], ⟨⟨k0, k1, k2, k3⟩, kl⟩, hbl⟩
              case measure => simp [intOf]
          · have hn1 : nTo O3 O4 2 = nTo O3 O4 1 + b2i O4 := by cases O3 <;> cases O4 <;> rfl
            have hb1 : 0 ≤ nTo O3 O4 1 ∧ nTo O3 O4 1 ≤ 2 := by cases O3 <;> cases O4 <;> decide
            have HN1 := Lib.hid hn1; clear hn1; generalize nTo O3 O4 1 = Q0 at *
            go_wp2_with fail
            refine wp_region_lit_txt [0, 1, 2, 3, 4, 5] (fun W => (Blk W S0 [.int .i64 ax, .int .i64 ay] ∧ Blk W (S0 + 1) [.int .i64 bx, .int .i64 bY] ∧ Blk W (S0 + 1 + 1) [.int .i64 cx, .int .i64 cy] ∧ Blk W (S0 + 1 + 1 + 1) [.int .i64 dx, .int .i64 dy]) ∧ Blk W LC [.int .i64 cx, .int .i64 cy, .int .i64 dx, .int .i64 dy]) (by kernel_rfl) (by kernel_rfl) (by kernel_rfl) ⟨⟨k0.drew, k1.drew, k2.drew, k3.drew⟩, kl.drew⟩ ?_; have k0 := k0.drew; have k1 := k1.drew; have k2 := k2.drew; have k3 := k3.drew; have kl := kl.drew; have hbl := hbl.drew; refine txt_light (.agg #[.int .i64 ax, .int .i64 ay]) rfl rfl ?_ ?_
            · intro w' hS; have c0 := hS.1.1.cell 0 rfl; have c1 := hS.1.1.cell 1 rfl; go_simp
            try simp only [Act.put, List.setIfInBounds_toArray, List.set_cons_zero, List.set_cons_succ]
            refine txt_light (.agg #[.int .i64 bx, .int .i64 bY]) rfl rfl ?_ ?_
            · intro w' hS; have c0 := hS.1.2.1.cell 0 rfl; have c1 := hS.1.2.1.cell 1 rfl; go_simp
            try simp only [Act.put, List.setIfInBounds_toArray, List.set_cons_zero, List.set_cons_succ]
            iterate 3 ((refine txt_light ?_ rfl rfl ?_ ?_; rotate_left; · (intro w' hS; (try dsimp only at hS); go_simp; with_reducible rfl)); try simp only [Act.put, List.setIfInBounds_toArray, List.set_cons_zero, List.set_cons_succ])
            refine txt_light (.agg #[.int .i64 dx, .int .i64 dy]) rfl rfl ?_ ?_
            · intro w' hS; have c0 := hS.2.cell 2 rfl; have c1 := hS.2.cell 3 rfl; go_simp
            try simp only [Act.put, List.setIfInBounds_toArray, List.set_cons_zero, List.set_cons_succ]
            refine txt_call [.agg #[.int .i64 ax, .int .i64 ay], .agg #[.int .i64 bx, .int .i64 bY], .agg #[.int .i64 dx, .int .i64 dy]] Try.f91 rfl rfl Try.func91 (by kernel_rfl) (by kernel_rfl) rfl ((T4.out _).mono ?_); rintro e w12 ⟨rfl, hx12⟩; have k0 := k0.keep hx12; have k1 := k1.keep hx12; have k2 := k2.keep hx12; have k3 := k3.keep hx12; have kl := kl.keep hx12; have hbl := hbl.trans (hx12.mono hs); have hs := hs2 hbl; refine ⟨_, rfl, ⟨⟨k0, k1, k2, k3⟩, kl⟩, ?_⟩
            try simp only [Act.put, List.setIfInBounds_toArray, List.set_cons_zero, List.set_cons_succ]
            refine txt_nil ?_; clear hx12
            cases hO4 : O4 with
            | false =>
              go_wp2; go_roundw
              case rel => exact ⟨2, by omega, by go_num, by rw [HN1.out, hO4]; simp [b2i], ⟨⟨k0, k1, k2, k3⟩, kl⟩, hbl⟩
              case measure => simp [intOf]
            | true =>
              go_wp2; go_roundw
              case rel => exact ⟨2, by omega, by go_num, by rw [HN1.out, hO4]; simp [b2i], ⟨⟨k0, k1, k2, k3⟩, kl⟩, hbl⟩
              case measure => simp [intOf]
          · have HQ : Hid (nTo O3 O4 2 = b2i O3 + b2i O4) := Lib.hid rfl; clear T3 T4; generalize nTo O3 O4 2 = Q0 at *; have hR3 := HR2.out; rw [← HN.out, ← HM.out, ← HQ.out] at hR3; have hN0 : 0 ≤ N0 ∧ N0 ≤ 2 := by rw [HN.out]; have := b2i_bd O1; have := b2i_bd O2; omega
            have hM0 : 0 ≤ M0 ∧ M0 ≤ 2 := by rw [HM.out]; have := b2i_bd (O1 && E1); have := b2i_bd (O2 && E2); omega
            have hQ0 : 0 ≤ Q0 ∧ Q0 ≤ 2 := by rw [HQ.out]; have := b2i_bd O3; have := b2i_bd O4; omega
            clear HN HM HQ HR2; obtain ⟨PT, hPT⟩ : ∃ P, N0 + Q0 - M0 = P := ⟨_, rfl⟩; rw [hPT] at hR3; have v1 : IntKind.i64.wrap (IntKind.i64.wrap (N0 + Q0) - M0) = PT := by rw [IntWalk.i64_in (N0 + Q0) (by omega), hPT]; exact IntWalk.i64_in _ (by omega)
            have v2 : IntKind.i64.wrap (N0 + Q0 - M0) = PT := by rw [hPT]; exact IntWalk.i64_in _ (by omega)
            have a0 := k0.cell 0 rfl; have a1 := k0.cell 1 rfl; have b0 := k1.cell 0 rfl; have b1 := k1.cell 1 rfl; have x0 := k2.cell 0 rfl; have x1 := k2.cell 1 rfl; have y0 := k3.cell 0 rfl; have y1 := k3.cell 1 rfl
            by_cases c1 : 1 < PT
            · have HF : Hid (R = 4) := Lib.hid (by rw [← hR3, if_pos c1]); clear hR3; go_wp2; go_ret; exact ⟨ret_int HF.out.symm, by first | exact hbl | (rw [← hS0]; exact hbl)⟩
            · rw [if_neg c1] at hR3
              by_cases c2 : PT = 1
              · rw [if_pos c2] at hR3; have hq1 : (PT == 1) = true := by simp [c2]
                have hq2 : decide (1 < PT) = false := decide_eq_false c1
                by_cases c3 : M0 = 1
                · have HF : Hid (R = 1) := Lib.hid (by rw [← hR3, if_pos c3]); have hq3 : (M0 == 1) = true := by simp [c3]
                  clear hR3 c2 c3; go_wp2; go_ret; exact ⟨ret_int HF.out.symm, by first | exact hbl | (rw [← hS0]; exact hbl)⟩
                · have HF : Hid (R = 2) := Lib.hid (by rw [← hR3, if_neg c3]); have hq3 : (M0 == 1) = false := by simpa using c3
                  clear hR3 c2 c3; go_wp2; go_ret; exact ⟨ret_int HF.out.symm, by first | exact hbl | (rw [← hS0]; exact hbl)⟩
              · rw [if_neg c2] at hR3; have hq1 : (PT == 1) = false := by simpa using c2
                have hq2 : decide (1 < PT) = false := decide_eq_false c1; have HR3 := Lib.hid hR3; clear hR3 c2
                go_wp2_with fail
                clear v1 v2 a0 a1 b0 b1 x0 x1 y0 y1; refine wp_region_lit_txt [0, 1, 2, 5, 6, 7, 10, 11] (fun W => (Blk W S0 [.int .i64 ax, .int .i64 ay] ∧ Blk W (S0 + 1) [.int .i64 bx, .int .i64 bY] ∧ Blk W (S0 + 1 + 1) [.int .i64 cx, .int .i64 cy] ∧ Blk W (S0 + 1 + 1 + 1) [.int .i64 dx, .int .i64 dy]) ∧ Blk W LC [.int .i64 cx, .int .i64 cy, .int .i64 dx, .int .i64 dy]) (by kernel_rfl) (by kernel_rfl) (by kernel_rfl) ⟨⟨k0.drew, k1.drew, k2.drew, k3.drew⟩, kl.drew⟩ ?_; have k0 := k0.drew; have k1 := k1.drew; have k2 := k2.drew; have k3 := k3.drew; have kl := kl.drew; have hbl := hbl.drew; refine txt_light (.agg #[.int .i64 ax, .int .i64 ay]) rfl rfl ?_ ?_
                · intro w' hS; have c0 := hS.1.1.cell 0 rfl; have c1 := hS.1.1.cell 1 rfl; go_simp
                try simp only [Act.put, List.setIfInBounds_toArray, List.set_cons_zero, List.set_cons_succ]
                refine txt_light (.agg #[.int .i64 bx, .int .i64 bY]) rfl rfl ?_ ?_
                · intro w' hS; have c0 := hS.1.2.1.cell 0 rfl; have c1 := hS.1.2.1.cell 1 rfl; go_simp
                try simp only [Act.put, List.setIfInBounds_toArray, List.set_cons_zero, List.set_cons_succ]
                refine txt_light (.agg #[.int .i64 cx, .int .i64 cy]) rfl rfl ?_ ?_
                · intro w' hS; have c0 := hS.1.2.2.1.cell 0 rfl; have c1 := hS.1.2.2.1.cell 1 rfl; go_simp
                try simp only [Act.put, List.setIfInBounds_toArray, List.set_cons_zero, List.set_cons_succ]
                refine txt_call [.agg #[.int .i64 ax, .int .i64 ay], .agg #[.int .i64 bx, .int .i64 bY], .agg #[.int .i64 cx, .int .i64 cy]] Try.f92 rfl rfl Try.func92 (by kernel_rfl) (by kernel_rfl) rfl ((Z1.out _).mono ?_); rintro e w21 ⟨rfl, hx21⟩; have k0 := k0.keep hx21; have k1 := k1.keep hx21; have k2 := k2.keep hx21; have k3 := k3.keep hx21; have kl := kl.keep hx21; have hbl := hbl.trans (hx21.mono hs); have hs := hs2 hbl; refine ⟨_, rfl, ⟨⟨k0, k1, k2, k3⟩, kl⟩, ?_⟩
                try simp only [Act.put, List.setIfInBounds_toArray, List.set_cons_zero, List.set_cons_succ]
                refine txt_call [.int .i64 X1] Try.f77 rfl rfl Try.func77 (by kernel_rfl) (by kernel_rfl) rfl ((rsign_any X1 _).mono ?_); rintro e wz ⟨rfl, rfl⟩; refine ⟨_, rfl, ⟨⟨k0, k1, k2, k3⟩, kl⟩, ?_⟩
                try simp only [Act.put, List.setIfInBounds_toArray, List.set_cons_zero, List.set_cons_succ]
                refine txt_light (.agg #[.int .i64 ax, .int .i64 ay]) rfl rfl ?_ ?_
                · intro w' hS; have c0 := hS.1.1.cell 0 rfl; have c1 := hS.1.1.cell 1 rfl; go_simp
                try simp only [Act.put, List.setIfInBounds_toArray, List.set_cons_zero, List.set_cons_succ]
                refine txt_light (.agg #[.int .i64 bx, .int .i64 bY]) rfl rfl ?_ ?_
                · intro w' hS; have c0 := hS.1.2.1.cell 0 rfl; have c1 := hS.1.2.1.cell 1 rfl; go_simp
                try simp only [Act.put, List.setIfInBounds_toArray, List.set_cons_zero, List.set_cons_succ]
                refine txt_light (.agg #[.int .i64 dx, .int .i64 dy]) rfl rfl ?_ ?_
                · intro w' hS; have c0 := hS.1.2.2.2.cell 0 rfl; have c1 := hS.1.2.2.2.cell 1 rfl; go_simp
                try simp only [Act.put, List.setIfInBounds_toArray, List.set_cons_zero, List.set_cons_succ]
                refine txt_call [.agg #[.int .i64 ax, .int .i64 ay], .agg #[.int .i64 bx, .int .i64 bY], .agg #[.int .i64 dx, .int .i64 dy]] Try.f92 rfl rfl Try.func92 (by kernel_rfl) (by kernel_rfl) rfl ((Z2.out _).mono ?_); rintro e w22 ⟨rfl, hx22⟩; have k0 := k0.keep hx22; have k1 := k1.keep hx22; have k2 := k2.keep hx22; have k3 := k3.keep hx22; have kl := kl.keep hx22; have hbl := hbl.trans (hx22.mono hs); have hs := hs2 hbl; refine ⟨_, rfl, ⟨⟨k0, k1, k2, k3⟩, kl⟩, ?_⟩
                try simp only [Act.put, List.setIfInBounds_toArray, List.set_cons_zero, List.set_cons_succ]
                refine txt_call [.int .i64 X2] Try.f77 rfl rfl Try.func77 (by kernel_rfl) (by kernel_rfl) rfl ((rsign_any X2 _).mono ?_); rintro e wz ⟨rfl, rfl⟩; refine ⟨_, rfl, ⟨⟨k0, k1, k2, k3⟩, kl⟩, ?_⟩
                try simp only [Act.put, List.setIfInBounds_toArray, List.set_cons_zero, List.set_cons_succ]
                iterate 2 ((refine txt_light ?_ rfl rfl ?_ ?_; rotate_left; · (intro w' hS; (try dsimp only at hS); go_simp; with_reducible rfl)); try simp only [Act.put, List.setIfInBounds_toArray, List.set_cons_zero, List.set_cons_succ])
                refine txt_nil ?_; clear hx21 hx22
                go_wp2_with fail
                refine wp_region_lit_txt [0, 1, 2, 5, 6, 7, 10, 11] (fun W => (Blk W S0 [.int .i64 ax, .int .i64 ay] ∧ Blk W (S0 + 1) [.int .i64 bx, .int .i64 bY] ∧ Blk W (S0 + 1 + 1) [.int .i64 cx, .int .i64 cy] ∧ Blk W (S0 + 1 + 1 + 1) [.int .i64 dx, .int .i64 dy]) ∧ Blk W LC [.int .i64 cx, .int .i64 cy, .int .i64 dx, .int .i64 dy]) (by kernel_rfl) (by kernel_rfl) (by kernel_rfl) ⟨⟨k0.drew, k1.drew, k2.drew, k3.drew⟩, kl.drew⟩ ?_; have k0 := k0.drew; have k1 := k1.drew; have k2 := k2.drew; have k3 := k3.drew; have kl := kl.drew; have hbl := hbl.drew; refine txt_light (.agg #[.int .i64 cx, .int .i64 cy]) rfl rfl ?_ ?_
                · intro w' hS; have c0 := hS.1.2.2.1.cell 0 rfl; have c1 := hS.1.2.2.1.cell 1 rfl; go_simp
                try simp only [Act.put, List.setIfInBounds_toArray, List.set_cons_zero, List.set_cons_succ]
                refine txt_light (.agg #[.int .i64 dx, .int .i64 dy]) rfl rfl ?_ ?_
                · intro w' hS; have c0 := hS.1.2.2.2.cell 0 rfl; have c1 := hS.1.2.2.2.cell 1 rfl; go_simp
                try simp only [Act.put, List.setIfInBounds_toArray, List.set_cons_zero, List.set_cons_succ]
                refine txt_light (.agg #[.int .i64 ax, .int .i64 ay]) rfl rfl ?_ ?_
                · intro w' hS; have c0 := hS.1.1.cell 0 rfl; have c1 := hS.1.1.cell 1 rfl; go_simp
                try simp only [Act.put, List.setIfInBounds_toArray, List.set_cons_zero, List.set_cons_succ]
                refine txt_call [.agg #[.int .i64 cx, .int .i64 cy], .agg #[.int .i64 dx, .int .i64 dy], .agg #[.int .i64 ax, .int .i64 ay]] Try.f92 rfl rfl Try.func92 (by kernel_rfl) (by kernel_rfl) rfl ((Z3.out _).mono ?_); rintro e w23 ⟨rfl, hx23⟩; have k0 := k0.keep hx23; have k1 := k1.keep hx23; have k2 := k2.keep hx23; have k3 := k3.keep hx23; have kl := kl.keep hx23; have hbl := hbl.trans (hx23.mono hs); have hs := hs2 hbl; refine ⟨_, rfl, ⟨⟨k0, k1, k2, k3⟩, kl⟩, ?_⟩
                try simp only [Act.put, List.setIfInBounds_toArray, List.set_cons_zero, List.set_cons_succ]
                refine txt_call [.int .i64 X3] Try.f77 rfl rfl Try.func77 (by kernel_rfl) (by kernel_rfl) rfl ((rsign_any X3 _).mono ?_); rintro e wz ⟨rfl, rfl⟩; refine ⟨_, rfl, ⟨⟨k0, k1, k2, k3⟩, kl⟩, ?_⟩
                try simp only [Act.put, List.setIfInBounds_toArray, List.set_cons_zero, List.set_cons_succ]
                refine txt_light (.agg #[.int .i64 cx, .int .i64 cy]) rfl rfl ?_ ?_
                · intro w' hS; have c0 := hS.1.2.2.1.cell 0 rfl; have c1 := hS.1.2.2.1.cell 1 rfl; go_simp
                try simp only [Act.put, List.setIfInBounds_toArray, List.set_cons_zero, List.set_cons_succ]
                refine txt_light (.agg #[.int .i64 dx, .int .i64 dy]) rfl rfl ?_ ?_
                · intro w' hS; have c0 := hS.1.2.2.2.cell 0 rfl; have c1 := hS.1.2.2.2.cell 1 rfl; go_simp
                try simp only [Act.put, List.setIfInBounds_toArray, List.set_cons_zero, List.set_cons_succ]
                refine txt_light (.agg #[.int .i64 bx, .int .i64 bY]) rfl rfl ?_ ?_
                · intro w' hS; have c0 := hS.1.2.1.cell 0 rfl; have c1 := hS.1.2.1.cell 1 rfl; go_simp
                try simp only [Act.put, List.setIfInBounds_toArray, List.set_cons_zero, List.set_cons_succ]
                refine txt_call [.agg #[.int .i64 cx, .int .i64 cy], .agg #[.int .i64 dx, .int .i64 dy], .agg #[.int .i64 bx, .int .i64 bY]] Try.f92 rfl rfl Try.func92 (by kernel_rfl) (by kernel_rfl) rfl ((Z4.out _).mono ?_); rintro e w24 ⟨rfl, hx24⟩; have k0 := k0.keep hx24; have k1 := k1.keep hx24; have k2 := k2.keep hx24; have k3 := k3.keep hx24; have kl := kl.keep hx24; have hbl := hbl.trans (hx24.mono hs); have hs := hs2 hbl; refine ⟨_, rfl, ⟨⟨k0, k1, k2, k3⟩, kl⟩, ?_⟩
                try simp only [Act.put, List.setIfInBounds_toArray, List.set_cons_zero, List.set_cons_succ]
                refine txt_call [.int .i64 X4] Try.f77 rfl rfl Try.func77 (by kernel_rfl) (by kernel_rfl) rfl ((rsign_any X4 _).mono ?_); rintro e wz ⟨rfl, rfl⟩; refine ⟨_, rfl, ⟨⟨k0, k1, k2, k3⟩, kl⟩, ?_⟩
                try simp only [Act.put, List.setIfInBounds_toArray, List.set_cons_zero, List.set_cons_succ]
                iterate 2 ((refine txt_light ?_ rfl rfl ?_ ?_; rotate_left; · (intro w' hS; (try dsimp only at hS); go_simp; with_reducible rfl)); try simp only [Act.put, List.setIfInBounds_toArray, List.set_cons_zero, List.set_cons_succ])
                refine txt_nil ?_; clear hx23 hx24; clear Z1 Z2 Z3 Z4; have hR3 := HR3.out; clear HR3; generalize sg X1 = W1 at *; generalize sg X2 = W2 at *; generalize sg X3 = W3 at *; generalize sg X4 = W4 at *
                by_cases c4 : W1 = W2
                · have HF : Hid (R = 0) := Lib.hid (by rw [← hR3, if_neg (fun h => h.1 c4)]); have hq4 : (W1 != W2) = false := by simp [c4]
                  clear hR3 c4; go_wp2; go_ret; exact ⟨ret_int HF.out.symm, by first | exact hbl | (rw [← hS0]; exact hbl)⟩
                · have hq4 : (W1 != W2) = true := by simpa using c4
                  by_cases c5 : W3 = W4
                  · have HF : Hid (R = 0) := Lib.hid (by rw [← hR3, if_neg (fun h => h.2 c5)]); have hq5 : (W3 != W4) = false := by simp [c5]
                    clear hR3 c4 c5; go_wp2; go_ret; exact ⟨ret_int HF.out.symm, by first | exact hbl | (rw [← hS0]; exact hbl)⟩
                  · have HF : Hid (R = 3) := Lib.hid (by rw [← hR3, if_pos ⟨c4, c5⟩]); have hq5 : (W3 != W4) = true := by simpa using c5
                    clear hR3 c4 c5; go_wp2; go_ret; exact ⟨ret_int HF.out.symm, by first | exact hbl | (rw [← hS0]; exact hbl)⟩
  clear hK1 T1 T2 T3 T4 Z1 Z2 Z3 Z4 HE1 HE2 k0 k1 k2 k3; have HR5 : Hid ((((ax = cx ∧ ay = cy) ∧ bx = dx ∧ bY = dy) ∨ ((ax = dx ∧ ay = dy) ∧ bx = cx ∧ bY = cy)) → R = 5) := Lib.hid fun h => by rw [← HR.out, if_pos h]
  clear HR; go_wp2
  all_goals first
    | omega
    | (subst_vars; exact main (by omega) _ _ _ _ _ _ _ _ _ _ _ _ _ _ _ _ _ _)
    | (subst_vars
       go_ret; exact ⟨ret_int (HR5.out (by omega)).symm, by assumption⟩)
end Go.Proofs.Ytccamjnomjcchaa
