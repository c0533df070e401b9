/-
  exact.Turn, Less; seg.line.
-/
import Derived.Test.YtccamjnomjcchaaPk9
/- exact.Turn, Less; seg.line. -/
set_option linter.unusedVariables false
set_option linter.unusedSimpArgs false
set_option maxRecDepth 100000
namespace Go
theorem pt_beq (a b c d : Int) : ((a == c) && (b == d)) = decide ((⟨a, b⟩ : Pt) = ⟨c, d⟩) := by
  rw [Bool.eq_iff_iff]; simp
end Go
namespace Go.Proofs.Ytccamjnomjcchaa
open Go.RowKit

theorem xless_any (a b : Pt) (w : World) :
    Calls Try.prog 42 #[a.val, b.val] w fun e w' => e = .returned (.bool (lessP a b)) ∧ Below w.heap.size w w' := by
  obtain ⟨ax, ay⟩ := a; obtain ⟨bx, bY⟩ := b; obtain ⟨L, hL⟩ : ∃ L, lessP ⟨ax, ay⟩ ⟨bx, bY⟩ = L := ⟨_, rfl⟩; rw [hL]; have HL := Lib.hid hL; dsimp only [Pt.val, lessP] at *; clear hL; have hbl := ((Below.new w (.cells #[.int .i64 ax, .int .i64 ay] 46)).alloc (by simp) (.cells #[.int .i64 bx, .int .i64 bY] 46))
  go_enter Try.func42, Try.ntmps42
  rcases Int.lt_trichotomy ax bx with h | h | h
  · go_wp2; go_ret; exact ⟨ret_bool (by rw [← HL.out]; simp [h]), hbl⟩
  · subst h; go_wp2; go_ret; exact ⟨ret_bool (by rw [← HL.out]; simp), hbl⟩
  · have h' : ¬ ax < bx := by omega
    have h'' : (ax == bx) = false := by simp; omega
    go_wp2; go_ret; refine ⟨ret_bool ?_, hbl⟩; rw [← HL.out, decide_eq_false (by omega : ¬ ax < bx), decide_eq_false (by omega : ¬ ax = bx)]; rfl

set_option maxHeartbeats 1600000 in
theorem sline_any (a b c d : Pt) (w : World) :
    Calls Try.prog 88 #[a.val, b.val, c.val, d.val] w fun e w' => e = .returned (.int .i64 (lineF a b c d)) ∧ Below w.heap.size w w' := by
  obtain ⟨R, hR⟩ : ∃ R, lineF a b c d = R := ⟨_, rfl⟩; rw [hR]; unfold lineF at hR; dsimp only at hR; have h1 := xless_any b a; have h2 := xless_any d c; have HR := Lib.hid hR; clear hR; have core : ∀ (a' b' c' d' : Pt), True := fun _ _ _ _ => trivial; clear core
  go_enter Try.func88, Try.ntmps88
  obtain ⟨ax, ay⟩ := a; obtain ⟨bx, bY⟩ := b; obtain ⟨cx, cy⟩ := c; obtain ⟨dx, dy⟩ := d; dsimp only [Pt.val] at *; have k0 := ((((Blk.lit w w.heap.size [.int .i64 ax, .int .i64 ay] 46 rfl).alloc (.cells #[.int .i64 bx, .int .i64 bY] 46)).alloc (.cells #[.int .i64 cx, .int .i64 cy] 46)).alloc (.cells #[.int .i64 dx, .int .i64 dy] 46)); have k1 := (((Blk.lit (w.alloc (.cells #[.int .i64 ax, .int .i64 ay] 46)) (w.heap.size + 1) [.int .i64 bx, .int .i64 bY] 46 (by simp)).alloc (.cells #[.int .i64 cx, .int .i64 cy] 46)).alloc (.cells #[.int .i64 dx, .int .i64 dy] 46)); have k2 := ((Blk.lit ((w.alloc (.cells #[.int .i64 ax, .int .i64 ay] 46)).alloc (.cells #[.int .i64 bx, .int .i64 bY] 46)) (w.heap.size + 1 + 1) [.int .i64 cx, .int .i64 cy] 46 (by simp)).alloc (.cells #[.int .i64 dx, .int .i64 dy] 46)); have k3 := (Blk.lit (((w.alloc (.cells #[.int .i64 ax, .int .i64 ay] 46)).alloc (.cells #[.int .i64 bx, .int .i64 bY] 46)).alloc (.cells #[.int .i64 cx, .int .i64 cy] 46)) (w.heap.size + 1 + 1 + 1) [.int .i64 dx, .int .i64 dy] 46 (by simp)); have hbl := (((Below.new w (.cells #[.int .i64 ax, .int .i64 ay] 46)).alloc (by simp) (.cells #[.int .i64 bx, .int .i64 bY] 46)).alloc (by simp; omega) (.cells #[.int .i64 cx, .int .i64 cy] 46)).alloc (by simp; omega) (.cells #[.int .i64 dx, .int .i64 dy] 46); have H1 := Lib.hid h1; have H2 := Lib.hid h2; clear h1 h2; obtain ⟨wA, hwA⟩ : ∃ wA, (((w.alloc (.cells #[.int .i64 ax, .int .i64 ay] 46)).alloc (.cells #[.int .i64 bx, .int .i64 bY] 46)).alloc (.cells #[.int .i64 cx, .int .i64 cy] 46)).alloc (.cells #[.int .i64 dx, .int .i64 dy] 46) = wA := ⟨_, rfl⟩
  rw [hwA] at k0 k1 k2 k3 hbl; have hs := hbl.size; obtain ⟨S0, hS0⟩ : ∃ S0, w.heap.size = S0 := ⟨_, rfl⟩; rw [hS0] at k0 k1 k2 k3 hbl hs; have l3 := k3.lt
  cases hb1 : lessP ⟨bx, bY⟩ ⟨ax, ay⟩ <;> cases hb2 : lessP ⟨dx, dy⟩ ⟨cx, cy⟩
  · rw [hb1] at H1 HR; rw [hb2] at H2 HR; have HR2 := HR.out; simp only [if_true, if_false, Bool.false_eq_true] at HR2; have HRR := Lib.hid HR2; clear HR HR2 hb1 hb2; have z0 := k0.cell 0 rfl; have z1 := k0.cell 1 rfl; have z2 := k1.cell 0 rfl; have z3 := k1.cell 1 rfl; have z4 := k2.cell 0 rfl; have z5 := k2.cell 1 rfl; have z6 := k3.cell 0 rfl; have z7 := k3.cell 1 rfl
    go_wp2_with fail
    refine (H1.out _).mono ?_; rintro e w1 ⟨rfl, hx1⟩; have l3 := k3.lt; have k0 := k0.keep hx1; have k1 := k1.keep hx1; have k2 := k2.keep hx1; have k3 := k3.keep hx1; have hbl := hbl.trans (hx1.mono hs); clear H1 hx1 hwA z0 z1 z2 z3 z4 z5 z6 z7; have c0 := k0.cell 0 rfl; have c1 := k0.cell 1 rfl; have d0 := k1.cell 0 rfl; have d1 := k1.cell 1 rfl; have e0 := k2.cell 0 rfl; have e1 := k2.cell 1 rfl; have f0 := k3.cell 0 rfl; have f1 := k3.cell 1 rfl; have g0 := k0.free 0; have g1 := k0.free 1; have g2 := k1.free 0; have g3 := k1.free 1; have i0 := k2.free 0; have i1 := k2.free 1; have i2 := k3.free 0; have i3 := k3.free 1; have hs2 := hbl.size; rw [hS0] at hs2
    go_wp2_with fail
    refine (H2.out _).mono ?_; rintro e w2 ⟨rfl, hx2⟩; have k0 := k0.keep hx2; have k1 := k1.keep hx2; have k2 := k2.keep hx2; have k3 := k3.keep hx2; have hbl := hbl.trans (hx2.mono hs2); clear H2 hx2 c0 c1 d0 d1 e0 e1 f0 f1 g0 g1 g2 g3 i0 i1 i2 i3; have hs3 := hbl.size; rw [hS0] at hs3; have a0 := k0.cell 0 rfl; have a1 := k0.cell 1 rfl; have b0 := k1.cell 0 rfl; have b1 := k1.cell 1 rfl; have x0 := k2.cell 0 rfl; have x1 := k2.cell 1 rfl; have y0 := k3.cell 0 rfl; have y1 := k3.cell 1 rfl; have q1 := xless_any ⟨bx, bY⟩ ⟨cx, cy⟩; have q2 := xless_any ⟨dx, dy⟩ ⟨ax, ay⟩; have HRR := HRR.out; generalize lessP ⟨bx, bY⟩ ⟨cx, cy⟩ = L1 at *; generalize lessP ⟨dx, dy⟩ ⟨ax, ay⟩ = L2 at *; have Q1 := Lib.hid q1; have Q2 := Lib.hid q2; have HRR := Lib.hid HRR; dsimp only [Pt.val] at Q1 Q2; clear q1 q2
    go_wp2_with fail
    refine (Q1.out _).mono ?_; rintro e w3 ⟨rfl, hx3⟩; have k0 := k0.keep hx3; have k1 := k1.keep hx3; have k2 := k2.keep hx3; have k3 := k3.keep hx3; have hbl := hbl.trans (hx3.mono hs3); have hs4 := hbl.size; rw [hS0] at hs4; clear Q1 hx3 a0 a1 b0 b1 x0 x1 y0 y1; have a0 := k0.cell 0 rfl; have a1 := k0.cell 1 rfl; have b0 := k1.cell 0 rfl; have b1 := k1.cell 1 rfl; have x0 := k2.cell 0 rfl; have x1 := k2.cell 1 rfl; have y0 := k3.cell 0 rfl; have y1 := k3.cell 1 rfl
    cases L1 with
    | true =>
      go_wp2; go_ret; exact ⟨ret_int (by rw [← HRR.out]; rfl), by rw [hS0]; exact hbl⟩
    | false =>
      go_wp2_with fail
      refine (Q2.out _).mono ?_; rintro e w4 ⟨rfl, hx4⟩; have k0 := k0.keep hx4; have k1 := k1.keep hx4; have k2 := k2.keep hx4; have k3 := k3.keep hx4; have hbl := hbl.trans (hx4.mono hs4); clear Q2 hx4 a0 a1 b0 b1 x0 x1 y0 y1; have a0 := k0.cell 0 rfl; have a1 := k0.cell 1 rfl; have b0 := k1.cell 0 rfl; have b1 := k1.cell 1 rfl; have x0 := k2.cell 0 rfl; have x1 := k2.cell 1 rfl; have y0 := k3.cell 0 rfl; have y1 := k3.cell 1 rfl
      cases L2 with
      | true =>
        go_wp2; go_ret; exact ⟨ret_int (by rw [← HRR.out]; rfl), by rw [hS0]; exact hbl⟩
      | false =>
        have HR3 : Hid (R = (if (decide ((⟨bx, bY⟩ : Pt) = ⟨cx, cy⟩) || decide ((⟨dx, dy⟩ : Pt) = ⟨ax, ay⟩)) = true then 1 else 4)) := Lib.hid (by rw [← HRR.out]; rfl); clear HRR k0 k1 k2 k3 hs hs2 hs3 hs4 l3; go_wp2
        all_goals
          go_ret; refine ⟨ret_int ?_, by rw [hS0]; exact hbl⟩; rw [HR3.out]; clear HR3 hbl a0 a1 b0 b1 x0 x1 y0 y1
          first | (simp [*]; done) | (simp_all; done)
  · rw [hb1] at H1 HR; rw [hb2] at H2 HR; have HR2 := HR.out; simp only [if_true, if_false, Bool.false_eq_true] at HR2; have HRR := Lib.hid HR2; clear HR HR2 hb1 hb2; have z0 := k0.cell 0 rfl; have z1 := k0.cell 1 rfl; have z2 := k1.cell 0 rfl; have z3 := k1.cell 1 rfl; have z4 := k2.cell 0 rfl; have z5 := k2.cell 1 rfl; have z6 := k3.cell 0 rfl; have z7 := k3.cell 1 rfl
    go_wp2_with fail
    refine (H1.out _).mono ?_; rintro e w1 ⟨rfl, hx1⟩; have l3 := k3.lt; have k0 := k0.keep hx1; have k1 := k1.keep hx1; have k2 := k2.keep hx1; have k3 := k3.keep hx1; have hbl := hbl.trans (hx1.mono hs); clear H1 hx1 hwA z0 z1 z2 z3 z4 z5 z6 z7; have c0 := k0.cell 0 rfl; have c1 := k0.cell 1 rfl; have d0 := k1.cell 0 rfl; have d1 := k1.cell 1 rfl; have e0 := k2.cell 0 rfl; have e1 := k2.cell 1 rfl; have f0 := k3.cell 0 rfl; have f1 := k3.cell 1 rfl; have g0 := k0.free 0; have g1 := k0.free 1; have g2 := k1.free 0; have g3 := k1.free 1; have i0 := k2.free 0; have i1 := k2.free 1; have i2 := k3.free 0; have i3 := k3.free 1; have hs2 := hbl.size; rw [hS0] at hs2
    go_wp2_with fail
    refine (H2.out _).mono ?_; rintro e w2 ⟨rfl, hx2⟩; have k0 := k0.keep hx2; have k1 := k1.keep hx2; have k2 := k2.keep hx2; have k3 := k3.keep hx2; have hbl := hbl.trans (hx2.mono hs2); clear H2 hx2 c0 c1 d0 d1 e0 e1 f0 f1 g0 g1 g2 g3 i0 i1 i2 i3; have e0 := k2.cell 0 rfl; have e1 := k2.cell 1 rfl; have f0 := k3.cell 0 rfl; have f1 := k3.cell 1 rfl; have i0 := k2.free 0; have i1 := k2.free 1; have i2 := k3.free 0; have i3 := k3.free 1; have n1 : S0 + 1 + 1 ≠ S0 + 1 + 1 + 1 := by omega
    have n2 : S0 + 1 + 1 + 1 ≠ S0 + 1 + 1 := by omega
    have n3 : S0 ≠ S0 + 1 + 1 := by omega
    have n4 : S0 ≠ S0 + 1 + 1 + 1 := by omega
    have n5 : S0 + 1 ≠ S0 + 1 + 1 := by omega
    have n6 : S0 + 1 ≠ S0 + 1 + 1 + 1 := by omega
    have k2' := (((k2.set 0 (.int .i64 dx)).set 1 (.int .i64 dy)).set_at (o := 0) n1 (.int .i64 cx)).set_at (o := 1) n1 (.int .i64 cy); have k3' := (((k3.set_at (o := 0) n2 (.int .i64 dx)).set_at (o := 1) n2 (.int .i64 dy)).set 0 (.int .i64 cx)).set 1 (.int .i64 cy); have k0' := (((k0.set_at (o := 0) n3 (.int .i64 dx)).set_at (o := 1) n3 (.int .i64 dy)).set_at (o := 0) n4 (.int .i64 cx)).set_at (o := 1) n4 (.int .i64 cy); have k1' := (((k1.set_at (o := 0) n5 (.int .i64 dx)).set_at (o := 1) n5 (.int .i64 dy)).set_at (o := 0) n6 (.int .i64 cx)).set_at (o := 1) n6 (.int .i64 cy); have hbl' := (((hbl.set_at (b := S0 + 1 + 1) (o := 0) (by omega) (.int .i64 dx)).set_at (b := S0 + 1 + 1) (o := 1) (by omega) (.int .i64 dy)).set_at (b := S0 + 1 + 1 + 1) (o := 0) (by omega) (.int .i64 cx)).set_at (b := S0 + 1 + 1 + 1) (o := 1) (by omega) (.int .i64 cy); obtain ⟨w2', hw2'⟩ : ∃ w2', ((((w2.setCell ⟨S0 + 1 + 1, 0, none⟩ (.int .i64 dx)).setCell ⟨S0 + 1 + 1, 1, none⟩ (.int .i64 dy)).setCell ⟨S0 + 1 + 1 + 1, 0, none⟩ (.int .i64 cx)).setCell ⟨S0 + 1 + 1 + 1, 1, none⟩ (.int .i64 cy)) = w2' := ⟨_, rfl⟩; rw [hw2'] at k0' k1' k2' k3' hbl'; have k0 := k0'; have k1 := k1'; have k2 := k2'; have k3 := k3'; have hbl := hbl'; clear k0' k1' k2' k3' hbl'; dsimp only [List.set_cons_zero, List.set_cons_succ] at k2 k3; have hs3 := hbl.size; rw [hS0] at hs3; have a0 := k0.cell 0 rfl; have a1 := k0.cell 1 rfl; have b0 := k1.cell 0 rfl; have b1 := k1.cell 1 rfl; have x0 := k2.cell 0 rfl; have x1 := k2.cell 1 rfl; have y0 := k3.cell 0 rfl
    have y1 := k3.cell 1 rfl; have q1 := xless_any ⟨bx, bY⟩ ⟨dx, dy⟩; have q2 := xless_any ⟨cx, cy⟩ ⟨ax, ay⟩; have HRR := HRR.out; generalize lessP ⟨bx, bY⟩ ⟨dx, dy⟩ = L1 at *; generalize lessP ⟨cx, cy⟩ ⟨ax, ay⟩ = L2 at *; have Q1 := Lib.hid q1; have Q2 := Lib.hid q2; have HRR := Lib.hid HRR; dsimp only [Pt.val] at Q1 Q2; clear q1 q2
    go_wp2_with fail
    refine (Q1.out _).mono ?_; rintro e w3 ⟨rfl, hx3⟩; clear hw2'; have k0 := k0.keep hx3; have k1 := k1.keep hx3; have k2 := k2.keep hx3; have k3 := k3.keep hx3; have hbl := hbl.trans (hx3.mono hs3); have hs4 := hbl.size; rw [hS0] at hs4; clear Q1 hx3 a0 a1 b0 b1 x0 x1 y0 y1; have a0 := k0.cell 0 rfl; have a1 := k0.cell 1 rfl; have b0 := k1.cell 0 rfl; have b1 := k1.cell 1 rfl; have x0 := k2.cell 0 rfl; have x1 := k2.cell 1 rfl; have y0 := k3.cell 0 rfl; have y1 := k3.cell 1 rfl
    cases L1 with
    | true =>
      go_wp2; go_ret; exact ⟨ret_int (by rw [← HRR.out]; rfl), by rw [hS0]; exact hbl⟩
    | false =>
      go_wp2_with fail
      refine (Q2.out _).mono ?_; rintro e w4 ⟨rfl, hx4⟩; have k0 := k0.keep hx4; have k1 := k1.keep hx4; have k2 := k2.keep hx4; have k3 := k3.keep hx4; have hbl := hbl.trans (hx4.mono hs4); clear Q2 hx4 a0 a1 b0 b1 x0 x1 y0 y1; have a0 := k0.cell 0 rfl; have a1 := k0.cell 1 rfl; have b0 := k1.cell 0 rfl; have b1 := k1.cell 1 rfl; have x0 := k2.cell 0 rfl; have x1 := k2.cell 1 rfl; have y0 := k3.cell 0 rfl; have y1 := k3.cell 1 rfl
      cases L2 with
      | true =>
        go_wp2; go_ret; exact ⟨ret_int (by rw [← HRR.out]; rfl), by rw [hS0]; exact hbl⟩
      | false =>
        have HR3 : Hid (R = (if (decide ((⟨bx, bY⟩ : Pt) = ⟨dx, dy⟩) || decide ((⟨cx, cy⟩ : Pt) = ⟨ax, ay⟩)) = true then 1 else 4)) := Lib.hid (by rw [← HRR.out]; rfl); clear HRR k0 k1 k2 k3 hs hs2 hs3 hs4 l3; go_wp2
        all_goals
          go_ret; refine ⟨ret_int ?_, by rw [hS0]; exact hbl⟩; rw [HR3.out]; clear HR3 hbl a0 a1 b0 b1 x0 x1 y0 y1
          first | (simp [*]; done) | (simp_all; done)
  · rw [hb1] at H1 HR; rw [hb2] at H2 HR; have HR2 := HR.out; simp only [if_true, if_false, Bool.false_eq_true] at HR2; have HRR := Lib.hid HR2; clear HR HR2 hb1 hb2; have z0 := k0.cell 0 rfl; have z1 := k0.cell 1 rfl; have z2 := k1.cell 0 rfl; have z3 := k1.cell 1 rfl; have z4 := k2.cell 0 rfl; have z5 := k2.cell 1 rfl; have z6 := k3.cell 0 rfl; have z7 := k3.cell 1 rfl
    go_wp2_with fail
    refine (H1.out _).mono ?_; rintro e w1 ⟨rfl, hx1⟩; have l3 := k3.lt; have k0 := k0.keep hx1; have k1 := k1.keep hx1; have k2 := k2.keep hx1; have k3 := k3.keep hx1; have hbl := hbl.trans (hx1.mono hs); clear H1 hx1 hwA z0 z1 z2 z3 z4 z5 z6 z7; have c0 := k0.cell 0 rfl; have c1 := k0.cell 1 rfl; have d0 := k1.cell 0 rfl; have d1 := k1.cell 1 rfl; have e0 := k2.cell 0 rfl; have e1 := k2.cell 1 rfl; have f0 := k3.cell 0 rfl; have f1 := k3.cell 1 rfl; have g0 := k0.free 0; have g1 := k0.free 1; have g2 := k1.free 0; have g3 := k1.free 1; have i0 := k2.free 0; have i1 := k2.free 1; have i2 := k3.free 0; have i3 := k3.free 1; have n1 : S0 ≠ S0 + 1 := by omega
    have n2 : S0 + 1 ≠ S0 := by omega
    have n3 : S0 + 1 + 1 ≠ S0 := by omega
    have n4 : S0 + 1 + 1 ≠ S0 + 1 := by omega
    have n5 : S0 + 1 + 1 + 1 ≠ S0 := by omega
    have n6 : S0 + 1 + 1 + 1 ≠ S0 + 1 := by omega
    have k0' := (((k0.set 0 (.int .i64 bx)).set 1 (.int .i64 bY)).set_at (o := 0) n1 (.int .i64 ax)).set_at (o := 1) n1 (.int .i64 ay); have k1' := (((k1.set_at (o := 0) n2 (.int .i64 bx)).set_at (o := 1) n2 (.int .i64 bY)).set 0 (.int .i64 ax)).set 1 (.int .i64 ay); have k2' := (((k2.set_at (o := 0) n3 (.int .i64 bx)).set_at (o := 1) n3 (.int .i64 bY)).set_at (o := 0) n4 (.int .i64 ax)).set_at (o := 1) n4 (.int .i64 ay); have k3' := (((k3.set_at (o := 0) n5 (.int .i64 bx)).set_at (o := 1) n5 (.int .i64 bY)).set_at (o := 0) n6 (.int .i64 ax)).set_at (o := 1) n6 (.int .i64 ay); have hbl' := (((hbl.set_at (b := S0) (o := 0) (Nat.le_refl _) (.int .i64 bx)).set_at (b := S0) (o := 1) (Nat.le_refl _) (.int .i64 bY)).set_at (b := S0 + 1) (o := 0) (by omega) (.int .i64 ax)).set_at (b := S0 + 1) (o := 1) (by omega) (.int .i64 ay); obtain ⟨w1', hw1'⟩ : ∃ w1', ((((w1.setCell ⟨S0, 0, none⟩ (.int .i64 bx)).setCell ⟨S0, 1, none⟩ (.int .i64 bY)).setCell ⟨S0 + 1, 0, none⟩ (.int .i64 ax)).setCell ⟨S0 + 1, 1, none⟩ (.int .i64 ay)) = w1' := ⟨_, rfl⟩; rw [hw1'] at k0' k1' k2' k3' hbl'; have k0 := k0'; have k1 := k1'; have k2 := k2'; have k3 := k3'; have hbl := hbl'; clear k0' k1' k2' k3' hbl'; dsimp only [List.set_cons_zero, List.set_cons_succ] at k0 k1; have m0 := k2.cell 0 rfl; have m1 := k2.cell 1 rfl; have m2 := k3.cell 0 rfl; have m3 := k3.cell 1 rfl; have hs2 := hbl.size; rw [hS0] at hs2
    go_wp2_with fail
    refine (H2.out _).mono ?_; rintro e w2 ⟨rfl, hx2⟩; have k0 := k0.keep hx2; have k1 := k1.keep hx2; have k2 := k2.keep hx2; have k3 := k3.keep hx2; have hbl := hbl.trans (hx2.mono hs2); clear H2 hx2 c0 c1 d0 d1 e0 e1 f0 f1 g0 g1 g2 g3 i0 i1 i2 i3 m0 m1 m2 m3 hw1'; have hs3 := hbl.size; rw [hS0] at hs3; have a0 := k0.cell 0 rfl; have a1 := k0.cell 1 rfl; have b0 := k1.cell 0 rfl; have b1 := k1.cell 1 rfl; have x0 := k2.cell 0 rfl; have x1 := k2.cell 1 rfl; have y0 := k3.cell 0 rfl; have y1 := k3.cell 1 rfl; have q1 := xless_any ⟨ax, ay⟩ ⟨cx, cy⟩; have q2 := xless_any ⟨dx, dy⟩ ⟨bx, bY⟩; have HRR := HRR.out; generalize lessP ⟨ax, ay⟩ ⟨cx, cy⟩ = L1 at *; generalize lessP ⟨dx, dy⟩ ⟨bx, bY⟩ = L2 at *; have Q1 := Lib.hid q1; have Q2 := Lib.hid q2; have HRR := Lib.hid HRR; dsimp only [Pt.val] at Q1 Q2; clear q1 q2
    go_wp2_with fail
    refine (Q1.out _).mono ?_; rintro e w3 ⟨rfl, hx3⟩; have k0 := k0.keep hx3; have k1 := k1.keep hx3; have k2 := k2.keep hx3; have k3 := k3.keep hx3; have hbl := hbl.trans (hx3.mono hs3); have hs4 := hbl.size; rw [hS0] at hs4; clear Q1 hx3 a0 a1 b0 b1 x0 x1 y0 y1; have a0 := k0.cell 0 rfl; have a1 := k0.cell 1 rfl; have b0 := k1.cell 0 rfl; have b1 := k1.cell 1 rfl; have x0 := k2.cell 0 rfl; have x1 := k2.cell 1 rfl; have y0 := k3.cell 0 rfl; have y1 := k3.cell 1 rfl
    cases L1 with
    | true =>
      go_wp2; go_ret; exact ⟨ret_int (by rw [← HRR.out]; rfl), by rw [hS0]; exact hbl⟩
    | false =>
      go_wp2_with fail
      refine (Q2.out _).mono ?_; rintro e w4 ⟨rfl, hx4⟩; have k0 := k0.keep hx4; have k1 := k1.keep hx4; have k2 := k2.keep hx4; have k3 := k3.keep hx4; have hbl := hbl.trans (hx4.mono hs4); clear Q2 hx4 a0 a1 b0 b1 x0 x1 y0 y1; have a0 := k0.cell 0 rfl; have a1 := k0.cell 1 rfl; have b0 := k1.cell 0 rfl; have b1 := k1.cell 1 rfl; have x0 := k2.cell 0 rfl; have x1 := k2.cell 1 rfl; have y0 := k3.cell 0 rfl; have y1 := k3.cell 1 rfl
      cases L2 with
      | true =>
        go_wp2; go_ret; exact ⟨ret_int (by rw [← HRR.out]; rfl), by rw [hS0]; exact hbl⟩
      | false =>
        have HR3 : Hid (R = (if (decide ((⟨ax, ay⟩ : Pt) = ⟨cx, cy⟩) || decide ((⟨dx, dy⟩ : Pt) = ⟨bx, bY⟩)) = true then 1 else 4)) := Lib.hid (by rw [← HRR.out]; rfl); clear HRR k0 k1 k2 k3 hs hs2 hs3 hs4 l3; go_wp2
        all_goals
          go_ret; refine ⟨ret_int ?_, by rw [hS0]; exact hbl⟩; rw [HR3.out]; clear HR3 hbl a0 a1 b0 b1 x0 x1 y0 y1
          first | (simp [*]; done) | (simp_all; done)
  · rw [hb1] at H1 HR; rw [hb2] at H2 HR; have HR2 := HR.out; simp only [if_true, if_false, Bool.false_eq_true] at HR2; have HRR := Lib.hid HR2; clear HR HR2 hb1 hb2; have z0 := k0.cell 0 rfl; have z1 := k0.cell 1 rfl; have z2 := k1.cell 0 rfl; have z3 := k1.cell 1 rfl; have z4 := k2.cell 0 rfl; have z5 := k2.cell 1 rfl; have z6 := k3.cell 0 rfl; have z7 := k3.cell 1 rfl
    go_wp2_with fail
    refine (H1.out _).mono ?_; rintro e w1 ⟨rfl, hx1⟩; have l3 := k3.lt; have k0 := k0.keep hx1; have k1 := k1.keep hx1; have k2 := k2.keep hx1; have k3 := k3.keep hx1; have hbl := hbl.trans (hx1.mono hs); clear H1 hx1 hwA z0 z1 z2 z3 z4 z5 z6 z7; have c0 := k0.cell 0 rfl; have c1 := k0.cell 1 rfl; have d0 := k1.cell 0 rfl; have d1 := k1.cell 1 rfl; have e0 := k2.cell 0 rfl; have e1 := k2.cell 1 rfl; have f0 := k3.cell 0 rfl; have f1 := k3.cell 1 rfl; have g0 := k0.free 0; have g1 := k0.free 1; have g2 := k1.free 0; have g3 := k1.free 1; have i0 := k2.free 0; have i1 := k2.free 1; have i2 := k3.free 0; have i3 := k3.free 1; have n1 : S0 ≠ S0 + 1 := by omega
    have n2 : S0 + 1 ≠ S0 := by omega
    have n3 : S0 + 1 + 1 ≠ S0 := by omega
    have n4 : S0 + 1 + 1 ≠ S0 + 1 := by omega
    have n5 : S0 + 1 + 1 + 1 ≠ S0 := by omega
    have n6 : S0 + 1 + 1 + 1 ≠ S0 + 1 := by omega
    have k0' := (((k0.set 0 (.int .i64 bx)).set 1 (.int .i64 bY)).set_at (o := 0) n1 (.int .i64 ax)).set_at (o := 1) n1 (.int .i64 ay); have k1' := (((k1.set_at (o := 0) n2 (.int .i64 bx)).set_at (o := 1) n2 (.int .i64 bY)).set 0 (.int .i64 ax)).set 1 (.int .i64 ay); have k2' := (((k2.set_at (o := 0) n3 (.int .i64 bx)).set_at (o := 1) n3 (.int .i64 bY)).set_at (o := 0) n4 (.int .i64 ax)).set_at (o := 1) n4 (.int .i64 ay); have k3' := (((k3.set_at (o := 0) n5 (.int .i64 bx)).set_at (o := 1) n5 (.int .i64 bY)).set_at (o := 0) n6 (.int .i64 ax)).set_at (o := 1) n6 (.int .i64 ay); have hbl' := (((hbl.set_at (b := S0) (o := 0) (Nat.le_refl _) (.int .i64 bx)).set_at (b := S0) (o := 1) (Nat.le_refl _) (.int .i64 bY)).set_at (b := S0 + 1) (o := 0) (by omega) (.int .i64 ax)).set_at (b := S0 + 1) (o := 1) (by omega) (.int .i64 ay); obtain ⟨w1', hw1'⟩ : ∃ w1', ((((w1.setCell ⟨S0, 0, none⟩ (.int .i64 bx)).setCell ⟨S0, 1, none⟩ (.int .i64 bY)).setCell ⟨S0 + 1, 0, none⟩ (.int .i64 ax)).setCell ⟨S0 + 1, 1, none⟩ (.int .i64 ay)) = w1' := ⟨_, rfl⟩; rw [hw1'] at k0' k1' k2' k3' hbl'; have k0 := k0'; have k1 := k1'; have k2 := k2'; have k3 := k3'; have hbl := hbl'; clear k0' k1' k2' k3' hbl'; dsimp only [List.set_cons_zero, List.set_cons_succ] at k0 k1; have m0 := k2.cell 0 rfl; have m1 := k2.cell 1 rfl; have m2 := k3.cell 0 rfl; have m3 := k3.cell 1 rfl; have hs2 := hbl.size; rw [hS0] at hs2
    go_wp2_with fail
    refine (H2.out _).mono ?_; rintro e w2 ⟨rfl, hx2⟩; have k0 := k0.keep hx2; have k1 := k1.keep hx2; have k2 := k2.keep hx2; have k3 := k3.keep hx2; have hbl := hbl.trans (hx2.mono hs2); clear H2 hx2 c0 c1 d0 d1 e0 e1 f0 f1 g0 g1 g2 g3 i0 i1 i2 i3 m0 m1 m2 m3 hw1'; have e0 := k2.cell 0 rfl; have e1 := k2.cell 1 rfl; have f0 := k3.cell 0 rfl; have f1 := k3.cell 1 rfl; have i0 := k2.free 0; have i1 := k2.free 1; have i2 := k3.free 0; have i3 := k3.free 1; have n1 : S0 + 1 + 1 ≠ S0 + 1 + 1 + 1 := by omega
    have n2 : S0 + 1 + 1 + 1 ≠ S0 + 1 + 1 := by omega
    have n3 : S0 ≠ S0 + 1 + 1 := by omega
    have n4 : S0 ≠ S0 + 1 + 1 + 1 := by omega
    have n5 : S0 + 1 ≠ S0 + 1 + 1 := by omega
    have n6 : S0 + 1 ≠ S0 + 1 + 1 + 1 := by omega
    have k2' := (((k2.set 0 (.int .i64 dx)).set 1 (.int .i64 dy)).set_at (o := 0) n1 (.int .i64 cx)).set_at (o := 1) n1 (.int .i64 cy); have k3' := (((k3.set_at (o := 0) n2 (.int .i64 dx)).set_at (o := 1) n2 (.int .i64 dy)).set 0 (.int .i64 cx)).set 1 (.int .i64 cy); have k0' := (((k0.set_at (o := 0) n3 (.int .i64 dx)).set_at (o := 1) n3 (.int .i64 dy)).set_at (o := 0) n4 (.int .i64 cx)).set_at (o := 1) n4 (.int .i64 cy); have k1' := (((k1.set_at (o := 0) n5 (.int .i64 dx)).set_at (o := 1) n5 (.int .i64 dy)).set_at (o := 0) n6 (.int .i64 cx)).set_at (o := 1) n6 (.int .i64 cy); have hbl' := (((hbl.set_at (b := S0 + 1 + 1) (o := 0) (by omega) (.int .i64 dx)).set_at (b := S0 + 1 + 1) (o := 1) (by omega) (.int .i64 dy)).set_at (b := S0 + 1 + 1 + 1) (o := 0) (by omega) (.int .i64 cx)).set_at (b := S0 + 1 + 1 + 1) (o := 1) (by omega) (.int .i64 cy); obtain ⟨w2', hw2'⟩ : ∃ w2', ((((w2.setCell ⟨S0 + 1 + 1, 0, none⟩ (.int .i64 dx)).setCell ⟨S0 + 1 + 1, 1, none⟩ (.int .i64 dy)).setCell ⟨S0 + 1 + 1 + 1, 0, none⟩ (.int .i64 cx)).setCell ⟨S0 + 1 + 1 + 1, 1, none⟩ (.int .i64 cy)) = w2' := ⟨_, rfl⟩; rw [hw2'] at k0' k1' k2' k3' hbl'; have k0 := k0'; have k1 := k1'; have k2 := k2'; have k3 := k3'; have hbl := hbl'; clear k0' k1' k2' k3' hbl'; dsimp only [List.set_cons_zero, List.set_cons_succ] at k2 k3; have hs3 := hbl.size; rw [hS0] at hs3; have a0 := k0.cell 0 rfl; have a1 := k0.cell 1 rfl; have b0 := k1.cell 0 rfl; have b1 := k1.cell 1 rfl; have x0 := k2.cell 0 rfl; have x1 := k2.cell 1 rfl; have y0 := k3.cell 0 rfl
    have y1 := k3.cell 1 rfl; have q1 := xless_any ⟨ax, ay⟩ ⟨dx, dy⟩; have q2 := xless_any ⟨cx, cy⟩ ⟨bx, bY⟩; have HRR := HRR.out; generalize lessP ⟨ax, ay⟩ ⟨dx, dy⟩ = L1 at *; generalize lessP ⟨cx, cy⟩ ⟨bx, bY⟩ = L2 at *; have Q1 := Lib.hid q1; have Q2 := Lib.hid q2; have HRR := Lib.hid HRR; dsimp only [Pt.val] at Q1 Q2; clear q1 q2
    go_wp2_with fail
    refine (Q1.out _).mono ?_; rintro e w3 ⟨rfl, hx3⟩; clear hw2'; have k0 := k0.keep hx3; have k1 := k1.keep hx3; have k2 := k2.keep hx3; have k3 := k3.keep hx3; have hbl := hbl.trans (hx3.mono hs3); have hs4 := hbl.size; rw [hS0] at hs4; clear Q1 hx3 a0 a1 b0 b1 x0 x1 y0 y1; have a0 := k0.cell 0 rfl; have a1 := k0.cell 1 rfl; have b0 := k1.cell 0 rfl; have b1 := k1.cell 1 rfl; have x0 := k2.cell 0 rfl; have x1 := k2.cell 1 rfl; have y0 := k3.cell 0 rfl; have y1 := k3.cell 1 rfl
    cases L1 with
    | true =>
      go_wp2; go_ret; exact ⟨ret_int (by rw [← HRR.out]; rfl), by rw [hS0]; exact hbl⟩
    | false =>
      go_wp2_with fail
      refine (Q2.out _).mono ?_; rintro e w4 ⟨rfl, hx4⟩; have k0 := k0.keep hx4; have k1 := k1.keep hx4; have k2 := k2.keep hx4; have k3 := k3.keep hx4; have hbl := hbl.trans (hx4.mono hs4); clear Q2 hx4 a0 a1 b0 b1 x0 x1 y0 y1; have a0 := k0.cell 0 rfl; have a1 := k0.cell 1 rfl; have b0 := k1.cell 0 rfl; have b1 := k1.cell 1 rfl; have x0 := k2.cell 0 rfl; have x1 := k2.cell 1 rfl; have y0 := k3.cell 0 rfl; have y1 := k3.cell 1 rfl
      cases L2 with
      | true =>
        go_wp2; go_ret; exact ⟨ret_int (by rw [← HRR.out]; rfl), by rw [hS0]; exact hbl⟩
      | false =>
        have HR3 : Hid (R = (if (decide ((⟨ax, ay⟩ : Pt) = ⟨dx, dy⟩) || decide ((⟨cx, cy⟩ : Pt) = ⟨bx, bY⟩)) = true then 1 else 4)) := Lib.hid (by rw [← HRR.out]; rfl); clear HRR k0 k1 k2 k3 hs hs2 hs3 hs4 l3; go_wp2
        all_goals
          go_ret; refine ⟨ret_int ?_, by rw [hS0]; exact hbl⟩; rw [HR3.out]; clear HR3 hbl a0 a1 b0 b1 x0 x1 y0 y1
          first | (simp [*]; done) | (simp_all; done)
end Go.Proofs.Ytccamjnomjcchaa
