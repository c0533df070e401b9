/-
  graticuleref01.Cross, Sign, On.
-/
import Derived.Test.YtccamjnomjcchaaPk9
import Derived.Test.YtccamjnomjcchaaPk32
/- graticuleref01.Cross, Sign, On. -/
set_option linter.unusedVariables false
set_option linter.unusedSimpArgs false
set_option maxRecDepth 100000
namespace Go.Proofs.Ytccamjnomjcchaa
open Go.RowKit

theorem rsign_any (n : Int) (w : World) :
    Calls Try.prog 77 #[.int .i64 n] w fun e w' => e = .returned (.int .i64 (sg n)) ∧ w = w' := by
  go_enter Try.func77, Try.ntmps77
  rcases Int.lt_trichotomy n 0 with h | h | h
  · have h' : ¬ 0 < n := by omega
    go_wp2
    go_ret
    exact ⟨ret_int (sg_neg h).symm, rfl⟩
  · subst h
    go_wp2
    go_ret
    exact ⟨rfl, rfl⟩
  · go_wp2
    go_ret
    exact ⟨ret_int (sg_pos h).symm, rfl⟩

set_option maxHeartbeats 3200000 in
theorem ron_far (a b p : Pt) (ha : okW a) (hb : okW b) (hp : okW p) (hab : a ≠ b) (w : World) :
    Calls Try.prog 91 #[a.val, b.val, p.val] w fun e w' => e = .returned (.bool (onP a b p)) ∧ Below w.heap.size w w' := by
  have hx := rcross_wide a b p ha hb hp
  obtain ⟨R, hR⟩ : ∃ R, onP a b p = R := ⟨_, rfl⟩
  rw [hR]
  unfold onP at hR
  rw [if_neg hab] at hR
  unfold okW at ha hb hp
  generalize crs a b p = X at *
  have hne := pt_ne hab
  obtain ⟨ax, ay⟩ := a
  obtain ⟨bx, bY⟩ := b
  obtain ⟨px, py⟩ := p
  dsimp only [Pt.val] at *
  have m1 := mul_bd (px - ax) (bx - ax) 67108864 67108864 (by omega) (by omega) (by omega) (by omega)
  have m2 := mul_bd (py - ay) (bY - ay) 67108864 67108864 (by omega) (by omega) (by omega) (by omega)
  have m3 := mul_bd (bx - ax) (bx - ax) 67108864 67108864 (by omega) (by omega) (by omega) (by omega)
  have m4 := mul_bd (bY - ay) (bY - ay) 67108864 67108864 (by omega) (by omega) (by omega) (by omega)
  simp only [Int.reduceMul, Int.reduceNeg] at m1 m2 m3 m4
  obtain ⟨U1, hU1⟩ : ∃ U, px - ax = U := ⟨_, rfl⟩
  obtain ⟨U2, hU2⟩ : ∃ U, py - ay = U := ⟨_, rfl⟩
  obtain ⟨U3, hU3⟩ : ∃ U, bx - ax = U := ⟨_, rfl⟩
  obtain ⟨U4, hU4⟩ : ∃ U, bY - ay = U := ⟨_, rfl⟩
  have w1 : IntKind.i64.wrap (px - ax) = U1 := by rw [hU1]; exact IntWalk.i64_in _ (by omega)
  have w2 : IntKind.i64.wrap (py - ay) = U2 := by rw [hU2]; exact IntWalk.i64_in _ (by omega)
  have w3 : IntKind.i64.wrap (bx - ax) = U3 := by rw [hU3]; exact IntWalk.i64_in _ (by omega)
  have w4 : IntKind.i64.wrap (bY - ay) = U4 := by rw [hU4]; exact IntWalk.i64_in _ (by omega)
  rw [hU1, hU3] at m1
  rw [hU2, hU4] at m2
  rw [hU3] at m3
  rw [hU4] at m4
  obtain ⟨P1, hP1⟩ : ∃ U, U1 * U3 = U := ⟨_, rfl⟩
  obtain ⟨P2, hP2⟩ : ∃ U, U2 * U4 = U := ⟨_, rfl⟩
  obtain ⟨P3, hP3⟩ : ∃ U, U3 * U3 = U := ⟨_, rfl⟩
  obtain ⟨P4, hP4⟩ : ∃ U, U4 * U4 = U := ⟨_, rfl⟩
  rw [hP1] at m1
  rw [hP2] at m2
  rw [hP3] at m3
  rw [hP4] at m4
  have p1 : IntKind.i64.wrap (U1 * U3) = P1 := by rw [hP1]; exact IntWalk.i64_in _ (by omega)
  have p2 : IntKind.i64.wrap (U2 * U4) = P2 := by rw [hP2]; exact IntWalk.i64_in _ (by omega)
  have p3 : IntKind.i64.wrap (U3 * U3) = P3 := by rw [hP3]; exact IntWalk.i64_in _ (by omega)
  have p4 : IntKind.i64.wrap (U4 * U4) = P4 := by rw [hP4]; exact IntWalk.i64_in _ (by omega)
  obtain ⟨D, hD⟩ : ∃ U, P1 + P2 = U := ⟨_, rfl⟩
  obtain ⟨G, hG⟩ : ∃ U, P3 + P4 = U := ⟨_, rfl⟩
  have s1 : IntKind.i64.wrap (P1 + P2) = D := by rw [hD]; exact IntWalk.i64_in _ (by omega)
  have s2 : IntKind.i64.wrap (P3 + P4) = G := by rw [hG]; exact IntWalk.i64_in _ (by omega)
  have eD : dotP ⟨ax, ay⟩ ⟨bx, bY⟩ ⟨px, py⟩ = D := by
    show (px - ax) * (bx - ax) + (py - ay) * (bY - ay) = D
    rw [hU1, hU2, hU3, hU4, hP1, hP2, hD]
  have eG : longP ⟨ax, ay⟩ ⟨bx, bY⟩ = G := by
    show (bx - ax) * (bx - ax) + (bY - ay) * (bY - ay) = G
    rw [hU3, hU4, hP3, hP4, hG]
  rw [eD, eG] at hR
  clear eD eG
  clear m1 m2 m3 m4 hU1 hU2 hU3 hU4 hP1 hP2 hP3 hP4 hD hG
  have HX := Lib.hid hx
  have HR := Lib.hid hR
  have hne' : Hid (¬ (ax = bx ∧ ay = bY)) := Lib.hid (by omega)
  clear hx hR hab ha hb hp hne
  have k0 := ((Blk.lit w w.heap.size [.int .i64 ax, .int .i64 ay] 73 rfl).alloc (.cells #[.int .i64 bx, .int .i64 bY] 73)).alloc (.cells #[.int .i64 px, .int .i64 py] 73)
  have k1 := (Blk.lit (w.alloc (.cells #[.int .i64 ax, .int .i64 ay] 73)) (w.heap.size + 1) [.int .i64 bx, .int .i64 bY] 73 (by simp)).alloc (.cells #[.int .i64 px, .int .i64 py] 73)
  have hbl := ((Below.new w (.cells #[.int .i64 ax, .int .i64 ay] 73)).alloc (by simp) (.cells #[.int .i64 bx, .int .i64 bY] 73)).alloc (by simp; omega) (.cells #[.int .i64 px, .int .i64 py] 73)
  have hs := hbl.size
  go_enter Try.func91, Try.ntmps91
  by_cases hxe : ax = bx
  · have hq1 : (ax == bx) = true := by simp [hxe]
    have hq2 : (ay == bY) = false := by simpa using fun h => hne'.out ⟨hxe, h⟩
    clear hxe hne'
    go_wp2_with fail
    refine (HX.out _).mono ?_
    rintro e w5 ⟨rfl, hx5⟩
    have hbl5 := hbl.trans (hx5.mono hs)
    clear HX hx5 k0 k1 hbl
    have hRR := HR.out
    by_cases hX0 : X = 0
    · subst hX0
      by_cases hD0 : 0 ≤ D
      · go_wp2
        go_ret
        refine ⟨ret_bool ?_, hbl5⟩
        rw [← hRR]; simp [hD0]
      · have hDd : decide (0 ≤ D) = false := decide_eq_false hD0
        go_wp2
        go_ret
        refine ⟨ret_bool ?_, hbl5⟩
        rw [← hRR, hDd]; simp
    · have hX1 : (X == 0) = false := by simpa using hX0
      go_wp2
      go_ret
      refine ⟨ret_bool ?_, hbl5⟩
      rw [← hRR]; simp [hX0]
  · have hq1 : (ax == bx) = false := by simpa using hxe
    clear hxe hne'
    go_wp2_with fail
    refine (HX.out _).mono ?_
    rintro e w5 ⟨rfl, hx5⟩
    have hbl5 := hbl.trans (hx5.mono hs)
    clear HX hx5 k0 k1 hbl
    have hRR := HR.out
    by_cases hX0 : X = 0
    · subst hX0
      by_cases hD0 : 0 ≤ D
      · go_wp2
        go_ret
        refine ⟨ret_bool ?_, hbl5⟩
        rw [← hRR]; simp [hD0]
      · have hDd : decide (0 ≤ D) = false := decide_eq_false hD0
        go_wp2
        go_ret
        refine ⟨ret_bool ?_, hbl5⟩
        rw [← hRR, hDd]; simp
    · have hX1 : (X == 0) = false := by simpa using hX0
      go_wp2
      go_ret
      refine ⟨ret_bool ?_, hbl5⟩
      rw [← hRR]; simp [hX0]
theorem ron_same (a p : Pt) (w : World) :
    Calls Try.prog 91 #[a.val, a.val, p.val] w fun e w' => e = .returned (.bool (onP a a p)) ∧ Below w.heap.size w w' := by
  obtain ⟨R, hR⟩ : ∃ R, onP a a p = R := ⟨_, rfl⟩
  rw [hR]
  unfold onP at hR
  rw [if_pos rfl] at hR
  obtain ⟨ax, ay⟩ := a
  obtain ⟨px, py⟩ := p
  dsimp only [Pt.val] at *
  have HR : ∀ b, decide ((⟨px, py⟩ : Pt) = ⟨ax, ay⟩) = b → b = R := fun b h => h.symm.trans hR
  clear hR
  have k0 := ((Blk.lit w w.heap.size [.int .i64 ax, .int .i64 ay] 73 rfl).alloc (.cells #[.int .i64 ax, .int .i64 ay] 73)).alloc (.cells #[.int .i64 px, .int .i64 py] 73)
  have k1 := (Blk.lit (w.alloc (.cells #[.int .i64 ax, .int .i64 ay] 73)) (w.heap.size + 1) [.int .i64 ax, .int .i64 ay] 73 (by simp)).alloc (.cells #[.int .i64 px, .int .i64 py] 73)
  have hbl := ((Below.new w (.cells #[.int .i64 ax, .int .i64 ay] 73)).alloc (by simp) (.cells #[.int .i64 ax, .int .i64 ay] 73)).alloc (by simp; omega) (.cells #[.int .i64 px, .int .i64 py] 73)
  go_enter Try.func91, Try.ntmps91
  have hq1 : (ax == ax) = true := by simp
  have hq2 : (ay == ay) = true := by simp
  go_wp2
  all_goals (go_ret; subst_vars; refine ⟨ret_bool (HR _ ?_), hbl⟩; simp_all)
theorem ron_wide (a b p : Pt) (ha : okW a) (hb : okW b) (hp : okW p) (w : World) :
    Calls Try.prog 91 #[a.val, b.val, p.val] w fun e w' => e = .returned (.bool (onP a b p)) ∧ Below w.heap.size w w' := by
  by_cases hab : a = b
  · subst hab; exact ron_same a p w
  · exact ron_far a b p ha hb hp hab w
theorem ron_any (a b p : Pt) (ha : okPt a = true) (hb : okPt b = true) (hp : okPt p = true) (hab : a ≠ b) (w : World) :
    Calls Try.prog 91 #[a.val, b.val, p.val] w fun e w' => e = .returned (.bool (onP a b p)) ∧ Below w.heap.size w w' :=
  ron_far a b p (okW_of ha) (okW_of hb) (okW_of hp) hab w
end Go.Proofs.Ytccamjnomjcchaa
