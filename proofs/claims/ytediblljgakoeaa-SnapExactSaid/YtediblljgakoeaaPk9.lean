/-
  slices.swapRangeCmpFunc over cuts. slices.rotateCmpFunc over cuts.
-/
import Derived.Test.YtediblljgakoeaaPk8
/- slices.swapRangeCmpFunc over cuts. -/
set_option linter.unusedVariables false
set_option linter.unusedSimpArgs false
set_option maxRecDepth 100000
namespace Go.Proofs.Ytediblljgakoeaa
open Go.RowKit Go.Srt

set_option maxHeartbeats 1600000 in
theorem cu_swr_any (base g c n : Nat) (l : List Cu) (hn : l.length = n) (hc : n ≤ c) (hn2 : n ≤ 1000000) (p q k : Nat) (hpq : p + k ≤ q) (hqn : q + k ≤ n) (w : World) (h : w.ownsRow base 84 4 (.slice (some ⟨g, 0, none⟩) n c) n (cus l)) :
    Calls Try.prog 56 #[.slice (some ⟨g, 0, none⟩) n c, .int .i64 p, .int .i64 q, .int .i64 k, .func (.func 44) #[] #[]] w fun e w' => e = .returned (.tuple #[]) ∧ w'.ownsRow base 84 4 (.slice (some ⟨g, 0, none⟩) n c) n (cus (swpR l p q k)) ∧ w.grownBy w' (some g) := by
  go_enter Try.func56, Try.ntmps56
  have HN := Lib.hid hn
  clear hn
  go_wp2
  go_loopw [10] (fun ii wr => ∃ i : Nat, i ≤ k ∧ ii = .int .i64 (i : Int) ∧ wr.ownsRow base 84 4 (.slice (some ⟨g, 0, none⟩) n c) n (cus (swpR l p q i)) ∧ w.grownBy wr (some g)) (fun ii _ => k - (intOf ii).toNat)
  case atStart => exact ⟨0, Nat.zero_le _, rfl, h, ⟨rfl, rfl, rfl, Nat.le_refl _, fun _ _ _ => rfl⟩⟩
  case round =>
    obtain ⟨i, hik, rfl, hown, hg⟩ := hrel
    by_cases hlt : i < k
    · have hlt' : (i : Int) < (k : Int) := by omega
      have hL := swpR_len l p q i
      rw [HN.out] at hL
      have HT : Hid (swpR l p q (i + 1) = swpL (swpR l p q i) (p + i) (q + i)) := Lib.hid rfl
      generalize swpR l p q i = m at *
      obtain ⟨X, hX⟩ : ∃ X, p + i = X := ⟨_, rfl⟩
      obtain ⟨Y, hY⟩ : ∃ Y, q + i = Y := ⟨_, rfl⟩
      have hwx : IntKind.i64.wrap ((p : Int) + (i : Int)) = (X : Int) := by
        rw [show (p : Int) + (i : Int) = (X : Int) by omega]; exact IntWalk.i64_in _ (by omega)
      have hwy : IntKind.i64.wrap ((q : Int) + (i : Int)) = (Y : Int) := by
        rw [show (q : Int) + (i : Int) = (Y : Int) by omega]; exact IntWalk.i64_in _ (by omega)
      have hXn : X < n := by omega
      have hYn : Y < n := by omega
      have hXY : X ≠ Y := by omega
      have hx1 : (X : Int) < (n : Int) := by omega
      have hy1 : (Y : Int) < (n : Int) := by omega
      have hx0 : (0 : Int) ≤ (X : Int) := by omega
      have hy0 : (0 : Int) ≤ (Y : Int) := by omega
      rw [hX, hY] at HT
      clear hX hY
      obtain ⟨⟨c0, c1, c2, c3⟩, -, hgl⟩ := own_cu hown X (by omega)
      obtain ⟨⟨d0, d1, d2, d3⟩, -, -⟩ := own_cu hown Y (by omega)
      have q0 := (own_cu hown X (by omega)).2.1
      have q1 := (own_cu hown Y (by omega)).2.1
      have hset : Hid (swpL m X Y = (m.set X m[Y]!).set Y m[X]!) := Lib.hid rfl
      have hYY0 : m[Y]! = m[Y]! := rfl
      have HYL : Hid (X ≠ Y → (m.set X m[Y]!)[Y]! = m[Y]!) := Lib.hid (fun h => by rw [get_set _ _ _ _ (by omega), if_neg h])
      clear hYY0
      generalize m[X]! = A at *
      generalize m[Y]! = B at *
      obtain ⟨Ax, Ay, Ap, Aw⟩ := A
      obtain ⟨Bx, By, Bp, Bw⟩ := B
      dsimp only at c0 c1 c2 c3 d0 d1 d2 d3
      go_wp2_with fail
      refine wp_region_lit_txtZ (some 23) [0, 1, 2, 3, 4, 5, 6, 7, 8, 9, 10, 11, 12, 13, 14, 15, 16, 17, 18, 20, 22] (fun W => (W.cell? ⟨g, Y * 4, none⟩ = some (.int .i64 Bx) ∧ W.cell? ⟨g, Y * 4 + 1, none⟩ = some (.int .i64 By) ∧ W.cell? ⟨g, Y * 4 + 2, none⟩ = some (.int .i64 Bp) ∧ W.cell? ⟨g, Y * 4 + 3, none⟩ = some (.int .i64 Bw))) (by kernel_rfl) (by kernel_rfl) (by kernel_rfl) (by kernel_rfl) ⟨d0, d1, d2, d3⟩ ?_
      (refine txt_light ?_ rfl rfl ?_ ?_; rotate_left; · (intro w' hS; (try dsimp only at hS); go_simp; with_reducible rfl)); try simp only [Act.put, List.setIfInBounds_toArray, List.set_cons_zero, List.set_cons_succ]
      (refine txt_light ?_ rfl rfl ?_ ?_; rotate_left; · (intro w' hS; (try dsimp only at hS); go_simp; with_reducible rfl)); try simp only [Act.put, List.setIfInBounds_toArray, List.set_cons_zero, List.set_cons_succ]
      (refine txt_light ?_ rfl rfl ?_ ?_; rotate_left; · (intro w' hS; (try dsimp only at hS); go_simp; with_reducible rfl)); try simp only [Act.put, List.setIfInBounds_toArray, List.set_cons_zero, List.set_cons_succ]
      (refine txt_light ?_ rfl rfl ?_ ?_; rotate_left; · (intro w' hS; (try dsimp only at hS); go_simp; with_reducible rfl)); try simp only [Act.put, List.setIfInBounds_toArray, List.set_cons_zero, List.set_cons_succ]
      (refine txt_light ?_ rfl rfl ?_ ?_; rotate_left; · (intro w' hS; (try dsimp only at hS); go_simp; with_reducible rfl)); try simp only [Act.put, List.setIfInBounds_toArray, List.set_cons_zero, List.set_cons_succ]
      (refine txt_light ?_ rfl rfl ?_ ?_; rotate_left; · (intro w' hS; (try dsimp only at hS); go_simp; with_reducible rfl)); try simp only [Act.put, List.setIfInBounds_toArray, List.set_cons_zero, List.set_cons_succ]
      (refine txt_light ?_ rfl rfl ?_ ?_; rotate_left; · (intro w' hS; (try dsimp only at hS); go_simp; with_reducible rfl)); try simp only [Act.put, List.setIfInBounds_toArray, List.set_cons_zero, List.set_cons_succ]
      (refine txt_light ?_ rfl rfl ?_ ?_; rotate_left; · (intro w' hS; (try dsimp only at hS); go_simp; with_reducible rfl)); try simp only [Act.put, List.setIfInBounds_toArray, List.set_cons_zero, List.set_cons_succ]
      (refine txt_light ?_ rfl rfl ?_ ?_; rotate_left; · (intro w' hS; (try dsimp only at hS); go_simp; with_reducible rfl)); try simp only [Act.put, List.setIfInBounds_toArray, List.set_cons_zero, List.set_cons_succ]
      (refine txt_light ?_ rfl rfl ?_ ?_; rotate_left; · (intro w' hS; (try dsimp only at hS); go_simp; with_reducible rfl)); try simp only [Act.put, List.setIfInBounds_toArray, List.set_cons_zero, List.set_cons_succ]
      (refine txt_light ?_ rfl rfl ?_ ?_; rotate_left; · (intro w' hS; (try dsimp only at hS); go_simp; with_reducible rfl)); try simp only [Act.put, List.setIfInBounds_toArray, List.set_cons_zero, List.set_cons_succ]
      (refine txt_light ?_ rfl rfl ?_ ?_; rotate_left; · (intro w' hS; (try dsimp only at hS); go_simp; with_reducible rfl)); try simp only [Act.put, List.setIfInBounds_toArray, List.set_cons_zero, List.set_cons_succ]
      (refine txt_light ?_ rfl rfl ?_ ?_; rotate_left; · (intro w' hS; (try dsimp only at hS); go_simp; with_reducible rfl)); try simp only [Act.put, List.setIfInBounds_toArray, List.set_cons_zero, List.set_cons_succ]
      refine txt_light (.agg #[.int .i64 Bx, .int .i64 By, .int .i64 Bp, .int .i64 Bw]) rfl rfl ?_ ?_
      · intro w' hS
        obtain ⟨c0, c1, c2, c3⟩ := hS
        go_simp
      try simp only [Act.put, List.setIfInBounds_toArray, List.set_cons_zero, List.set_cons_succ]
      (refine txt_light ?_ rfl rfl ?_ ?_; rotate_left; · (intro w' hS; (try dsimp only at hS); go_simp; with_reducible rfl)); try simp only [Act.put, List.setIfInBounds_toArray, List.set_cons_zero, List.set_cons_succ]
      (refine txt_light ?_ rfl rfl ?_ ?_; rotate_left; · (intro w' hS; (try dsimp only at hS); go_simp; with_reducible rfl)); try simp only [Act.put, List.setIfInBounds_toArray, List.set_cons_zero, List.set_cons_succ]
      (refine txt_light ?_ rfl rfl ?_ ?_; rotate_left; · (intro w' hS; (try dsimp only at hS); go_simp; with_reducible rfl)); try simp only [Act.put, List.setIfInBounds_toArray, List.set_cons_zero, List.set_cons_succ]
      (refine txt_light ?_ rfl rfl ?_ ?_; rotate_left; · (intro w' hS; (try dsimp only at hS); go_simp; with_reducible rfl)); try simp only [Act.put, List.setIfInBounds_toArray, List.set_cons_zero, List.set_cons_succ]
      (refine txt_light ?_ rfl rfl ?_ ?_; rotate_left; · (intro w' hS; (try dsimp only at hS); go_simp; with_reducible rfl)); try simp only [Act.put, List.setIfInBounds_toArray, List.set_cons_zero, List.set_cons_succ]
      refine txt_heavy rfl rfl (fun K hK => ?_)
      go_step
      refine hK.out _ _ ⟨d0, d1, d2, d3⟩ ?_
      clear hK K
      try simp only [Act.put, List.setIfInBounds_toArray, List.set_cons_zero, List.set_cons_succ]
      (refine txt_light ?_ rfl rfl ?_ ?_; rotate_left; · (intro w' hS; (try dsimp only at hS); go_simp; with_reducible rfl)); try simp only [Act.put, List.setIfInBounds_toArray, List.set_cons_zero, List.set_cons_succ]
      refine txt_heavy rfl rfl (fun K hK => ?_)
      obtain ⟨f0, f1, f2, f3⟩ := q0
      obtain ⟨h0, h1, h2, h3⟩ := q1
      go_step
      have own2 := (ownsRow_setS (W := _) (i := X * 4 + 3) (ownsRow_setS (W := _) (i := X * 4 + 2) (ownsRow_setS (W := _) (i := X * 4 + 1) (ownsRow_setS (W := wr) (i := X * 4) hown (.int .i64 Bx)) (.int .i64 By)) (.int .i64 Bp)) (.int .i64 Bw))
      rw [cus_set m X (by omega) ⟨Bx, By, Bp, Bw⟩] at own2
      have hl2 : (m.set X ⟨Bx, By, Bp, Bw⟩).length = n := by simpa using hL
      obtain ⟨⟨r0, r1, r2, r3⟩, ⟨t0, t1, t2, t3⟩, -⟩ := own_cu own2 Y (by omega)
      rw [HYL.out hXY] at r0 r1 r2 r3
      dsimp only at r0 r1 r2 r3
      have hg2 := ((((hg.trans (grown_setg wr g (X * 4) (.int .i64 Bx))).trans (grown_setg _ g (X * 4 + 1) (.int .i64 By))).trans (grown_setg _ g (X * 4 + 2) (.int .i64 Bp))).trans (grown_setg _ g (X * 4 + 3) (.int .i64 Bw)))
      refine hK.out _ _ ⟨r0, r1, r2, r3⟩ ?_
      clear hK K
      generalize ((((wr.setCell ⟨g, X * 4, none⟩ (.int .i64 Bx)).setCell ⟨g, X * 4 + 1, none⟩ (.int .i64 By)).setCell ⟨g, X * 4 + 2, none⟩ (.int .i64 Bp)).setCell ⟨g, X * 4 + 3, none⟩ (.int .i64 Bw)) = w2 at *
      try simp only [Act.put, List.setIfInBounds_toArray, List.set_cons_zero, List.set_cons_succ]
      (refine txt_light ?_ rfl rfl ?_ ?_; rotate_left; · (intro w' hS; (try dsimp only at hS); go_simp; with_reducible rfl)); try simp only [Act.put, List.setIfInBounds_toArray, List.set_cons_zero, List.set_cons_succ]
      refine txt_last rfl rfl rfl (fun K hK => ?_)
      go_step
      have own3 := (ownsRow_setS (i := Y * 4 + 3) (ownsRow_setS (i := Y * 4 + 2) (ownsRow_setS (i := Y * 4 + 1) (ownsRow_setS (i := Y * 4) own2 (.int .i64 Ax)) (.int .i64 Ay)) (.int .i64 Ap)) (.int .i64 Aw))
      rw [cus_set _ Y (by omega) ⟨Ax, Ay, Ap, Aw⟩, ← hset.out] at own3
      have hg3 := ((((hg2.trans (grown_setg w2 g (Y * 4) (.int .i64 Ax))).trans (grown_setg _ g (Y * 4 + 1) (.int .i64 Ay))).trans (grown_setg _ g (Y * 4 + 2) (.int .i64 Ap))).trans (grown_setg _ g (Y * 4 + 3) (.int .i64 Aw)))
      refine hK.out _ _ ?_
      clear hK K
      refine txt_nil ?_
      generalize ((((w2.setCell ⟨g, Y * 4, none⟩ (.int .i64 Ax)).setCell ⟨g, Y * 4 + 1, none⟩ (.int .i64 Ay)).setCell ⟨g, Y * 4 + 2, none⟩ (.int .i64 Ap)).setCell ⟨g, Y * 4 + 3, none⟩ (.int .i64 Aw)) = w3 at *
      clear own2 hg2 r0 r1 r2 r3 f0 f1 f2 f3 h0 h1 h2 h3 t0 t1 t2 t3 c0 c1 c2 c3 d0 d1 d2 d3 hown hg
      go_wp2
      go_roundw
      case rel =>
        refine ⟨i + 1, by omega, by first | rfl | go_num, ?_, grown_drew hg3⟩
        rw [HT.out]
        exact ownsRow_drew own3
      case measure => simp [intOf]; omega
    · obtain rfl : i = k := by omega
      go_wp2
      refine ⟨rfl, .tuple #[], by simp [results, Try.results56, go_sem], rfl, hown, hg⟩
end Go.Proofs.Ytediblljgakoeaa
/- slices.rotateCmpFunc over cuts. -/
set_option linter.unusedVariables false
set_option linter.unusedSimpArgs false
set_option maxRecDepth 100000
namespace Go.Proofs.Ytediblljgakoeaa
open Go.RowKit Go.Srt

set_option maxHeartbeats 1600000 in
theorem cu_rot_any (base g c n : Nat) (l : List Cu) (hn : l.length = n) (hc : n ≤ c) (hn2 : n ≤ 1000000) (a m b : Nat) (ham : a < m) (hmb : m < b) (hbn : b ≤ n) (w : World) (h : w.ownsRow base 84 4 (.slice (some ⟨g, 0, none⟩) n c) n (cus l)) :
    Calls Try.prog 55 #[.slice (some ⟨g, 0, none⟩) n c, .int .i64 a, .int .i64 m, .int .i64 b, .func (.func 44) #[] #[]] w fun e w' => e = .returned (.tuple #[]) ∧ (∃ l' : List Cu, Rot a m b l l' ∧ Prm a b l l' ∧ w'.ownsRow base 84 4 (.slice (some ⟨g, 0, none⟩) n c) n (cus l')) ∧ w.grownBy w' (some g) := by
  have hs1 : IntKind.i64.wrap ((m : Int) - (a : Int)) = ((m - a : Nat) : Int) := by
    rw [show (m : Int) - (a : Int) = ((m - a : Nat) : Int) by omega]; exact IntWalk.i64_in _ (by omega)
  have hs2 : IntKind.i64.wrap ((b : Int) - (m : Int)) = ((b - m : Nat) : Int) := by
    rw [show (b : Int) - (m : Int) = ((b - m : Nat) : Int) by omega]; exact IntWalk.i64_in _ (by omega)
  obtain ⟨i0, hi0⟩ : ∃ i0, m - a = i0 := ⟨_, rfl⟩
  obtain ⟨j0, hj0⟩ : ∃ j0, b - m = j0 := ⟨_, rfl⟩
  rw [hi0] at hs1
  rw [hj0] at hs2
  go_enter Try.func55, Try.ntmps55
  have HB := Lib.hid (show b ≤ l.length by omega)
  go_wp2
  go_loopw [10, 11] (fun ii jj wr => ∃ (i j : Nat) (l1 : List Cu), 1 ≤ i ∧ 1 ≤ j ∧ i ≤ i0 ∧ j ≤ j0 ∧ ii = .int .i64 (i : Int) ∧ jj = .int .i64 (j : Int) ∧ l1.length = n ∧ Hid (Prm a b l l1) ∧ Hid (∀ l', Rot (m - i) m (m + j) l1 l' → Rot a m b l l') ∧ wr.ownsRow base 84 4 (.slice (some ⟨g, 0, none⟩) n c) n (cus l1) ∧ w.grownBy wr (some g)) (fun ii jj _ => (intOf ii).toNat + (intOf jj).toNat)
  case atStart => exact ⟨i0, j0, l, by omega, by omega, Nat.le_refl _, Nat.le_refl _, rfl, rfl, hn, Lib.hid (Prm.refl _ _ _), Lib.hid (fun l' h => by rw [show m - i0 = a by omega, show m + j0 = b by omega] at h; exact h), h, ⟨rfl, rfl, rfl, Nat.le_refl _, fun _ _ _ => rfl⟩⟩
  case round =>
    obtain ⟨i, j, l1, hi1, hj1, hi2, hj2, rfl, rfl, hL, HP, HR, hown, hg⟩ := hrel
    clear hs1 hs2
    have hwx : IntKind.i64.wrap ((m : Int) - (i : Int)) = ((m - i : Nat) : Int) := by
      rw [show (m : Int) - (i : Int) = ((m - i : Nat) : Int) by omega]; exact IntWalk.i64_in _ (by omega)
    by_cases hij : i = j
    · subst hij
      have hsw := cu_swr_any base g c n l1 hL hc hn2 (m - i) m i (by omega) (by omega)
      have HS := Lib.hid hsw
      clear hsw
      go_wp2_with fail
      refine (HS.out _ hown).mono ?_
      rintro e w1 ⟨rfl, hown1, hg1⟩
      have hg2 := hg.trans hg1
      have hres := HR.out _ (Rot.even (l := l1) (by omega) (by omega))
      have hpr := HP.out.trans (swpR_prm l1 (m - i) m i a b (by omega) (by omega) (by omega) (by rw [hL]; exact hbn))
      go_wp2
      refine ⟨rfl, .tuple #[], by simp [results, Try.results55, go_sem], rfl, ⟨_, hres, hpr, hown1⟩, hg2⟩
    · by_cases hlt : j < i
      · have hne : ¬ (i : Int) = (j : Int) := by omega
        have hlt' : (j : Int) < (i : Int) := by omega
        have hwi : IntKind.i64.wrap ((i : Int) - (j : Int)) = ((i - j : Nat) : Int) := by
          rw [show (i : Int) - (j : Int) = ((i - j : Nat) : Int) by omega]; exact IntWalk.i64_in _ (by omega)
        have hsw := cu_swr_any base g c n l1 hL hc hn2 (m - i) m j (by omega) (by omega)
        have HS := Lib.hid hsw
        clear hsw
        go_wp2_with fail
        refine (HS.out _ hown).mono ?_
        rintro e w1 ⟨rfl, hown1, hg1⟩
        have hg2 := hg.trans hg1
        have HP2 := Lib.hid (HP.out.trans (swpR_prm l1 (m - i) m j a b (by omega) (by omega) (by omega) (by rw [hL]; exact hbn)))
        have HR2 := Lib.hid (fun l' (h : Rot (m - (i - j)) m (m + j) (swpR l1 (m - i) m j) l') => HR.out l' (Rot.less (l := l1) hlt (by omega) (by omega) h))
        go_wp2
        refine ⟨⟨i - j, j, _, by omega, hj1, by omega, hj2, rfl, rfl, by rw [swpR_len]; exact hL, HP2, HR2, hown1, hg2⟩, by simp [intOf]; omega⟩
      · have hlt2 : i < j := by omega
        have hne : ¬ (i : Int) = (j : Int) := by omega
        have hlt' : ¬ (j : Int) < (i : Int) := by omega
        have hwi : IntKind.i64.wrap ((j : Int) - (i : Int)) = ((j - i : Nat) : Int) := by
          rw [show (j : Int) - (i : Int) = ((j - i : Nat) : Int) by omega]; exact IntWalk.i64_in _ (by omega)
        have hwm : IntKind.i64.wrap ((m : Int) + (j : Int)) = ((m + j : Nat) : Int) := by
          rw [show (m : Int) + (j : Int) = ((m + j : Nat) : Int) by omega]; exact IntWalk.i64_in _ (by omega)
        have hwn : IntKind.i64.wrap (((m + j : Nat) : Int) - (i : Int)) = ((m + j - i : Nat) : Int) := by
          rw [show ((m + j : Nat) : Int) - (i : Int) = ((m + j - i : Nat) : Int) by omega]; exact IntWalk.i64_in _ (by omega)
        have hsw := cu_swr_any base g c n l1 hL hc hn2 (m - i) (m + j - i) i (by omega) (by omega)
        obtain ⟨Z, hZ⟩ : ∃ Z, m + j = Z := ⟨_, rfl⟩
        obtain ⟨Y, hY⟩ : ∃ Y, Z - i = Y := ⟨_, rfl⟩
        rw [hZ] at hwm hwn hsw HR
        rw [hY] at hwn hsw
        have HZ := Lib.hid hZ
        have HY := Lib.hid hY
        have HS := Lib.hid hsw
        clear hsw hZ hY
        go_wp2_with fail
        refine (HS.out _ hown).mono ?_
        rintro e w1 ⟨rfl, hown1, hg1⟩
        have hg2 := hg.trans hg1
        have hZ := HZ.out
        have hY := HY.out
        have HP2 := Lib.hid (HP.out.trans (swpR_prm l1 (m - i) Y i a b (by omega) (by omega) (by omega) (by rw [hL]; exact hbn)))
        have HR2 := Lib.hid (fun l' (h : Rot (m - i) m (m + (j - i)) (swpR l1 (m - i) Y i) l') => HR.out l' (by
          subst hY hZ
          exact Rot.more (l := l1) hlt2 (by omega) (by omega) h))
        clear hZ hY
        go_wp2
        refine ⟨⟨i, j - i, _, hi1, by omega, hi2, by omega, rfl, rfl, by rw [swpR_len]; exact hL, HP2, HR2, hown1, hg2⟩, by simp [intOf]; omega⟩
end Go.Proofs.Ytediblljgakoeaa
