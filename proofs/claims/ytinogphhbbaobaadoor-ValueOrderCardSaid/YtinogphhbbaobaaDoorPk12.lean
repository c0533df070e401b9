/-
  slices.symMergeCmpFunc over values, stable.
-/
import Derived.Test.YtinogphhbbaobaaDoorPk11
import Derived.Test.YtinogphhbbaobaaDoorPk10
/- slices.symMergeCmpFunc over values, stable. -/
set_option linter.unusedVariables false
set_option linter.unusedSimpArgs false
set_option maxRecDepth 100000
namespace Go.Proofs.YtinogphhbbaobaaDoor
open Go.RowKit Go.Srt

set_option maxHeartbeats 3200000 in
theorem vg_sym_any (H : Ord cmpG VgOk) (base g c n : Nat) (hc : n ≤ c) (hn2 : n ≤ 1000000) : ∀ (d a m b : Nat) (l : List Vg), b - a ≤ d → l.length = n → a < m → m < b → b ≤ n → (∀ x ∈ l, VgOk x) → SR cmpG l a m → SR cmpG l m b → (∀ i j, a ≤ i → i < m → m ≤ j → j < b → l[i]!.g < l[j]!.g) → ∀ (w : World), w.ownsRow base 23 3 (.slice (some ⟨g, 0, none⟩) n c) n (vgs l) →
    Calls Tryd.prog 66 #[.slice (some ⟨g, 0, none⟩) n c, .int .i64 a, .int .i64 m, .int .i64 b, .func (.func 30) #[] #[]] w fun e w' => e = .returned (.tuple #[]) ∧ (∃ l' : List Vg, Prm a b l l' ∧ SR cmpG l' a b ∧ w'.ownsRow base 23 3 (.slice (some ⟨g, 0, none⟩) n c) n (vgs l')) ∧ w.grownBy w' (some g) := by
  intro d
  induction d with
  | zero => intro a m b l h1 h2 h3 h4; omega
  | succ d ih =>
    intro a m b l hd hn ham hmb hbn hok hs1 hs2 hx w h; have HX := Lib.hid hx; clear hx; have IH := Lib.hid ih; have HOK := Lib.hid hok; have HS1 := Lib.hid hs1; have HS2 := Lib.hid hs2; have HB := Lib.hid (show b ≤ l.length by omega); clear ih hok hs1 hs2; have wma : IntKind.i64.wrap ((m : Int) - (a : Int)) = ((m - a : Nat) : Int) := by
      rw [show (m : Int) - (a : Int) = ((m - a : Nat) : Int) by omega]; exact IntWalk.i64_in _ (by omega)
    have wbm : IntKind.i64.wrap ((b : Int) - (m : Int)) = ((b - m : Nat) : Int) := by
      rw [show (b : Int) - (m : Int) = ((b - m : Nat) : Int) by omega]; exact IntWalk.i64_in _ (by omega)
    have ht1 : (m : Int) < (n : Int) := by omega
    have ht2 : (a : Int) < (n : Int) := by omega
    have ht3 : (0 : Int) ≤ (m : Int) := by omega
    have ht4 : (0 : Int) ≤ (a : Int) := by omega
    obtain ⟨ma, hma⟩ : ∃ x, m - a = x := ⟨_, rfl⟩; obtain ⟨bm, hbm⟩ : ∃ x, b - m = x := ⟨_, rfl⟩; rw [hma] at wma; rw [hbm] at wbm
    go_enter Tryd.func66, Tryd.ntmps66
    by_cases hm1 : ma = 1
    · subst hm1; obtain rfl : m = a + 1 := by omega
      have hcast : ((a + 1 : Nat) : Int) = (a : Int) + 1 := by omega
      go_wp2
      go_loopw [10, 11] (fun ii jj wr => ∃ (i j : Nat), a + 1 ≤ i ∧ i ≤ j ∧ j ≤ b ∧ ii = .int .i64 (i : Int) ∧ jj = .int .i64 (j : Int) ∧ Hid (i = a + 1 ∨ cmpG l[i - 1]! l[a]! < 0) ∧ Hid (j = b ∨ 0 ≤ cmpG l[j]! l[a]!) ∧ wr.ownsRow base 23 3 (.slice (some ⟨g, 0, none⟩) n c) n (vgs l) ∧ w.grownBy wr (some g)) (fun ii jj _ => (intOf jj).toNat - (intOf ii).toNat)
      case atStart => exact ⟨a + 1, b, Nat.le_refl _, by omega, Nat.le_refl _, by first | rfl | go_num, rfl, Lib.hid (.inl rfl), Lib.hid (.inl rfl), h, ⟨rfl, rfl, rfl, Nat.le_refl _, fun _ _ _ => rfl⟩⟩
      case round =>
        obtain ⟨i, j, hi1, hij, hjb, rfl, rfl, HI, HJ, hown, hg⟩ := hrel
        by_cases hlt : i < j
        · have hlt' : (i : Int) < (j : Int) := by omega
          obtain ⟨hh, hhh⟩ : ∃ hh, (i + j) / 2 = hh := ⟨_, rfl⟩; have hw1 : IntKind.i64.wrap ((i : Int) + (j : Int)) = ((i + j : Nat) : Int) := by
            rw [show (i : Int) + (j : Int) = ((i + j : Nat) : Int) by omega]; exact IntWalk.i64_in _ (by omega)
          obtain ⟨smhh, hsmhh⟩ : ∃ sm, i + j = sm := ⟨_, rfl⟩; rw [hsmhh] at hw1 hhh; have hw2 : IntKind.u64.wrap (smhh : Int) = (smhh : Int) := IntWalk.u64_in _ (by omega); have hhi : i ≤ hh ∧ hh < j := by omega
          have hx1 : (hh : Int) < (n : Int) := by omega
          have hx0 : (0 : Int) ≤ (hh : Int) := by omega
          have hw3 : (smhh : Int) / 2 = (hh : Int) := by omega
          clear hhh hsmhh; obtain ⟨⟨c0, c1, c2⟩, -, hgl⟩ := own_vg hown hh (by omega); obtain ⟨⟨d0, d1, d2⟩, -, -⟩ := own_vg hown a (by omega); have hA : VgOk l[hh]! := at_ok HOK.out _ (by omega); have hB : VgOk l[a]! := at_ok HOK.out _ (by omega); have hcm := vcmp_any l[hh]! l[a]! hA hB (HX.out a hh (by omega) (by omega) (by omega) (by omega)); obtain ⟨CM, hCM⟩ : ∃ CM, cmpG l[hh]! l[a]! = CM := ⟨_, rfl⟩; rw [hCM] at hcm; have HCMV := Lib.hid hCM; clear hCM hA hB; obtain ⟨A, hAA⟩ : ∃ A, l[hh]! = A := ⟨_, rfl⟩; obtain ⟨B, hBB⟩ : ∃ B, l[a]! = B := ⟨_, rfl⟩; rw [hAA] at c0 c1 c2; rw [hBB] at d0 d1 d2; rw [hAA, hBB] at hcm; clear hAA hBB; obtain ⟨Ak, At, An, Ag⟩ := A; obtain ⟨Bk, Bt, Bn, Bg⟩ := B; dsimp only [Vg.val] at c0 c1 c2 d0 d1 d2 hcm; have HCM := Lib.hid hcm; clear hcm
          go_wp2_with fail
          refine wp_region_lit_txt [0, 1, 2, 3, 4, 5, 6, 7, 8, 10] (fun W => (W.cell? ⟨g, hh * 3, none⟩ = some (.int .i64 Ak) ∧ W.cell? ⟨g, hh * 3 + 1, none⟩ = some (.string At) ∧ W.cell? ⟨g, hh * 3 + 2, none⟩ = some (.int .i64 An)) ∧ (W.cell? ⟨g, a * 3, none⟩ = some (.int .i64 Bk) ∧ W.cell? ⟨g, a * 3 + 1, none⟩ = some (.string Bt) ∧ W.cell? ⟨g, a * 3 + 2, none⟩ = some (.int .i64 Bn))) (by kernel_rfl) (by kernel_rfl) (by kernel_rfl) ⟨⟨c0, c1, c2⟩, d0, d1, d2⟩ ?_
          iterate 4 ((refine txt_light ?_ rfl rfl ?_ ?_; rotate_left; · (intro w' hS; (try dsimp only at hS); go_simp; with_reducible rfl)); try simp only [Act.put, List.setIfInBounds_toArray, List.set_cons_zero, List.set_cons_succ])
          refine txt_light (.agg #[.int .i64 Ak, .string At, .int .i64 An]) rfl rfl ?_ ?_
          · intro w' hS; obtain ⟨c0, c1, c2⟩ := hS.1; go_simp
          try simp only [Act.put, List.setIfInBounds_toArray, List.set_cons_zero, List.set_cons_succ]
          iterate 3 ((refine txt_light ?_ rfl rfl ?_ ?_; rotate_left; · (intro w' hS; (try dsimp only at hS); go_simp; with_reducible rfl)); try simp only [Act.put, List.setIfInBounds_toArray, List.set_cons_zero, List.set_cons_succ])
          refine txt_light (.agg #[.int .i64 Bk, .string Bt, .int .i64 Bn]) rfl rfl ?_ ?_
          · intro w' hS; obtain ⟨c0, c1, c2⟩ := hS.2; go_simp
          try simp only [Act.put, List.setIfInBounds_toArray, List.set_cons_zero, List.set_cons_succ]
          refine txt_callv [] [.agg #[.int .i64 Ak, .string At, .int .i64 An], .agg #[.int .i64 Bk, .string Bt, .int .i64 Bn]] Tryd.f30 rfl rfl rfl Tryd.func30 (by kernel_rfl) (by kernel_rfl) rfl ((HCM.out _).mono ?_); rintro e w1 ⟨⟨rr, rfl, hrr⟩, hx1⟩; have hgx : wr.grownBy w1 (some g) := ⟨hx1.os, hx1.tape, hx1.output, hx1.size, fun i hi _ => hx1.block i hi⟩; have hown1 : w1.ownsRow base 23 3 (.slice (some ⟨g, 0, none⟩) n c) n (vgs l) := World.ownsRow.below (w := wr.drew) hown hx1; have hg1 := hg.trans hgx; have kc := fun i => (hx1.cell (p := ⟨g, i, none⟩) hgl); have c0 := (kc _).trans c0; have c1 := (kc _).trans c1; have c2 := (kc _).trans c2; have d0 := (kc _).trans d0; have d1 := (kc _).trans d1; have d2 := (kc _).trans d2; refine ⟨_, rfl, ⟨⟨c0, c1, c2⟩, d0, d1, d2⟩, ?_⟩
          try simp only [Act.put, List.setIfInBounds_toArray, List.set_cons_zero, List.set_cons_succ]
          clear kc HCM hx1 hgx hown hg
          by_cases hneg : CM < 0
          ·
            have hcd : decide (rr < 0) = true := decide_eq_true (hrr.2 hneg); refine txt_light (.bool true) rfl rfl ?_ ?_
            · intro w' hS; go_simp
            try simp only [Act.put, List.setIfInBounds_toArray, List.set_cons_zero, List.set_cons_succ]
            refine txt_nil ?_; clear hcd c0 c1 c2 d0 d1 d2; have HI2 : Hid (hh + 1 = a + 1 ∨ cmpG l[hh + 1 - 1]! l[a]! < 0) := Lib.hid (.inr (by rw [Nat.add_sub_cancel, HCMV.out]; exact hneg)); clear hneg HCMV; go_wp2; refine ⟨⟨hh + 1, j, by omega, by omega, hjb, by first | rfl | go_num, rfl, HI2, HJ, hown1, hg1⟩, by simp [intOf]; omega⟩
          ·
            have hcd : decide (rr < 0) = false := decide_eq_false (fun h => hneg (hrr.1 h)); refine txt_light (.bool false) rfl rfl ?_ ?_
            · intro w' hS; go_simp
            try simp only [Act.put, List.setIfInBounds_toArray, List.set_cons_zero, List.set_cons_succ]
            refine txt_nil ?_; clear hcd c0 c1 c2 d0 d1 d2; have HJ2 : Hid (hh = b ∨ 0 ≤ cmpG l[hh]! l[a]!) := Lib.hid (.inr (by rw [HCMV.out]; omega)); clear hneg HCMV; go_wp2; refine ⟨⟨i, hh, by omega, by omega, by omega, rfl, rfl, HI, HJ2, hown1, hg1⟩, by simp [intOf]; omega⟩
        · obtain rfl : i = j := by omega
          obtain ⟨i1, hi1e⟩ : ∃ x, i = x + 1 := ⟨i - 1, by omega⟩; have hwi : IntKind.i64.wrap ((i : Int) - 1) = (i1 : Int) := by
            rw [show (i : Int) - 1 = (i1 : Int) by omega]; exact IntWalk.i64_in _ (by omega)
          have HI1 := Lib.hid hi1e; clear hi1e; go_wp2
          go_loopw [13] (fun kk wr => ∃ (k : Nat) (l1 : List Vg), a ≤ k ∧ k ≤ i1 ∧ kk = .int .i64 (k : Int) ∧ l1.length = n ∧ Hid (Rot a (a + 1) (k + 1) l l1) ∧ Hid (Prm a b l l1) ∧ wr.ownsRow base 23 3 (.slice (some ⟨g, 0, none⟩) n c) n (vgs l1) ∧ w.grownBy wr (some g)) (fun kk _ => i - (intOf kk).toNat)
          case atStart => exact ⟨a, l, Nat.le_refl _, by have := HI1.out; omega, rfl, hn, Lib.hid (Rot.left _ _ _ (by omega)), Lib.hid (Prm.refl _ _ _), hown, hg⟩
          case round =>
            clear hown hg; have hi1e := HI1.out; obtain ⟨k, l1, hk1, hk2, rfl, hL, HR, HP, hown, hg⟩ := hrel
            by_cases hlt2 : k < i1
            · have hlt3 : (k : Int) < (i1 : Int) := by omega
              obtain ⟨Y, hY⟩ : ∃ Y, k + 1 = Y := ⟨_, rfl⟩; have hwy : IntKind.i64.wrap ((k : Int) + 1) = (Y : Int) := by
                rw [show (k : Int) + 1 = (Y : Int) by omega]; exact IntWalk.i64_in _ (by omega)
              have hkn : k < n := by omega
              have hYn : Y < n := by omega
              have hXY : k ≠ Y := by omega
              have hx1 : (k : Int) < (n : Int) := by omega
              have hy1 : (Y : Int) < (n : Int) := by omega
              have hx0 : (0 : Int) ≤ (k : Int) := by omega
              have hy0 : (0 : Int) ≤ (Y : Int) := by omega
              have HR2 : Hid (Rot a (a + 1) (Y + 1) l (swpL l1 k Y)) := Lib.hid (by rw [← hY]; exact Rot.up hk1 (by omega) HR.out); have HP2 : Hid (Prm a b l (swpL l1 k Y)) := Lib.hid (HP.out.trans (Prm.swp _ _ _ (by omega) (by omega) (by rw [hL]; exact hbn))); have hYi : a ≤ Y ∧ Y ≤ i1 := by omega
              have hme : i - Y < i - k := by omega
              clear hY hi1e; obtain ⟨⟨c0, c1, c2⟩, -, hgl⟩ := own_vg hown k (by omega); obtain ⟨⟨d0, d1, d2⟩, -, -⟩ := own_vg hown Y (by omega); have q0 := (own_vg hown k (by omega)).2.1; have q1 := (own_vg hown Y (by omega)).2.1; have hset : Hid (swpL l1 k Y = (l1.set k l1[Y]!).set Y l1[k]!) := Lib.hid rfl; have hYY0 : l1[Y]! = l1[Y]! := rfl; have HYL : Hid (k ≠ Y → (l1.set k l1[Y]!)[Y]! = l1[Y]!) := Lib.hid (fun h => by rw [get_set _ _ _ _ (by omega), if_neg h]); clear hYY0; generalize l1[k]! = A at *; generalize l1[Y]! = B at *; obtain ⟨Ak, At, An, Ag⟩ := A; obtain ⟨Bk, Bt, Bn, Bg⟩ := B; dsimp only at c0 c1 c2 d0 d1 d2
              go_wp2_with fail
              refine wp_region_lit_txtZ (some 17) [0, 1, 2, 3, 4, 5, 6, 7, 8, 9, 10, 11, 12, 14, 16] (fun W => (W.cell? ⟨g, Y * 3, none⟩ = some (.int .i64 Bk) ∧ W.cell? ⟨g, Y * 3 + 1, none⟩ = some (.string Bt) ∧ W.cell? ⟨g, Y * 3 + 2, none⟩ = some (.int .i64 Bn))) (by kernel_rfl) (by kernel_rfl) (by kernel_rfl) (by kernel_rfl) ⟨d0, d1, d2⟩ ?_
              iterate 9 ((refine txt_light ?_ rfl rfl ?_ ?_; rotate_left; · (intro w' hS; (try dsimp only at hS); go_simp; with_reducible rfl)); try simp only [Act.put, List.setIfInBounds_toArray, List.set_cons_zero, List.set_cons_succ])
              refine txt_light (.agg #[.int .i64 Bk, .string Bt, .int .i64 Bn]) rfl rfl ?_ ?_
              · intro w' hS; obtain ⟨c0, c1, c2⟩ := hS; go_simp
              try simp only [Act.put, List.setIfInBounds_toArray, List.set_cons_zero, List.set_cons_succ]
              iterate 3 ((refine txt_light ?_ rfl rfl ?_ ?_; rotate_left; · (intro w' hS; (try dsimp only at hS); go_simp; with_reducible rfl)); try simp only [Act.put, List.setIfInBounds_toArray, List.set_cons_zero, List.set_cons_succ])
              refine txt_heavy rfl rfl (fun K hK => ?_); go_step; refine hK.out _ _ ⟨d0, d1, d2⟩ ?_; clear hK K
              try simp only [Act.put, List.setIfInBounds_toArray, List.set_cons_zero, List.set_cons_succ]
              (refine txt_light ?_ rfl rfl ?_ ?_; rotate_left; · (intro w' hS; (try dsimp only at hS); go_simp; with_reducible rfl)); try simp only [Act.put, List.setIfInBounds_toArray, List.set_cons_zero, List.set_cons_succ]
              refine txt_heavy rfl rfl (fun K hK => ?_); obtain ⟨f0, f1, f2⟩ := q0; obtain ⟨h0, h1, h2⟩ := q1; go_step; have own2 := (ownsRow_setS (W := _) (i := k * 3 + 2) (ownsRow_setS (W := _) (i := k * 3 + 1) (ownsRow_setS (W := wr) (i := k * 3) hown (.int .i64 Bk)) (.string Bt)) (.int .i64 Bn)); rw [vgs_set l1 k (by omega) ⟨Bk, Bt, Bn, Bg⟩] at own2; have hl2 : (l1.set k ⟨Bk, Bt, Bn, Bg⟩).length = n := by simpa using hL
              obtain ⟨⟨r0, r1, r2⟩, ⟨t0, t1, t2⟩, -⟩ := own_vg own2 Y (by omega); rw [HYL.out hXY] at r0 r1 r2; dsimp only at r0 r1 r2; have hg2 := (((hg.trans (grown_setg wr g (k * 3) (.int .i64 Bk))).trans (grown_setg _ g (k * 3 + 1) (.string Bt))).trans (grown_setg _ g (k * 3 + 2) (.int .i64 Bn))); refine hK.out _ _ ⟨r0, r1, r2⟩ ?_; clear hK K; generalize (((wr.setCell ⟨g, k * 3, none⟩ (.int .i64 Bk)).setCell ⟨g, k * 3 + 1, none⟩ (.string Bt)).setCell ⟨g, k * 3 + 2, none⟩ (.int .i64 Bn)) = w2 at *
              try simp only [Act.put, List.setIfInBounds_toArray, List.set_cons_zero, List.set_cons_succ]
              (refine txt_light ?_ rfl rfl ?_ ?_; rotate_left; · (intro w' hS; (try dsimp only at hS); go_simp; with_reducible rfl)); try simp only [Act.put, List.setIfInBounds_toArray, List.set_cons_zero, List.set_cons_succ]
              refine txt_last rfl rfl rfl (fun K hK => ?_); go_step; have own3 := (ownsRow_setS (i := Y * 3 + 2) (ownsRow_setS (i := Y * 3 + 1) (ownsRow_setS (i := Y * 3) own2 (.int .i64 Ak)) (.string At)) (.int .i64 An)); rw [vgs_set _ Y (by omega) ⟨Ak, At, An, Ag⟩, ← hset.out] at own3; have hg3 := (((hg2.trans (grown_setg w2 g (Y * 3) (.int .i64 Ak))).trans (grown_setg _ g (Y * 3 + 1) (.string At))).trans (grown_setg _ g (Y * 3 + 2) (.int .i64 An))); refine hK.out _ _ ?_; clear hK K; refine txt_nil ?_; generalize (((w2.setCell ⟨g, Y * 3, none⟩ (.int .i64 Ak)).setCell ⟨g, Y * 3 + 1, none⟩ (.string At)).setCell ⟨g, Y * 3 + 2, none⟩ (.int .i64 An)) = w3 at *; clear own2 hg2 r0 r1 r2 f0 f1 f2 h0 h1 h2 t0 t1 t2 c0 c1 c2 d0 d1 d2 hown hg; go_wp2; go_roundw
              case rel => exact ⟨Y, swpL l1 k Y, hYi.1, hYi.2, rfl, by rw [swpL_len]; exact hL, HR2, HP2, ownsRow_drew own3, grown_drew hg3⟩
              case measure => simp [intOf]; exact hme
            · obtain rfl : k = i1 := by omega
              have hres := up_ok H (l1 := l1) HOK.out HB.out ⟨hi1, by omega⟩ HS2.out HI.out (by rcases HJ.out with h | h; exact .inl h; exact .inr (by omega)) (by have := HR.out; rw [← hi1e] at this; exact this); have hpr := HP.out; clear hi1e; go_wp2; refine ⟨rfl, .tuple #[], by simp [results, Tryd.results66, go_sem], rfl, ⟨_, hpr, hres, hown⟩, hg⟩
    · have hm1i : ¬ (ma : Int) = 1 := by omega
      by_cases hb1 : bm = 1
      · subst hb1; obtain rfl : b = m + 1 := by omega
        have hcast : ((m + 1 : Nat) : Int) = (m : Int) + 1 := by omega
        go_wp2
        go_loopw [14, 15] (fun ii jj wr => ∃ (i j : Nat), a ≤ i ∧ i ≤ j ∧ j ≤ m ∧ ii = .int .i64 (i : Int) ∧ jj = .int .i64 (j : Int) ∧ Hid (i = a ∨ 0 ≤ cmpG l[m]! l[i - 1]!) ∧ Hid (j = m ∨ cmpG l[m]! l[j]! < 0) ∧ wr.ownsRow base 23 3 (.slice (some ⟨g, 0, none⟩) n c) n (vgs l) ∧ w.grownBy wr (some g)) (fun ii jj _ => (intOf jj).toNat - (intOf ii).toNat)
        case atStart => exact ⟨a, m, Nat.le_refl _, by omega, Nat.le_refl _, rfl, rfl, Lib.hid (.inl rfl), Lib.hid (.inl rfl), h, ⟨rfl, rfl, rfl, Nat.le_refl _, fun _ _ _ => rfl⟩⟩
        case round =>
          obtain ⟨i, j, hi1, hij, hjb, rfl, rfl, HI, HJ, hown, hg⟩ := hrel
          by_cases hlt : i < j
          · have hlt' : (i : Int) < (j : Int) := by omega
            obtain ⟨hh, hhh⟩ : ∃ hh, (i + j) / 2 = hh := ⟨_, rfl⟩; have hw1 : IntKind.i64.wrap ((i : Int) + (j : Int)) = ((i + j : Nat) : Int) := by
              rw [show (i : Int) + (j : Int) = ((i + j : Nat) : Int) by omega]; exact IntWalk.i64_in _ (by omega)
            obtain ⟨smhh, hsmhh⟩ : ∃ sm, i + j = sm := ⟨_, rfl⟩; rw [hsmhh] at hw1 hhh; have hw2 : IntKind.u64.wrap (smhh : Int) = (smhh : Int) := IntWalk.u64_in _ (by omega); have hhi : i ≤ hh ∧ hh < j := by omega
            have hx1 : (hh : Int) < (n : Int) := by omega
            have hx0 : (0 : Int) ≤ (hh : Int) := by omega
            have hw3 : (smhh : Int) / 2 = (hh : Int) := by omega
            clear hhh hsmhh; obtain ⟨⟨c0, c1, c2⟩, -, hgl⟩ := own_vg hown m (by omega); obtain ⟨⟨d0, d1, d2⟩, -, -⟩ := own_vg hown hh (by omega); have hA : VgOk l[m]! := at_ok HOK.out _ (by omega); have hB : VgOk l[hh]! := at_ok HOK.out _ (by omega); have hcm := vcmp_any l[m]! l[hh]! hA hB (HX.out hh m (by omega) (by omega) (by omega) (by omega)); obtain ⟨CM, hCM⟩ : ∃ CM, cmpG l[m]! l[hh]! = CM := ⟨_, rfl⟩; rw [hCM] at hcm; have HCMV := Lib.hid hCM; clear hCM hA hB; obtain ⟨A, hAA⟩ : ∃ A, l[m]! = A := ⟨_, rfl⟩; obtain ⟨B, hBB⟩ : ∃ B, l[hh]! = B := ⟨_, rfl⟩; rw [hAA] at c0 c1 c2; rw [hBB] at d0 d1 d2; rw [hAA, hBB] at hcm; clear hAA hBB; obtain ⟨Ak, At, An, Ag⟩ := A; obtain ⟨Bk, Bt, Bn, Bg⟩ := B; dsimp only [Vg.val] at c0 c1 c2 d0 d1 d2 hcm; have HCM := Lib.hid hcm; clear hcm
            go_wp2_with fail
            refine wp_region_lit_txt [0, 1, 2, 3, 4, 5, 6, 7, 8, 10, 11] (fun W => (W.cell? ⟨g, m * 3, none⟩ = some (.int .i64 Ak) ∧ W.cell? ⟨g, m * 3 + 1, none⟩ = some (.string At) ∧ W.cell? ⟨g, m * 3 + 2, none⟩ = some (.int .i64 An)) ∧ (W.cell? ⟨g, hh * 3, none⟩ = some (.int .i64 Bk) ∧ W.cell? ⟨g, hh * 3 + 1, none⟩ = some (.string Bt) ∧ W.cell? ⟨g, hh * 3 + 2, none⟩ = some (.int .i64 Bn))) (by kernel_rfl) (by kernel_rfl) (by kernel_rfl) ⟨⟨c0, c1, c2⟩, d0, d1, d2⟩ ?_
            iterate 4 ((refine txt_light ?_ rfl rfl ?_ ?_; rotate_left; · (intro w' hS; (try dsimp only at hS); go_simp; with_reducible rfl)); try simp only [Act.put, List.setIfInBounds_toArray, List.set_cons_zero, List.set_cons_succ])
            refine txt_light (.agg #[.int .i64 Ak, .string At, .int .i64 An]) rfl rfl ?_ ?_
            · intro w' hS; obtain ⟨c0, c1, c2⟩ := hS.1; go_simp
            try simp only [Act.put, List.setIfInBounds_toArray, List.set_cons_zero, List.set_cons_succ]
            iterate 3 ((refine txt_light ?_ rfl rfl ?_ ?_; rotate_left; · (intro w' hS; (try dsimp only at hS); go_simp; with_reducible rfl)); try simp only [Act.put, List.setIfInBounds_toArray, List.set_cons_zero, List.set_cons_succ])
            refine txt_light (.agg #[.int .i64 Bk, .string Bt, .int .i64 Bn]) rfl rfl ?_ ?_
            · intro w' hS; obtain ⟨c0, c1, c2⟩ := hS.2; go_simp
            try simp only [Act.put, List.setIfInBounds_toArray, List.set_cons_zero, List.set_cons_succ]
            refine txt_callv [] [.agg #[.int .i64 Ak, .string At, .int .i64 An], .agg #[.int .i64 Bk, .string Bt, .int .i64 Bn]] Tryd.f30 rfl rfl rfl Tryd.func30 (by kernel_rfl) (by kernel_rfl) rfl ((HCM.out _).mono ?_); rintro e w1 ⟨⟨rr, rfl, hrr⟩, hx1⟩; have hgx : wr.grownBy w1 (some g) := ⟨hx1.os, hx1.tape, hx1.output, hx1.size, fun i hi _ => hx1.block i hi⟩; have hown1 : w1.ownsRow base 23 3 (.slice (some ⟨g, 0, none⟩) n c) n (vgs l) := World.ownsRow.below (w := wr.drew) hown hx1; have hg1 := hg.trans hgx; have kc := fun i => (hx1.cell (p := ⟨g, i, none⟩) hgl); have c0 := (kc _).trans c0; have c1 := (kc _).trans c1; have c2 := (kc _).trans c2; have d0 := (kc _).trans d0; have d1 := (kc _).trans d1; have d2 := (kc _).trans d2; refine ⟨_, rfl, ⟨⟨c0, c1, c2⟩, d0, d1, d2⟩, ?_⟩
            try simp only [Act.put, List.setIfInBounds_toArray, List.set_cons_zero, List.set_cons_succ]
            clear kc HCM hx1 hgx hown hg
            by_cases hneg : CM < 0
            ·
              have hcd : decide (rr < 0) = true := decide_eq_true (hrr.2 hneg); refine txt_light (.bool true) rfl rfl ?_ ?_
              · intro w' hS; go_simp
              try simp only [Act.put, List.setIfInBounds_toArray, List.set_cons_zero, List.set_cons_succ]
              refine txt_light (.bool false) rfl rfl ?_ ?_
              · intro w' hS; go_simp
              try simp only [Act.put, List.setIfInBounds_toArray, List.set_cons_zero, List.set_cons_succ]
              refine txt_nil ?_; clear hcd c0 c1 c2 d0 d1 d2; have HJ2 : Hid (hh = m ∨ cmpG l[m]! l[hh]! < 0) := Lib.hid (.inr (by rw [HCMV.out]; exact hneg)); clear hneg HCMV; go_wp2; refine ⟨⟨i, hh, by omega, by omega, by omega, rfl, rfl, HI, HJ2, hown1, hg1⟩, by simp [intOf]; omega⟩
            ·
              have hcd : decide (rr < 0) = false := decide_eq_false (fun h => hneg (hrr.1 h)); refine txt_light (.bool false) rfl rfl ?_ ?_
              · intro w' hS; go_simp
              try simp only [Act.put, List.setIfInBounds_toArray, List.set_cons_zero, List.set_cons_succ]
              refine txt_light (.bool true) rfl rfl ?_ ?_
              · intro w' hS; go_simp
              try simp only [Act.put, List.setIfInBounds_toArray, List.set_cons_zero, List.set_cons_succ]
              refine txt_nil ?_; clear hcd c0 c1 c2 d0 d1 d2; have HI2 : Hid (hh + 1 = a ∨ 0 ≤ cmpG l[m]! l[hh + 1 - 1]!) := Lib.hid (.inr (by rw [Nat.add_sub_cancel, HCMV.out]; omega)); clear hneg HCMV; go_wp2; refine ⟨⟨hh + 1, j, by omega, by omega, hjb, by first | rfl | go_num, rfl, HI2, HJ, hown1, hg1⟩, by simp [intOf]; omega⟩
          · obtain rfl : i = j := by omega
            go_wp2
            go_loopw [17] (fun kk wr => ∃ (k : Nat) (l1 : List Vg), i ≤ k ∧ k ≤ m ∧ kk = .int .i64 (k : Int) ∧ l1.length = n ∧ Hid (Rot k m (m + 1) l l1) ∧ Hid (Prm a (m + 1) l l1) ∧ wr.ownsRow base 23 3 (.slice (some ⟨g, 0, none⟩) n c) n (vgs l1) ∧ w.grownBy wr (some g)) (fun kk _ => (intOf kk).toNat)
            case atStart => exact ⟨m, l, hjb, Nat.le_refl _, rfl, hn, Lib.hid (Rot.right _ _ _ (by omega)), Lib.hid (Prm.refl _ _ _), hown, hg⟩
            case round =>
              clear hown hg; obtain ⟨k, l1, hk1, hk2, rfl, hL, HR, HP, hown, hg⟩ := hrel
              by_cases hlt2 : i < k
              · have hlt3 : (i : Int) < (k : Int) := by omega
                obtain ⟨Y, hY⟩ : ∃ Y, k = Y + 1 := ⟨k - 1, by omega⟩; have hwy : IntKind.i64.wrap ((k : Int) - 1) = (Y : Int) := by
                  rw [show (k : Int) - 1 = (Y : Int) by omega]; exact IntWalk.i64_in _ (by omega)
                have hkn : k < n := by omega
                have hYn : Y < n := by omega
                have hXY : k ≠ Y := by omega
                have hx1 : (k : Int) < (n : Int) := by omega
                have hy1 : (Y : Int) < (n : Int) := by omega
                have hx0 : (0 : Int) ≤ (k : Int) := by omega
                have hy0 : (0 : Int) ≤ (Y : Int) := by omega
                have HR2 : Hid (Rot Y m (m + 1) l (swpL l1 k Y)) := Lib.hid (by have := HR.out; rw [hY] at this ⊢; exact Rot.down (by omega) (by omega) this); have HP2 : Hid (Prm a (m + 1) l (swpL l1 k Y)) := Lib.hid (HP.out.trans (Prm.swp _ _ _ (by omega) (by omega) (by rw [hL]; exact hbn))); have hYi : i ≤ Y ∧ Y ≤ m := by omega
                have hme : Y < k := by omega
                clear hY; obtain ⟨⟨c0, c1, c2⟩, -, hgl⟩ := own_vg hown k (by omega); obtain ⟨⟨d0, d1, d2⟩, -, -⟩ := own_vg hown Y (by omega); have q0 := (own_vg hown k (by omega)).2.1; have q1 := (own_vg hown Y (by omega)).2.1; have hset : Hid (swpL l1 k Y = (l1.set k l1[Y]!).set Y l1[k]!) := Lib.hid rfl; have hYY0 : l1[Y]! = l1[Y]! := rfl; have HYL : Hid (k ≠ Y → (l1.set k l1[Y]!)[Y]! = l1[Y]!) := Lib.hid (fun h => by rw [get_set _ _ _ _ (by omega), if_neg h]); clear hYY0; generalize l1[k]! = A at *; generalize l1[Y]! = B at *; obtain ⟨Ak, At, An, Ag⟩ := A; obtain ⟨Bk, Bt, Bn, Bg⟩ := B; dsimp only at c0 c1 c2 d0 d1 d2
                go_wp2_with fail
                refine wp_region_lit_txtZ (some 17) [0, 1, 2, 3, 4, 5, 6, 7, 8, 9, 10, 11, 12, 14, 16] (fun W => (W.cell? ⟨g, Y * 3, none⟩ = some (.int .i64 Bk) ∧ W.cell? ⟨g, Y * 3 + 1, none⟩ = some (.string Bt) ∧ W.cell? ⟨g, Y * 3 + 2, none⟩ = some (.int .i64 Bn))) (by kernel_rfl) (by kernel_rfl) (by kernel_rfl) (by kernel_rfl) ⟨d0, d1, d2⟩ ?_
                iterate 9 ((refine txt_light ?_ rfl rfl ?_ ?_; rotate_left; · (intro w' hS; (try dsimp only at hS); go_simp; with_reducible rfl)); try simp only [Act.put, List.setIfInBounds_toArray, List.set_cons_zero, List.set_cons_succ])
                refine txt_light (.agg #[.int .i64 Bk, .string Bt, .int .i64 Bn]) rfl rfl ?_ ?_
                · intro w' hS; obtain ⟨c0, c1, c2⟩ := hS; go_simp
                try simp only [Act.put, List.setIfInBounds_toArray, List.set_cons_zero, List.set_cons_succ]
                iterate 3 ((refine txt_light ?_ rfl rfl ?_ ?_; rotate_left; · (intro w' hS; (try dsimp only at hS); go_simp; with_reducible rfl)); try simp only [Act.put, List.setIfInBounds_toArray, List.set_cons_zero, List.set_cons_succ])
                refine txt_heavy rfl rfl (fun K hK => ?_); go_step; refine hK.out _ _ ⟨d0, d1, d2⟩ ?_; clear hK K
                try simp only [Act.put, List.setIfInBounds_toArray, List.set_cons_zero, List.set_cons_succ]
                (refine txt_light ?_ rfl rfl ?_ ?_; rotate_left; · (intro w' hS; (try dsimp only at hS); go_simp; with_reducible rfl)); try simp only [Act.put, List.setIfInBounds_toArray, List.set_cons_zero, List.set_cons_succ]
                refine txt_heavy rfl rfl (fun K hK => ?_); obtain ⟨f0, f1, f2⟩ := q0; obtain ⟨h0, h1, h2⟩ := q1; go_step; have own2 := (ownsRow_setS (W := _) (i := k * 3 + 2) (ownsRow_setS (W := _) (i := k * 3 + 1) (ownsRow_setS (W := wr) (i := k * 3) hown (.int .i64 Bk)) (.string Bt)) (.int .i64 Bn)); rw [vgs_set l1 k (by omega) ⟨Bk, Bt, Bn, Bg⟩] at own2; have hl2 : (l1.set k ⟨Bk, Bt, Bn, Bg⟩).length = n := by simpa using hL
                obtain ⟨⟨r0, r1, r2⟩, ⟨t0, t1, t2⟩, -⟩ := own_vg own2 Y (by omega); rw [HYL.out hXY] at r0 r1 r2; dsimp only at r0 r1 r2; have hg2 := (((hg.trans (grown_setg wr g (k * 3) (.int .i64 Bk))).trans (grown_setg _ g (k * 3 + 1) (.string Bt))).trans (grown_setg _ g (k * 3 + 2) (.int .i64 Bn))); refine hK.out _ _ ⟨r0, r1, r2⟩ ?_; clear hK K; generalize (((wr.setCell ⟨g, k * 3, none⟩ (.int .i64 Bk)).setCell ⟨g, k * 3 + 1, none⟩ (.string Bt)).setCell ⟨g, k * 3 + 2, none⟩ (.int .i64 Bn)) = w2 at *
                try simp only [Act.put, List.setIfInBounds_toArray, List.set_cons_zero, List.set_cons_succ]
                (refine txt_light ?_ rfl rfl ?_ ?_; rotate_left; · (intro w' hS; (try dsimp only at hS); go_simp; with_reducible rfl)); try simp only [Act.put, List.setIfInBounds_toArray, List.set_cons_zero, List.set_cons_succ]
                refine txt_last rfl rfl rfl (fun K hK => ?_); go_step; have own3 := (ownsRow_setS (i := Y * 3 + 2) (ownsRow_setS (i := Y * 3 + 1) (ownsRow_setS (i := Y * 3) own2 (.int .i64 Ak)) (.string At)) (.int .i64 An)); rw [vgs_set _ Y (by omega) ⟨Ak, At, An, Ag⟩, ← hset.out] at own3; have hg3 := (((hg2.trans (grown_setg w2 g (Y * 3) (.int .i64 Ak))).trans (grown_setg _ g (Y * 3 + 1) (.string At))).trans (grown_setg _ g (Y * 3 + 2) (.int .i64 An))); refine hK.out _ _ ?_; clear hK K; refine txt_nil ?_; generalize (((w2.setCell ⟨g, Y * 3, none⟩ (.int .i64 Ak)).setCell ⟨g, Y * 3 + 1, none⟩ (.string At)).setCell ⟨g, Y * 3 + 2, none⟩ (.int .i64 An)) = w3 at *; clear own2 hg2 r0 r1 r2 f0 f1 f2 h0 h1 h2 t0 t1 t2 c0 c1 c2 d0 d1 d2 hown hg; go_wp2; go_roundw
                case rel => exact ⟨Y, swpL l1 k Y, hYi.1, hYi.2, rfl, by rw [swpL_len]; exact hL, HR2, HP2, ownsRow_drew own3, grown_drew hg3⟩
                case measure => simp [intOf]; exact hme
              · obtain rfl : k = i := by omega
                have hres := down_ok H (l1 := l1) HOK.out HB.out ⟨hi1, by omega⟩ HS1.out (by rcases HI.out with h | h; exact .inl h; exact .inr (by omega)) HJ.out HR.out; have hpr := HP.out; go_wp2; refine ⟨rfl, .tuple #[], by simp [results, Tryd.results66, go_sem], rfl, ⟨_, hpr, hres, hown⟩, hg⟩
      · have hb1i : ¬ (bm : Int) = 1 := by omega
        clear hma hbm; obtain ⟨mid, hmid⟩ : ∃ mid, (a + b) / 2 = mid := ⟨_, rfl⟩; have hw1 : IntKind.i64.wrap ((a : Int) + (b : Int)) = ((a + b : Nat) : Int) := by
          rw [show (a : Int) + (b : Int) = ((a + b : Nat) : Int) by omega]; exact IntWalk.i64_in _ (by omega)
        obtain ⟨smmid, hsmmid⟩ : ∃ sm, a + b = sm := ⟨_, rfl⟩; rw [hsmmid] at hw1 hmid; have hw2 : IntKind.u64.wrap (smmid : Int) = (smmid : Int) := IntWalk.u64_in _ (by omega); have hmd : a < mid ∧ mid < b ∧ 2 * mid ≤ a + b ∧ a + b ≤ 2 * mid + 1 := by omega
        have hw3 : (smmid : Int) / 2 = (mid : Int) := by omega
        clear hmid hsmmid; obtain ⟨N, hN⟩ : ∃ N, mid + m = N := ⟨_, rfl⟩; have hwN : IntKind.i64.wrap ((mid : Int) + (m : Int)) = (N : Int) := by
          rw [show (mid : Int) + (m : Int) = (N : Int) by omega]; exact IntWalk.i64_in _ (by omega)
        obtain ⟨P, hP⟩ : ∃ P, N = P + 1 := ⟨N - 1, by omega⟩; have hwP : IntKind.i64.wrap ((N : Int) - 1) = (P : Int) := by
          rw [show (N : Int) - 1 = (P : Int) by omega]; exact IntWalk.i64_in _ (by omega)
        have HN := Lib.hid hN; have HPP := Lib.hid hP; clear hN hP
        by_cases hbr : mid < m
        ·
          have hN := HN.out; obtain ⟨lo, hlo⟩ : ∃ lo, N = lo + b := ⟨N - b, by have := HN.out; omega⟩; have hwl : IntKind.i64.wrap ((N : Int) - (b : Int)) = (lo : Int) := by
            rw [show (N : Int) - (b : Int) = (lo : Int) by omega]; exact IntWalk.i64_in _ (by omega)
          have HLO := Lib.hid hlo; clear hlo hN; have hbr' : (mid : Int) < (m : Int) := by omega
          have hlh : lo ≤ mid := by have := HLO.out; have := HN.out; omega
          go_wp2
          go_loopw [20, 21] (fun ii jj wr => ∃ (i j : Nat), lo ≤ i ∧ i ≤ j ∧ j ≤ mid ∧ ii = .int .i64 (i : Int) ∧ jj = .int .i64 (j : Int) ∧ Hid (i = lo ∨ 0 ≤ cmpG l[N - i]! l[i - 1]!) ∧ Hid (j = mid ∨ cmpG l[P - j]! l[j]! < 0) ∧ wr.ownsRow base 23 3 (.slice (some ⟨g, 0, none⟩) n c) n (vgs l) ∧ w.grownBy wr (some g)) (fun ii jj _ => (intOf jj).toNat - (intOf ii).toNat)
          case atStart => exact ⟨lo, mid, Nat.le_refl _, by omega, Nat.le_refl _, rfl, rfl, Lib.hid (.inl rfl), Lib.hid (.inl rfl), h, ⟨rfl, rfl, rfl, Nat.le_refl _, fun _ _ _ => rfl⟩⟩
          case round =>
            obtain ⟨i, j, hi1, hij, hjb, rfl, rfl, HI, HJ, hown, hg⟩ := hrel; have hN := HN.out; have hP := HPP.out; have hlo := HLO.out
            by_cases hlt : i < j
            · have hlt' : (i : Int) < (j : Int) := by omega
              obtain ⟨hh, hhh⟩ : ∃ hh, (i + j) / 2 = hh := ⟨_, rfl⟩; have hw1 : IntKind.i64.wrap ((i : Int) + (j : Int)) = ((i + j : Nat) : Int) := by
                rw [show (i : Int) + (j : Int) = ((i + j : Nat) : Int) by omega]; exact IntWalk.i64_in _ (by omega)
              obtain ⟨smhh, hsmhh⟩ : ∃ sm, i + j = sm := ⟨_, rfl⟩; rw [hsmhh] at hw1 hhh; have hw2 : IntKind.u64.wrap (smhh : Int) = (smhh : Int) := IntWalk.u64_in _ (by omega); have hhi : i ≤ hh ∧ hh < j := by omega
              obtain ⟨X, hX⟩ : ∃ X, P - hh = X := ⟨_, rfl⟩; have hwx : IntKind.i64.wrap ((P : Int) - (hh : Int)) = (X : Int) := by
                rw [show (P : Int) - (hh : Int) = (X : Int) by omega]; exact IntWalk.i64_in _ (by omega)
              have hXn : X < n := by omega
              have hhn : hh < n := by omega
              have hx1 : (hh : Int) < (n : Int) := by omega
              have hx0 : (0 : Int) ≤ (hh : Int) := by omega
              have hy1 : (X : Int) < (n : Int) := by omega
              have hy0 : (0 : Int) ≤ (X : Int) := by omega
              have hw3 : (smhh : Int) / 2 = (hh : Int) := by omega
              have HXE : Hid (N - (hh + 1) = X ∧ P - hh = X) := Lib.hid ⟨by omega, hX⟩; have hxa : a ≤ hh ∧ hh < m ∧ m ≤ X ∧ X < b := by omega
              clear hhh hsmhh hX hN hP hlo; obtain ⟨⟨c0, c1, c2⟩, -, hgl⟩ := own_vg hown X (by omega); obtain ⟨⟨d0, d1, d2⟩, -, -⟩ := own_vg hown hh (by omega); have hA : VgOk l[X]! := at_ok HOK.out _ (by omega); have hB : VgOk l[hh]! := at_ok HOK.out _ (by omega); have hcm := vcmp_any l[X]! l[hh]! hA hB (HX.out hh X (by omega) (by omega) (by omega) (by omega)); obtain ⟨CM, hCM⟩ : ∃ CM, cmpG l[X]! l[hh]! = CM := ⟨_, rfl⟩; rw [hCM] at hcm; have HCMV := Lib.hid hCM; clear hCM hA hB; obtain ⟨A, hAA⟩ : ∃ A, l[X]! = A := ⟨_, rfl⟩; obtain ⟨B, hBB⟩ : ∃ B, l[hh]! = B := ⟨_, rfl⟩; rw [hAA] at c0 c1 c2; rw [hBB] at d0 d1 d2; rw [hAA, hBB] at hcm; clear hAA hBB; obtain ⟨Ak, At, An, Ag⟩ := A; obtain ⟨Bk, Bt, Bn, Bg⟩ := B; dsimp only [Vg.val] at c0 c1 c2 d0 d1 d2 hcm; have HCM := Lib.hid hcm; clear hcm
              go_wp2_with fail
              refine wp_region_lit_txt [0, 1, 2, 3, 4, 5, 6, 7, 8, 9, 10, 12, 13] (fun W => (W.cell? ⟨g, X * 3, none⟩ = some (.int .i64 Ak) ∧ W.cell? ⟨g, X * 3 + 1, none⟩ = some (.string At) ∧ W.cell? ⟨g, X * 3 + 2, none⟩ = some (.int .i64 An)) ∧ (W.cell? ⟨g, hh * 3, none⟩ = some (.int .i64 Bk) ∧ W.cell? ⟨g, hh * 3 + 1, none⟩ = some (.string Bt) ∧ W.cell? ⟨g, hh * 3 + 2, none⟩ = some (.int .i64 Bn))) (by kernel_rfl) (by kernel_rfl) (by kernel_rfl) ⟨⟨c0, c1, c2⟩, d0, d1, d2⟩ ?_
              iterate 6 ((refine txt_light ?_ rfl rfl ?_ ?_; rotate_left; · (intro w' hS; (try dsimp only at hS); go_simp; with_reducible rfl)); try simp only [Act.put, List.setIfInBounds_toArray, List.set_cons_zero, List.set_cons_succ])
              refine txt_light (.agg #[.int .i64 Ak, .string At, .int .i64 An]) rfl rfl ?_ ?_
              · intro w' hS; obtain ⟨c0, c1, c2⟩ := hS.1; go_simp
              try simp only [Act.put, List.setIfInBounds_toArray, List.set_cons_zero, List.set_cons_succ]
              iterate 3 ((refine txt_light ?_ rfl rfl ?_ ?_; rotate_left; · (intro w' hS; (try dsimp only at hS); go_simp; with_reducible rfl)); try simp only [Act.put, List.setIfInBounds_toArray, List.set_cons_zero, List.set_cons_succ])
              refine txt_light (.agg #[.int .i64 Bk, .string Bt, .int .i64 Bn]) rfl rfl ?_ ?_
              · intro w' hS; obtain ⟨c0, c1, c2⟩ := hS.2; go_simp
              try simp only [Act.put, List.setIfInBounds_toArray, List.set_cons_zero, List.set_cons_succ]
              refine txt_callv [] [.agg #[.int .i64 Ak, .string At, .int .i64 An], .agg #[.int .i64 Bk, .string Bt, .int .i64 Bn]] Tryd.f30 rfl rfl rfl Tryd.func30 (by kernel_rfl) (by kernel_rfl) rfl ((HCM.out _).mono ?_); rintro e w1 ⟨⟨rr, rfl, hrr⟩, hx1⟩; have hgx : wr.grownBy w1 (some g) := ⟨hx1.os, hx1.tape, hx1.output, hx1.size, fun i hi _ => hx1.block i hi⟩; have hown1 : w1.ownsRow base 23 3 (.slice (some ⟨g, 0, none⟩) n c) n (vgs l) := World.ownsRow.below (w := wr.drew) hown hx1; have hg1 := hg.trans hgx; have kc := fun i => (hx1.cell (p := ⟨g, i, none⟩) hgl); have c0 := (kc _).trans c0; have c1 := (kc _).trans c1; have c2 := (kc _).trans c2; have d0 := (kc _).trans d0; have d1 := (kc _).trans d1; have d2 := (kc _).trans d2; refine ⟨_, rfl, ⟨⟨c0, c1, c2⟩, d0, d1, d2⟩, ?_⟩
              try simp only [Act.put, List.setIfInBounds_toArray, List.set_cons_zero, List.set_cons_succ]
              clear kc HCM hx1 hgx hown hg
              by_cases hneg : CM < 0
              ·
                have hcd : decide (rr < 0) = true := decide_eq_true (hrr.2 hneg); refine txt_light (.bool true) rfl rfl ?_ ?_
                · intro w' hS; go_simp
                try simp only [Act.put, List.setIfInBounds_toArray, List.set_cons_zero, List.set_cons_succ]
                refine txt_light (.bool false) rfl rfl ?_ ?_
                · intro w' hS; go_simp
                try simp only [Act.put, List.setIfInBounds_toArray, List.set_cons_zero, List.set_cons_succ]
                refine txt_nil ?_; clear hcd c0 c1 c2 d0 d1 d2; have HJ2 : Hid (hh = mid ∨ cmpG l[P - hh]! l[hh]! < 0) := Lib.hid (.inr (by rw [HXE.out.2, HCMV.out]; exact hneg)); clear hneg HCMV HXE; go_wp2; refine ⟨⟨i, hh, by omega, by omega, by omega, rfl, rfl, HI, HJ2, hown1, hg1⟩, by simp [intOf]; omega⟩
              ·
                have hcd : decide (rr < 0) = false := decide_eq_false (fun h => hneg (hrr.1 h)); refine txt_light (.bool false) rfl rfl ?_ ?_
                · intro w' hS; go_simp
                try simp only [Act.put, List.setIfInBounds_toArray, List.set_cons_zero, List.set_cons_succ]
                refine txt_light (.bool true) rfl rfl ?_ ?_
                · intro w' hS; go_simp
                try simp only [Act.put, List.setIfInBounds_toArray, List.set_cons_zero, List.set_cons_succ]
                refine txt_nil ?_; clear hcd c0 c1 c2 d0 d1 d2; have HI2 : Hid (hh + 1 = lo ∨ 0 ≤ cmpG l[N - (hh + 1)]! l[hh + 1 - 1]!) := Lib.hid (.inr (by rw [Nat.add_sub_cancel, HXE.out.1, HCMV.out]; omega)); clear hneg HCMV HXE; go_wp2; refine ⟨⟨hh + 1, j, by omega, by omega, hjb, by first | rfl | go_num, rfl, HI2, HJ, hown1, hg1⟩, by simp [intOf]; omega⟩
            · obtain rfl : i = j := by omega
              obtain ⟨E, hE⟩ : ∃ E, N - i = E := ⟨_, rfl⟩; have hwE : IntKind.i64.wrap ((N : Int) - (i : Int)) = (E : Int) := by
                rw [show (N : Int) - (i : Int) = (E : Int) by omega]; exact IntWalk.i64_in _ (by omega)
              have hbounds : a ≤ i ∧ i ≤ m ∧ m ≤ E ∧ E ≤ b ∧ i + (E - m) = mid := by omega
              have HA : Hid (i = a ∨ E = b ∨ cmpG l[i - 1]! l[E]! ≤ 0) := Lib.hid (by
                rcases HI.out with h | h
                · first | exact .inl h | exact .inr (.inl (by omega))
                · by_cases h1 : i = a
                  · exact .inl h1
                  · by_cases h2 : E = b
                    · exact .inr (.inl h2)
                    · rw [hE] at h; exact .inr (.inr (H.tot _ _ (at_ok HOK.out _ (by have := HB.out; omega)) (at_ok HOK.out _ (by have := HB.out; omega)) (by omega))))
              have HBB : Hid (i = m ∨ E = m ∨ cmpG l[E - 1]! l[i]! ≤ 0) := Lib.hid (by
                rcases HJ.out with h | h
                · first | exact .inl h | exact .inr (.inl (by omega))
                · rw [show P - i = E - 1 by omega] at h; exact .inr (.inr (by omega)))
              have hEN : (m < E ↔ i < mid) ∧ (mid < E ↔ i < m) := by omega
              clear hE hN hP HI HJ hlo; obtain ⟨hai, him, hmE, hEb, hie⟩ := hbounds; have HIE := Lib.hid hie; clear hie; have hT : i < m := by omega
              have hT' : (i : Int) < (m : Int) := by omega
              by_cases hM : i < mid
              ·
                have hM' : (i : Int) < (mid : Int) := by omega
                by_cases hA : a < i
                ·
                  have hA' : (a : Int) < (i : Int) := by omega
                  by_cases hB : E < b
                  ·
                    have hB' : (E : Int) < (b : Int) := by omega
                    have hme : (m : Int) < (E : Int) := by omega
                    have hmde : (mid : Int) < (E : Int) := by omega
                    have hro := vg_rot_any base g c n l hn hc hn2 i m E hT (by omega) (by omega); have HRO := Lib.hid hro; clear hro
                    go_wp2_with fail
                    refine (HRO.out _ hown).mono ?_; rintro e w1 ⟨rfl, ⟨l1, hrot, hp10, hown1⟩, hg1⟩; have hg1 := hg.trans hg1; have hp1 := hp10.wide hai hEb; clear hp10 HRO; obtain ⟨p1, p2, p3, p4, px, p5, p6⟩ := rot_parts H HOK.out hai him hmE hEb HB.out HS1.out HS2.out hrot HA.out HBB.out; rw [HIE.out] at p2 p3 px p5 p6; have hix := rot_idx HX.out hai him hmE hEb hrot; rw [HIE.out] at hix; have HIX := Lib.hid hix; clear hix; have hok1 := hp1.all HOK.out; have hL1 : l1.length = n := by rw [hp1.len]; exact hn
                    have P3 := Lib.hid p3; have P4 := Lib.hid p4; have PX := Lib.hid px; have P6 := Lib.hid p6; have HP1 := Lib.hid hp1; clear p3 p4 px p6 hp1 hrot; have hih := IH.out a i mid l1 (by omega) hL1 hA hM (by omega) hok1 p1 p2 HIX.out.1; have HIH := Lib.hid hih; clear hih p1 p2 p5
                    go_wp2_with fail
                    refine (HIH.out _ hown1).mono ?_; rintro e w2 ⟨rfl, ⟨l2, hp2, hs2, hown2⟩, hg2⟩; have hg2 := hg1.trans hg2; clear HIH; have hok2 := hp2.all hok1; have hL2 : l2.length = n := by rw [hp2.len]; exact hL1
                    have hlow := fun i (h1 : mid ≤ i) => hp2.out i (.inr h1); have HP2 := Lib.hid hp2; have HS22 := Lib.hid hs2; have HLW := Lib.hid hlow; clear hp2 hs2 hlow; have hih := IH.out mid E b l2 (by omega) hL2 (by omega) (by omega) hbn hok2 (P3.out.congr (fun i h1 h2 => HLW.out i h1)) (P4.out.congr (fun i h1 h2 => HLW.out i (by omega))) (fun p q h1 h2 h3 h4 => by rw [HLW.out p (by omega), HLW.out q (by omega)]; exact HIX.out.2 p q h1 h2 h3 h4); have HIH := Lib.hid hih; clear hih
                    go_wp2_with fail
                    refine (HIH.out _ hown2).mono ?_; rintro e w3 ⟨rfl, ⟨l3, hp3, hs3, hown3⟩, hg3⟩; have hg3 := hg2.trans hg3; clear HIH; have hres := join PX.out HP2.out HS22.out hp3 hs3; have hpr := (HP1.out.trans (HP2.out.wide (Nat.le_refl _) (by omega))).trans (hp3.wide (by omega) (Nat.le_refl _)); clear hp3 hs3; go_wp2; refine ⟨rfl, .tuple #[], by simp [results, Tryd.results66, go_sem], rfl, ⟨_, hpr, hres, hown3⟩, hg3⟩
                  ·
                    have hB' : ¬ (E : Int) < (b : Int) := by omega
                    have hme : (m : Int) < (E : Int) := by omega
                    have hmde : (mid : Int) < (E : Int) := by omega
                    have hro := vg_rot_any base g c n l hn hc hn2 i m E hT (by omega) (by omega); have HRO := Lib.hid hro; clear hro
                    go_wp2_with fail
                    refine (HRO.out _ hown).mono ?_; rintro e w1 ⟨rfl, ⟨l1, hrot, hp10, hown1⟩, hg1⟩; have hg1 := hg.trans hg1; have hp1 := hp10.wide hai hEb; clear hp10 HRO; obtain ⟨p1, p2, p3, p4, px, p5, p6⟩ := rot_parts H HOK.out hai him hmE hEb HB.out HS1.out HS2.out hrot HA.out HBB.out; rw [HIE.out] at p2 p3 px p5 p6; have hix := rot_idx HX.out hai him hmE hEb hrot; rw [HIE.out] at hix; have HIX := Lib.hid hix; clear hix; have hok1 := hp1.all HOK.out; have hL1 : l1.length = n := by rw [hp1.len]; exact hn
                    have P3 := Lib.hid p3; have P4 := Lib.hid p4; have PX := Lib.hid px; have P6 := Lib.hid p6; have HP1 := Lib.hid hp1; clear p3 p4 px p6 hp1 hrot; have hih := IH.out a i mid l1 (by omega) hL1 hA hM (by omega) hok1 p1 p2 HIX.out.1; have HIH := Lib.hid hih; clear hih p1 p2 p5
                    go_wp2_with fail
                    refine (HIH.out _ hown1).mono ?_; rintro e w2 ⟨rfl, ⟨l2, hp2, hs2, hown2⟩, hg2⟩; have hg2 := hg1.trans hg2; clear HIH; have hok2 := hp2.all hok1; have hL2 : l2.length = n := by rw [hp2.len]; exact hL1
                    have hlow := fun i (h1 : mid ≤ i) => hp2.out i (.inr h1); have HP2 := Lib.hid hp2; have HS22 := Lib.hid hs2; have HLW := Lib.hid hlow; clear hp2 hs2 hlow; have hs3 : SR cmpG l2 mid b := (P6.out (by have := HIE.out; omega)).congr (fun i h1 h2 => HLW.out i h1); obtain ⟨l3, hp3, hs3, hown3, hll⟩ : ∃ l3, Prm mid b l2 l3 ∧ SR cmpG l3 mid b ∧ w2.ownsRow base 23 3 (.slice (some ⟨g, 0, none⟩) n c) n (vgs l3) ∧ l2 = l3 := ⟨l2, Prm.refl _ _ _, hs3, hown2, rfl⟩; have hg3 := hg2; clear hll; have hres := join PX.out HP2.out HS22.out hp3 hs3; have hpr := (HP1.out.trans (HP2.out.wide (Nat.le_refl _) (by omega))).trans (hp3.wide (by omega) (Nat.le_refl _)); clear hp3 hs3; go_wp2; refine ⟨rfl, .tuple #[], by simp [results, Tryd.results66, go_sem], rfl, ⟨_, hpr, hres, hown3⟩, hg3⟩
                ·
                  have hA' : ¬ (a : Int) < (i : Int) := by omega
                  by_cases hB : E < b
                  ·
                    have hB' : (E : Int) < (b : Int) := by omega
                    have hme : (m : Int) < (E : Int) := by omega
                    have hmde : (mid : Int) < (E : Int) := by omega
                    have hro := vg_rot_any base g c n l hn hc hn2 i m E hT (by omega) (by omega); have HRO := Lib.hid hro; clear hro
                    go_wp2_with fail
                    refine (HRO.out _ hown).mono ?_; rintro e w1 ⟨rfl, ⟨l1, hrot, hp10, hown1⟩, hg1⟩; have hg1 := hg.trans hg1; have hp1 := hp10.wide hai hEb; clear hp10 HRO; obtain ⟨p1, p2, p3, p4, px, p5, p6⟩ := rot_parts H HOK.out hai him hmE hEb HB.out HS1.out HS2.out hrot HA.out HBB.out; rw [HIE.out] at p2 p3 px p5 p6; have hix := rot_idx HX.out hai him hmE hEb hrot; rw [HIE.out] at hix; have HIX := Lib.hid hix; clear hix; have hok1 := hp1.all HOK.out; have hL1 : l1.length = n := by rw [hp1.len]; exact hn
                    have P3 := Lib.hid p3; have P4 := Lib.hid p4; have PX := Lib.hid px; have P6 := Lib.hid p6; have HP1 := Lib.hid hp1; clear p3 p4 px p6 hp1 hrot; have hs2 := p5 (by have := HIE.out; omega); obtain ⟨l2, hp2, hs2, hown2, hll⟩ : ∃ l2, Prm a mid l1 l2 ∧ SR cmpG l2 a mid ∧ w1.ownsRow base 23 3 (.slice (some ⟨g, 0, none⟩) n c) n (vgs l2) ∧ l1 = l2 := ⟨l1, Prm.refl _ _ _, hs2, hown1, rfl⟩; have hg2 := hg1; clear p1 p2 p5 hll; have hok2 := hp2.all hok1; have hL2 : l2.length = n := by rw [hp2.len]; exact hL1
                    have hlow := fun i (h1 : mid ≤ i) => hp2.out i (.inr h1); have HP2 := Lib.hid hp2; have HS22 := Lib.hid hs2; have HLW := Lib.hid hlow; clear hp2 hs2 hlow; have hih := IH.out mid E b l2 (by omega) hL2 (by omega) (by omega) hbn hok2 (P3.out.congr (fun i h1 h2 => HLW.out i h1)) (P4.out.congr (fun i h1 h2 => HLW.out i (by omega))) (fun p q h1 h2 h3 h4 => by rw [HLW.out p (by omega), HLW.out q (by omega)]; exact HIX.out.2 p q h1 h2 h3 h4); have HIH := Lib.hid hih; clear hih
                    go_wp2_with fail
                    refine (HIH.out _ hown2).mono ?_; rintro e w3 ⟨rfl, ⟨l3, hp3, hs3, hown3⟩, hg3⟩; have hg3 := hg2.trans hg3; clear HIH; have hres := join PX.out HP2.out HS22.out hp3 hs3; have hpr := (HP1.out.trans (HP2.out.wide (Nat.le_refl _) (by omega))).trans (hp3.wide (by omega) (Nat.le_refl _)); clear hp3 hs3; go_wp2; refine ⟨rfl, .tuple #[], by simp [results, Tryd.results66, go_sem], rfl, ⟨_, hpr, hres, hown3⟩, hg3⟩
                  ·
                    have hB' : ¬ (E : Int) < (b : Int) := by omega
                    have hme : (m : Int) < (E : Int) := by omega
                    have hmde : (mid : Int) < (E : Int) := by omega
                    have hro := vg_rot_any base g c n l hn hc hn2 i m E hT (by omega) (by omega); have HRO := Lib.hid hro; clear hro
                    go_wp2_with fail
                    refine (HRO.out _ hown).mono ?_; rintro e w1 ⟨rfl, ⟨l1, hrot, hp10, hown1⟩, hg1⟩; have hg1 := hg.trans hg1; have hp1 := hp10.wide hai hEb; clear hp10 HRO; obtain ⟨p1, p2, p3, p4, px, p5, p6⟩ := rot_parts H HOK.out hai him hmE hEb HB.out HS1.out HS2.out hrot HA.out HBB.out; rw [HIE.out] at p2 p3 px p5 p6; have hix := rot_idx HX.out hai him hmE hEb hrot; rw [HIE.out] at hix; have HIX := Lib.hid hix; clear hix; have hok1 := hp1.all HOK.out; have hL1 : l1.length = n := by rw [hp1.len]; exact hn
                    have P3 := Lib.hid p3; have P4 := Lib.hid p4; have PX := Lib.hid px; have P6 := Lib.hid p6; have HP1 := Lib.hid hp1; clear p3 p4 px p6 hp1 hrot; have hs2 := p5 (by have := HIE.out; omega); obtain ⟨l2, hp2, hs2, hown2, hll⟩ : ∃ l2, Prm a mid l1 l2 ∧ SR cmpG l2 a mid ∧ w1.ownsRow base 23 3 (.slice (some ⟨g, 0, none⟩) n c) n (vgs l2) ∧ l1 = l2 := ⟨l1, Prm.refl _ _ _, hs2, hown1, rfl⟩; have hg2 := hg1; clear p1 p2 p5 hll; have hok2 := hp2.all hok1; have hL2 : l2.length = n := by rw [hp2.len]; exact hL1
                    have hlow := fun i (h1 : mid ≤ i) => hp2.out i (.inr h1); have HP2 := Lib.hid hp2; have HS22 := Lib.hid hs2; have HLW := Lib.hid hlow; clear hp2 hs2 hlow; have hs3 : SR cmpG l2 mid b := (P6.out (by have := HIE.out; omega)).congr (fun i h1 h2 => HLW.out i h1); obtain ⟨l3, hp3, hs3, hown3, hll⟩ : ∃ l3, Prm mid b l2 l3 ∧ SR cmpG l3 mid b ∧ w1.ownsRow base 23 3 (.slice (some ⟨g, 0, none⟩) n c) n (vgs l3) ∧ l2 = l3 := ⟨l2, Prm.refl _ _ _, hs3, hown2, rfl⟩; have hg3 := hg2; clear hll; have hres := join PX.out HP2.out HS22.out hp3 hs3; have hpr := (HP1.out.trans (HP2.out.wide (Nat.le_refl _) (by omega))).trans (hp3.wide (by omega) (Nat.le_refl _)); clear hp3 hs3; go_wp2; refine ⟨rfl, .tuple #[], by simp [results, Tryd.results66, go_sem], rfl, ⟨_, hpr, hres, hown3⟩, hg3⟩
              ·
                have hM' : ¬ (i : Int) < (mid : Int) := by omega
                by_cases hA : a < i
                ·
                  have hA' : (a : Int) < (i : Int) := by omega
                  by_cases hB : E < b
                  ·
                    have hB' : (E : Int) < (b : Int) := by omega
                    have hme : ¬ (m : Int) < (E : Int) := by omega
                    have hmde : (mid : Int) < (E : Int) := by omega
                    obtain ⟨w1, l1, hrot, hp1, hown1, hg1, hww⟩ : ∃ w1 l1, Rot i m E l l1 ∧ Prm a b l l1 ∧ w1.ownsRow base 23 3 (.slice (some ⟨g, 0, none⟩) n c) n (vgs l1) ∧ w.grownBy w1 (some g) ∧ wr = w1 := ⟨wr, l, (by rw [show E = m by omega]; exact Rot.left _ _ _ him), Prm.refl _ _ _, hown, hg, rfl⟩; subst hww; obtain ⟨p1, p2, p3, p4, px, p5, p6⟩ := rot_parts H HOK.out hai him hmE hEb HB.out HS1.out HS2.out hrot HA.out HBB.out; rw [HIE.out] at p2 p3 px p5 p6; have hix := rot_idx HX.out hai him hmE hEb hrot; rw [HIE.out] at hix; have HIX := Lib.hid hix; clear hix; have hok1 := hp1.all HOK.out; have hL1 : l1.length = n := by rw [hp1.len]; exact hn
                    have P3 := Lib.hid p3; have P4 := Lib.hid p4; have PX := Lib.hid px; have P6 := Lib.hid p6; have HP1 := Lib.hid hp1; clear p3 p4 px p6 hp1 hrot; have hs2 := p5 (by have := HIE.out; omega); obtain ⟨l2, hp2, hs2, hown2, hll⟩ : ∃ l2, Prm a mid l1 l2 ∧ SR cmpG l2 a mid ∧ wr.ownsRow base 23 3 (.slice (some ⟨g, 0, none⟩) n c) n (vgs l2) ∧ l1 = l2 := ⟨l1, Prm.refl _ _ _, hs2, hown1, rfl⟩; have hg2 := hg1; clear p1 p2 p5 hll; have hok2 := hp2.all hok1; have hL2 : l2.length = n := by rw [hp2.len]; exact hL1
                    have hlow := fun i (h1 : mid ≤ i) => hp2.out i (.inr h1); have HP2 := Lib.hid hp2; have HS22 := Lib.hid hs2; have HLW := Lib.hid hlow; clear hp2 hs2 hlow; have hih := IH.out mid E b l2 (by omega) hL2 (by omega) (by omega) hbn hok2 (P3.out.congr (fun i h1 h2 => HLW.out i h1)) (P4.out.congr (fun i h1 h2 => HLW.out i (by omega))) (fun p q h1 h2 h3 h4 => by rw [HLW.out p (by omega), HLW.out q (by omega)]; exact HIX.out.2 p q h1 h2 h3 h4); have HIH := Lib.hid hih; clear hih
                    go_wp2_with fail
                    refine (HIH.out _ hown2).mono ?_; rintro e w3 ⟨rfl, ⟨l3, hp3, hs3, hown3⟩, hg3⟩; have hg3 := hg2.trans hg3; clear HIH; have hres := join PX.out HP2.out HS22.out hp3 hs3; have hpr := (HP1.out.trans (HP2.out.wide (Nat.le_refl _) (by omega))).trans (hp3.wide (by omega) (Nat.le_refl _)); clear hp3 hs3; go_wp2; refine ⟨rfl, .tuple #[], by simp [results, Tryd.results66, go_sem], rfl, ⟨_, hpr, hres, hown3⟩, hg3⟩
                  ·
                    have hB' : ¬ (E : Int) < (b : Int) := by omega
                    have hme : ¬ (m : Int) < (E : Int) := by omega
                    have hmde : (mid : Int) < (E : Int) := by omega
                    obtain ⟨w1, l1, hrot, hp1, hown1, hg1, hww⟩ : ∃ w1 l1, Rot i m E l l1 ∧ Prm a b l l1 ∧ w1.ownsRow base 23 3 (.slice (some ⟨g, 0, none⟩) n c) n (vgs l1) ∧ w.grownBy w1 (some g) ∧ wr = w1 := ⟨wr, l, (by rw [show E = m by omega]; exact Rot.left _ _ _ him), Prm.refl _ _ _, hown, hg, rfl⟩; subst hww; obtain ⟨p1, p2, p3, p4, px, p5, p6⟩ := rot_parts H HOK.out hai him hmE hEb HB.out HS1.out HS2.out hrot HA.out HBB.out; rw [HIE.out] at p2 p3 px p5 p6; have hix := rot_idx HX.out hai him hmE hEb hrot; rw [HIE.out] at hix; have HIX := Lib.hid hix; clear hix; have hok1 := hp1.all HOK.out; have hL1 : l1.length = n := by rw [hp1.len]; exact hn
                    have P3 := Lib.hid p3; have P4 := Lib.hid p4; have PX := Lib.hid px; have P6 := Lib.hid p6; have HP1 := Lib.hid hp1; clear p3 p4 px p6 hp1 hrot; have hs2 := p5 (by have := HIE.out; omega); obtain ⟨l2, hp2, hs2, hown2, hll⟩ : ∃ l2, Prm a mid l1 l2 ∧ SR cmpG l2 a mid ∧ wr.ownsRow base 23 3 (.slice (some ⟨g, 0, none⟩) n c) n (vgs l2) ∧ l1 = l2 := ⟨l1, Prm.refl _ _ _, hs2, hown1, rfl⟩; have hg2 := hg1; clear p1 p2 p5 hll; have hok2 := hp2.all hok1; have hL2 : l2.length = n := by rw [hp2.len]; exact hL1
                    have hlow := fun i (h1 : mid ≤ i) => hp2.out i (.inr h1); have HP2 := Lib.hid hp2; have HS22 := Lib.hid hs2; have HLW := Lib.hid hlow; clear hp2 hs2 hlow; have hs3 : SR cmpG l2 mid b := (P6.out (by have := HIE.out; omega)).congr (fun i h1 h2 => HLW.out i h1); obtain ⟨l3, hp3, hs3, hown3, hll⟩ : ∃ l3, Prm mid b l2 l3 ∧ SR cmpG l3 mid b ∧ wr.ownsRow base 23 3 (.slice (some ⟨g, 0, none⟩) n c) n (vgs l3) ∧ l2 = l3 := ⟨l2, Prm.refl _ _ _, hs3, hown2, rfl⟩; have hg3 := hg2; clear hll; have hres := join PX.out HP2.out HS22.out hp3 hs3; have hpr := (HP1.out.trans (HP2.out.wide (Nat.le_refl _) (by omega))).trans (hp3.wide (by omega) (Nat.le_refl _)); clear hp3 hs3; go_wp2; refine ⟨rfl, .tuple #[], by simp [results, Tryd.results66, go_sem], rfl, ⟨_, hpr, hres, hown3⟩, hg3⟩
                ·
                  have hA' : ¬ (a : Int) < (i : Int) := by omega
                  by_cases hB : E < b
                  ·
                    have hB' : (E : Int) < (b : Int) := by omega
                    have hme : ¬ (m : Int) < (E : Int) := by omega
                    have hmde : (mid : Int) < (E : Int) := by omega
                    obtain ⟨w1, l1, hrot, hp1, hown1, hg1, hww⟩ : ∃ w1 l1, Rot i m E l l1 ∧ Prm a b l l1 ∧ w1.ownsRow base 23 3 (.slice (some ⟨g, 0, none⟩) n c) n (vgs l1) ∧ w.grownBy w1 (some g) ∧ wr = w1 := ⟨wr, l, (by rw [show E = m by omega]; exact Rot.left _ _ _ him), Prm.refl _ _ _, hown, hg, rfl⟩; subst hww; obtain ⟨p1, p2, p3, p4, px, p5, p6⟩ := rot_parts H HOK.out hai him hmE hEb HB.out HS1.out HS2.out hrot HA.out HBB.out; rw [HIE.out] at p2 p3 px p5 p6; have hix := rot_idx HX.out hai him hmE hEb hrot; rw [HIE.out] at hix; have HIX := Lib.hid hix; clear hix; have hok1 := hp1.all HOK.out; have hL1 : l1.length = n := by rw [hp1.len]; exact hn
                    have P3 := Lib.hid p3; have P4 := Lib.hid p4; have PX := Lib.hid px; have P6 := Lib.hid p6; have HP1 := Lib.hid hp1; clear p3 p4 px p6 hp1 hrot; have hs2 := p5 (by have := HIE.out; omega); obtain ⟨l2, hp2, hs2, hown2, hll⟩ : ∃ l2, Prm a mid l1 l2 ∧ SR cmpG l2 a mid ∧ wr.ownsRow base 23 3 (.slice (some ⟨g, 0, none⟩) n c) n (vgs l2) ∧ l1 = l2 := ⟨l1, Prm.refl _ _ _, hs2, hown1, rfl⟩; have hg2 := hg1; clear p1 p2 p5 hll; have hok2 := hp2.all hok1; have hL2 : l2.length = n := by rw [hp2.len]; exact hL1
                    have hlow := fun i (h1 : mid ≤ i) => hp2.out i (.inr h1); have HP2 := Lib.hid hp2; have HS22 := Lib.hid hs2; have HLW := Lib.hid hlow; clear hp2 hs2 hlow; have hih := IH.out mid E b l2 (by omega) hL2 (by omega) (by omega) hbn hok2 (P3.out.congr (fun i h1 h2 => HLW.out i h1)) (P4.out.congr (fun i h1 h2 => HLW.out i (by omega))) (fun p q h1 h2 h3 h4 => by rw [HLW.out p (by omega), HLW.out q (by omega)]; exact HIX.out.2 p q h1 h2 h3 h4); have HIH := Lib.hid hih; clear hih
                    go_wp2_with fail
                    refine (HIH.out _ hown2).mono ?_; rintro e w3 ⟨rfl, ⟨l3, hp3, hs3, hown3⟩, hg3⟩; have hg3 := hg2.trans hg3; clear HIH; have hres := join PX.out HP2.out HS22.out hp3 hs3; have hpr := (HP1.out.trans (HP2.out.wide (Nat.le_refl _) (by omega))).trans (hp3.wide (by omega) (Nat.le_refl _)); clear hp3 hs3; go_wp2; refine ⟨rfl, .tuple #[], by simp [results, Tryd.results66, go_sem], rfl, ⟨_, hpr, hres, hown3⟩, hg3⟩
                  ·
                    have hB' : ¬ (E : Int) < (b : Int) := by omega
                    have hme : ¬ (m : Int) < (E : Int) := by omega
                    have hmde : (mid : Int) < (E : Int) := by omega
                    obtain ⟨w1, l1, hrot, hp1, hown1, hg1, hww⟩ : ∃ w1 l1, Rot i m E l l1 ∧ Prm a b l l1 ∧ w1.ownsRow base 23 3 (.slice (some ⟨g, 0, none⟩) n c) n (vgs l1) ∧ w.grownBy w1 (some g) ∧ wr = w1 := ⟨wr, l, (by rw [show E = m by omega]; exact Rot.left _ _ _ him), Prm.refl _ _ _, hown, hg, rfl⟩; subst hww; obtain ⟨p1, p2, p3, p4, px, p5, p6⟩ := rot_parts H HOK.out hai him hmE hEb HB.out HS1.out HS2.out hrot HA.out HBB.out; rw [HIE.out] at p2 p3 px p5 p6; have hix := rot_idx HX.out hai him hmE hEb hrot; rw [HIE.out] at hix; have HIX := Lib.hid hix; clear hix; have hok1 := hp1.all HOK.out; have hL1 : l1.length = n := by rw [hp1.len]; exact hn
                    have P3 := Lib.hid p3; have P4 := Lib.hid p4; have PX := Lib.hid px; have P6 := Lib.hid p6; have HP1 := Lib.hid hp1; clear p3 p4 px p6 hp1 hrot; have hs2 := p5 (by have := HIE.out; omega); obtain ⟨l2, hp2, hs2, hown2, hll⟩ : ∃ l2, Prm a mid l1 l2 ∧ SR cmpG l2 a mid ∧ wr.ownsRow base 23 3 (.slice (some ⟨g, 0, none⟩) n c) n (vgs l2) ∧ l1 = l2 := ⟨l1, Prm.refl _ _ _, hs2, hown1, rfl⟩; have hg2 := hg1; clear p1 p2 p5 hll; have hok2 := hp2.all hok1; have hL2 : l2.length = n := by rw [hp2.len]; exact hL1
                    have hlow := fun i (h1 : mid ≤ i) => hp2.out i (.inr h1); have HP2 := Lib.hid hp2; have HS22 := Lib.hid hs2; have HLW := Lib.hid hlow; clear hp2 hs2 hlow; have hs3 : SR cmpG l2 mid b := (P6.out (by have := HIE.out; omega)).congr (fun i h1 h2 => HLW.out i h1); obtain ⟨l3, hp3, hs3, hown3, hll⟩ : ∃ l3, Prm mid b l2 l3 ∧ SR cmpG l3 mid b ∧ wr.ownsRow base 23 3 (.slice (some ⟨g, 0, none⟩) n c) n (vgs l3) ∧ l2 = l3 := ⟨l2, Prm.refl _ _ _, hs3, hown2, rfl⟩; have hg3 := hg2; clear hll; have hres := join PX.out HP2.out HS22.out hp3 hs3; have hpr := (HP1.out.trans (HP2.out.wide (Nat.le_refl _) (by omega))).trans (hp3.wide (by omega) (Nat.le_refl _)); clear hp3 hs3; go_wp2; refine ⟨rfl, .tuple #[], by simp [results, Tryd.results66, go_sem], rfl, ⟨_, hpr, hres, hown3⟩, hg3⟩
        ·
          have hbr' : ¬ (mid : Int) < (m : Int) := by omega
          go_wp2
          go_loopw [20, 21] (fun ii jj wr => ∃ (i j : Nat), a ≤ i ∧ i ≤ j ∧ j ≤ m ∧ ii = .int .i64 (i : Int) ∧ jj = .int .i64 (j : Int) ∧ Hid (i = a ∨ 0 ≤ cmpG l[N - i]! l[i - 1]!) ∧ Hid (j = m ∨ cmpG l[P - j]! l[j]! < 0) ∧ wr.ownsRow base 23 3 (.slice (some ⟨g, 0, none⟩) n c) n (vgs l) ∧ w.grownBy wr (some g)) (fun ii jj _ => (intOf jj).toNat - (intOf ii).toNat)
          case atStart => exact ⟨a, m, Nat.le_refl _, by omega, Nat.le_refl _, rfl, rfl, Lib.hid (.inl rfl), Lib.hid (.inl rfl), h, ⟨rfl, rfl, rfl, Nat.le_refl _, fun _ _ _ => rfl⟩⟩
          case round =>
            obtain ⟨i, j, hi1, hij, hjb, rfl, rfl, HI, HJ, hown, hg⟩ := hrel; have hN := HN.out; have hP := HPP.out
            skip
            by_cases hlt : i < j
            · have hlt' : (i : Int) < (j : Int) := by omega
              obtain ⟨hh, hhh⟩ : ∃ hh, (i + j) / 2 = hh := ⟨_, rfl⟩; have hw1 : IntKind.i64.wrap ((i : Int) + (j : Int)) = ((i + j : Nat) : Int) := by
                rw [show (i : Int) + (j : Int) = ((i + j : Nat) : Int) by omega]; exact IntWalk.i64_in _ (by omega)
              obtain ⟨smhh, hsmhh⟩ : ∃ sm, i + j = sm := ⟨_, rfl⟩; rw [hsmhh] at hw1 hhh; have hw2 : IntKind.u64.wrap (smhh : Int) = (smhh : Int) := IntWalk.u64_in _ (by omega); have hhi : i ≤ hh ∧ hh < j := by omega
              obtain ⟨X, hX⟩ : ∃ X, P - hh = X := ⟨_, rfl⟩; have hwx : IntKind.i64.wrap ((P : Int) - (hh : Int)) = (X : Int) := by
                rw [show (P : Int) - (hh : Int) = (X : Int) by omega]; exact IntWalk.i64_in _ (by omega)
              have hXn : X < n := by omega
              have hhn : hh < n := by omega
              have hx1 : (hh : Int) < (n : Int) := by omega
              have hx0 : (0 : Int) ≤ (hh : Int) := by omega
              have hy1 : (X : Int) < (n : Int) := by omega
              have hy0 : (0 : Int) ≤ (X : Int) := by omega
              have hw3 : (smhh : Int) / 2 = (hh : Int) := by omega
              have HXE : Hid (N - (hh + 1) = X ∧ P - hh = X) := Lib.hid ⟨by omega, hX⟩; have hxa : a ≤ hh ∧ hh < m ∧ m ≤ X ∧ X < b := by omega
              clear hhh hsmhh hX hN hP ; obtain ⟨⟨c0, c1, c2⟩, -, hgl⟩ := own_vg hown X (by omega); obtain ⟨⟨d0, d1, d2⟩, -, -⟩ := own_vg hown hh (by omega); have hA : VgOk l[X]! := at_ok HOK.out _ (by omega); have hB : VgOk l[hh]! := at_ok HOK.out _ (by omega); have hcm := vcmp_any l[X]! l[hh]! hA hB (HX.out hh X (by omega) (by omega) (by omega) (by omega)); obtain ⟨CM, hCM⟩ : ∃ CM, cmpG l[X]! l[hh]! = CM := ⟨_, rfl⟩; rw [hCM] at hcm; have HCMV := Lib.hid hCM; clear hCM hA hB; obtain ⟨A, hAA⟩ : ∃ A, l[X]! = A := ⟨_, rfl⟩; obtain ⟨B, hBB⟩ : ∃ B, l[hh]! = B := ⟨_, rfl⟩; rw [hAA] at c0 c1 c2; rw [hBB] at d0 d1 d2; rw [hAA, hBB] at hcm; clear hAA hBB; obtain ⟨Ak, At, An, Ag⟩ := A; obtain ⟨Bk, Bt, Bn, Bg⟩ := B; dsimp only [Vg.val] at c0 c1 c2 d0 d1 d2 hcm; have HCM := Lib.hid hcm; clear hcm
              go_wp2_with fail
              refine wp_region_lit_txt [0, 1, 2, 3, 4, 5, 6, 7, 8, 9, 10, 12, 13] (fun W => (W.cell? ⟨g, X * 3, none⟩ = some (.int .i64 Ak) ∧ W.cell? ⟨g, X * 3 + 1, none⟩ = some (.string At) ∧ W.cell? ⟨g, X * 3 + 2, none⟩ = some (.int .i64 An)) ∧ (W.cell? ⟨g, hh * 3, none⟩ = some (.int .i64 Bk) ∧ W.cell? ⟨g, hh * 3 + 1, none⟩ = some (.string Bt) ∧ W.cell? ⟨g, hh * 3 + 2, none⟩ = some (.int .i64 Bn))) (by kernel_rfl) (by kernel_rfl) (by kernel_rfl) ⟨⟨c0, c1, c2⟩, d0, d1, d2⟩ ?_
              iterate 6 ((refine txt_light ?_ rfl rfl ?_ ?_; rotate_left; · (intro w' hS; (try dsimp only at hS); go_simp; with_reducible rfl)); try simp only [Act.put, List.setIfInBounds_toArray, List.set_cons_zero, List.set_cons_succ])
              refine txt_light (.agg #[.int .i64 Ak, .string At, .int .i64 An]) rfl rfl ?_ ?_
              · intro w' hS; obtain ⟨c0, c1, c2⟩ := hS.1; go_simp
              try simp only [Act.put, List.setIfInBounds_toArray, List.set_cons_zero, List.set_cons_succ]
              iterate 3 ((refine txt_light ?_ rfl rfl ?_ ?_; rotate_left; · (intro w' hS; (try dsimp only at hS); go_simp; with_reducible rfl)); try simp only [Act.put, List.setIfInBounds_toArray, List.set_cons_zero, List.set_cons_succ])
              refine txt_light (.agg #[.int .i64 Bk, .string Bt, .int .i64 Bn]) rfl rfl ?_ ?_
              · intro w' hS; obtain ⟨c0, c1, c2⟩ := hS.2; go_simp
              try simp only [Act.put, List.setIfInBounds_toArray, List.set_cons_zero, List.set_cons_succ]
              refine txt_callv [] [.agg #[.int .i64 Ak, .string At, .int .i64 An], .agg #[.int .i64 Bk, .string Bt, .int .i64 Bn]] Tryd.f30 rfl rfl rfl Tryd.func30 (by kernel_rfl) (by kernel_rfl) rfl ((HCM.out _).mono ?_); rintro e w1 ⟨⟨rr, rfl, hrr⟩, hx1⟩; have hgx : wr.grownBy w1 (some g) := ⟨hx1.os, hx1.tape, hx1.output, hx1.size, fun i hi _ => hx1.block i hi⟩; have hown1 : w1.ownsRow base 23 3 (.slice (some ⟨g, 0, none⟩) n c) n (vgs l) := World.ownsRow.below (w := wr.drew) hown hx1; have hg1 := hg.trans hgx; have kc := fun i => (hx1.cell (p := ⟨g, i, none⟩) hgl); have c0 := (kc _).trans c0; have c1 := (kc _).trans c1; have c2 := (kc _).trans c2; have d0 := (kc _).trans d0; have d1 := (kc _).trans d1; have d2 := (kc _).trans d2; refine ⟨_, rfl, ⟨⟨c0, c1, c2⟩, d0, d1, d2⟩, ?_⟩
              try simp only [Act.put, List.setIfInBounds_toArray, List.set_cons_zero, List.set_cons_succ]
              clear kc HCM hx1 hgx hown hg
              by_cases hneg : CM < 0
              ·
                have hcd : decide (rr < 0) = true := decide_eq_true (hrr.2 hneg); refine txt_light (.bool true) rfl rfl ?_ ?_
                · intro w' hS; go_simp
                try simp only [Act.put, List.setIfInBounds_toArray, List.set_cons_zero, List.set_cons_succ]
                refine txt_light (.bool false) rfl rfl ?_ ?_
                · intro w' hS; go_simp
                try simp only [Act.put, List.setIfInBounds_toArray, List.set_cons_zero, List.set_cons_succ]
                refine txt_nil ?_; clear hcd c0 c1 c2 d0 d1 d2; have HJ2 : Hid (hh = m ∨ cmpG l[P - hh]! l[hh]! < 0) := Lib.hid (.inr (by rw [HXE.out.2, HCMV.out]; exact hneg)); clear hneg HCMV HXE; go_wp2; refine ⟨⟨i, hh, by omega, by omega, by omega, rfl, rfl, HI, HJ2, hown1, hg1⟩, by simp [intOf]; omega⟩
              ·
                have hcd : decide (rr < 0) = false := decide_eq_false (fun h => hneg (hrr.1 h)); refine txt_light (.bool false) rfl rfl ?_ ?_
                · intro w' hS; go_simp
                try simp only [Act.put, List.setIfInBounds_toArray, List.set_cons_zero, List.set_cons_succ]
                refine txt_light (.bool true) rfl rfl ?_ ?_
                · intro w' hS; go_simp
                try simp only [Act.put, List.setIfInBounds_toArray, List.set_cons_zero, List.set_cons_succ]
                refine txt_nil ?_; clear hcd c0 c1 c2 d0 d1 d2; have HI2 : Hid (hh + 1 = a ∨ 0 ≤ cmpG l[N - (hh + 1)]! l[hh + 1 - 1]!) := Lib.hid (.inr (by rw [Nat.add_sub_cancel, HXE.out.1, HCMV.out]; omega)); clear hneg HCMV HXE; go_wp2; refine ⟨⟨hh + 1, j, by omega, by omega, hjb, by first | rfl | go_num, rfl, HI2, HJ, hown1, hg1⟩, by simp [intOf]; omega⟩
            · obtain rfl : i = j := by omega
              obtain ⟨E, hE⟩ : ∃ E, N - i = E := ⟨_, rfl⟩; have hwE : IntKind.i64.wrap ((N : Int) - (i : Int)) = (E : Int) := by
                rw [show (N : Int) - (i : Int) = (E : Int) by omega]; exact IntWalk.i64_in _ (by omega)
              have hbounds : a ≤ i ∧ i ≤ m ∧ m ≤ E ∧ E ≤ b ∧ i + (E - m) = mid := by omega
              have HA : Hid (i = a ∨ E = b ∨ cmpG l[i - 1]! l[E]! ≤ 0) := Lib.hid (by
                rcases HI.out with h | h
                · first | exact .inl h | exact .inr (.inl (by omega))
                · by_cases h1 : i = a
                  · exact .inl h1
                  · by_cases h2 : E = b
                    · exact .inr (.inl h2)
                    · rw [hE] at h; exact .inr (.inr (H.tot _ _ (at_ok HOK.out _ (by have := HB.out; omega)) (at_ok HOK.out _ (by have := HB.out; omega)) (by omega))))
              have HBB : Hid (i = m ∨ E = m ∨ cmpG l[E - 1]! l[i]! ≤ 0) := Lib.hid (by
                rcases HJ.out with h | h
                · first | exact .inl h | exact .inr (.inl (by omega))
                · rw [show P - i = E - 1 by omega] at h; exact .inr (.inr (by omega)))
              have hEN : (m < E ↔ i < mid) ∧ (mid < E ↔ i < m) := by omega
              clear hE hN hP HI HJ ; obtain ⟨hai, him, hmE, hEb, hie⟩ := hbounds; have HIE := Lib.hid hie; clear hie
              by_cases hT : i < m
              ·
                have hT' : (i : Int) < (m : Int) := by omega
                have hM : i < mid := by omega
                have hM' : (i : Int) < (mid : Int) := by omega
                by_cases hA : a < i
                ·
                  have hA' : (a : Int) < (i : Int) := by omega
                  by_cases hB : E < b
                  ·
                    have hB' : (E : Int) < (b : Int) := by omega
                    have hme : (m : Int) < (E : Int) := by omega
                    have hmde : (mid : Int) < (E : Int) := by omega
                    have hro := vg_rot_any base g c n l hn hc hn2 i m E hT (by omega) (by omega); have HRO := Lib.hid hro; clear hro
                    go_wp2_with fail
                    refine (HRO.out _ hown).mono ?_; rintro e w1 ⟨rfl, ⟨l1, hrot, hp10, hown1⟩, hg1⟩; have hg1 := hg.trans hg1; have hp1 := hp10.wide hai hEb; clear hp10 HRO; obtain ⟨p1, p2, p3, p4, px, p5, p6⟩ := rot_parts H HOK.out hai him hmE hEb HB.out HS1.out HS2.out hrot HA.out HBB.out; rw [HIE.out] at p2 p3 px p5 p6; have hix := rot_idx HX.out hai him hmE hEb hrot; rw [HIE.out] at hix; have HIX := Lib.hid hix; clear hix; have hok1 := hp1.all HOK.out; have hL1 : l1.length = n := by rw [hp1.len]; exact hn
                    have P3 := Lib.hid p3; have P4 := Lib.hid p4; have PX := Lib.hid px; have P6 := Lib.hid p6; have HP1 := Lib.hid hp1; clear p3 p4 px p6 hp1 hrot; have hih := IH.out a i mid l1 (by omega) hL1 hA hM (by omega) hok1 p1 p2 HIX.out.1; have HIH := Lib.hid hih; clear hih p1 p2 p5
                    go_wp2_with fail
                    refine (HIH.out _ hown1).mono ?_; rintro e w2 ⟨rfl, ⟨l2, hp2, hs2, hown2⟩, hg2⟩; have hg2 := hg1.trans hg2; clear HIH; have hok2 := hp2.all hok1; have hL2 : l2.length = n := by rw [hp2.len]; exact hL1
                    have hlow := fun i (h1 : mid ≤ i) => hp2.out i (.inr h1); have HP2 := Lib.hid hp2; have HS22 := Lib.hid hs2; have HLW := Lib.hid hlow; clear hp2 hs2 hlow; have hih := IH.out mid E b l2 (by omega) hL2 (by omega) (by omega) hbn hok2 (P3.out.congr (fun i h1 h2 => HLW.out i h1)) (P4.out.congr (fun i h1 h2 => HLW.out i (by omega))) (fun p q h1 h2 h3 h4 => by rw [HLW.out p (by omega), HLW.out q (by omega)]; exact HIX.out.2 p q h1 h2 h3 h4); have HIH := Lib.hid hih; clear hih
                    go_wp2_with fail
                    refine (HIH.out _ hown2).mono ?_; rintro e w3 ⟨rfl, ⟨l3, hp3, hs3, hown3⟩, hg3⟩; have hg3 := hg2.trans hg3; clear HIH; have hres := join PX.out HP2.out HS22.out hp3 hs3; have hpr := (HP1.out.trans (HP2.out.wide (Nat.le_refl _) (by omega))).trans (hp3.wide (by omega) (Nat.le_refl _)); clear hp3 hs3; go_wp2; refine ⟨rfl, .tuple #[], by simp [results, Tryd.results66, go_sem], rfl, ⟨_, hpr, hres, hown3⟩, hg3⟩
                  ·
                    have hB' : ¬ (E : Int) < (b : Int) := by omega
                    have hme : (m : Int) < (E : Int) := by omega
                    have hmde : (mid : Int) < (E : Int) := by omega
                    have hro := vg_rot_any base g c n l hn hc hn2 i m E hT (by omega) (by omega); have HRO := Lib.hid hro; clear hro
                    go_wp2_with fail
                    refine (HRO.out _ hown).mono ?_; rintro e w1 ⟨rfl, ⟨l1, hrot, hp10, hown1⟩, hg1⟩; have hg1 := hg.trans hg1; have hp1 := hp10.wide hai hEb; clear hp10 HRO; obtain ⟨p1, p2, p3, p4, px, p5, p6⟩ := rot_parts H HOK.out hai him hmE hEb HB.out HS1.out HS2.out hrot HA.out HBB.out; rw [HIE.out] at p2 p3 px p5 p6; have hix := rot_idx HX.out hai him hmE hEb hrot; rw [HIE.out] at hix; have HIX := Lib.hid hix; clear hix; have hok1 := hp1.all HOK.out; have hL1 : l1.length = n := by rw [hp1.len]; exact hn
                    have P3 := Lib.hid p3; have P4 := Lib.hid p4; have PX := Lib.hid px; have P6 := Lib.hid p6; have HP1 := Lib.hid hp1; clear p3 p4 px p6 hp1 hrot; have hih := IH.out a i mid l1 (by omega) hL1 hA hM (by omega) hok1 p1 p2 HIX.out.1; have HIH := Lib.hid hih; clear hih p1 p2 p5
                    go_wp2_with fail
                    refine (HIH.out _ hown1).mono ?_; rintro e w2 ⟨rfl, ⟨l2, hp2, hs2, hown2⟩, hg2⟩; have hg2 := hg1.trans hg2; clear HIH; have hok2 := hp2.all hok1; have hL2 : l2.length = n := by rw [hp2.len]; exact hL1
                    have hlow := fun i (h1 : mid ≤ i) => hp2.out i (.inr h1); have HP2 := Lib.hid hp2; have HS22 := Lib.hid hs2; have HLW := Lib.hid hlow; clear hp2 hs2 hlow; have hs3 : SR cmpG l2 mid b := (P6.out (by have := HIE.out; omega)).congr (fun i h1 h2 => HLW.out i h1); obtain ⟨l3, hp3, hs3, hown3, hll⟩ : ∃ l3, Prm mid b l2 l3 ∧ SR cmpG l3 mid b ∧ w2.ownsRow base 23 3 (.slice (some ⟨g, 0, none⟩) n c) n (vgs l3) ∧ l2 = l3 := ⟨l2, Prm.refl _ _ _, hs3, hown2, rfl⟩; have hg3 := hg2; clear hll; have hres := join PX.out HP2.out HS22.out hp3 hs3; have hpr := (HP1.out.trans (HP2.out.wide (Nat.le_refl _) (by omega))).trans (hp3.wide (by omega) (Nat.le_refl _)); clear hp3 hs3; go_wp2; refine ⟨rfl, .tuple #[], by simp [results, Tryd.results66, go_sem], rfl, ⟨_, hpr, hres, hown3⟩, hg3⟩
                ·
                  have hA' : ¬ (a : Int) < (i : Int) := by omega
                  by_cases hB : E < b
                  ·
                    have hB' : (E : Int) < (b : Int) := by omega
                    have hme : (m : Int) < (E : Int) := by omega
                    have hmde : (mid : Int) < (E : Int) := by omega
                    have hro := vg_rot_any base g c n l hn hc hn2 i m E hT (by omega) (by omega); have HRO := Lib.hid hro; clear hro
                    go_wp2_with fail
                    refine (HRO.out _ hown).mono ?_; rintro e w1 ⟨rfl, ⟨l1, hrot, hp10, hown1⟩, hg1⟩; have hg1 := hg.trans hg1; have hp1 := hp10.wide hai hEb; clear hp10 HRO; obtain ⟨p1, p2, p3, p4, px, p5, p6⟩ := rot_parts H HOK.out hai him hmE hEb HB.out HS1.out HS2.out hrot HA.out HBB.out; rw [HIE.out] at p2 p3 px p5 p6; have hix := rot_idx HX.out hai him hmE hEb hrot; rw [HIE.out] at hix; have HIX := Lib.hid hix; clear hix; have hok1 := hp1.all HOK.out; have hL1 : l1.length = n := by rw [hp1.len]; exact hn
                    have P3 := Lib.hid p3; have P4 := Lib.hid p4; have PX := Lib.hid px; have P6 := Lib.hid p6; have HP1 := Lib.hid hp1; clear p3 p4 px p6 hp1 hrot; have hs2 := p5 (by have := HIE.out; omega); obtain ⟨l2, hp2, hs2, hown2, hll⟩ : ∃ l2, Prm a mid l1 l2 ∧ SR cmpG l2 a mid ∧ w1.ownsRow base 23 3 (.slice (some ⟨g, 0, none⟩) n c) n (vgs l2) ∧ l1 = l2 := ⟨l1, Prm.refl _ _ _, hs2, hown1, rfl⟩; have hg2 := hg1; clear p1 p2 p5 hll; have hok2 := hp2.all hok1; have hL2 : l2.length = n := by rw [hp2.len]; exact hL1
                    have hlow := fun i (h1 : mid ≤ i) => hp2.out i (.inr h1); have HP2 := Lib.hid hp2; have HS22 := Lib.hid hs2; have HLW := Lib.hid hlow; clear hp2 hs2 hlow; have hih := IH.out mid E b l2 (by omega) hL2 (by omega) (by omega) hbn hok2 (P3.out.congr (fun i h1 h2 => HLW.out i h1)) (P4.out.congr (fun i h1 h2 => HLW.out i (by omega))) (fun p q h1 h2 h3 h4 => by rw [HLW.out p (by omega), HLW.out q (by omega)]; exact HIX.out.2 p q h1 h2 h3 h4); have HIH := Lib.hid hih; clear hih
                    go_wp2_with fail
                    refine (HIH.out _ hown2).mono ?_; rintro e w3 ⟨rfl, ⟨l3, hp3, hs3, hown3⟩, hg3⟩; have hg3 := hg2.trans hg3; clear HIH; have hres := join PX.out HP2.out HS22.out hp3 hs3; have hpr := (HP1.out.trans (HP2.out.wide (Nat.le_refl _) (by omega))).trans (hp3.wide (by omega) (Nat.le_refl _)); clear hp3 hs3; go_wp2; refine ⟨rfl, .tuple #[], by simp [results, Tryd.results66, go_sem], rfl, ⟨_, hpr, hres, hown3⟩, hg3⟩
                  ·
                    have hB' : ¬ (E : Int) < (b : Int) := by omega
                    have hme : (m : Int) < (E : Int) := by omega
                    have hmde : (mid : Int) < (E : Int) := by omega
                    have hro := vg_rot_any base g c n l hn hc hn2 i m E hT (by omega) (by omega); have HRO := Lib.hid hro; clear hro
                    go_wp2_with fail
                    refine (HRO.out _ hown).mono ?_; rintro e w1 ⟨rfl, ⟨l1, hrot, hp10, hown1⟩, hg1⟩; have hg1 := hg.trans hg1; have hp1 := hp10.wide hai hEb; clear hp10 HRO; obtain ⟨p1, p2, p3, p4, px, p5, p6⟩ := rot_parts H HOK.out hai him hmE hEb HB.out HS1.out HS2.out hrot HA.out HBB.out; rw [HIE.out] at p2 p3 px p5 p6; have hix := rot_idx HX.out hai him hmE hEb hrot; rw [HIE.out] at hix; have HIX := Lib.hid hix; clear hix; have hok1 := hp1.all HOK.out; have hL1 : l1.length = n := by rw [hp1.len]; exact hn
                    have P3 := Lib.hid p3; have P4 := Lib.hid p4; have PX := Lib.hid px; have P6 := Lib.hid p6; have HP1 := Lib.hid hp1; clear p3 p4 px p6 hp1 hrot; have hs2 := p5 (by have := HIE.out; omega); obtain ⟨l2, hp2, hs2, hown2, hll⟩ : ∃ l2, Prm a mid l1 l2 ∧ SR cmpG l2 a mid ∧ w1.ownsRow base 23 3 (.slice (some ⟨g, 0, none⟩) n c) n (vgs l2) ∧ l1 = l2 := ⟨l1, Prm.refl _ _ _, hs2, hown1, rfl⟩; have hg2 := hg1; clear p1 p2 p5 hll; have hok2 := hp2.all hok1; have hL2 : l2.length = n := by rw [hp2.len]; exact hL1
                    have hlow := fun i (h1 : mid ≤ i) => hp2.out i (.inr h1); have HP2 := Lib.hid hp2; have HS22 := Lib.hid hs2; have HLW := Lib.hid hlow; clear hp2 hs2 hlow; have hs3 : SR cmpG l2 mid b := (P6.out (by have := HIE.out; omega)).congr (fun i h1 h2 => HLW.out i h1); obtain ⟨l3, hp3, hs3, hown3, hll⟩ : ∃ l3, Prm mid b l2 l3 ∧ SR cmpG l3 mid b ∧ w1.ownsRow base 23 3 (.slice (some ⟨g, 0, none⟩) n c) n (vgs l3) ∧ l2 = l3 := ⟨l2, Prm.refl _ _ _, hs3, hown2, rfl⟩; have hg3 := hg2; clear hll; have hres := join PX.out HP2.out HS22.out hp3 hs3; have hpr := (HP1.out.trans (HP2.out.wide (Nat.le_refl _) (by omega))).trans (hp3.wide (by omega) (Nat.le_refl _)); clear hp3 hs3; go_wp2; refine ⟨rfl, .tuple #[], by simp [results, Tryd.results66, go_sem], rfl, ⟨_, hpr, hres, hown3⟩, hg3⟩
              ·
                have hT' : ¬ (i : Int) < (m : Int) := by omega
                by_cases hM : i < mid
                ·
                  have hM' : (i : Int) < (mid : Int) := by omega
                  by_cases hA : a < i
                  ·
                    have hA' : (a : Int) < (i : Int) := by omega
                    have hme : (m : Int) < (E : Int) := by omega
                    have hmde : ¬ (mid : Int) < (E : Int) := by omega
                    obtain ⟨w1, l1, hrot, hp1, hown1, hg1, hww⟩ : ∃ w1 l1, Rot i m E l l1 ∧ Prm a b l l1 ∧ w1.ownsRow base 23 3 (.slice (some ⟨g, 0, none⟩) n c) n (vgs l1) ∧ w.grownBy w1 (some g) ∧ wr = w1 := ⟨wr, l, (by rw [show i = m by omega]; exact Rot.right _ _ _ hmE), Prm.refl _ _ _, hown, hg, rfl⟩; subst hww; obtain ⟨p1, p2, p3, p4, px, p5, p6⟩ := rot_parts H HOK.out hai him hmE hEb HB.out HS1.out HS2.out hrot HA.out HBB.out; rw [HIE.out] at p2 p3 px p5 p6; have hix := rot_idx HX.out hai him hmE hEb hrot; rw [HIE.out] at hix; have HIX := Lib.hid hix; clear hix; have hok1 := hp1.all HOK.out; have hL1 : l1.length = n := by rw [hp1.len]; exact hn
                    have P3 := Lib.hid p3; have P4 := Lib.hid p4; have PX := Lib.hid px; have P6 := Lib.hid p6; have HP1 := Lib.hid hp1; clear p3 p4 px p6 hp1 hrot; have hih := IH.out a i mid l1 (by omega) hL1 hA hM (by omega) hok1 p1 p2 HIX.out.1; have HIH := Lib.hid hih; clear hih p1 p2 p5
                    go_wp2_with fail
                    refine (HIH.out _ hown1).mono ?_; rintro e w2 ⟨rfl, ⟨l2, hp2, hs2, hown2⟩, hg2⟩; have hg2 := hg1.trans hg2; clear HIH; have hok2 := hp2.all hok1; have hL2 : l2.length = n := by rw [hp2.len]; exact hL1
                    have hlow := fun i (h1 : mid ≤ i) => hp2.out i (.inr h1); have HP2 := Lib.hid hp2; have HS22 := Lib.hid hs2; have HLW := Lib.hid hlow; clear hp2 hs2 hlow; have hs3 : SR cmpG l2 mid b := (P6.out (by have := HIE.out; omega)).congr (fun i h1 h2 => HLW.out i h1); obtain ⟨l3, hp3, hs3, hown3, hll⟩ : ∃ l3, Prm mid b l2 l3 ∧ SR cmpG l3 mid b ∧ w2.ownsRow base 23 3 (.slice (some ⟨g, 0, none⟩) n c) n (vgs l3) ∧ l2 = l3 := ⟨l2, Prm.refl _ _ _, hs3, hown2, rfl⟩; have hg3 := hg2; clear hll; have hres := join PX.out HP2.out HS22.out hp3 hs3; have hpr := (HP1.out.trans (HP2.out.wide (Nat.le_refl _) (by omega))).trans (hp3.wide (by omega) (Nat.le_refl _)); clear hp3 hs3; go_wp2; refine ⟨rfl, .tuple #[], by simp [results, Tryd.results66, go_sem], rfl, ⟨_, hpr, hres, hown3⟩, hg3⟩
                  ·
                    have hA' : ¬ (a : Int) < (i : Int) := by omega
                    have hme : (m : Int) < (E : Int) := by omega
                    have hmde : ¬ (mid : Int) < (E : Int) := by omega
                    obtain ⟨w1, l1, hrot, hp1, hown1, hg1, hww⟩ : ∃ w1 l1, Rot i m E l l1 ∧ Prm a b l l1 ∧ w1.ownsRow base 23 3 (.slice (some ⟨g, 0, none⟩) n c) n (vgs l1) ∧ w.grownBy w1 (some g) ∧ wr = w1 := ⟨wr, l, (by rw [show i = m by omega]; exact Rot.right _ _ _ hmE), Prm.refl _ _ _, hown, hg, rfl⟩; subst hww; obtain ⟨p1, p2, p3, p4, px, p5, p6⟩ := rot_parts H HOK.out hai him hmE hEb HB.out HS1.out HS2.out hrot HA.out HBB.out; rw [HIE.out] at p2 p3 px p5 p6; have hix := rot_idx HX.out hai him hmE hEb hrot; rw [HIE.out] at hix; have HIX := Lib.hid hix; clear hix; have hok1 := hp1.all HOK.out; have hL1 : l1.length = n := by rw [hp1.len]; exact hn
                    have P3 := Lib.hid p3; have P4 := Lib.hid p4; have PX := Lib.hid px; have P6 := Lib.hid p6; have HP1 := Lib.hid hp1; clear p3 p4 px p6 hp1 hrot; have hs2 := p5 (by have := HIE.out; omega); obtain ⟨l2, hp2, hs2, hown2, hll⟩ : ∃ l2, Prm a mid l1 l2 ∧ SR cmpG l2 a mid ∧ wr.ownsRow base 23 3 (.slice (some ⟨g, 0, none⟩) n c) n (vgs l2) ∧ l1 = l2 := ⟨l1, Prm.refl _ _ _, hs2, hown1, rfl⟩; have hg2 := hg1; clear p1 p2 p5 hll; have hok2 := hp2.all hok1; have hL2 : l2.length = n := by rw [hp2.len]; exact hL1
                    have hlow := fun i (h1 : mid ≤ i) => hp2.out i (.inr h1); have HP2 := Lib.hid hp2; have HS22 := Lib.hid hs2; have HLW := Lib.hid hlow; clear hp2 hs2 hlow; have hs3 : SR cmpG l2 mid b := (P6.out (by have := HIE.out; omega)).congr (fun i h1 h2 => HLW.out i h1); obtain ⟨l3, hp3, hs3, hown3, hll⟩ : ∃ l3, Prm mid b l2 l3 ∧ SR cmpG l3 mid b ∧ wr.ownsRow base 23 3 (.slice (some ⟨g, 0, none⟩) n c) n (vgs l3) ∧ l2 = l3 := ⟨l2, Prm.refl _ _ _, hs3, hown2, rfl⟩; have hg3 := hg2; clear hll; have hres := join PX.out HP2.out HS22.out hp3 hs3; have hpr := (HP1.out.trans (HP2.out.wide (Nat.le_refl _) (by omega))).trans (hp3.wide (by omega) (Nat.le_refl _)); clear hp3 hs3; go_wp2; refine ⟨rfl, .tuple #[], by simp [results, Tryd.results66, go_sem], rfl, ⟨_, hpr, hres, hown3⟩, hg3⟩
                ·
                  have hM' : ¬ (i : Int) < (mid : Int) := by omega
                  by_cases hA : a < i
                  ·
                    have hA' : (a : Int) < (i : Int) := by omega
                    have hme : ¬ (m : Int) < (E : Int) := by omega
                    have hmde : ¬ (mid : Int) < (E : Int) := by omega
                    obtain ⟨w1, l1, hrot, hp1, hown1, hg1, hww⟩ : ∃ w1 l1, Rot i m E l l1 ∧ Prm a b l l1 ∧ w1.ownsRow base 23 3 (.slice (some ⟨g, 0, none⟩) n c) n (vgs l1) ∧ w.grownBy w1 (some g) ∧ wr = w1 := ⟨wr, l, (by rw [show i = m by omega]; exact Rot.right _ _ _ hmE), Prm.refl _ _ _, hown, hg, rfl⟩; subst hww; obtain ⟨p1, p2, p3, p4, px, p5, p6⟩ := rot_parts H HOK.out hai him hmE hEb HB.out HS1.out HS2.out hrot HA.out HBB.out; rw [HIE.out] at p2 p3 px p5 p6; have hix := rot_idx HX.out hai him hmE hEb hrot; rw [HIE.out] at hix; have HIX := Lib.hid hix; clear hix; have hok1 := hp1.all HOK.out; have hL1 : l1.length = n := by rw [hp1.len]; exact hn
                    have P3 := Lib.hid p3; have P4 := Lib.hid p4; have PX := Lib.hid px; have P6 := Lib.hid p6; have HP1 := Lib.hid hp1; clear p3 p4 px p6 hp1 hrot; have hs2 := p5 (by have := HIE.out; omega); obtain ⟨l2, hp2, hs2, hown2, hll⟩ : ∃ l2, Prm a mid l1 l2 ∧ SR cmpG l2 a mid ∧ wr.ownsRow base 23 3 (.slice (some ⟨g, 0, none⟩) n c) n (vgs l2) ∧ l1 = l2 := ⟨l1, Prm.refl _ _ _, hs2, hown1, rfl⟩; have hg2 := hg1; clear p1 p2 p5 hll; have hok2 := hp2.all hok1; have hL2 : l2.length = n := by rw [hp2.len]; exact hL1
                    have hlow := fun i (h1 : mid ≤ i) => hp2.out i (.inr h1); have HP2 := Lib.hid hp2; have HS22 := Lib.hid hs2; have HLW := Lib.hid hlow; clear hp2 hs2 hlow; have hs3 : SR cmpG l2 mid b := (P6.out (by have := HIE.out; omega)).congr (fun i h1 h2 => HLW.out i h1); obtain ⟨l3, hp3, hs3, hown3, hll⟩ : ∃ l3, Prm mid b l2 l3 ∧ SR cmpG l3 mid b ∧ wr.ownsRow base 23 3 (.slice (some ⟨g, 0, none⟩) n c) n (vgs l3) ∧ l2 = l3 := ⟨l2, Prm.refl _ _ _, hs3, hown2, rfl⟩; have hg3 := hg2; clear hll; have hres := join PX.out HP2.out HS22.out hp3 hs3; have hpr := (HP1.out.trans (HP2.out.wide (Nat.le_refl _) (by omega))).trans (hp3.wide (by omega) (Nat.le_refl _)); clear hp3 hs3; go_wp2; refine ⟨rfl, .tuple #[], by simp [results, Tryd.results66, go_sem], rfl, ⟨_, hpr, hres, hown3⟩, hg3⟩
                  ·
                    have hA' : ¬ (a : Int) < (i : Int) := by omega
                    have hme : ¬ (m : Int) < (E : Int) := by omega
                    have hmde : ¬ (mid : Int) < (E : Int) := by omega
                    obtain ⟨w1, l1, hrot, hp1, hown1, hg1, hww⟩ : ∃ w1 l1, Rot i m E l l1 ∧ Prm a b l l1 ∧ w1.ownsRow base 23 3 (.slice (some ⟨g, 0, none⟩) n c) n (vgs l1) ∧ w.grownBy w1 (some g) ∧ wr = w1 := ⟨wr, l, (by rw [show i = m by omega]; exact Rot.right _ _ _ hmE), Prm.refl _ _ _, hown, hg, rfl⟩; subst hww; obtain ⟨p1, p2, p3, p4, px, p5, p6⟩ := rot_parts H HOK.out hai him hmE hEb HB.out HS1.out HS2.out hrot HA.out HBB.out; rw [HIE.out] at p2 p3 px p5 p6; have hix := rot_idx HX.out hai him hmE hEb hrot; rw [HIE.out] at hix; have HIX := Lib.hid hix; clear hix; have hok1 := hp1.all HOK.out; have hL1 : l1.length = n := by rw [hp1.len]; exact hn
                    have P3 := Lib.hid p3; have P4 := Lib.hid p4; have PX := Lib.hid px; have P6 := Lib.hid p6; have HP1 := Lib.hid hp1; clear p3 p4 px p6 hp1 hrot; have hs2 := p5 (by have := HIE.out; omega); obtain ⟨l2, hp2, hs2, hown2, hll⟩ : ∃ l2, Prm a mid l1 l2 ∧ SR cmpG l2 a mid ∧ wr.ownsRow base 23 3 (.slice (some ⟨g, 0, none⟩) n c) n (vgs l2) ∧ l1 = l2 := ⟨l1, Prm.refl _ _ _, hs2, hown1, rfl⟩; have hg2 := hg1; clear p1 p2 p5 hll; have hok2 := hp2.all hok1; have hL2 : l2.length = n := by rw [hp2.len]; exact hL1
                    have hlow := fun i (h1 : mid ≤ i) => hp2.out i (.inr h1); have HP2 := Lib.hid hp2; have HS22 := Lib.hid hs2; have HLW := Lib.hid hlow; clear hp2 hs2 hlow; have hs3 : SR cmpG l2 mid b := (P6.out (by have := HIE.out; omega)).congr (fun i h1 h2 => HLW.out i h1); obtain ⟨l3, hp3, hs3, hown3, hll⟩ : ∃ l3, Prm mid b l2 l3 ∧ SR cmpG l3 mid b ∧ wr.ownsRow base 23 3 (.slice (some ⟨g, 0, none⟩) n c) n (vgs l3) ∧ l2 = l3 := ⟨l2, Prm.refl _ _ _, hs3, hown2, rfl⟩; have hg3 := hg2; clear hll; have hres := join PX.out HP2.out HS22.out hp3 hs3; have hpr := (HP1.out.trans (HP2.out.wide (Nat.le_refl _) (by omega))).trans (hp3.wide (by omega) (Nat.le_refl _)); clear hp3 hs3; go_wp2; refine ⟨rfl, .tuple #[], by simp [results, Tryd.results66, go_sem], rfl, ⟨_, hpr, hres, hown3⟩, hg3⟩
end Go.Proofs.YtinogphhbbaobaaDoor
