/-
  slices.insertionSortCmpFunc over values, stable. slices.swapRangeCmpFunc over values. slices.rotateCmpFunc over values.
-/
import Derived.Test.YtinogphhbbaobaaDoorPk10
/- slices.insertionSortCmpFunc over values, stable. -/
set_option linter.unusedVariables false
set_option linter.unusedSimpArgs false
set_option maxRecDepth 100000
namespace Go.Proofs.YtinogphhbbaobaaDoor
open Go.RowKit Go.Srt

set_option maxHeartbeats 1600000 in
theorem vinssort_any (H : Ord cmpG VgOk) (a b : Nat) (base g c n : Nat) (l : List Vg) (hn : l.length = n) (hc : n ≤ c) (hab : a ≤ b) (hb : b ≤ n) (hn2 : n ≤ 1000000) (hok : ∀ x ∈ l, VgOk x) (hx : ∀ i j, a ≤ i → i < j → j < b → l[i]!.g < l[j]!.g) (w : World) (h : w.ownsRow base 23 3 (.slice (some ⟨g, 0, none⟩) n c) n (vgs (l))) :
    Calls Tryd.prog 65 #[.slice (some ⟨g, 0, none⟩) n c, .int .i64 a, .int .i64 b, .func (.func 30) #[] #[]] w fun e w' => e = .returned (.tuple #[]) ∧
      w'.ownsRow base 23 3 (.slice (some ⟨g, 0, none⟩) n c) n (vgs (insC cmpG a l (b - (a + 1)))) ∧ w.grownBy w' (some g) := by
  have HXI : Hid (∀ k, a + 1 + k < b → ∀ p, a ≤ p → p < a + 1 + k → (insC cmpG a l k)[p]!.g < (insC cmpG a l k)[a + 1 + k]!.g) := Lib.hid (fun k hk p h1 h2 => by
    obtain ⟨hp, -⟩ := ins_ok H a l hok k (.inl (by omega)); rw [hp.out (a + 1 + k) (.inr (Nat.le_refl _))]; obtain ⟨q, q1, q2, e⟩ := hp.inn p h1 h2; rw [e]; exact hx q (a + 1 + k) q1 q2 hk)
  go_enter Tryd.func65, Tryd.ntmps65
  have HOK := Lib.hid hok; have HN := Lib.hid hn; clear hok hn hx; go_wp2
  go_loopw [8] (fun i wr => ∃ k : Nat, (a + 1 + k ≤ b ∨ k = 0) ∧ i = .int .i64 ((a : Int) + 1 + (k : Int)) ∧ wr.ownsRow base 23 3 (.slice (some ⟨g, 0, none⟩) n c) n (vgs (insC cmpG a l k)) ∧ w.grownBy wr (some g)) (fun i _ => b + 1 - (intOf i).toNat)
  case atStart => exact ⟨0, .inr rfl, val_int (by omega), h, ⟨rfl, rfl, rfl, Nat.le_refl _, fun _ _ _ => rfl⟩⟩
  case round =>
    obtain ⟨k, hk, rfl, hown, hg⟩ := hrel
    by_cases hlt : a + 1 + k < b
    · have hlt' : (a : Int) + 1 + (k : Int) < (b : Int) := by omega
      have hL := insC_len cmpG a l k; have hM : ∀ x ∈ insC cmpG a l k, VgOk x := fun x hx => HOK.out x (insC_mem cmpG k (by rw [HN.out]; omega) hx); have HT : Hid (insC cmpG a l (k + 1) = sinkC cmpG a (a + 1 + k) (insC cmpG a l k)) := Lib.hid rfl; have HX0 := Lib.hid (HXI.out k hlt); generalize insC cmpG a l k = m0 at *; rw [HN.out] at hL; obtain ⟨T, hT⟩ : ∃ T, sinkC cmpG a (a + 1 + k) m0 = T := ⟨_, rfl⟩; have HT2 := Lib.hid hT; have HM0 := Lib.hid hM; clear hM hT; go_wp2
      go_loopw [9] (fun jj wj => ∃ (j : Nat) (m : List Vg), a ≤ j ∧ j ≤ a + 1 + k ∧ jj = .int .i64 (j : Int) ∧ m.length = n ∧ Hid (∀ x ∈ m, VgOk x) ∧ Hid (sinkC cmpG a j m = T) ∧ Hid (∀ p, a ≤ p → p < j → m[p]!.g < m[j]!.g) ∧ wj.ownsRow base 23 3 (.slice (some ⟨g, 0, none⟩) n c) n (vgs (m)) ∧ w.grownBy wj (some g)) (fun jj _ => (intOf jj).toNat)
      case atStart => exact ⟨a + 1 + k, m0, by omega, Nat.le_refl _, val_int (by omega), hL, HM0, HT2, HX0, hown, hg⟩
      case round =>
        clear hown hg hL; obtain ⟨j, m, hja, hjk, rfl, hL, hM, hS0, HXJ, hown, hg⟩ := hrel
        by_cases hj : a < j
        · obtain ⟨q, hq⟩ : ∃ q, j = q + 1 := ⟨j - 1, by omega⟩; subst hq; have ho := hown; obtain ⟨⟨c0, c1, c2⟩, -, hgl⟩ := own_vg hown (q + 1) (by omega); obtain ⟨⟨d0, d1, d2⟩, -, -⟩ := own_vg hown q (by omega); have hcm := vcmp_any m[q + 1]! m[q]! trivial trivial (HXJ.out q (by omega) (by omega)); have hs1 : Hid (cmpG m[q + 1]! m[q]! < 0 → sinkC cmpG a q (swpL m (q + 1) q) = T) := Lib.hid fun h => by rw [← hS0.out, sinkC, if_pos ⟨by omega, h⟩]
          have hs2 : Hid (¬ cmpG m[q + 1]! m[q]! < 0 → m = T) := Lib.hid fun h => by rw [← hS0.out, sinkC, if_neg (fun h2 => h h2.2)]
          have HXS : Hid (∀ p, a ≤ p → p < q → (swpL m (q + 1) q)[p]!.g < (swpL m (q + 1) q)[q]!.g) := Lib.hid (fun p h1 h2 => by
            rw [swpL_get _ _ _ _ (by omega) (by omega), swpL_get _ _ _ _ (by omega) (by omega), if_neg (by omega), if_neg (by omega), if_pos rfl]; exact HXJ.out p h1 (by omega))
          have hset : Hid (swpL m (q + 1) q = (m.set (q + 1) m[q]!).set q m[q + 1]!) := Lib.hid rfl; have hBq0 : m[q]'(by omega) = m[q]! := (getElem!_pos m q (by omega)).symm; have hBq := Lib.hid hBq0; clear hBq0; generalize cmpG m[q + 1]! m[q]! = CM at *; generalize m[q + 1]! = A at *; generalize m[q]! = B at *; obtain ⟨Ak, At, An, Ag⟩ := A; obtain ⟨Bk, Bt, Bn, Bg⟩ := B; dsimp only [Vg.val] at c0 c1 c2 d0 d1 d2 hcm; have HCM := Lib.hid hcm; clear hcm hS0 HM0 HOK HN HXJ; have hqj : IntKind.i64.wrap (((q + 1 : Nat) : Int) - 1) = (q : Int) := by
            have : ((q + 1 : Nat) : Int) - 1 = (q : Int) := by omega
            rw [this]; exact IntWalk.i64_in _ (by omega)
          have haq : (a : Int) < (q : Int) + 1 := by omega
          have hq1 : (q : Int) + 1 < (n : Int) := by omega
          have hq0 : (0 : Int) ≤ (q : Int) + 1 := by omega
          have hq2 : (q : Int) < (n : Int) := by omega
          have hwq : IntKind.i64.wrap (q : Int) = (q : Int) := IntWalk.i64_in _ (by omega)
          go_wp2_with fail
          refine wp_region_lit_txt [0, 1, 2, 3, 4, 5, 6, 7, 8, 9, 10, 11, 12, 13, 15, 16] (fun W => (W.cell? ⟨g, (q + 1) * 3, none⟩ = some (.int .i64 Ak) ∧ W.cell? ⟨g, (q + 1) * 3 + 1, none⟩ = some (.string At) ∧ W.cell? ⟨g, (q + 1) * 3 + 2, none⟩ = some (.int .i64 An)) ∧ (W.cell? ⟨g, q * 3, none⟩ = some (.int .i64 Bk) ∧ W.cell? ⟨g, q * 3 + 1, none⟩ = some (.string Bt) ∧ W.cell? ⟨g, q * 3 + 2, none⟩ = some (.int .i64 Bn))) (by kernel_rfl) (by kernel_rfl) (by kernel_rfl) ⟨⟨c0, c1, c2⟩, d0, d1, d2⟩ ?_
          iterate 2 ((refine txt_light ?_ rfl rfl ?_ ?_; rotate_left; · (intro w' hS; (try dsimp only at hS); go_simp; with_reducible rfl)); try simp only [Act.put, List.setIfInBounds_toArray, List.set_cons_zero, List.set_cons_succ])
          refine txt_light (.bool true) rfl rfl ?_ ?_
          · intro w' hS; go_simp
          try simp only [Act.put, List.setIfInBounds_toArray, List.set_cons_zero, List.set_cons_succ]
          refine txt_light (.bool true) rfl rfl ?_ ?_
          · intro w' hS; go_simp
          try simp only [Act.put, List.setIfInBounds_toArray, List.set_cons_zero, List.set_cons_succ]
          iterate 4 ((refine txt_light ?_ rfl rfl ?_ ?_; rotate_left; · (intro w' hS; (try dsimp only at hS); go_simp; with_reducible rfl)); try simp only [Act.put, List.setIfInBounds_toArray, List.set_cons_zero, List.set_cons_succ])
          refine txt_light (.agg #[.int .i64 Ak, .string At, .int .i64 An]) rfl rfl ?_ ?_
          · intro w' hS; obtain ⟨c0, c1, c2⟩ := hS.1; go_simp
          try simp only [Act.put, List.setIfInBounds_toArray, List.set_cons_zero, List.set_cons_succ]
          iterate 4 ((refine txt_light ?_ rfl rfl ?_ ?_; rotate_left; · (intro w' hS; (try dsimp only at hS); go_simp; with_reducible rfl)); try simp only [Act.put, List.setIfInBounds_toArray, List.set_cons_zero, List.set_cons_succ])
          refine txt_light (.agg #[.int .i64 Bk, .string Bt, .int .i64 Bn]) rfl rfl ?_ ?_
          · intro w' hS; obtain ⟨c0, c1, c2⟩ := hS.2; go_simp
          try simp only [Act.put, List.setIfInBounds_toArray, List.set_cons_zero, List.set_cons_succ]
          refine txt_callv [] [.agg #[.int .i64 Ak, .string At, .int .i64 An], .agg #[.int .i64 Bk, .string Bt, .int .i64 Bn]] Tryd.f30 rfl rfl rfl Tryd.func30 (by kernel_rfl) (by kernel_rfl) rfl ((HCM.out _).mono ?_); rintro e w1 ⟨⟨rr, rfl, hrr⟩, hx1⟩; have hgx : wr.grownBy w1 (some g) := ⟨hx1.os, hx1.tape, hx1.output, hx1.size, fun i hi _ => hx1.block i hi⟩; have hown1 : w1.ownsRow base 23 3 (.slice (some ⟨g, 0, none⟩) n c) n (vgs (m)) := World.ownsRow.below (w := wr.drew) hown hx1; have hg1 := hg.trans hgx; have kc := fun i => (hx1.cell (p := ⟨g, i, none⟩) hgl); have c0 := (kc _).trans c0; have c1 := (kc _).trans c1; have c2 := (kc _).trans c2; have d0 := (kc _).trans d0; have d1 := (kc _).trans d1; have d2 := (kc _).trans d2; refine ⟨_, rfl, ⟨⟨c0, c1, c2⟩, d0, d1, d2⟩, ?_⟩
          try simp only [Act.put, List.setIfInBounds_toArray, List.set_cons_zero, List.set_cons_succ]
          clear kc HCM hx1 hgx
          by_cases hneg : CM < 0
          · have hcd : decide (rr < 0) = true := decide_eq_true (hrr.2 hneg); refine txt_light (.bool true) rfl rfl ?_ ?_
            · intro w' hS; go_simp
            try simp only [Act.put, List.setIfInBounds_toArray, List.set_cons_zero, List.set_cons_succ]
            refine txt_light (.bool true) rfl rfl ?_ ?_
            · intro w' hS; go_simp
            try simp only [Act.put, List.setIfInBounds_toArray, List.set_cons_zero, List.set_cons_succ]
            refine txt_nil ?_; have hS1 := Lib.hid (hs1.out hneg); clear hs1 hs2 hcd hneg hrr; have q0 := (own_vg hown1 (q + 1) (by omega)).2; have q1 := (own_vg hown1 q (by omega)).2; have hgl1 := q0.2; have q0 := q0.1; have q1 := q1.1
            go_wp2_with fail
            refine wp_region_lit_txtZ (some 17) [0, 1, 2, 3, 4, 5, 6, 7, 8, 9, 10, 11, 12, 14, 16] (fun W => (W.cell? ⟨g, q * 3, none⟩ = some (.int .i64 Bk) ∧ W.cell? ⟨g, q * 3 + 1, none⟩ = some (.string Bt) ∧ W.cell? ⟨g, q * 3 + 2, none⟩ = some (.int .i64 Bn))) (by kernel_rfl) (by kernel_rfl) (by kernel_rfl) (by kernel_rfl) ⟨d0, d1, d2⟩ ?_
            iterate 9 ((refine txt_light ?_ rfl rfl ?_ ?_; rotate_left; · (intro w' hS; (try dsimp only at hS); go_simp; with_reducible rfl)); try simp only [Act.put, List.setIfInBounds_toArray, List.set_cons_zero, List.set_cons_succ])
            refine txt_light (.agg #[.int .i64 Bk, .string Bt, .int .i64 Bn]) rfl rfl ?_ ?_
            · intro w' hS; obtain ⟨c0, c1, c2⟩ := hS; go_simp
            try simp only [Act.put, List.setIfInBounds_toArray, List.set_cons_zero, List.set_cons_succ]
            iterate 3 ((refine txt_light ?_ rfl rfl ?_ ?_; rotate_left; · (intro w' hS; (try dsimp only at hS); go_simp; with_reducible rfl)); try simp only [Act.put, List.setIfInBounds_toArray, List.set_cons_zero, List.set_cons_succ])
            refine txt_heavy rfl rfl (fun K hK => ?_); go_step; refine hK.out _ _ ⟨d0, d1, d2⟩ ?_; clear hK K
            try simp only [Act.put, List.setIfInBounds_toArray, List.set_cons_zero, List.set_cons_succ]
            (refine txt_light ?_ rfl rfl ?_ ?_; rotate_left; · (intro w' hS; (try dsimp only at hS); go_simp; with_reducible rfl)); try simp only [Act.put, List.setIfInBounds_toArray, List.set_cons_zero, List.set_cons_succ]
            refine txt_heavy rfl rfl (fun K hK => ?_); obtain ⟨f0, f1, f2⟩ := q0; obtain ⟨f4, f5, f6⟩ := q1; go_step; have own2 := (ownsRow_setS (i := (q + 1) * 3 + 2) (ownsRow_setS (i := (q + 1) * 3 + 1) (ownsRow_setS (W := w1) (i := (q + 1) * 3) hown1 (.int .i64 Bk)) (.string Bt)) (.int .i64 Bn)); rw [vgs_set m (q + 1) (by omega) ⟨Bk, Bt, Bn, Bg⟩] at own2; have hl2 : (m.set (q + 1) ⟨Bk, Bt, Bn, Bg⟩).length = n := by simpa using hL
            obtain ⟨⟨r0, r1, r2⟩, ⟨f4', f5', f6'⟩, -⟩ := own_vg own2 q (by omega); have hq' : (m.set (q + 1) ⟨Bk, Bt, Bn, Bg⟩)[q]! = ⟨Bk, Bt, Bn, Bg⟩ := by rw [getElem!_pos _ q (by omega), List.getElem_set_ne (by omega)]; exact hBq.out
            rw [hq'] at r0 r1 r2; dsimp only at r0 r1 r2; have hg2 := (((hg1.trans (grown_setg w1 g ((q + 1) * 3) (.int .i64 Bk))).trans (grown_setg _ g ((q + 1) * 3 + 1) (.string Bt))).trans (grown_setg _ g ((q + 1) * 3 + 2) (.int .i64 Bn))); refine hK.out _ _ ⟨r0, r1, r2⟩ ?_; clear hK K; generalize (((w1.setCell ⟨g, (q + 1) * 3, none⟩ (.int .i64 Bk)).setCell ⟨g, (q + 1) * 3 + 1, none⟩ (.string Bt)).setCell ⟨g, (q + 1) * 3 + 2, none⟩ (.int .i64 Bn)) = w2 at *
            try simp only [Act.put, List.setIfInBounds_toArray, List.set_cons_zero, List.set_cons_succ]
            (refine txt_light ?_ rfl rfl ?_ ?_; rotate_left; · (intro w' hS; (try dsimp only at hS); go_simp; with_reducible rfl)); try simp only [Act.put, List.setIfInBounds_toArray, List.set_cons_zero, List.set_cons_succ]
            refine txt_last rfl rfl rfl (fun K hK => ?_); go_step; have own3 := (ownsRow_setS (i := q * 3 + 2) (ownsRow_setS (i := q * 3 + 1) (ownsRow_setS (i := q * 3) own2 (.int .i64 Ak)) (.string At)) (.int .i64 An)); rw [vgs_set _ q (by omega) ⟨Ak, At, An, Ag⟩, ← hset.out] at own3; have hg3 := (((hg2.trans (grown_setg w2 g (q * 3) (.int .i64 Ak))).trans (grown_setg _ g (q * 3 + 1) (.string At))).trans (grown_setg _ g (q * 3 + 2) (.int .i64 An))); refine hK.out _ _ ?_; clear hK K; refine txt_nil ?_; generalize (((w2.setCell ⟨g, q * 3, none⟩ (.int .i64 Ak)).setCell ⟨g, q * 3 + 1, none⟩ (.string At)).setCell ⟨g, q * 3 + 2, none⟩ (.int .i64 An)) = w3 at *; clear own2 hg2 r0 r1 r2 f0 f1 f2 f4 f5 f6 f4' f5' f6' c0 c1 c2 d0 d1 d2 hown1 hg1; go_wp2; go_roundw
            case rel => exact ⟨q, swpL m (q + 1) q, by omega, by omega, by first | rfl | go_num, by rw [swpL_len]; exact hL, Lib.hid (fun x hx => hM.out x (swpL_mem (by omega) (by omega) hx)), hS1, HXS, ownsRow_drew own3, grown_drew hg3⟩
            case measure => simp [intOf]
          · have hcd : decide (rr < 0) = false := decide_eq_false (fun h => hneg (hrr.1 h)); refine txt_light (.bool false) rfl rfl ?_ ?_
            · intro w' hS; go_simp
            try simp only [Act.put, List.setIfInBounds_toArray, List.set_cons_zero, List.set_cons_succ]
            refine txt_light (.bool false) rfl rfl ?_ ?_
            · intro w' hS; go_simp
            try simp only [Act.put, List.setIfInBounds_toArray, List.set_cons_zero, List.set_cons_succ]
            refine txt_nil ?_; have hmT := hs2.out (by omega); clear hs1 hs2 hcd hneg hrr c0 c1 c2 d0 d1 d2; go_wp2; refine ⟨⟨k + 1, .inl (by omega), val_int (by omega), ?_, hg1⟩, by simp [intOf]; omega⟩; rw [HT.out, HT2.out, ← hmT]; exact hown1
        · have hmT : sinkC cmpG a j m = m := by
            cases j with
            | zero => rfl
            | succ j => rw [sinkC, if_neg (by omega)]
          have haj : ¬ (a : Int) < (j : Int) := by omega
          have HS3 : Hid (T = m) := Lib.hid (by rw [← hS0.out, hmT]); clear hS0 hmT; go_wp2
          go_quiet (fail)
          go_wp2; have hgq := hg.trans (⟨rfl, rfl, rfl, Nat.le_refl _, fun _ _ _ => rfl⟩ : wr.grownBy (wr.drewN nq) (some g)); refine ⟨⟨k + 1, .inl (by omega), val_int (by omega), ?_, hgq⟩, by simp [intOf]; omega⟩; rw [HT.out, HT2.out, HS3.out]; exact hown
    · have hk0 : insC cmpG a l k = insC cmpG a l (b - (a + 1)) := by
        rcases hk with h1 | rfl
        · rw [show b - (a + 1) = k by omega]
        · rw [show b - (a + 1) = 0 by omega]
      have hlt' : ¬ (a : Int) + 1 + (k : Int) < (b : Int) := by omega
      rw [hk0] at hown; clear hk0; go_wp2; refine ⟨rfl, .tuple #[], by simp [results, Tryd.results65, go_sem], rfl, hown, hg⟩
end Go.Proofs.YtinogphhbbaobaaDoor
/- slices.swapRangeCmpFunc over values. -/
set_option linter.unusedVariables false
set_option linter.unusedSimpArgs false
set_option maxRecDepth 100000
namespace Go.Proofs.YtinogphhbbaobaaDoor
open Go.RowKit Go.Srt

set_option maxHeartbeats 1600000 in
theorem vg_swr_any (base g c n : Nat) (l : List Vg) (hn : l.length = n) (hc : n ≤ c) (hn2 : n ≤ 1000000) (p q k : Nat) (hpq : p + k ≤ q) (hqn : q + k ≤ n) (w : World) (h : w.ownsRow base 23 3 (.slice (some ⟨g, 0, none⟩) n c) n (vgs l)) :
    Calls Tryd.prog 83 #[.slice (some ⟨g, 0, none⟩) n c, .int .i64 p, .int .i64 q, .int .i64 k, .func (.func 30) #[] #[]] w fun e w' => e = .returned (.tuple #[]) ∧ w'.ownsRow base 23 3 (.slice (some ⟨g, 0, none⟩) n c) n (vgs (swpR l p q k)) ∧ w.grownBy w' (some g) := by
  go_enter Tryd.func83, Tryd.ntmps83
  have HN := Lib.hid hn; clear hn; go_wp2
  go_loopw [10] (fun ii wr => ∃ i : Nat, i ≤ k ∧ ii = .int .i64 (i : Int) ∧ wr.ownsRow base 23 3 (.slice (some ⟨g, 0, none⟩) n c) n (vgs (swpR l p q i)) ∧ w.grownBy wr (some g)) (fun ii _ => k - (intOf ii).toNat)
  case atStart => exact ⟨0, Nat.zero_le _, rfl, h, ⟨rfl, rfl, rfl, Nat.le_refl _, fun _ _ _ => rfl⟩⟩
  case round =>
    obtain ⟨i, hik, rfl, hown, hg⟩ := hrel
    by_cases hlt : i < k
    · have hlt' : (i : Int) < (k : Int) := by omega
      have hL := swpR_len l p q i; rw [HN.out] at hL; have HT : Hid (swpR l p q (i + 1) = swpL (swpR l p q i) (p + i) (q + i)) := Lib.hid rfl; generalize swpR l p q i = m at *; obtain ⟨X, hX⟩ : ∃ X, p + i = X := ⟨_, rfl⟩; obtain ⟨Y, hY⟩ : ∃ Y, q + i = Y := ⟨_, rfl⟩; have hwx : IntKind.i64.wrap ((p : Int) + (i : Int)) = (X : Int) := by
        rw [show (p : Int) + (i : Int) = (X : Int) by omega]; exact IntWalk.i64_in _ (by omega)
      have hwy : IntKind.i64.wrap ((q : Int) + (i : Int)) = (Y : Int) := by
        rw [show (q : Int) + (i : Int) = (Y : Int) by omega]; exact IntWalk.i64_in _ (by omega)
      have hXn : X < n := by omega
      have hYn : Y < n := by omega
      have hXY : X ≠ Y := by omega
      have hx1 : (X : Int) < (n : Int) := by omega
      have hy1 : (Y : Int) < (n : Int) := by omega
      have hx0 : (0 : Int) ≤ (X : Int) := by omega
      have hy0 : (0 : Int) ≤ (Y : Int) := by omega
      rw [hX, hY] at HT; clear hX hY; obtain ⟨⟨c0, c1, c2⟩, -, hgl⟩ := own_vg hown X (by omega); obtain ⟨⟨d0, d1, d2⟩, -, -⟩ := own_vg hown Y (by omega); have q0 := (own_vg hown X (by omega)).2.1; have q1 := (own_vg hown Y (by omega)).2.1; have hset : Hid (swpL m X Y = (m.set X m[Y]!).set Y m[X]!) := Lib.hid rfl; have hYY0 : m[Y]! = m[Y]! := rfl; have HYL : Hid (X ≠ Y → (m.set X m[Y]!)[Y]! = m[Y]!) := Lib.hid (fun h => by rw [get_set _ _ _ _ (by omega), if_neg h]); clear hYY0; generalize m[X]! = A at *; generalize m[Y]! = B at *; obtain ⟨Ak, At, An, Ag⟩ := A; obtain ⟨Bk, Bt, Bn, Bg⟩ := B; dsimp only at c0 c1 c2 d0 d1 d2
      go_wp2_with fail
      refine wp_region_lit_txtZ (some 23) [0, 1, 2, 3, 4, 5, 6, 7, 8, 9, 10, 11, 12, 13, 14, 15, 16, 17, 18, 20, 22] (fun W => (W.cell? ⟨g, Y * 3, none⟩ = some (.int .i64 Bk) ∧ W.cell? ⟨g, Y * 3 + 1, none⟩ = some (.string Bt) ∧ W.cell? ⟨g, Y * 3 + 2, none⟩ = some (.int .i64 Bn))) (by kernel_rfl) (by kernel_rfl) (by kernel_rfl) (by kernel_rfl) ⟨d0, d1, d2⟩ ?_
      iterate 13 ((refine txt_light ?_ rfl rfl ?_ ?_; rotate_left; · (intro w' hS; (try dsimp only at hS); go_simp; with_reducible rfl)); try simp only [Act.put, List.setIfInBounds_toArray, List.set_cons_zero, List.set_cons_succ])
      refine txt_light (.agg #[.int .i64 Bk, .string Bt, .int .i64 Bn]) rfl rfl ?_ ?_
      · intro w' hS; obtain ⟨c0, c1, c2⟩ := hS; go_simp
      try simp only [Act.put, List.setIfInBounds_toArray, List.set_cons_zero, List.set_cons_succ]
      iterate 5 ((refine txt_light ?_ rfl rfl ?_ ?_; rotate_left; · (intro w' hS; (try dsimp only at hS); go_simp; with_reducible rfl)); try simp only [Act.put, List.setIfInBounds_toArray, List.set_cons_zero, List.set_cons_succ])
      refine txt_heavy rfl rfl (fun K hK => ?_); go_step; refine hK.out _ _ ⟨d0, d1, d2⟩ ?_; clear hK K
      try simp only [Act.put, List.setIfInBounds_toArray, List.set_cons_zero, List.set_cons_succ]
      (refine txt_light ?_ rfl rfl ?_ ?_; rotate_left; · (intro w' hS; (try dsimp only at hS); go_simp; with_reducible rfl)); try simp only [Act.put, List.setIfInBounds_toArray, List.set_cons_zero, List.set_cons_succ]
      refine txt_heavy rfl rfl (fun K hK => ?_); obtain ⟨f0, f1, f2⟩ := q0; obtain ⟨h0, h1, h2⟩ := q1; go_step; have own2 := (ownsRow_setS (W := _) (i := X * 3 + 2) (ownsRow_setS (W := _) (i := X * 3 + 1) (ownsRow_setS (W := wr) (i := X * 3) hown (.int .i64 Bk)) (.string Bt)) (.int .i64 Bn)); rw [vgs_set m X (by omega) ⟨Bk, Bt, Bn, Bg⟩] at own2; have hl2 : (m.set X ⟨Bk, Bt, Bn, Bg⟩).length = n := by simpa using hL
      obtain ⟨⟨r0, r1, r2⟩, ⟨t0, t1, t2⟩, -⟩ := own_vg own2 Y (by omega); rw [HYL.out hXY] at r0 r1 r2; dsimp only at r0 r1 r2; have hg2 := (((hg.trans (grown_setg wr g (X * 3) (.int .i64 Bk))).trans (grown_setg _ g (X * 3 + 1) (.string Bt))).trans (grown_setg _ g (X * 3 + 2) (.int .i64 Bn))); refine hK.out _ _ ⟨r0, r1, r2⟩ ?_; clear hK K; generalize (((wr.setCell ⟨g, X * 3, none⟩ (.int .i64 Bk)).setCell ⟨g, X * 3 + 1, none⟩ (.string Bt)).setCell ⟨g, X * 3 + 2, none⟩ (.int .i64 Bn)) = w2 at *
      try simp only [Act.put, List.setIfInBounds_toArray, List.set_cons_zero, List.set_cons_succ]
      (refine txt_light ?_ rfl rfl ?_ ?_; rotate_left; · (intro w' hS; (try dsimp only at hS); go_simp; with_reducible rfl)); try simp only [Act.put, List.setIfInBounds_toArray, List.set_cons_zero, List.set_cons_succ]
      refine txt_last rfl rfl rfl (fun K hK => ?_); go_step; have own3 := (ownsRow_setS (i := Y * 3 + 2) (ownsRow_setS (i := Y * 3 + 1) (ownsRow_setS (i := Y * 3) own2 (.int .i64 Ak)) (.string At)) (.int .i64 An)); rw [vgs_set _ Y (by omega) ⟨Ak, At, An, Ag⟩, ← hset.out] at own3; have hg3 := (((hg2.trans (grown_setg w2 g (Y * 3) (.int .i64 Ak))).trans (grown_setg _ g (Y * 3 + 1) (.string At))).trans (grown_setg _ g (Y * 3 + 2) (.int .i64 An))); refine hK.out _ _ ?_; clear hK K; refine txt_nil ?_; generalize (((w2.setCell ⟨g, Y * 3, none⟩ (.int .i64 Ak)).setCell ⟨g, Y * 3 + 1, none⟩ (.string At)).setCell ⟨g, Y * 3 + 2, none⟩ (.int .i64 An)) = w3 at *; clear own2 hg2 r0 r1 r2 f0 f1 f2 h0 h1 h2 t0 t1 t2 c0 c1 c2 d0 d1 d2 hown hg; go_wp2; go_roundw
      case rel =>
        refine ⟨i + 1, by omega, by first | rfl | go_num, ?_, grown_drew hg3⟩; rw [HT.out]; exact ownsRow_drew own3
      case measure => simp [intOf]; omega
    · obtain rfl : i = k := by omega
      go_wp2; refine ⟨rfl, .tuple #[], by simp [results, Tryd.results83, go_sem], rfl, hown, hg⟩
end Go.Proofs.YtinogphhbbaobaaDoor
/- slices.rotateCmpFunc over values. -/
set_option linter.unusedVariables false
set_option linter.unusedSimpArgs false
set_option maxRecDepth 100000
namespace Go.Proofs.YtinogphhbbaobaaDoor
open Go.RowKit Go.Srt

set_option maxHeartbeats 1600000 in
theorem vg_rot_any (base g c n : Nat) (l : List Vg) (hn : l.length = n) (hc : n ≤ c) (hn2 : n ≤ 1000000) (a m b : Nat) (ham : a < m) (hmb : m < b) (hbn : b ≤ n) (w : World) (h : w.ownsRow base 23 3 (.slice (some ⟨g, 0, none⟩) n c) n (vgs l)) :
    Calls Tryd.prog 75 #[.slice (some ⟨g, 0, none⟩) n c, .int .i64 a, .int .i64 m, .int .i64 b, .func (.func 30) #[] #[]] w fun e w' => e = .returned (.tuple #[]) ∧ (∃ l' : List Vg, Rot a m b l l' ∧ Prm a b l l' ∧ w'.ownsRow base 23 3 (.slice (some ⟨g, 0, none⟩) n c) n (vgs l')) ∧ w.grownBy w' (some g) := by
  have hs1 : IntKind.i64.wrap ((m : Int) - (a : Int)) = ((m - a : Nat) : Int) := by
    rw [show (m : Int) - (a : Int) = ((m - a : Nat) : Int) by omega]; exact IntWalk.i64_in _ (by omega)
  have hs2 : IntKind.i64.wrap ((b : Int) - (m : Int)) = ((b - m : Nat) : Int) := by
    rw [show (b : Int) - (m : Int) = ((b - m : Nat) : Int) by omega]; exact IntWalk.i64_in _ (by omega)
  obtain ⟨i0, hi0⟩ : ∃ i0, m - a = i0 := ⟨_, rfl⟩; obtain ⟨j0, hj0⟩ : ∃ j0, b - m = j0 := ⟨_, rfl⟩; rw [hi0] at hs1; rw [hj0] at hs2
  go_enter Tryd.func75, Tryd.ntmps75
  have HB := Lib.hid (show b ≤ l.length by omega); go_wp2
  go_loopw [10, 11] (fun ii jj wr => ∃ (i j : Nat) (l1 : List Vg), 1 ≤ i ∧ 1 ≤ j ∧ i ≤ i0 ∧ j ≤ j0 ∧ ii = .int .i64 (i : Int) ∧ jj = .int .i64 (j : Int) ∧ l1.length = n ∧ Hid (Prm a b l l1) ∧ Hid (∀ l', Rot (m - i) m (m + j) l1 l' → Rot a m b l l') ∧ wr.ownsRow base 23 3 (.slice (some ⟨g, 0, none⟩) n c) n (vgs l1) ∧ w.grownBy wr (some g)) (fun ii jj _ => (intOf ii).toNat + (intOf jj).toNat)
  case atStart => exact ⟨i0, j0, l, by omega, by omega, Nat.le_refl _, Nat.le_refl _, rfl, rfl, hn, Lib.hid (Prm.refl _ _ _), Lib.hid (fun l' h => by rw [show m - i0 = a by omega, show m + j0 = b by omega] at h; exact h), h, ⟨rfl, rfl, rfl, Nat.le_refl _, fun _ _ _ => rfl⟩⟩
  case round =>
    obtain ⟨i, j, l1, hi1, hj1, hi2, hj2, rfl, rfl, hL, HP, HR, hown, hg⟩ := hrel; clear hs1 hs2; have hwx : IntKind.i64.wrap ((m : Int) - (i : Int)) = ((m - i : Nat) : Int) := by
      rw [show (m : Int) - (i : Int) = ((m - i : Nat) : Int) by omega]; exact IntWalk.i64_in _ (by omega)
    by_cases hij : i = j
    · subst hij; have hsw := vg_swr_any base g c n l1 hL hc hn2 (m - i) m i (by omega) (by omega); have HS := Lib.hid hsw; clear hsw
      go_wp2_with fail
      refine (HS.out _ hown).mono ?_; rintro e w1 ⟨rfl, hown1, hg1⟩; have hg2 := hg.trans hg1; have hres := HR.out _ (Rot.even (l := l1) (by omega) (by omega)); have hpr := HP.out.trans (swpR_prm l1 (m - i) m i a b (by omega) (by omega) (by omega) (by rw [hL]; exact hbn)); go_wp2; refine ⟨rfl, .tuple #[], by simp [results, Tryd.results75, go_sem], rfl, ⟨_, hres, hpr, hown1⟩, hg2⟩
    · by_cases hlt : j < i
      · have hne : ¬ (i : Int) = (j : Int) := by omega
        have hlt' : (j : Int) < (i : Int) := by omega
        have hwi : IntKind.i64.wrap ((i : Int) - (j : Int)) = ((i - j : Nat) : Int) := by
          rw [show (i : Int) - (j : Int) = ((i - j : Nat) : Int) by omega]; exact IntWalk.i64_in _ (by omega)
        have hsw := vg_swr_any base g c n l1 hL hc hn2 (m - i) m j (by omega) (by omega); have HS := Lib.hid hsw; clear hsw
        go_wp2_with fail
        refine (HS.out _ hown).mono ?_; rintro e w1 ⟨rfl, hown1, hg1⟩; have hg2 := hg.trans hg1; have HP2 := Lib.hid (HP.out.trans (swpR_prm l1 (m - i) m j a b (by omega) (by omega) (by omega) (by rw [hL]; exact hbn))); have HR2 := Lib.hid (fun l' (h : Rot (m - (i - j)) m (m + j) (swpR l1 (m - i) m j) l') => HR.out l' (Rot.less (l := l1) hlt (by omega) (by omega) h)); go_wp2; refine ⟨⟨i - j, j, _, by omega, hj1, by omega, hj2, rfl, rfl, by rw [swpR_len]; exact hL, HP2, HR2, hown1, hg2⟩, by simp [intOf]; omega⟩
      · have hlt2 : i < j := by omega
        have hne : ¬ (i : Int) = (j : Int) := by omega
        have hlt' : ¬ (j : Int) < (i : Int) := by omega
        have hwi : IntKind.i64.wrap ((j : Int) - (i : Int)) = ((j - i : Nat) : Int) := by
          rw [show (j : Int) - (i : Int) = ((j - i : Nat) : Int) by omega]; exact IntWalk.i64_in _ (by omega)
        have hwm : IntKind.i64.wrap ((m : Int) + (j : Int)) = ((m + j : Nat) : Int) := by
          rw [show (m : Int) + (j : Int) = ((m + j : Nat) : Int) by omega]; exact IntWalk.i64_in _ (by omega)
        have hwn : IntKind.i64.wrap (((m + j : Nat) : Int) - (i : Int)) = ((m + j - i : Nat) : Int) := by
          rw [show ((m + j : Nat) : Int) - (i : Int) = ((m + j - i : Nat) : Int) by omega]; exact IntWalk.i64_in _ (by omega)
        have hsw := vg_swr_any base g c n l1 hL hc hn2 (m - i) (m + j - i) i (by omega) (by omega); obtain ⟨Z, hZ⟩ : ∃ Z, m + j = Z := ⟨_, rfl⟩; obtain ⟨Y, hY⟩ : ∃ Y, Z - i = Y := ⟨_, rfl⟩; rw [hZ] at hwm hwn hsw HR; rw [hY] at hwn hsw; have HZ := Lib.hid hZ; have HY := Lib.hid hY; have HS := Lib.hid hsw; clear hsw hZ hY
        go_wp2_with fail
        refine (HS.out _ hown).mono ?_; rintro e w1 ⟨rfl, hown1, hg1⟩; have hg2 := hg.trans hg1; have hZ := HZ.out; have hY := HY.out; have HP2 := Lib.hid (HP.out.trans (swpR_prm l1 (m - i) Y i a b (by omega) (by omega) (by omega) (by rw [hL]; exact hbn))); have HR2 := Lib.hid (fun l' (h : Rot (m - i) m (m + (j - i)) (swpR l1 (m - i) Y i) l') => HR.out l' (by
          subst hY hZ; exact Rot.more (l := l1) hlt2 (by omega) (by omega) h))
        clear hZ hY; go_wp2; refine ⟨⟨i, j - i, _, hi1, by omega, hi2, by omega, rfl, rfl, by rw [swpR_len]; exact hL, HP2, HR2, hown1, hg2⟩, by simp [intOf]; omega⟩
end Go.Proofs.YtinogphhbbaobaaDoor
