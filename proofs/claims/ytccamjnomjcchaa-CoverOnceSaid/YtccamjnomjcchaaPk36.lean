/-
  graticuleref12.Count, Sides. The document's Valid and the program's tell the same (plain). The document's Valid and the program's tell the same: the sums (plain).
-/
import Derived.Test.YtccamjnomjcchaaPk7
import Derived.Test.YtccamjnomjcchaaPk14
import Derived.Test.YtccamjnomjcchaaPk2
import Derived.Test.YtccamjnomjcchaaPk5
import Derived.Test.YtccamjnomjcchaaPk35
/- graticuleref12.Count, Sides. -/
set_option linter.unusedVariables false
set_option linter.unusedSimpArgs false
set_option maxRecDepth 100000
namespace Go
open Go.RowKit
theorem ringSd_len (i k : Nat) (r : List Pt) : (ringSd i k r).length = r.length := by simp [ringSd, edges]
theorem ringSd_take (i k : Nat) (r : List Pt) (n : Nat) (h : n < r.length) : (ringSd i k r).take (n + 1) = (ringSd i k r).take n ++ [⟨i, k, r[n], r[(n + 1) % r.length]'(Nat.mod_lt _ (by omega))⟩] := by
  have hm := Nat.mod_lt (n + 1) (show 0 < r.length by omega); have e : (ringSd i k r)[n]? = some ⟨i, k, r[n], r[(n + 1) % r.length]⟩ := by
    unfold ringSd edges; rw [List.getElem?_map, List.getElem?_map, List.getElem?_range h]; simp only [Option.map_some]; rw [getElem!_pos r n h, getElem!_pos r _ hm]
  rw [List.take_add_one, e]; rfl
end Go
namespace Go.Proofs.Ytccamjnomjcchaa
open Go.RowKit
theorem Try.infoRS : (Try.prog.info? 75).map (fun i => (i.zero, i.size, i.bytes)) = some (some (.agg #[.int .i64 0, .int .i64 0, .int .i64 0, .int .i64 0, .int .i64 0, .int .i64 0]), 6, 48) := by kernel_rfl

set_option maxHeartbeats 3200000 in
theorem rcount_any (a : Option Addr) (c : Nat) (L : List Fc) (hlen : L.length ≤ 1000000) (h1 : cntR (L.map Fc.rings) ≤ 1000000) (h2 : cntP (L.map Fc.rings) ≤ 1000000) (w : World) (hr : Rd w a (fcs L)) (hok : ∀ f ∈ L, f.Ok w) :
    Calls Try.prog 35 #[.slice a L.length c] w fun e w' => e = .returned (.tuple #[.int .i64 (cntR (L.map Fc.rings)), .int .i64 (cntP (L.map Fc.rings))]) ∧ w = w' := by
  have HR := Lib.hid hr; have HOK := Lib.hid hok; obtain ⟨RL, hRL⟩ : ∃ R, L.map Fc.rings = R := ⟨_, rfl⟩; have HRL := Lib.hid hRL; rw [hRL] at h1 h2 ⊢; obtain ⟨N, hN⟩ : ∃ N, L.length = N := ⟨_, rfl⟩; have HN := Lib.hid hN; have HRN : Hid (RL.length = N) := Lib.hid (by rw [← hRL, List.length_map, hN]); have HTA : Hid (RL.take N = RL) := Lib.hid (by rw [← HRN.out, List.take_length]); have HBR := Lib.hid (fun k => cntR_take RL k); have HBP := Lib.hid (fun k => cntP_take RL k); rw [hN] at hlen ⊢; clear hr hok hN hRL
  go_enter Try.func35, Try.ntmps35
  go_wp2
  go_loopw [4, 5, 6] (fun x y i wr => ∃ k : Nat, k ≤ N ∧ i = .int .i64 k ∧ x = .int .i64 (cntR (RL.take k)) ∧ y = .int .i64 (cntP (RL.take k)) ∧ wr = w) (fun _ _ i _ => N - (intOf i).toNat)
  case atStart => exact ⟨0, by omega, rfl, rfl, rfl, rfl⟩
  case round =>
    obtain ⟨k, hk, rfl, rfl, rfl, rfl⟩ := hrel
    by_cases q1 : k < N
    · have q1' : (k : Int) < (N : Int) := by omega
      have hkl : k < L.length := by rw [HN.out]; exact q1
      have hkr : k < RL.length := by rw [HRN.out]; exact q1
      obtain ⟨b1, o1, rfl, hbb, c0, -⟩ := HR.out.fc k hkl; have HF := Lib.hid (HOK.out L[k] (List.getElem_mem hkl)); have HRK : Hid (RL[k] = L[k].rs.map PC.l) := Lib.hid (by
        have h := HRL.out; subst h; simp [Fc.rings])
      have HS1 : Hid (cntR (RL.take (k + 1)) = cntR (RL.take k) + RL[k].length) := Lib.hid (cntR_snoc RL k hkr); have HS2 : Hid (cntP (RL.take (k + 1)) = cntP (RL.take k) + lenS RL[k]) := Lib.hid (cntP_snoc RL k hkr); have b1' := HBR.out (k + 1); have b2' := HBP.out (k + 1); rw [HS1.out] at b1'; rw [HS2.out] at b2'; generalize RL[k] = rk at *; have HLT := Lib.hid (fun j => lenS_take rk j); generalize L[k] = f at *; obtain ⟨rs, ra, rc, ls, aa, ac⟩ := f; dsimp only [Fc.rval] at c0 HRK; obtain ⟨M, hM⟩ : ∃ M, rs.length = M := ⟨_, rfl⟩; have HM := Lib.hid hM; have hrk : rk.length = M := by rw [HRK.out, List.length_map, hM]
      have HRKL := Lib.hid hrk; rw [hrk] at b1' HS1; rw [hM] at c0; clear hM hrk; generalize cntR (RL.take k) = CR at *; generalize cntP (RL.take k) = CP at *; have HTB : Hid (lenS (rk.take M) = lenS rk) := Lib.hid (by rw [← HRKL.out, List.take_length]); go_wp2
      go_loopw [4, 5, 7] (fun x y i W => ∃ j : Nat, j ≤ M ∧ i = .int .i64 j ∧ x = .int .i64 ((CR + j : Nat) : Int) ∧ y = .int .i64 ((CP + lenS (rk.take j) : Nat) : Int) ∧ W = wr) (fun _ _ i _ => M - (intOf i).toNat)
      case atStart => exact ⟨0, by omega, rfl, rfl, rfl, rfl⟩
      case round =>
        obtain ⟨j, hj, rfl, rfl, rfl, rfl⟩ := hrel
        by_cases q2 : j < M
        · have q2' : (j : Int) < (M : Int) := by omega
          have hjl : j < rs.length := by rw [HM.out]; exact q2
          have hjr : j < rk.length := by rw [HRKL.out]; exact q2
          obtain ⟨b2, o2, rfl, hb2, d0⟩ := HF.out.1.1.rc j hjl; have hS3 : lenS (rk.take (j + 1)) = lenS (rk.take j) + rs[j].l.length := by
            rw [lenS_snoc rk j hjr]
            congr 1
            simp [HRK.out]
          have HS3 := Lib.hid hS3; have hb3 := HLT.out (j + 1); rw [hS3] at hb3; generalize rs[j] = R at *; obtain ⟨LL, p, c3⟩ := R; dsimp only [PC.val] at d0 HS3 hb3; generalize LL.length = LN at *; generalize lenS (rk.take j) = LS at *; clear hS3; go_wp2; exact ⟨⟨j + 1, by omega, by go_num, by go_num, by rw [HS3.out]; go_num, by trivial⟩, by simp [intOf]; omega⟩
        · have hjM : j = M := by omega
          subst hjM; go_wp2; exact ⟨⟨k + 1, by omega, by go_num, by rw [HS1.out], by rw [HS2.out, HTB.out], by trivial⟩, by simp [intOf]; omega⟩
    · obtain rfl : k = N := by omega
      rw [HTA.out]; go_wp2; refine bodyPost_ret (v := .tuple #[.int .i64 (cntR RL), .int .i64 (cntP RL)]) (by simp [results, Try.results35, go_sem]) rfl ⟨rfl, rfl⟩

set_option maxHeartbeats 6400000 in
theorem rsides_any (a : Option Addr) (c : Nat) (L : List Fc) (hlen : L.length ≤ 100000) (hl1 : ∀ f ∈ L, f.rs.length ≤ 100000) (hl2 : ∀ f ∈ L, ∀ r ∈ f.rs, r.l.length ≤ 100000) (hall : (allSd (L.map Fc.rings)).length ≤ 1000000) (w : World) (hr : Rd w a (fcs L)) (hok : ∀ f ∈ L, f.Ok w) :
    Calls Try.prog 37 #[.slice a L.length c] w fun e w' => ∃ v, e = .returned v ∧ w'.ownsRow w.heap.size 75 6 v (allSd (L.map Fc.rings)).length (sds (allSd (L.map Fc.rings))) ∧ Below w.heap.size w w' := by
  have HR := Lib.hid hr; have HOK := Lib.hid hok; have HL1 := Lib.hid hl1; have HL2 := Lib.hid hl2; obtain ⟨RL, hRL⟩ : ∃ R, L.map Fc.rings = R := ⟨_, rfl⟩; have HRL := Lib.hid hRL; rw [hRL] at hall ⊢; obtain ⟨N, hN⟩ : ∃ N, L.length = N := ⟨_, rfl⟩; have HN := Lib.hid hN; have HRN : Hid (RL.length = N) := Lib.hid (by rw [← hRL, List.length_map, hN]); have HAL : Hid (someSd RL N = allSd RL) := Lib.hid (by unfold allSd; rw [HRN.out]); have HPRE := Lib.hid (fun n (h : n ≤ N) => (by have := (someSd_pre RL h).length_le; rw [HAL.out] at this; omega : (someSd RL n).length ≤ 1000000)); have HSS := Lib.hid (fun n => someSd_succ RL n); have HS0 : Hid (someSd RL 0 = []) := Lib.hid rfl; rw [hN] at hlen ⊢; clear hr hok hN hRL hl1 hl2 hall
  go_enter Try.func37, Try.ntmps37
  go_wp2
  go_loopw [3, 4] (fun o i wr => ∃ (k : Nat), k ≤ N ∧ i = .int .i64 k ∧ Hid (wr.ownsRow w.heap.size 75 6 o (someSd RL k).length (sds (someSd RL k))) ∧ Below w.heap.size w wr) (fun _ i _ => N - (intOf i).toNat)
  case atStart => exact ⟨0, by omega, rfl, Lib.hid (by rw [HS0.out]; exact World.ownsRow_nil _ _ _ _), Below.refl _ _⟩
  case round =>
    obtain ⟨i, hi, rfl, HO, hbl⟩ := hrel
    by_cases q1 : i < N
    · have q1' : (i : Int) < (N : Int) := by omega
      have hkl : i < L.length := by rw [HN.out]; exact q1
      have hkr : i < RL.length := by rw [HRN.out]; exact q1
      obtain ⟨b1, o1, rfl, hbb, c0, -⟩ := HR.out.fc i hkl; have HF := Lib.hid (HOK.out L[i] (List.getElem_mem hkl)); have HF1 := HL1.out L[i] (List.getElem_mem hkl); have HF2 := Lib.hid (HL2.out L[i] (List.getElem_mem hkl)); have HRK : Hid (RL[i]! = L[i].rs.map PC.l) := Lib.hid (by
        rw [getElem!_pos RL i hkr]; have h := HRL.out; subst h; simp [Fc.rings])
      have HSI := Lib.hid (HSS.out i); have HPI := HPRE.out (i + 1) (by omega); rw [HSI.out] at HPI; generalize RL[i]! = rk at *; generalize L[i] = f at *; obtain ⟨rs, ra, rc, ls, aa, ac⟩ := f; dsimp only [Fc.rval] at c0 HRK HF1 HF2; obtain ⟨M, hM⟩ : ∃ M, rs.length = M := ⟨_, rfl⟩; have HM := Lib.hid hM; have hrk : rk.length = M := by rw [HRK.out, List.length_map, hM]
      have HRKL := Lib.hid hrk; rw [hrk] at HSI HPI; rw [hM] at c0 HF1; clear hM hrk; have HFP := Lib.hid (fun n (h : n ≤ M) => (by have := (faceSd_pre i rk h).length_le; rw [List.length_append] at HPI; omega : (someSd RL i).length + (faceSd i rk n).length ≤ 1000000)); have HFS := Lib.hid (fun n => faceSd_succ i rk n); have HF0 : Hid (someSd RL i ++ faceSd i rk 0 = someSd RL i) := Lib.hid (by simp [faceSd]); generalize someSd RL i = SI at *; clear HPI; go_wp2
      go_loopw [3, 5] (fun o k W => ∃ (j : Nat), j ≤ M ∧ k = .int .i64 j ∧ Hid (W.ownsRow w.heap.size 75 6 o (SI ++ faceSd i rk j).length (sds (SI ++ faceSd i rk j))) ∧ Below w.heap.size w W) (fun _ k _ => M - (intOf k).toNat)
      case atStart => exact ⟨0, by omega, rfl, Lib.hid (by rw [HF0.out]; exact HO.out), hbl⟩
      case round =>
        obtain ⟨j, hj, rfl, HO2, hbl2⟩ := hrel; have c0' := (hbl2.cell (p := ⟨b1, o1 + i * 2, none⟩) hbb).trans c0
        by_cases q2 : j < M
        · have q2' : (j : Int) < (M : Int) := by omega
          have hjl : j < rs.length := by rw [HM.out]; exact q2
          have hjr : j < rk.length := by rw [HRKL.out]; exact q2
          obtain ⟨b2, o2, rfl, hb2, d0⟩ := HF.out.1.1.rc j hjl; have HRR := Lib.hid (HF.out.2.1 _ (List.getElem_mem hjl)).1; have hLL := HF2.out _ (List.getElem_mem hjl); have HRJ : Hid (rk[j]! = rs[j].l) := Lib.hid (by
            rw [getElem!_pos rk j hjr]; simp [HRK.out])
          have HFJ := Lib.hid (HFS.out j); have HPJ := HFP.out (j + 1) (by omega); rw [HFJ.out] at HPJ; rw [HRJ.out] at HFJ HPJ; generalize rs[j] = R at *; obtain ⟨LL, p, c3⟩ := R; dsimp only [PC.val] at d0 HFJ HPJ HRR hLL; rw [List.length_append, ringSd_len] at HPJ; have HRT := Lib.hid (fun n h => ringSd_take i j LL n h); have HRL0 : Hid (SI ++ faceSd i rk j ++ (ringSd i j LL).take 0 = SI ++ faceSd i rk j) := Lib.hid (by simp); have HRLN : Hid (SI ++ faceSd i rk j ++ (ringSd i j LL).take LL.length = SI ++ faceSd i rk (j + 1)) := Lib.hid (by
            rw [HFJ.out, List.take_of_length_le (by rw [ringSd_len]; omega), List.append_assoc])
          have HLEN : Hid ((SI ++ faceSd i rk j).length ≤ 1000000 - LL.length) := Lib.hid (by rw [List.length_append]; omega); have hP0 : (SI ++ faceSd i rk j).length + LL.length ≤ 1000000 := by rw [List.length_append]; omega
          generalize SI ++ faceSd i rk j = SJ at *; clear HPJ HLEN; have d1 := (hbl2.cell (p := ⟨b2, o2 + j, none⟩) hb2).trans d0; clear d0; go_wp2
          go_loopw [3, 7] (fun o n W => ∃ (m : Nat), m ≤ LL.length ∧ n = .int .i64 m ∧ Hid (W.ownsRow w.heap.size 75 6 o (SJ ++ (ringSd i j LL).take m).length (sds (SJ ++ (ringSd i j LL).take m))) ∧ Below w.heap.size w W) (fun _ n _ => LL.length - (intOf n).toNat)
          case atStart => exact ⟨0, by omega, rfl, Lib.hid (by rw [HRL0.out]; exact HO2.out), hbl2⟩
          case round =>
            obtain ⟨m, hm, rfl, HO3, hbl3⟩ := hrel
            by_cases q3 : m < LL.length
            · have q3' : (m : Int) < (LL.length : Int) := by omega
              obtain ⟨q, hq⟩ : ∃ q, (m + 1) % LL.length = q := ⟨_, rfl⟩; have hql : q < LL.length := by rw [← hq]; exact Nat.mod_lt _ (by omega)
              obtain ⟨b3, o3, rfl, hb3w, e0w, e1w⟩ := (HRR.out).pt m q3; obtain ⟨b3', o3', e, hb3', f0w, f1w⟩ := (HRR.out).pt q hql
              cases e
              have hRT := HRT.out m q3; simp only [hq] at hRT; have hrem : ((m : Int) + 1) % (LL.length : Int) = (q : Int) := by rw [← hq]; simp
              have hrem2 : (IntKind.i64.wrap ((m : Int) + 1)).tmod (LL.length : Int) = (q : Int) := by
                rw [IntWalk.i64_in _ (by omega), Int.tmod_eq_emod_of_nonneg (by omega)]; exact hrem
              generalize LL[m] = p1 at *; generalize LL[q] = p2 at *; have q0 : (0 : Int) ≤ (q : Int) ∧ (q : Int) < (LL.length : Int) := by omega
              have hnil : ¬ LL = [] := by intro h; rw [h] at q3; simp at q3
              have hln : ¬ LL.length = 0 := by omega
              obtain ⟨x1, y1⟩ := p1; obtain ⟨x2, y2⟩ := p2; dsimp only at e0w e1w f0w f1w; have HRX : Hid (SJ ++ (ringSd i j LL).take (m + 1) = (SJ ++ (ringSd i j LL).take m) ++ [⟨i, j, ⟨x1, y1⟩, ⟨x2, y2⟩⟩]) := Lib.hid (by rw [hRT, List.append_assoc]); have hPm : (SJ ++ (ringSd i j LL).take m).length ≤ 1000000 := by rw [List.length_append, List.length_take, ringSd_len]; omega
              clear hRT; generalize SJ ++ (ringSd i j LL).take m = SM at *; obtain ⟨SN, hSN⟩ : ∃ n, SM.length = n := ⟨_, rfl⟩; have HSN := Lib.hid hSN; have HO4 := Lib.hid (by have := HO3.out; rw [hSN] at this; exact this); rw [hSN] at hPm; clear hSN; have ho3 := HO4.out; clear HO3 HO4; have HSD : Hid (sds SM ++ [.int .i64 i, .int .i64 j, .int .i64 x1, .int .i64 y1, .int .i64 x2, .int .i64 y2] = sds (SM ++ [⟨i, j, ⟨x1, y1⟩, ⟨x2, y2⟩⟩])) := Lib.hid (by rw [sds_snoc]; rfl); go_wp2; refine wp_region_lit_txt [0, 1, 2, 3, 4, 5, 6, 7, 8, 9, 10, 11, 12, 13, 14, 15, 18] (fun W => Below w.heap.size w W) (by kernel_rfl) (by kernel_rfl) (by kernel_rfl) (hbl3.drew) ?_
              iterate 6 ((refine txt_light ?_ rfl rfl ?_ ?_; rotate_left; · (intro w' hS; (try dsimp only at hS); go_simp; with_reducible rfl)); try simp only [Act.put, List.getElem_toArray, List.getElem_cons_succ, List.getElem_cons_zero, List.setIfInBounds_toArray, List.set_cons_zero, List.set_cons_succ])
              refine txt_light (.agg #[.int .i64 x1, .int .i64 y1]) rfl rfl ?_ ?_
              · intro w' hS; have g0 := (hS.cell (p := ⟨b3, o3 + m * 2, none⟩) hb3w).trans e0w; have g1 := (hS.cell (p := ⟨b3, o3 + m * 2 + 1, none⟩) hb3w).trans e1w; clear hS; go_simp
              try simp only [Act.put, List.getElem_toArray, List.getElem_cons_succ, List.getElem_cons_zero, List.setIfInBounds_toArray, List.set_cons_zero, List.set_cons_succ]
              iterate 5 ((refine txt_light ?_ rfl rfl ?_ ?_; rotate_left; · (intro w' hS; (try dsimp only at hS); go_simp; with_reducible rfl)); try simp only [Act.put, List.getElem_toArray, List.getElem_cons_succ, List.getElem_cons_zero, List.setIfInBounds_toArray, List.set_cons_zero, List.set_cons_succ])
              refine txt_light (.int .i64 q) rfl rfl ?_ ?_
              · intro w' hS; clear hS; go_simp
              try simp only [Act.put, List.getElem_toArray, List.getElem_cons_succ, List.getElem_cons_zero, List.setIfInBounds_toArray, List.set_cons_zero, List.set_cons_succ]
              (refine txt_light ?_ rfl rfl ?_ ?_; rotate_left; · (intro w' hS; (try dsimp only at hS); go_simp; with_reducible rfl)); try simp only [Act.put, List.getElem_toArray, List.getElem_cons_succ, List.getElem_cons_zero, List.setIfInBounds_toArray, List.set_cons_zero, List.set_cons_succ]
              refine txt_light (.agg #[.int .i64 x2, .int .i64 y2]) rfl rfl ?_ ?_
              · intro w' hS; have g0 := (hS.cell (p := ⟨b3, o3 + q * 2, none⟩) hb3w).trans f0w; have g1 := (hS.cell (p := ⟨b3, o3 + q * 2 + 1, none⟩) hb3w).trans f1w; clear hS; go_simp
              try simp only [Act.put, List.getElem_toArray, List.getElem_cons_succ, List.getElem_cons_zero, List.setIfInBounds_toArray, List.set_cons_zero, List.set_cons_succ]
              refine txt_light (.agg #[.int .i64 i, .int .i64 j, .int .i64 x1, .int .i64 y1, .int .i64 x2, .int .i64 y2]) rfl rfl ?_ ?_
              · intro w' hS; clear hS; go_simp
              try simp only [Act.put, List.getElem_toArray, List.getElem_cons_succ, List.getElem_cons_zero, List.setIfInBounds_toArray, List.set_cons_zero, List.set_cons_succ]
              have ho0 : wr.drew.ownsRow w.heap.size 75 6 u3 SN (sds SM) := ho3; have hbd : Below w.heap.size w wr.drew := hbl3.drew; generalize wr.drew = W1 at *; refine txt_heavy rfl rfl (fun K hK => ?_); go_step; have ho2 := ho0.below (Below.new W1 (.cells #[.int .i64 i, .int .i64 j, .int .i64 x1, .int .i64 y1, .int .i64 x2, .int .i64 y2] 75)); have hb2 := hbd.alloc hbd.size (.cells #[.int .i64 i, .int .i64 j, .int .i64 x1, .int .i64 y1, .int .i64 x2, .int .i64 y2] 75); have rd := Rd.lit W1 W1.heap.size [.int .i64 i, .int .i64 j, .int .i64 x1, .int .i64 y1, .int .i64 x2, .int .i64 y2] 75 rfl; refine hK.out _ _ hb2 ?_; clear hK K ho0 hbd; generalize W1.alloc (.cells #[.int .i64 i, .int .i64 j, .int .i64 x1, .int .i64 y1, .int .i64 x2, .int .i64 y2] 75) = W2 at *
              try simp only [Act.put, List.getElem_toArray, List.getElem_cons_succ, List.getElem_cons_zero, List.setIfInBounds_toArray, List.set_cons_zero, List.set_cons_succ]
              refine txt_app w hb2 rfl rfl (.tmp 38) (.tmp 54) 70 rfl 75 (.agg #[.int .i64 0, .int .i64 0, .int .i64 0, .int .i64 0, .int .i64 0, .int .i64 0]) 6 48 Try.underlying70 Try.infoRS rfl (by decide) u3 SN (sds SM) rfl ho2 (some ⟨W1.heap.size, 0, none⟩) 1 1 [.int .i64 i, .int .i64 j, .int .i64 x1, .int .i64 y1, .int .i64 x2, .int .i64 y2] rfl (fun h => by cases h) rd rfl (by simp [Value.oneCell']) (by omega) (by decide) ?_; intro v3 W3 ho4 hg3 hb4; refine ⟨hb4, ?_⟩
              try simp only [Act.put, List.getElem_toArray, List.getElem_cons_succ, List.getElem_cons_zero, List.setIfInBounds_toArray, List.set_cons_zero, List.set_cons_succ]
              (refine txt_light ?_ rfl rfl ?_ ?_; rotate_left; · (intro w' hS; (try dsimp only at hS); go_simp; with_reducible rfl)); try simp only [Act.put, List.getElem_toArray, List.getElem_cons_succ, List.getElem_cons_zero, List.setIfInBounds_toArray, List.set_cons_zero, List.set_cons_succ]
              refine txt_nil ?_; rw [HSD.out] at ho4; clear ho2 hb2 hg3 rd ho3; have HO9 : Hid (W3.ownsRow w.heap.size 75 6 v3 (SJ ++ (ringSd i j LL).take (m + 1)).length (sds (SJ ++ (ringSd i j LL).take (m + 1)))) := Lib.hid (by rw [HRX.out, List.length_append, HSN.out]; exact ho4); clear ho4; go_wp2; exact ⟨⟨m + 1, by omega, by go_num, HO9, hb4⟩, by simp [intOf]; omega⟩
            · have hmL : m = LL.length := by omega
              subst hmL; have h := HO3.out; rw [HRLN.out] at h; have HO9 := Lib.hid h; clear h; go_wp2; exact ⟨⟨j + 1, by omega, by go_num, HO9, hbl3⟩, by simp [intOf]; omega⟩
        · have hjM : j = M := by omega
          subst hjM; have h := HO2.out; rw [← HSI.out] at h; have HO9 := Lib.hid h; clear h; go_wp2; exact ⟨⟨i + 1, by omega, by go_num, HO9, hbl2⟩, by simp [intOf]; omega⟩
    · obtain rfl : i = N := by omega
      have h := HO.out; rw [HAL.out] at h; have HO := Lib.hid h; clear h; go_wp2; go_ret; exact ⟨_, rfl, HO.out, hbl⟩
end Go.Proofs.Ytccamjnomjcchaa
/- The document's Valid and the program's tell the same (plain). -/
set_option linter.unusedVariables false
set_option linter.unusedSimpArgs false
namespace Go
open Go.RowKit
theorem clsS_eq {x y : Sd} (hx : sdIn x) (hy : sdIn y) : clsS x y = rclsF x.a x.b y.a y.b := by
  unfold clsS clsR; have h : ¬ ([x.a, x.b, y.a, y.b].all okPt = false) := by simp [hx.1, hx.2.1, hy.1, hy.2.1]
  rw [if_neg h, if_neg (fun h => h.elim hx.2.2 hy.2.2)]; exact cls_eq _ _ _ _ hx.1 hx.2.1 hy.1 hy.2.1 hx.2.2 hy.2.2
theorem rcls_swap {x y : Sd} (hx : sdIn x) (hy : sdIn y) : rclsF y.a y.b x.a x.b = rclsF x.a x.b y.a y.b := rcls_segs _ _ _ _ hx.2.2 hy.2.2
theorem badT_iff {x y : Sd} (hx : sdIn x) (hy : sdIn y) : mOk y x ↔ (meetF (sdBx x) (sdBx y) = true → ¬ badT x y) := by
  unfold mOk badT sameR; rw [clsS_eq hx hy, rcls_swap hx hy]; constructor
  · rintro (⟨h1, h2⟩ | h) hm ⟨g1, g2, g3, g4⟩
    · exact g1 ⟨h1.symm, h2.symm⟩
    · omega
  · intro h
    by_cases hs : y.f = x.f ∧ y.r = x.r
    · exact .inl hs
    · refine .inr ?_
      by_cases h0 : rclsF x.a x.b y.a y.b = 0
      · exact .inl h0
      · have := h (rcls_meet _ _ _ _ h0); have hs2 : ¬ (x.f = y.f ∧ x.r = y.r) := fun g => hs ⟨g.1.symm, g.2.symm⟩; apply Decidable.byContradiction; intro hc; exact this ⟨hs2, h0, fun g => hc (.inr (.inl g)), fun g => hc (.inr (.inr g))⟩
theorem match_PW {S : List Sd} (h : ∀ s ∈ S, sdIn s) : matchP S S.length ↔ PW badT S := by
  unfold matchP PW; rw [List.pairwise_iff_getElem]; constructor
  · intro hm i j hi hj hij; have := hm j hj i hij; rw [getElem!_pos S i hi, getElem!_pos S j hj] at this; exact (badT_iff (h _ (List.getElem_mem hi)) (h _ (List.getElem_mem hj))).1 this
  · intro hp j hj i hij; have hi : i < S.length := by omega
    rw [getElem!_pos S i hi, getElem!_pos S j hj]; exact (badT_iff (h _ (List.getElem_mem hi)) (h _ (List.getElem_mem hj))).2 (hp i j hi hj hij)
theorem tw_nodup (S : List Sd) : twP S S.length ↔ (S.map Sd.key).Nodup := by
  unfold twP twAt List.Nodup; rw [List.pairwise_map, List.pairwise_iff_getElem]; constructor
  · intro ht i j hi hj hij e; apply ht j hj i hij; rw [getElem!_pos S i hi, getElem!_pos S j hj]; unfold Sd.key at e; simp only [Prod.mk.injEq] at e; exact ⟨e.1.symm, e.2.symm⟩
  · intro hp j hj i hij e; have hi : i < S.length := by omega
    rw [getElem!_pos S i hi, getElem!_pos S j hj] at e; exact hp i j hi hj hij (by unfold Sd.key; rw [e.1, e.2])
def sdOf (i k : Nat) (r : List Pt) (n : Nat) : Sd := ⟨i, k, r[n]!, r[(n + 1) % r.length]!⟩
theorem ringSd_map (i k : Nat) (r : List Pt) : ringSd i k r = (List.range r.length).map (sdOf i k r) := by
  unfold ringSd edges; rw [List.map_map]
  rfl
def ringOk (r : List Pt) : Prop := 3 ≤ r.length ∧ r.all okPt = true ∧ distP r r.length
theorem ring_ne {r : List Pt} (h : ringOk r) {n m : Nat} (hn : n < r.length) (hm : m < r.length) (hnm : n ≠ m) : r[n]! ≠ r[m]! := by
  intro e
  rcases Nat.lt_or_gt_of_ne hnm with g | g
  · exact h.2.2 m hm n g e.symm
  · exact h.2.2 n hn m g e
theorem succ_mod {n l : Nat} (h : n < l) : ((n + 1) % l = n + 1 ∧ n + 1 < l) ∨ ((n + 1) % l = 0 ∧ n + 1 = l) := by
  by_cases g : n + 1 < l
  · exact .inl ⟨Nat.mod_eq_of_lt g, g⟩
  · have : n + 1 = l := by omega
    exact .inr ⟨by rw [this, Nat.mod_self], this⟩
theorem sdOf_in {r : List Pt} (h : ringOk r) (i k : Nat) {n : Nat} (hn : n < r.length) : sdIn (sdOf i k r n) := by
  have hm := Nat.mod_lt (n + 1) (show 0 < r.length by omega); refine ⟨ok_get r h.2.1 n hn, ok_get r h.2.1 _ hm, ring_ne h hn hm ?_⟩; have := succ_mod hn; have := h.1; omega
theorem ring_pair {r : List Pt} (h : ringOk r) (i k : Nat) {a b : Nat} (hb : b < a) (ha : a < r.length) :
    clsOk r a b ↔ (meetF (sdBx (sdOf i k r b)) (sdBx (sdOf i k r a)) = true → ¬ badS (sdOf i k r b) (sdOf i k r a)) := by
  have hbl : b < r.length := by omega
  have ia := sdOf_in h i k ha; have ib := sdOf_in h i k hbl; have hma := Nat.mod_lt (a + 1) (show 0 < r.length by omega); have hmb := Nat.mod_lt (b + 1) (show 0 < r.length by omega); have hc : clsOk r a b ↔ rclsF (sdOf i k r b).a (sdOf i k r b).b (sdOf i k r a).a (sdOf i k r a).b = wantS r.length a b := by
    unfold clsOk; rw [← rcls_swap ib ia]; exact Iff.rfl
  have hn : nxtS (sdOf i k r b) (sdOf i k r a) ↔ (a - b = 1 ∨ a - b = r.length - 1) := by
    unfold nxtS sameR sdOf; dsimp only; have q1 : r[(b + 1) % r.length]! = r[a]! ↔ (b + 1) % r.length = a := by
      refine ⟨fun e => ?_, fun e => by rw [e]⟩; apply Decidable.byContradiction; intro g; exact ring_ne h hmb ha g e
    have q2 : r[(a + 1) % r.length]! = r[b]! ↔ (a + 1) % r.length = b := by
      refine ⟨fun e => ?_, fun e => by rw [e]⟩; apply Decidable.byContradiction; intro g; exact ring_ne h hma hbl g e
    rw [q1, q2]; have s1 := succ_mod ha; have s2 := succ_mod hbl; have := h.1; simp only [true_and, and_self]; omega
  have hsr : sameR (sdOf i k r b) (sdOf i k r a) := ⟨rfl, rfl⟩; rw [hc]; unfold badS; rw [clsS_eq ib ia, hn]; unfold wantS
  by_cases hw : a - b = 1 ∨ a - b = r.length - 1
  · rw [if_pos hw]; constructor
    · rintro h1 hm (⟨-, g⟩ | ⟨g, -⟩)
      · exact g h1
      · exact g hw
    · intro g; have hm : meetF (sdBx (sdOf i k r b)) (sdBx (sdOf i k r a)) = true := by
        obtain ⟨-, e⟩ := hn.2 hw; unfold sdBx; rw [meet_iff]
        rcases e with e | e
        · rw [← e]; omega
        · rw [← e]; omega
      apply Decidable.byContradiction; intro g2; exact g hm (.inl ⟨hw, g2⟩)
  · rw [if_neg hw]; constructor
    · rintro h1 hm (⟨g, -⟩ | ⟨-, -, g⟩)
      · exact hw g
      · exact g h1
    · intro g; apply Decidable.byContradiction; intro g2; exact g (rcls_meet _ _ _ _ g2) (.inr ⟨hw, hsr, g2⟩)
theorem ring_PW {r : List Pt} (h : ringOk r) (i k : Nat) : clsP r r.length ↔ PW badS (ringSd i k r) := by
  unfold PW clsP; rw [ringSd_map, List.pairwise_map, List.pairwise_iff_getElem]; constructor
  · intro hp b a hb ha hba; rw [List.length_range] at hb ha; rw [List.getElem_range, List.getElem_range]; exact (ring_pair h i k hba ha).1 (hp a ha b hba)
  · intro hp a ha b hba; have := hp b a (by rw [List.length_range]; omega) (by rw [List.length_range]; omega) hba; rw [List.getElem_range, List.getElem_range] at this; exact (ring_pair h i k hba ha).2 this
theorem dist_nodup (r : List Pt) : distP r r.length ↔ r.Nodup := by
  unfold distP List.Nodup; rw [List.pairwise_iff_getElem]; constructor
  · intro h i j hi hj hij e; apply h j hj i hij; rw [getElem!_pos r i hi, getElem!_pos r j hj]; exact e.symm
  · intro h j hj i hij e; have hi : i < r.length := by omega
    rw [getElem!_pos r i hi, getElem!_pos r j hj] at e; exact h i j hi hj hij e.symm
theorem single_ok (r : List Pt) : singleF r = true ↔ ringOk r := by
  unfold singleF ringOk; rw [dist_nodup]; simp only [Bool.and_eq_true, decide_eq_true_eq]; constructor
  · rintro ⟨⟨h1, h2⟩, h3⟩; exact ⟨by omega, h3, h2⟩
  · rintro ⟨h1, h3, h2⟩; exact ⟨⟨by omega, h2⟩, h3⟩
theorem PW_append (P : Sd → Sd → Prop) (A B : List Sd) (h : ∀ a ∈ A, ∀ b ∈ B, ¬ P a b) : PW P (A ++ B) ↔ PW P A ∧ PW P B := by
  unfold PW; rw [List.pairwise_append]; exact ⟨fun g => ⟨g.1, g.2.1⟩, fun g => ⟨g.1, g.2, fun a ha b hb _ => h a ha b hb⟩⟩
theorem mem_ringSd {i k : Nat} {r : List Pt} {s : Sd} (h : s ∈ ringSd i k r) : s.f = i ∧ s.r = k := by
  unfold ringSd at h; obtain ⟨e, -, rfl⟩ := List.mem_map.1 h; exact ⟨rfl, rfl⟩
theorem mem_faceSd {i : Nat} {f : List (List Pt)} {n : Nat} {s : Sd} (h : s ∈ faceSd i f n) : s.f = i ∧ s.r < n := by
  unfold faceSd at h; obtain ⟨k, hk, h2⟩ := List.mem_flatMap.1 h; have := mem_ringSd h2; have := List.mem_range.1 hk; exact ⟨by omega, by omega⟩
theorem mem_someSd {l : List (List (List Pt))} {n : Nat} {s : Sd} (h : s ∈ someSd l n) : s.f < n := by
  unfold someSd at h; obtain ⟨k, hk, h2⟩ := List.mem_flatMap.1 h; have := mem_faceSd h2; have := List.mem_range.1 hk; omega
theorem badS_same {a b : Sd} (h : badS a b) : sameR a b := by
  rcases h with ⟨h, -⟩ | ⟨-, h, -⟩
  · exact h.1
  · exact h
theorem face_PW (i : Nat) (f : List (List Pt)) (n : Nat) : PW badS (faceSd i f n) ↔ ∀ k, k < n → PW badS (ringSd i k f[k]!) := by
  induction n with
  | zero => exact ⟨fun _ k h => by omega, fun _ => List.Pairwise.nil⟩
  | succ n ih =>
    rw [faceSd_succ, PW_append badS _ _ (fun a ha b hb hbad => by
      have := (badS_same hbad).2; have := (mem_faceSd ha).2; have := (mem_ringSd hb).2; omega), ih]
    constructor
    · rintro ⟨h1, h2⟩ k hk
      by_cases g : k = n
      · rw [g]; exact h2
      · exact h1 k (by omega)
    · intro h; exact ⟨fun k hk => h k (by omega), h n (by omega)⟩
theorem some_PW (l : List (List (List Pt))) (n : Nat) : PW badS (someSd l n) ↔ ∀ i, i < n → ∀ k, k < (l[i]!).length → PW badS (ringSd i k (l[i]!)[k]!) := by
  induction n with
  | zero => exact ⟨fun _ k h => by omega, fun _ => List.Pairwise.nil⟩
  | succ n ih =>
    rw [someSd_succ, PW_append badS _ _ (fun a ha b hb hbad => by
      have := (badS_same hbad).1; have := mem_someSd ha; have := (mem_faceSd hb).1; omega), ih, face_PW]
    constructor
    · rintro ⟨h1, h2⟩ k hk
      by_cases g : k = n
      · rw [g]; exact h2
      · exact h1 k (by omega)
    · intro h; exact ⟨fun k hk => h k (by omega), h n (by omega)⟩
theorem smp_iff (F : List (List (List Pt))) : smpR F ↔ rightR F = true ∧ PW badS (allSd F) := by
  unfold allSd; rw [some_PW]; constructor
  · intro h; refine ⟨?_, fun i hi k hk => ?_⟩
    · unfold rightR; rw [List.all_eq_true]; intro f hf; rw [List.all_eq_true]; intro r hr; have := h f hf r hr; exact (single_ok r).2 ⟨this.1, this.2.1, this.2.2.1⟩
    · have := h _ (mem_getE hi) _ (mem_getE hk); exact (ring_PW ⟨this.1, this.2.1, this.2.2.1⟩ i k).1 this.2.2.2
  · rintro ⟨h1, h2⟩ f hf r hr; have h3 := (single_ok r).1 (List.all_eq_true.1 (List.all_eq_true.1 h1 f hf) r hr); obtain ⟨i, hi, rfl⟩ := List.mem_iff_getElem.1 hf; obtain ⟨k, hk, rfl⟩ := List.mem_iff_getElem.1 hr; have h4 := h2 i hi k (by rw [getElem!_pos F i hi]; exact hk); rw [getElem!_pos F i hi, getElem!_pos _ k hk] at h4; exact ⟨h3.1, h3.2.1, h3.2.2, (ring_PW h3 i k).2 h4⟩
end Go
/- The document's Valid and the program's tell the same: the sums (plain). -/
set_option linter.unusedVariables false
set_option linter.unusedSimpArgs false
namespace Go
open Go.RowKit
theorem over_eq (a b : Pt) (y : Int) : overF (a.y + b.y) (b.x - a.x) y = besOver (besM a b) (besV a b) y := by
  unfold overF besOver besM besV; dsimp only
  split
  · rename_i h; rw [decide_eq_true h, Bool.and_true, ← Bool.decide_or]; apply decide_eq_decide.2; omega
  · rename_i h; rw [decide_eq_false h, Bool.and_false, Bool.or_false]
theorem side_eq (p q a b : Pt) : sideF p q a b = besSide (besM a b) (besV a b) p q := rfl
theorem pass_eq (p q a b : Pt) : passF p q a b = besE (besM a b) (besV a b) (p, q) := by
  unfold passF besE; dsimp only; rw [over_eq, over_eq, side_eq]; generalize besSide (besM a b) (besV a b) p q = SD
  cases besOver (besM a b) (besV a b) p.y <;> cases besOver (besM a b) (besV a b) q.y <;> simp
theorem sumS_append (a b : Pt) (A B : List Sd) (j : Int) : sumS a b (A ++ B) j = sumS a b A j + sumS a b B j := by
  unfold sumS; rw [List.map_append, List.sum_append]
theorem sumS_none (a b : Pt) (S : List Sd) (j : Int) (h : ∀ s ∈ S, (s.f : Int) ≠ j) : sumS a b S j = 0 := by
  induction S with
  | nil => rfl
  | cons s S ih =>
    have h1 := ih (fun x hx => h x (List.mem_cons_of_mem _ hx)); unfold sumS at h1 ⊢; rw [List.map_cons, List.sum_cons, h1, if_neg (h s List.mem_cons_self)]
    rfl
theorem sumS_ring (a b : Pt) (i k : Nat) (r : List Pt) : sumS a b (ringSd i k r) i = besS (besM a b) (besV a b) (edges r) := by
  rw [besS_sum]; unfold sumS ringSd; rw [List.map_map]
  congr 1
  apply List.map_congr_left; intro e _; show (if (i : Int) = (i : Int) then passF e.1 e.2 a b else 0) = _; rw [if_pos rfl, pass_eq]
def besR (a b : Pt) (f : List (List Pt)) : Int := (f.map fun r => besS (besM a b) (besV a b) (edges r)).sum
theorem sumS_face (a b : Pt) (i : Nat) (f : List (List Pt)) (n : Nat) (hn : n ≤ f.length) : sumS a b (faceSd i f n) i = besR a b (f.take n) := by
  induction n with
  | zero => rfl
  | succ n ih =>
    rw [faceSd_succ, sumS_append, ih (by omega), sumS_ring, List.take_succ_eq_append_getElem (show n < f.length by omega), getElem!_pos f n (by omega)]; unfold besR; rw [List.map_append, List.sum_append]; simp
theorem sumS_some (a b : Pt) (F : List (List (List Pt))) (k n : Nat) : sumS a b (someSd F n) k = if k < n then besR a b F[k]! else 0 := by
  induction n with
  | zero => rfl
  | succ n ih =>
    rw [someSd_succ, sumS_append, ih]
    by_cases h : k = n
    · subst h; rw [if_neg (Nat.lt_irrefl _), if_pos (Nat.lt_succ_self _), sumS_face a b k _ _ (Nat.le_refl _), List.take_length]; omega
    · rw [sumS_none a b _ k (fun s hs => by have := (mem_faceSd hs).1; omega)]
      by_cases g : k < n
      · rw [if_pos g, if_pos (by omega)]; omega
      · rw [if_neg g, if_neg (by omega)]; rfl
theorem sumS_all (a b : Pt) (F : List (List (List Pt))) (k : Nat) (hk : k < F.length) : sumS a b (allSd F) k = besR a b F[k]! := by
  unfold allSd; rw [sumS_some, if_pos hk]
theorem sd_f {F : List (List (List Pt))} {s : Sd} (h : s ∈ allSd F) : s.f < F.length := by
  unfold allSd at h; exact mem_someSd h
theorem round_bes (a b : Pt) (hab : a ≠ b) (f : List (List Pt)) (h : roundOk f a b = true) : roundN f a b = besR a b f := by
  unfold roundN; rw [if_pos h]; unfold roundS besR
  congr 1
  apply List.map_congr_left; intro r hr; refine (besS_albT _ _ ?_ r (List.all_eq_true.1 h r hr)).symm; unfold besV; dsimp only; intro ⟨h1, h2⟩; exact hab (pt_eq h1 h2)
theorem beside_swap (a b c d : Pt) : besHas (besM b a) (besV b a) c d = besHas (besM a b) (besV a b) c d := by
  have e1 : besM b a = besM a b := by unfold besM; rw [Int.add_comm, Int.add_comm b.y]
  have e2 : ((d.x - c.x) * (besV b a).y = (d.y - c.y) * (besV b a).x) = ((d.x - c.x) * (besV a b).y = (d.y - c.y) * (besV a b).x) := by
    unfold besV; dsimp only; apply propext; constructor <;> (intro h; grind)
  unfold besHas; rw [e1]; simp only [e2]
theorem off_all {F : List (List (List Pt))} (h : smpR F) (hm : matchP (allSd F) (allSd F).length) {s t : Sd} (hs : s ∈ allSd F) (ht : t ∈ allSd F) : besHas (besM s.a s.b) (besV s.a s.b) t.a t.b = false := by
  cases hb : besHas (besM s.a s.b) (besV s.a s.b) t.a t.b with
  | false => rfl
  | true =>
    exfalso
    have is := sd_in h s hs; have it := sd_in h t ht; obtain ⟨c0, c1, c5⟩ := mid_cls _ _ _ _ is.2.2 it.2.2 hb
    by_cases hsame : sameR s t
    · obtain ⟨i, k, n, h1, h2, h3, rfl⟩ := mem_allSd.1 hs; obtain ⟨i', k', m, h1', h2', h3', rfl⟩ := mem_allSd.1 ht; obtain ⟨e1, e2⟩ := hsame; dsimp only at e1 e2; subst e1 e2; have hr := h _ (mem_getE h1) _ (mem_getE h2); generalize (F[i]!)[k]! = r at *
      rcases Nat.lt_trichotomy n m with g | g | g
      · have h4 := hr.2.2.2 m h3' n g; unfold clsOk at h4; rw [rcls_segs _ _ _ _ is.2.2 it.2.2] at h4; dsimp only at c0 c1; rw [h4] at c0 c1; unfold wantS at c0 c1
        split at c0 <;> simp_all
      · subst g; exact c5 (by unfold rclsF; rw [if_pos (.inl ⟨rfl, rfl⟩)])
      · have h4 := hr.2.2.2 n h3 m g; unfold clsOk at h4; dsimp only at c0 c1; rw [h4] at c0 c1; unfold wantS at c0 c1
        split at c0 <;> simp_all
    · obtain ⟨i, hi, e1⟩ := List.mem_iff_getElem.1 hs; obtain ⟨j, hj, e2⟩ := List.mem_iff_getElem.1 ht
      rcases Nat.lt_trichotomy i j with g | g | g
      · have h4 := hm j hj i g; rw [getElem!_pos _ i hi, getElem!_pos _ j hj, e1, e2] at h4; unfold mOk at h4; rw [rcls_swap is it] at h4
        rcases h4 with h4 | h4
        · exact hsame ⟨h4.1.symm, h4.2.symm⟩
        · omega
      · subst g; rw [e1] at e2; subst e2; exact hsame ⟨rfl, rfl⟩
      · have h4 := hm i hi j g; rw [getElem!_pos _ i hi, getElem!_pos _ j hj, e1, e2] at h4; unfold mOk at h4
        rcases h4 with h4 | h4
        · exact hsame h4
        · omega
theorem edge_side {F : List (List (List Pt))} {f : List (List Pt)} (hf : f ∈ F) {r : List Pt} (hr : r ∈ f) {e : Pt × Pt} (he : e ∈ edges r) : ∃ t ∈ allSd F, t.a = e.1 ∧ t.b = e.2 := by
  obtain ⟨i, hi, rfl⟩ := List.mem_iff_getElem.1 hf; obtain ⟨k, hk, rfl⟩ := List.mem_iff_getElem.1 hr; unfold edges at he; obtain ⟨n, hn, rfl⟩ := List.mem_map.1 he; have hn := List.mem_range.1 hn; refine ⟨_, mem_allSd.2 ⟨i, k, n, hi, by rw [getElem!_pos F i hi]; exact hk, by rw [getElem!_pos F i hi, getElem!_pos _ k hk]; exact hn, rfl⟩, ?_⟩; rw [getElem!_pos F i hi, getElem!_pos _ k hk]; exact ⟨rfl, rfl⟩
theorem round_ok {F : List (List (List Pt))} (h : smpR F) (hm : matchP (allSd F) (allSd F).length) {s : Sd} (hs : s ∈ allSd F) {f : List (List Pt)} (hf : f ∈ F) : roundOk f s.a s.b = true ∧ roundOk f s.b s.a = true := by
  unfold roundOk; rw [List.all_eq_true, List.all_eq_true]; have key : ∀ r ∈ f, ∀ e ∈ edges r, besHas (besM s.a s.b) (besV s.a s.b) e.1 e.2 = false := by
    intro r hr e he; obtain ⟨t, ht, e1, e2⟩ := edge_side hf hr he; rw [← e1, ← e2]; exact off_all h hm hs ht
  constructor
  · intro r hr; rw [List.all_eq_true]; intro e he; unfold offM; rw [key r hr e he]; rfl
  · intro r hr; rw [List.all_eq_true]; intro e he; unfold offM; rw [beside_swap, key r hr e he]; rfl
theorem sds_iff {F : List (List (List Pt))} (h : smpR F) (hm : matchP (allSd F) (allSd F).length) : sdsP F (allSd F) (allSd F).length ↔ sidesOk (allSd F) := by
  have key : ∀ s ∈ allSd F, (sdOkP F s ↔ (∀ j : Int, sumS s.a s.b (allSd F) j = if j = (s.f : Int) then 1 else 0) ∧ sumS s.b s.a (allSd F) s.f = 0) := by
    intro s hs; have is := sd_in h s hs; have hsf := sd_f hs; unfold sdOkP sdAt; constructor
    · intro g; refine ⟨fun j => ?_, ?_⟩
      · by_cases hj : ∃ k : Nat, k < F.length ∧ j = (k : Int)
        · obtain ⟨k, hk, rfl⟩ := hj; obtain ⟨g1, g2, g3, g4⟩ := g k hk; rw [sumS_all _ _ F k hk, ← round_bes _ _ is.2.2 _ g1, g3]
          by_cases e : k = s.f
          · rw [if_pos e, if_pos (by omega)]
          · rw [if_neg e, if_neg (by omega)]
        · rw [if_neg (fun e => hj ⟨s.f, hsf, e⟩)]; exact sumS_none _ _ _ _ (fun t ht e => hj ⟨t.f, sd_f ht, e.symm⟩)
      · obtain ⟨g1, g2, g3, g4⟩ := g s.f hsf; rw [sumS_all _ _ F s.f hsf, ← round_bes _ _ (Ne.symm is.2.2) _ g2]; exact g4 rfl
    · rintro ⟨g1, g2⟩ k hk; obtain ⟨o1, o2⟩ := round_ok h hm hs (mem_getE hk); refine ⟨o1, o2, ?_, ?_⟩
      · have := g1 k; rw [sumS_all _ _ F k hk, ← round_bes _ _ is.2.2 _ o1] at this; rw [this]
        by_cases e : k = s.f
        · rw [if_pos e, if_pos (by omega)]
        · rw [if_neg e, if_neg (by omega)]
      · intro e; subst e; rw [sumS_all _ _ F _ hk, ← round_bes _ _ (Ne.symm is.2.2) _ o2] at g2; exact g2
  unfold sdsP sidesOk; constructor
  · intro g s hs; obtain ⟨i, hi, rfl⟩ := List.mem_iff_getElem.1 hs; have := g i hi; rw [getElem!_pos _ i hi] at this; exact (key _ hs).1 this
  · intro g i hi; rw [getElem!_pos _ i hi]; exact (key _ (List.getElem_mem hi)).2 (g _ (List.getElem_mem hi))
theorem rval_valid {F : List (List (List Pt))} {x y : Int} (h1 : RValIs F (allSd F) x) (h2 : ValidIs F y) : y = x := by
  rw [(validIs_iff F y).1 h2, validB_S]; unfold vS v5
  by_cases hs : smpR F
  · obtain ⟨hr, hp⟩ := (smp_iff F).1 hs; have hin := sd_in hs; have hmq := match_PW hin; have htn := tw_nodup (allSd F); rw [hr]
    rcases h1 with ⟨g, -⟩ | ⟨-, h1⟩
    · exact absurd hs g
    · rcases h1 with ⟨g, rfl⟩ | ⟨g, h1⟩
      · simp [hp, hmq.symm, g]
      · rcases h1 with ⟨g2, rfl⟩ | ⟨g2, h1⟩
        · simp [hp, hmq.symm, g, htn.symm, g2]
        · have hsd := sds_iff hs g
          rcases h1 with ⟨g3, rfl⟩ | ⟨g3, rfl⟩
          · simp [hp, hmq.symm, g, htn.symm, g2, hsd.symm, g3]
          · simp [hp, hmq.symm, g, htn.symm, g2, hsd.symm, g3]
  · rcases h1 with ⟨-, rfl⟩ | ⟨g, -⟩
    · cases hr : rightR F with
      | false => simp
      | true =>
        have hp : ¬ PW badS (allSd F) := fun hp => hs ((smp_iff F).2 ⟨hr, hp⟩); simp [hp]
    · exact absurd g hs
end Go
