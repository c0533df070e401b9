/-
  graticuleref12.Count, Sides. A map of strings to bools that the call makes: a set of strings. Runes of a text: the model's decoding and the document's first rune, in plain terms. text.bad; plain: where no rune begins.
-/
import Derived.Test.YtebplobagmjfeaaPk9
import Derived.Test.YtebplobagmjfeaaPk13
import Derived.Test.YtebplobagmjfeaaPk3
import Derived.Test.YtebplobagmjfeaaPk1
import Derived.Maps.Own
import Derived.Maps.OwnOps
import Derived.Maps.Views
import Derived.Laws.RangeAny
import Derived.Test.YtebplobagmjfeaaShelf
/- graticuleref12.Count, Sides. -/
set_option linter.unusedVariables false
set_option linter.unusedSimpArgs false
set_option maxRecDepth 100000
namespace Go
open Go.RowKit
theorem ringSd_len (i k : Nat) (r : List Pt) : (ringSd i k r).length = r.length := by simp [ringSd, edges]
theorem ringSd_take (i k : Nat) (r : List Pt) (n : Nat) (h : n < r.length) : (ringSd i k r).take (n + 1) = (ringSd i k r).take n ++ [⟨i, k, r[n], r[(n + 1) % r.length]'(Nat.mod_lt _ (by omega))⟩] := by
  have hm := Nat.mod_lt (n + 1) (show 0 < r.length by omega)
  have e : (ringSd i k r)[n]? = some ⟨i, k, r[n], r[(n + 1) % r.length]⟩ := by
    unfold ringSd edges
    rw [List.getElem?_map, List.getElem?_map, List.getElem?_range h]
    simp only [Option.map_some]
    rw [getElem!_pos r n h, getElem!_pos r _ hm]
  rw [List.take_add_one, e]; rfl
end Go
namespace Go.Proofs.Ytebplobagmjfeaa
open Go.RowKit
theorem Try.infoRS : (Try.prog.info? 42).map (fun i => (i.zero, i.size, i.bytes)) = some (some (.agg #[.int .i64 0, .int .i64 0, .int .i64 0, .int .i64 0, .int .i64 0, .int .i64 0]), 6, 48) := by kernel_rfl

set_option maxHeartbeats 3200000 in
theorem rcount_any (a : Option Addr) (c : Nat) (L : List Fc) (hlen : L.length ≤ 1000000) (h1 : cntR (L.map Fc.rings) ≤ 1000000) (h2 : cntP (L.map Fc.rings) ≤ 1000000) (w : World) (hr : Rd w a (fcs L)) (hok : ∀ f ∈ L, f.Ok w) :
    Calls Try.prog 9 #[.slice a L.length c] w fun e w' => e = .returned (.tuple #[.int .i64 (cntR (L.map Fc.rings)), .int .i64 (cntP (L.map Fc.rings))]) ∧ w = w' := by
  have HR := Lib.hid hr
  have HOK := Lib.hid hok
  obtain ⟨RL, hRL⟩ : ∃ R, L.map Fc.rings = R := ⟨_, rfl⟩
  have HRL := Lib.hid hRL
  rw [hRL] at h1 h2 ⊢
  obtain ⟨N, hN⟩ : ∃ N, L.length = N := ⟨_, rfl⟩
  have HN := Lib.hid hN
  have HRN : Hid (RL.length = N) := Lib.hid (by rw [← hRL, List.length_map, hN])
  have HTA : Hid (RL.take N = RL) := Lib.hid (by rw [← HRN.out, List.take_length])
  have HBR := Lib.hid (fun k => cntR_take RL k)
  have HBP := Lib.hid (fun k => cntP_take RL k)
  rw [hN] at hlen ⊢
  clear hr hok hN hRL
  go_enter Try.func9, Try.ntmps9
  go_wp2
  go_loopw [4, 5, 6] (fun x y i wr => ∃ k : Nat, k ≤ N ∧ i = .int .i64 k ∧ x = .int .i64 (cntR (RL.take k)) ∧ y = .int .i64 (cntP (RL.take k)) ∧ wr = w) (fun _ _ i _ => N - (intOf i).toNat)
  case atStart => exact ⟨0, by omega, rfl, rfl, rfl, rfl⟩
  case round =>
    obtain ⟨k, hk, rfl, rfl, rfl, rfl⟩ := hrel
    by_cases q1 : k < N
    · have q1' : (k : Int) < (N : Int) := by omega
      have hkl : k < L.length := by rw [HN.out]; exact q1
      have hkr : k < RL.length := by rw [HRN.out]; exact q1
      obtain ⟨b1, o1, rfl, hbb, c0, -⟩ := HR.out.fc k hkl
      have HF := Lib.hid (HOK.out L[k] (List.getElem_mem hkl))
      have HRK : Hid (RL[k] = L[k].rs.map PC.l) := Lib.hid (by
        have h := HRL.out
        subst h
        simp [Fc.rings])
      have HS1 : Hid (cntR (RL.take (k + 1)) = cntR (RL.take k) + RL[k].length) := Lib.hid (cntR_snoc RL k hkr)
      have HS2 : Hid (cntP (RL.take (k + 1)) = cntP (RL.take k) + lenS RL[k]) := Lib.hid (cntP_snoc RL k hkr)
      have b1' := HBR.out (k + 1)
      have b2' := HBP.out (k + 1)
      rw [HS1.out] at b1'
      rw [HS2.out] at b2'
      generalize RL[k] = rk at *
      have HLT := Lib.hid (fun j => lenS_take rk j)
      generalize L[k] = f at *
      obtain ⟨rs, ra, rc, ls, aa, ac⟩ := f
      dsimp only [Fc.rval] at c0 HRK
      obtain ⟨M, hM⟩ : ∃ M, rs.length = M := ⟨_, rfl⟩
      have HM := Lib.hid hM
      have hrk : rk.length = M := by rw [HRK.out, List.length_map, hM]
      have HRKL := Lib.hid hrk
      rw [hrk] at b1' HS1
      rw [hM] at c0
      clear hM hrk
      generalize cntR (RL.take k) = CR at *
      generalize cntP (RL.take k) = CP at *
      have HTB : Hid (lenS (rk.take M) = lenS rk) := Lib.hid (by rw [← HRKL.out, List.take_length])
      go_wp2
      go_loopw [4, 5, 7] (fun x y i W => ∃ j : Nat, j ≤ M ∧ i = .int .i64 j ∧ x = .int .i64 ((CR + j : Nat) : Int) ∧ y = .int .i64 ((CP + lenS (rk.take j) : Nat) : Int) ∧ W = wr) (fun _ _ i _ => M - (intOf i).toNat)
      case atStart => exact ⟨0, by omega, rfl, rfl, rfl, rfl⟩
      case round =>
        obtain ⟨j, hj, rfl, rfl, rfl, rfl⟩ := hrel
        by_cases q2 : j < M
        · have q2' : (j : Int) < (M : Int) := by omega
          have hjl : j < rs.length := by rw [HM.out]; exact q2
          have hjr : j < rk.length := by rw [HRKL.out]; exact q2
          obtain ⟨b2, o2, rfl, hb2, d0⟩ := HF.out.1.1.rc j hjl
          have hS3 : lenS (rk.take (j + 1)) = lenS (rk.take j) + rs[j].l.length := by
            rw [lenS_snoc rk j hjr]
            congr 1
            simp [HRK.out]
          have HS3 := Lib.hid hS3
          have hb3 := HLT.out (j + 1)
          rw [hS3] at hb3
          generalize rs[j] = R at *
          obtain ⟨LL, p, c3⟩ := R
          dsimp only [PC.val] at d0 HS3 hb3
          generalize LL.length = LN at *
          generalize lenS (rk.take j) = LS at *
          clear hS3
          go_wp2
          exact ⟨⟨j + 1, by omega, by go_num, by go_num, by rw [HS3.out]; go_num, by trivial⟩, by simp [intOf]; omega⟩
        · have hjM : j = M := by omega
          subst hjM
          go_wp2
          exact ⟨⟨k + 1, by omega, by go_num, by rw [HS1.out], by rw [HS2.out, HTB.out], by trivial⟩, by simp [intOf]; omega⟩
    · obtain rfl : k = N := by omega
      rw [HTA.out]
      go_wp2
      refine bodyPost_ret (v := .tuple #[.int .i64 (cntR RL), .int .i64 (cntP RL)]) (by simp [results, Try.results9, go_sem]) rfl ⟨rfl, rfl⟩

set_option maxHeartbeats 6400000 in
theorem rsides_any (a : Option Addr) (c : Nat) (L : List Fc) (hlen : L.length ≤ 100000) (hl1 : ∀ f ∈ L, f.rs.length ≤ 100000) (hl2 : ∀ f ∈ L, ∀ r ∈ f.rs, r.l.length ≤ 100000) (hall : (allSd (L.map Fc.rings)).length ≤ 1000000) (w : World) (hr : Rd w a (fcs L)) (hok : ∀ f ∈ L, f.Ok w) :
    Calls Try.prog 11 #[.slice a L.length c] w fun e w' => ∃ v, e = .returned v ∧ w'.ownsRow w.heap.size 42 6 v (allSd (L.map Fc.rings)).length (sds (allSd (L.map Fc.rings))) ∧ Below w.heap.size w w' := by
  have HR := Lib.hid hr
  have HOK := Lib.hid hok
  have HL1 := Lib.hid hl1
  have HL2 := Lib.hid hl2
  obtain ⟨RL, hRL⟩ : ∃ R, L.map Fc.rings = R := ⟨_, rfl⟩
  have HRL := Lib.hid hRL
  rw [hRL] at hall ⊢
  obtain ⟨N, hN⟩ : ∃ N, L.length = N := ⟨_, rfl⟩
  have HN := Lib.hid hN
  have HRN : Hid (RL.length = N) := Lib.hid (by rw [← hRL, List.length_map, hN])
  have HAL : Hid (someSd RL N = allSd RL) := Lib.hid (by unfold allSd; rw [HRN.out])
  have HPRE := Lib.hid (fun n (h : n ≤ N) => (by have := (someSd_pre RL h).length_le; rw [HAL.out] at this; omega : (someSd RL n).length ≤ 1000000))
  have HSS := Lib.hid (fun n => someSd_succ RL n)
  have HS0 : Hid (someSd RL 0 = []) := Lib.hid rfl
  rw [hN] at hlen ⊢
  clear hr hok hN hRL hl1 hl2 hall
  go_enter Try.func11, Try.ntmps11
  go_wp2
  go_loopw [3, 4] (fun o i wr => ∃ (k : Nat), k ≤ N ∧ i = .int .i64 k ∧ Hid (wr.ownsRow w.heap.size 42 6 o (someSd RL k).length (sds (someSd RL k))) ∧ Below w.heap.size w wr) (fun _ i _ => N - (intOf i).toNat)
  case atStart => exact ⟨0, by omega, rfl, Lib.hid (by rw [HS0.out]; exact World.ownsRow_nil _ _ _ _), Below.refl _ _⟩
  case round =>
    obtain ⟨i, hi, rfl, HO, hbl⟩ := hrel
    by_cases q1 : i < N
    · have q1' : (i : Int) < (N : Int) := by omega
      have hkl : i < L.length := by rw [HN.out]; exact q1
      have hkr : i < RL.length := by rw [HRN.out]; exact q1
      obtain ⟨b1, o1, rfl, hbb, c0, -⟩ := HR.out.fc i hkl
      have HF := Lib.hid (HOK.out L[i] (List.getElem_mem hkl))
      have HF1 := HL1.out L[i] (List.getElem_mem hkl)
      have HF2 := Lib.hid (HL2.out L[i] (List.getElem_mem hkl))
      have HRK : Hid (RL[i]! = L[i].rs.map PC.l) := Lib.hid (by
        rw [getElem!_pos RL i hkr]
        have h := HRL.out
        subst h
        simp [Fc.rings])
      have HSI := Lib.hid (HSS.out i)
      have HPI := HPRE.out (i + 1) (by omega)
      rw [HSI.out] at HPI
      generalize RL[i]! = rk at *
      generalize L[i] = f at *
      obtain ⟨rs, ra, rc, ls, aa, ac⟩ := f
      dsimp only [Fc.rval] at c0 HRK HF1 HF2
      obtain ⟨M, hM⟩ : ∃ M, rs.length = M := ⟨_, rfl⟩
      have HM := Lib.hid hM
      have hrk : rk.length = M := by rw [HRK.out, List.length_map, hM]
      have HRKL := Lib.hid hrk
      rw [hrk] at HSI HPI
      rw [hM] at c0 HF1
      clear hM hrk
      have HFP := Lib.hid (fun n (h : n ≤ M) => (by have := (faceSd_pre i rk h).length_le; rw [List.length_append] at HPI; omega : (someSd RL i).length + (faceSd i rk n).length ≤ 1000000))
      have HFS := Lib.hid (fun n => faceSd_succ i rk n)
      have HF0 : Hid (someSd RL i ++ faceSd i rk 0 = someSd RL i) := Lib.hid (by simp [faceSd])
      generalize someSd RL i = SI at *
      clear HPI
      go_wp2
      go_loopw [3, 5] (fun o k W => ∃ (j : Nat), j ≤ M ∧ k = .int .i64 j ∧ Hid (W.ownsRow w.heap.size 42 6 o (SI ++ faceSd i rk j).length (sds (SI ++ faceSd i rk j))) ∧ Below w.heap.size w W) (fun _ k _ => M - (intOf k).toNat)
      case atStart => exact ⟨0, by omega, rfl, Lib.hid (by rw [HF0.out]; exact HO.out), hbl⟩
      case round =>
        obtain ⟨j, hj, rfl, HO2, hbl2⟩ := hrel
        have c0' := (hbl2.cell (p := ⟨b1, o1 + i * 2, none⟩) hbb).trans c0
        by_cases q2 : j < M
        · have q2' : (j : Int) < (M : Int) := by omega
          have hjl : j < rs.length := by rw [HM.out]; exact q2
          have hjr : j < rk.length := by rw [HRKL.out]; exact q2
          obtain ⟨b2, o2, rfl, hb2, d0⟩ := HF.out.1.1.rc j hjl
          have HRR := Lib.hid (HF.out.2.1 _ (List.getElem_mem hjl)).1
          have hLL := HF2.out _ (List.getElem_mem hjl)
          have HRJ : Hid (rk[j]! = rs[j].l) := Lib.hid (by
            rw [getElem!_pos rk j hjr]
            simp [HRK.out])
          have HFJ := Lib.hid (HFS.out j)
          have HPJ := HFP.out (j + 1) (by omega)
          rw [HFJ.out] at HPJ
          rw [HRJ.out] at HFJ HPJ
          generalize rs[j] = R at *
          obtain ⟨LL, p, c3⟩ := R
          dsimp only [PC.val] at d0 HFJ HPJ HRR hLL
          rw [List.length_append, ringSd_len] at HPJ
          have HRT := Lib.hid (fun n h => ringSd_take i j LL n h)
          have HRL0 : Hid (SI ++ faceSd i rk j ++ (ringSd i j LL).take 0 = SI ++ faceSd i rk j) := Lib.hid (by simp)
          have HRLN : Hid (SI ++ faceSd i rk j ++ (ringSd i j LL).take LL.length = SI ++ faceSd i rk (j + 1)) := Lib.hid (by
            rw [HFJ.out, List.take_of_length_le (by rw [ringSd_len]; omega), List.append_assoc])
          have HLEN : Hid ((SI ++ faceSd i rk j).length ≤ 1000000 - LL.length) := Lib.hid (by rw [List.length_append]; omega)
          have hP0 : (SI ++ faceSd i rk j).length + LL.length ≤ 1000000 := by rw [List.length_append]; omega
          generalize SI ++ faceSd i rk j = SJ at *
          clear HPJ HLEN
          have d1 := (hbl2.cell (p := ⟨b2, o2 + j, none⟩) hb2).trans d0
          clear d0
          go_wp2
          go_loopw [3, 7] (fun o n W => ∃ (m : Nat), m ≤ LL.length ∧ n = .int .i64 m ∧ Hid (W.ownsRow w.heap.size 42 6 o (SJ ++ (ringSd i j LL).take m).length (sds (SJ ++ (ringSd i j LL).take m))) ∧ Below w.heap.size w W) (fun _ n _ => LL.length - (intOf n).toNat)
          case atStart => exact ⟨0, by omega, rfl, Lib.hid (by rw [HRL0.out]; exact HO2.out), hbl2⟩
          case round =>
            obtain ⟨m, hm, rfl, HO3, hbl3⟩ := hrel
            by_cases q3 : m < LL.length
            · have q3' : (m : Int) < (LL.length : Int) := by omega
              obtain ⟨q, hq⟩ : ∃ q, (m + 1) % LL.length = q := ⟨_, rfl⟩
              have hql : q < LL.length := by rw [← hq]; exact Nat.mod_lt _ (by omega)
              obtain ⟨b3, o3, rfl, hb3w, e0w, e1w⟩ := (HRR.out).pt m q3
              obtain ⟨b3', o3', e, hb3', f0w, f1w⟩ := (HRR.out).pt q hql
              cases e
              have hRT := HRT.out m q3
              simp only [hq] at hRT
              have hrem : ((m : Int) + 1) % (LL.length : Int) = (q : Int) := by rw [← hq]; simp
              have hrem2 : (IntKind.i64.wrap ((m : Int) + 1)).tmod (LL.length : Int) = (q : Int) := by
                rw [IntWalk.i64_in _ (by omega), Int.tmod_eq_emod_of_nonneg (by omega)]
                exact hrem
              generalize LL[m] = p1 at *
              generalize LL[q] = p2 at *
              have q0 : (0 : Int) ≤ (q : Int) ∧ (q : Int) < (LL.length : Int) := by omega
              have hnil : ¬ LL = [] := by intro h; rw [h] at q3; simp at q3
              have hln : ¬ LL.length = 0 := by omega
              obtain ⟨x1, y1⟩ := p1
              obtain ⟨x2, y2⟩ := p2
              dsimp only at e0w e1w f0w f1w
              have HRX : Hid (SJ ++ (ringSd i j LL).take (m + 1) = (SJ ++ (ringSd i j LL).take m) ++ [⟨i, j, ⟨x1, y1⟩, ⟨x2, y2⟩⟩]) := Lib.hid (by rw [hRT, List.append_assoc])
              have hPm : (SJ ++ (ringSd i j LL).take m).length ≤ 1000000 := by rw [List.length_append, List.length_take, ringSd_len]; omega
              clear hRT
              generalize SJ ++ (ringSd i j LL).take m = SM at *
              obtain ⟨SN, hSN⟩ : ∃ n, SM.length = n := ⟨_, rfl⟩
              have HSN := Lib.hid hSN
              have HO4 := Lib.hid (by have := HO3.out; rw [hSN] at this; exact this)
              rw [hSN] at hPm
              clear hSN
              have ho3 := HO4.out
              clear HO3 HO4
              have HSD : Hid (sds SM ++ [.int .i64 i, .int .i64 j, .int .i64 x1, .int .i64 y1, .int .i64 x2, .int .i64 y2] = sds (SM ++ [⟨i, j, ⟨x1, y1⟩, ⟨x2, y2⟩⟩])) := Lib.hid (by rw [sds_snoc]; rfl)
              go_wp2
              refine wp_region_lit_txt [0, 1, 2, 3, 4, 5, 6, 7, 8, 9, 10, 11, 12, 13, 14, 15, 18] (fun W => Below w.heap.size w W) (by kernel_rfl) (by kernel_rfl) (by kernel_rfl) (hbl3.drew) ?_
              (refine txt_light ?_ rfl rfl ?_ ?_; rotate_left; · (intro w' hS; (try dsimp only at hS); go_simp; with_reducible rfl)); try simp only [Act.put, List.getElem_toArray, List.getElem_cons_succ, List.getElem_cons_zero, List.setIfInBounds_toArray, List.set_cons_zero, List.set_cons_succ]
              (refine txt_light ?_ rfl rfl ?_ ?_; rotate_left; · (intro w' hS; (try dsimp only at hS); go_simp; with_reducible rfl)); try simp only [Act.put, List.getElem_toArray, List.getElem_cons_succ, List.getElem_cons_zero, List.setIfInBounds_toArray, List.set_cons_zero, List.set_cons_succ]
              (refine txt_light ?_ rfl rfl ?_ ?_; rotate_left; · (intro w' hS; (try dsimp only at hS); go_simp; with_reducible rfl)); try simp only [Act.put, List.getElem_toArray, List.getElem_cons_succ, List.getElem_cons_zero, List.setIfInBounds_toArray, List.set_cons_zero, List.set_cons_succ]
              (refine txt_light ?_ rfl rfl ?_ ?_; rotate_left; · (intro w' hS; (try dsimp only at hS); go_simp; with_reducible rfl)); try simp only [Act.put, List.getElem_toArray, List.getElem_cons_succ, List.getElem_cons_zero, List.setIfInBounds_toArray, List.set_cons_zero, List.set_cons_succ]
              (refine txt_light ?_ rfl rfl ?_ ?_; rotate_left; · (intro w' hS; (try dsimp only at hS); go_simp; with_reducible rfl)); try simp only [Act.put, List.getElem_toArray, List.getElem_cons_succ, List.getElem_cons_zero, List.setIfInBounds_toArray, List.set_cons_zero, List.set_cons_succ]
              (refine txt_light ?_ rfl rfl ?_ ?_; rotate_left; · (intro w' hS; (try dsimp only at hS); go_simp; with_reducible rfl)); try simp only [Act.put, List.getElem_toArray, List.getElem_cons_succ, List.getElem_cons_zero, List.setIfInBounds_toArray, List.set_cons_zero, List.set_cons_succ]
              refine txt_light (.agg #[.int .i64 x1, .int .i64 y1]) rfl rfl ?_ ?_
              · intro w' hS
                have g0 := (hS.cell (p := ⟨b3, o3 + m * 2, none⟩) hb3w).trans e0w
                have g1 := (hS.cell (p := ⟨b3, o3 + m * 2 + 1, none⟩) hb3w).trans e1w
                clear hS
                go_simp
              try simp only [Act.put, List.getElem_toArray, List.getElem_cons_succ, List.getElem_cons_zero, List.setIfInBounds_toArray, List.set_cons_zero, List.set_cons_succ]
              (refine txt_light ?_ rfl rfl ?_ ?_; rotate_left; · (intro w' hS; (try dsimp only at hS); go_simp; with_reducible rfl)); try simp only [Act.put, List.getElem_toArray, List.getElem_cons_succ, List.getElem_cons_zero, List.setIfInBounds_toArray, List.set_cons_zero, List.set_cons_succ]
              (refine txt_light ?_ rfl rfl ?_ ?_; rotate_left; · (intro w' hS; (try dsimp only at hS); go_simp; with_reducible rfl)); try simp only [Act.put, List.getElem_toArray, List.getElem_cons_succ, List.getElem_cons_zero, List.setIfInBounds_toArray, List.set_cons_zero, List.set_cons_succ]
              (refine txt_light ?_ rfl rfl ?_ ?_; rotate_left; · (intro w' hS; (try dsimp only at hS); go_simp; with_reducible rfl)); try simp only [Act.put, List.getElem_toArray, List.getElem_cons_succ, List.getElem_cons_zero, List.setIfInBounds_toArray, List.set_cons_zero, List.set_cons_succ]
              (refine txt_light ?_ rfl rfl ?_ ?_; rotate_left; · (intro w' hS; (try dsimp only at hS); go_simp; with_reducible rfl)); try simp only [Act.put, List.getElem_toArray, List.getElem_cons_succ, List.getElem_cons_zero, List.setIfInBounds_toArray, List.set_cons_zero, List.set_cons_succ]
              (refine txt_light ?_ rfl rfl ?_ ?_; rotate_left; · (intro w' hS; (try dsimp only at hS); go_simp; with_reducible rfl)); try simp only [Act.put, List.getElem_toArray, List.getElem_cons_succ, List.getElem_cons_zero, List.setIfInBounds_toArray, List.set_cons_zero, List.set_cons_succ]
              refine txt_light (.int .i64 q) rfl rfl ?_ ?_
              · intro w' hS
                clear hS
                go_simp
              try simp only [Act.put, List.getElem_toArray, List.getElem_cons_succ, List.getElem_cons_zero, List.setIfInBounds_toArray, List.set_cons_zero, List.set_cons_succ]
              (refine txt_light ?_ rfl rfl ?_ ?_; rotate_left; · (intro w' hS; (try dsimp only at hS); go_simp; with_reducible rfl)); try simp only [Act.put, List.getElem_toArray, List.getElem_cons_succ, List.getElem_cons_zero, List.setIfInBounds_toArray, List.set_cons_zero, List.set_cons_succ]
              refine txt_light (.agg #[.int .i64 x2, .int .i64 y2]) rfl rfl ?_ ?_
              · intro w' hS
                have g0 := (hS.cell (p := ⟨b3, o3 + q * 2, none⟩) hb3w).trans f0w
                have g1 := (hS.cell (p := ⟨b3, o3 + q * 2 + 1, none⟩) hb3w).trans f1w
                clear hS
                go_simp
              try simp only [Act.put, List.getElem_toArray, List.getElem_cons_succ, List.getElem_cons_zero, List.setIfInBounds_toArray, List.set_cons_zero, List.set_cons_succ]
              refine txt_light (.agg #[.int .i64 i, .int .i64 j, .int .i64 x1, .int .i64 y1, .int .i64 x2, .int .i64 y2]) rfl rfl ?_ ?_
              · intro w' hS
                clear hS
                go_simp
              try simp only [Act.put, List.getElem_toArray, List.getElem_cons_succ, List.getElem_cons_zero, List.setIfInBounds_toArray, List.set_cons_zero, List.set_cons_succ]
              have ho0 : wr.drew.ownsRow w.heap.size 42 6 u3 SN (sds SM) := ho3
              have hbd : Below w.heap.size w wr.drew := hbl3.drew
              generalize wr.drew = W1 at *
              refine txt_heavy rfl rfl (fun K hK => ?_)
              go_step
              have ho2 := ho0.below (Below.new W1 (.cells #[.int .i64 i, .int .i64 j, .int .i64 x1, .int .i64 y1, .int .i64 x2, .int .i64 y2] 42))
              have hb2 := hbd.alloc hbd.size (.cells #[.int .i64 i, .int .i64 j, .int .i64 x1, .int .i64 y1, .int .i64 x2, .int .i64 y2] 42)
              have rd := Rd.lit W1 W1.heap.size [.int .i64 i, .int .i64 j, .int .i64 x1, .int .i64 y1, .int .i64 x2, .int .i64 y2] 42 rfl
              refine hK.out _ _ hb2 ?_
              clear hK K ho0 hbd
              generalize W1.alloc (.cells #[.int .i64 i, .int .i64 j, .int .i64 x1, .int .i64 y1, .int .i64 x2, .int .i64 y2] 42) = W2 at *
              try simp only [Act.put, List.getElem_toArray, List.getElem_cons_succ, List.getElem_cons_zero, List.setIfInBounds_toArray, List.set_cons_zero, List.set_cons_succ]
              refine txt_app w hb2 rfl rfl (.tmp 38) (.tmp 54) 31 rfl 42 (.agg #[.int .i64 0, .int .i64 0, .int .i64 0, .int .i64 0, .int .i64 0, .int .i64 0]) 6 48 Try.underlying31 Try.infoRS rfl (by decide) u3 SN (sds SM) rfl ho2 (some ⟨W1.heap.size, 0, none⟩) 1 1 [.int .i64 i, .int .i64 j, .int .i64 x1, .int .i64 y1, .int .i64 x2, .int .i64 y2] rfl (fun h => by cases h) rd rfl (by simp [Value.oneCell']) (by omega) (by decide) ?_
              intro v3 W3 ho4 hg3 hb4
              refine ⟨hb4, ?_⟩
              try simp only [Act.put, List.getElem_toArray, List.getElem_cons_succ, List.getElem_cons_zero, List.setIfInBounds_toArray, List.set_cons_zero, List.set_cons_succ]
              (refine txt_light ?_ rfl rfl ?_ ?_; rotate_left; · (intro w' hS; (try dsimp only at hS); go_simp; with_reducible rfl)); try simp only [Act.put, List.getElem_toArray, List.getElem_cons_succ, List.getElem_cons_zero, List.setIfInBounds_toArray, List.set_cons_zero, List.set_cons_succ]
              refine txt_nil ?_
              rw [HSD.out] at ho4
              clear ho2 hb2 hg3 rd ho3
              have HO9 : Hid (W3.ownsRow w.heap.size 42 6 v3 (SJ ++ (ringSd i j LL).take (m + 1)).length (sds (SJ ++ (ringSd i j LL).take (m + 1)))) := Lib.hid (by rw [HRX.out, List.length_append, HSN.out]; exact ho4)
              clear ho4
              go_wp2
              exact ⟨⟨m + 1, by omega, by go_num, HO9, hb4⟩, by simp [intOf]; omega⟩
            · have hmL : m = LL.length := by omega
              subst hmL
              have h := HO3.out
              rw [HRLN.out] at h
              have HO9 := Lib.hid h
              clear h
              go_wp2
              exact ⟨⟨j + 1, by omega, by go_num, HO9, hbl3⟩, by simp [intOf]; omega⟩
        · have hjM : j = M := by omega
          subst hjM
          have h := HO2.out
          rw [← HSI.out] at h
          have HO9 := Lib.hid h
          clear h
          go_wp2
          exact ⟨⟨i + 1, by omega, by go_num, HO9, hbl2⟩, by simp [intOf]; omega⟩
    · obtain rfl : i = N := by omega
      have h := HO.out
      rw [HAL.out] at h
      have HO := Lib.hid h
      clear h
      go_wp2
      go_ret
      exact ⟨_, rfl, HO.out, hbl⟩
end Go.Proofs.Ytebplobagmjfeaa
/- A map of strings to bools that the call makes: a set of strings. -/
set_option linter.unusedVariables false
set_option linter.unusedSimpArgs false
namespace Go
open Go.RowKit
open Go.Maps (Keyed IsMap string_keyed)
/-- Block b is a map that says yes at these strings, and holds no others. -/
def StrSet (P : Program) (K E : TypeId) (w : World) (b n : Nat) (ks : List (List UInt8)) : Prop :=
  ∃ D : DataW Unit, w.ownsMap P K (plainElem P E) b n D ∧ IsMap D ∧ ∀ s : ByteArray, D.atKey (.string s.data.toList) (.lit (.bool false)) = .lit (.bool (decide (s.data.toList ∈ ks)))
theorem StrSet.made (P : Program) (K E : TypeId) (w : World) : StrSet P K E (w.alloc (.map #[] 0)) w.heap.size 0 [] :=
  ⟨.map [], World.ownsMap_made w P K _, ⟨[], rfl⟩, fun s => by simp [DataW.atKey]⟩
theorem StrSet.below {P : Program} {K E : TypeId} {w w' : World} {b n : Nat} {ks : List (List UInt8)} (h : StrSet P K E w b n ks) (hb : Below w.heap.size w w') : StrSet P K E w' b n ks := by
  obtain ⟨D, hD, hm, hk⟩ := h
  have hl := hD.lt
  obtain ⟨es, clock, he, r⟩ := hD
  exact ⟨D, ⟨es, clock, (hb.block b hl).trans he, r⟩, hm, hk⟩
theorem StrSet.lt {P : Program} {K E : TypeId} {w : World} {b n : Nat} {ks : List (List UInt8)} (h : StrSet P K E w b n ks) : b < w.heap.size := by
  obtain ⟨D, hD, -⟩ := h
  exact hD.lt
theorem StrSet.look {P : Program} {K E T : TypeId} {w : World} {b n : Nat} {ks : List (List UInt8)} (h : StrSet P K E w b n ks) (ht : P.underlying T = some (.map K E)) (hK : P.underlying K = some .string) (hE : P.underlying E = some .bool) (hz : (zeroValue E).run P w = .ok (.bool false) w) (s : ByteArray) (hs : s.size ≤ maxLen) :
    (Instr.lookup T (.map (some b)) (.string s) false).run P w = .ok (.bool (decide (s.data.toList ∈ ks))) w := by
  obtain ⟨D, hD, hm, hk⟩ := h
  obtain ⟨v, ps, hrun, hv⟩ := hD.lookup (string_keyed hK) ht hz (plainElem_bool hE false) (WideMaps.keyOf_string_mk hK hs)
  rw [hk] at hv
  have : v = .bool (decide (s.data.toList ∈ ks)) := by
    unfold plainElem at hv
    rw [hE] at hv
    cases v <;> simp at hv
    obtain ⟨h1, -⟩ := hv
    rw [h1]
  rw [hrun, this]
theorem wpList_set_add {P : Program} {K E T : TypeId} (w : World) {ops : Array Oper} {rest : List Oper} {o : Oper} {a : Act} {Q : Exit → Act → World → Prop}
    (hg : o.guard = none) (m x v : Operand) (hop : o.op = Op.mapUpdate T m x v) (ht : P.underlying T = some (.map K E)) (hK : P.underlying K = some .string) (hE : P.underlying E = some .bool) (b n : Nat) (ks : List (List UInt8))
    (hm : a.eval m = .map (some b)) (hown : StrSet P K E w b n ks) (hn : n < maxLen) (s : ByteArray) (hs : s.size ≤ maxLen) (hx : a.eval x = .string s) (hv : a.eval v = .bool true)
    (hk : ∀ w', StrSet P K E w' b (n + 1) (s.data.toList :: ks) → w.grownBy w' (some b) → wpList P ops Q rest (a.put o.dst undef) w') :
    wpList P ops Q (o :: rest) a w := by
  obtain ⟨D, hD, hmap, hat⟩ := hown
  refine wpList_mapUpdate_own w hg m x v T hop K E (string_keyed hK) ht (plainElem P E) b n D hm hD hn (.string s) (.bool true) (.string s.data.toList) hx hv (WideMaps.keyOf_string_mk hK hs) (.lit (.bool true)) [] (plainElem_bool hE true) ?_
  intro w' h1 h2
  refine hk w' ⟨_, h1, hmap.put _ _, fun s' => ?_⟩ h2
  by_cases he : s'.data.toList = s.data.toList
  · rw [he, Maps.atKey_put_same hmap (by trivial)]
    simp
  · rw [Maps.atKey_put_other (by
      intro h
      apply he
      injection h), hat]
    simp [he]
end Go
/- Runes of a text: the model's decoding and the document's first rune, in plain terms. -/
set_option linter.unusedVariables false
set_option linter.unusedSimpArgs false
namespace Go
open Go.RowKit
/-- The byte at a place, as a number. -/
def byt (s : ByteArray) (i : Nat) : Nat := (s.get! i).toNat
theorem byt_lt (s : ByteArray) (i : Nat) : byt s i < 256 := (s.get! i).toNat_lt
/-- Is there a byte that goes on with a rune? -/
def cont (s : ByteArray) (i : Nat) : Bool := decide (i < s.size) && decide (128 ≤ byt s i) && decide (byt s i < 192)
/-- Where no rune begins. -/
def badAt (s : ByteArray) (i : Nat) : Bool := decide (Utf8.decode s i = (65533, 1))
/-- The document's first rune from a place on, and how many bytes it has; (0, 0): there is none. -/
def firstF (s : ByteArray) (i : Nat) : Nat × Nat := if badAt s i then (0, 0) else Utf8.decode s i
theorem cont_eq (s : ByteArray) (i : Nat) : (decide (i < s.size) && ((s.get! i).toNat / 64 == 2)) = cont s i := by
  have h := byt_lt s i
  unfold cont byt at *
  rw [Bool.and_assoc]
  congr 1
  rw [Bool.eq_iff_iff]
  simp
  omega
theorem decode_eq (s : ByteArray) (i : Nat) : Utf8.decode s i =
    (if byt s i < 128 then (byt s i, 1)
     else if 192 ≤ byt s i ∧ byt s i < 224 ∧ cont s (i + 1) = true then (if 128 ≤ (byt s i - 192) * 64 + (byt s (i + 1) - 128) then ((byt s i - 192) * 64 + (byt s (i + 1) - 128), 2) else (65533, 1))
     else if 224 ≤ byt s i ∧ byt s i < 240 ∧ cont s (i + 1) = true ∧ cont s (i + 2) = true then
       (if 2048 ≤ (byt s i - 224) * 4096 + (byt s (i + 1) - 128) * 64 + (byt s (i + 2) - 128) ∧ ¬ (55296 ≤ (byt s i - 224) * 4096 + (byt s (i + 1) - 128) * 64 + (byt s (i + 2) - 128) ∧ (byt s i - 224) * 4096 + (byt s (i + 1) - 128) * 64 + (byt s (i + 2) - 128) ≤ 57343)
        then ((byt s i - 224) * 4096 + (byt s (i + 1) - 128) * 64 + (byt s (i + 2) - 128), 3) else (65533, 1))
     else if 240 ≤ byt s i ∧ byt s i < 248 ∧ cont s (i + 1) = true ∧ cont s (i + 2) = true ∧ cont s (i + 3) = true then
       (if 65536 ≤ (byt s i - 240) * 262144 + (byt s (i + 1) - 128) * 4096 + (byt s (i + 2) - 128) * 64 + (byt s (i + 3) - 128) ∧ (byt s i - 240) * 262144 + (byt s (i + 1) - 128) * 4096 + (byt s (i + 2) - 128) * 64 + (byt s (i + 3) - 128) ≤ 1114111
        then ((byt s i - 240) * 262144 + (byt s (i + 1) - 128) * 4096 + (byt s (i + 2) - 128) * 64 + (byt s (i + 3) - 128), 4) else (65533, 1))
     else (65533, 1)) := by
  have h0 := byt_lt s i
  have h1 := byt_lt s (i + 1)
  have h2 := byt_lt s (i + 2)
  have h3 := byt_lt s (i + 3)
  unfold Utf8.decode
  simp only [cont_eq, Nat.add_zero, Utf8.runeError]
  show (if (byt s i) < 128 then _ else _) = _
  have hm : ∀ k, cont s k = true → 128 ≤ byt s k ∧ byt s k < 192 := by
    intro k h
    unfold cont at h
    simp only [Bool.and_eq_true, decide_eq_true_eq] at h
    omega
  by_cases c0 : byt s i < 128
  · rw [if_pos c0, if_pos c0]; rfl
  rw [if_neg c0, if_neg c0]
  by_cases c1 : 192 ≤ byt s i ∧ byt s i < 224 ∧ cont s (i + 1) = true
  · rw [if_pos c1]
    have d1 : ((s.get! i).toNat / 32 == 6 && cont s (i + 1)) = true := by
      rw [c1.2.2, Bool.and_true, beq_iff_eq]; show byt s i / 32 = 6; omega
    rw [if_pos d1]
    have := hm _ c1.2.2
    show (if byt s i % 32 * 64 + byt s (i + 1) % 64 ≥ 128 then (byt s i % 32 * 64 + byt s (i + 1) % 64, 2) else (65533, 1)) = _
    rw [show byt s i % 32 * 64 + byt s (i + 1) % 64 = (byt s i - 192) * 64 + (byt s (i + 1) - 128) by omega]
  · rw [if_neg c1]
    have d1 : ¬ ((s.get! i).toNat / 32 == 6 && cont s (i + 1)) = true := by
      intro h
      rw [Bool.and_eq_true, beq_iff_eq] at h
      have hb : byt s i / 32 = 6 := h.1
      exact c1 ⟨by omega, by omega, h.2⟩
    rw [if_neg d1]
    by_cases c2 : 224 ≤ byt s i ∧ byt s i < 240 ∧ cont s (i + 1) = true ∧ cont s (i + 2) = true
    · rw [if_pos c2]
      have d2 : ((s.get! i).toNat / 16 == 14 && cont s (i + 1) && cont s (i + 2)) = true := by
        rw [c2.2.2.1, c2.2.2.2, Bool.and_true, Bool.and_true, beq_iff_eq]; show byt s i / 16 = 14; omega
      rw [if_pos d2]
      have e1 := hm _ c2.2.2.1
      have e2 := hm _ c2.2.2.2
      show (if (decide (byt s i % 16 * 4096 + byt s (i + 1) % 64 * 64 + byt s (i + 2) % 64 ≥ 2048) && Utf8.valid ((byt s i % 16 * 4096 + byt s (i + 1) % 64 * 64 + byt s (i + 2) % 64 : Nat) : Int)) = true then (byt s i % 16 * 4096 + byt s (i + 1) % 64 * 64 + byt s (i + 2) % 64, 3) else (65533, 1)) = _
      rw [show byt s i % 16 * 4096 + byt s (i + 1) % 64 * 64 + byt s (i + 2) % 64 = (byt s i - 224) * 4096 + (byt s (i + 1) - 128) * 64 + (byt s (i + 2) - 128) by omega]
      have hb : (byt s i - 224) * 4096 + (byt s (i + 1) - 128) * 64 + (byt s (i + 2) - 128) < 65536 := by omega
      generalize (byt s i - 224) * 4096 + (byt s (i + 1) - 128) * 64 + (byt s (i + 2) - 128) = r at *
      congr 1
      rw [Bool.and_eq_true]
      simp only [Utf8.valid, decide_eq_true_eq, Bool.or_eq_true, Bool.and_eq_true, ge_iff_le, eq_iff_iff]
      omega
    · rw [if_neg c2]
      have d2 : ¬ ((s.get! i).toNat / 16 == 14 && cont s (i + 1) && cont s (i + 2)) = true := by
        intro h
        rw [Bool.and_eq_true, Bool.and_eq_true, beq_iff_eq] at h
        have hb : byt s i / 16 = 14 := h.1.1
        exact c2 ⟨by omega, by omega, h.1.2, h.2⟩
      rw [if_neg d2]
      by_cases c3 : 240 ≤ byt s i ∧ byt s i < 248 ∧ cont s (i + 1) = true ∧ cont s (i + 2) = true ∧ cont s (i + 3) = true
      · rw [if_pos c3]
        have d3 : ((s.get! i).toNat / 8 == 30 && cont s (i + 1) && cont s (i + 2) && cont s (i + 3)) = true := by
          rw [c3.2.2.1, c3.2.2.2.1, c3.2.2.2.2, Bool.and_true, Bool.and_true, Bool.and_true, beq_iff_eq]; show byt s i / 8 = 30; omega
        rw [if_pos d3]
        have e1 := hm _ c3.2.2.1
        have e2 := hm _ c3.2.2.2.1
        have e3 := hm _ c3.2.2.2.2
        show (if (decide (byt s i % 8 * 262144 + byt s (i + 1) % 64 * 4096 + byt s (i + 2) % 64 * 64 + byt s (i + 3) % 64 ≥ 65536) && Utf8.valid ((byt s i % 8 * 262144 + byt s (i + 1) % 64 * 4096 + byt s (i + 2) % 64 * 64 + byt s (i + 3) % 64 : Nat) : Int)) = true then (byt s i % 8 * 262144 + byt s (i + 1) % 64 * 4096 + byt s (i + 2) % 64 * 64 + byt s (i + 3) % 64, 4) else (65533, 1)) = _
        rw [show byt s i % 8 * 262144 + byt s (i + 1) % 64 * 4096 + byt s (i + 2) % 64 * 64 + byt s (i + 3) % 64 = (byt s i - 240) * 262144 + (byt s (i + 1) - 128) * 4096 + (byt s (i + 2) - 128) * 64 + (byt s (i + 3) - 128) by omega]
        generalize (byt s i - 240) * 262144 + (byt s (i + 1) - 128) * 4096 + (byt s (i + 2) - 128) * 64 + (byt s (i + 3) - 128) = r at *
        congr 1
        rw [Bool.and_eq_true]
        simp only [Utf8.valid, decide_eq_true_eq, Bool.or_eq_true, Bool.and_eq_true, ge_iff_le, eq_iff_iff]
        omega
      · rw [if_neg c3]
        have d3 : ¬ ((s.get! i).toNat / 8 == 30 && cont s (i + 1) && cont s (i + 2) && cont s (i + 3)) = true := by
          intro h
          rw [Bool.and_eq_true, Bool.and_eq_true, Bool.and_eq_true, beq_iff_eq] at h
          have hb : byt s i / 8 = 30 := h.1.1.1
          exact c3 ⟨by omega, by omega, h.1.1.2, h.1.2, h.2⟩
        rw [if_neg d3]
end Go
/- text.bad; plain: where no rune begins. -/
set_option linter.unusedVariables false
set_option linter.unusedSimpArgs false
namespace Go
open Go.RowKit
theorem get_lt {s : ByteArray} {i : Nat} (h : i < s.size) : s.data.toList[i]? = some (s.get! i) := by
  rw [Array.getElem?_toList]
  have : s.get! i = s.data[i]'h := by
    show s.data[i]! = _
    rw [getElem!_pos s.data i h]
  rw [this, Array.getElem?_eq_getElem h]
theorem ext_size (s : ByteArray) (i : Nat) : (s.extract i s.size).size = s.size - i := by
  simp [ByteArray.size_extract]
theorem ext_get (s : ByteArray) (i k : Nat) (h : i + k < s.size) : (s.extract i s.size).get! k = s.get! (i + k) := by
  have h1 : k < (s.extract i s.size).size := by rw [ext_size]; omega
  have e1 := get_lt h1
  have e2 := get_lt h
  have : (s.extract i s.size).data.toList[k]? = s.data.toList[i + k]? := by
    rw [Array.getElem?_toList, Array.getElem?_toList, ByteArray.data_extract, Array.getElem?_extract]
    have hs : s.data.size = s.size := rfl
    rw [hs, Nat.min_self, if_pos (by omega)]
  rw [this, e2] at e1
  exact (Option.some.inj e1).symm
theorem byt_out {s : ByteArray} {i : Nat} (h : ¬ i < s.size) : byt s i = 0 := by
  unfold byt
  have : s.get! i = default := by
    show s.data[i]! = _
    rw [getElem!_neg s.data i h]
  rw [this]; rfl
theorem ext_byt (s : ByteArray) (i k : Nat) : byt (s.extract i s.size) k = byt s (i + k) := by
  by_cases h : i + k < s.size
  · unfold byt; rw [ext_get s i k h]
  · rw [byt_out h, byt_out (by rw [ext_size]; omega)]
theorem ext_cont (s : ByteArray) (i k : Nat) : cont (s.extract i s.size) k = cont s (i + k) := by
  unfold cont
  rw [ext_byt, ext_size]
  by_cases h : i + k < s.size
  · simp [h, show k < s.size - i by omega]
  · simp [h, show ¬ k < s.size - i by omega]
theorem ext_decode (s : ByteArray) (i k : Nat) : Utf8.decode (s.extract i s.size) k = Utf8.decode s (i + k) := by
  rw [decode_eq, decode_eq]
  simp only [ext_byt, ext_cont, Nat.add_assoc]
theorem ext_bad (s : ByteArray) (i k : Nat) : badAt (s.extract i s.size) k = badAt s (i + k) := by
  unfold badAt; rw [ext_decode]
theorem ext_first (s : ByteArray) (i k : Nat) : firstF (s.extract i s.size) k = firstF s (i + k) := by
  unfold firstF; rw [ext_bad, ext_decode]
theorem cont_iff (s : ByteArray) (i : Nat) : cont s i = true ↔ i < s.size ∧ 128 ≤ byt s i ∧ byt s i < 192 := by
  unfold cont
  simp only [Bool.and_eq_true, decide_eq_true_eq, and_assoc]
/-- How far a rune goes. -/
theorem decode_wid {s : ByteArray} {i : Nat} (h : i < s.size) : 1 ≤ (Utf8.decode s i).2 ∧ i + (Utf8.decode s i).2 ≤ s.size ∧ (Utf8.decode s i).2 ≤ 4 ∧ (Utf8.decode s i).1 ≤ 1114111 := by
  have h0 := byt_lt s i
  have c1 := cont_iff s (i + 1)
  have c2 := cont_iff s (i + 2)
  have c3 := cont_iff s (i + 3)
  rw [decode_eq]
  repeat' split
  all_goals simp_all
  all_goals omega
/-- Where the replacement's bytes stand, its rune is told; it is told elsewhere for what is none. -/
theorem bad_iff {s : ByteArray} {i : Nat} (h : i < s.size) : badAt s i = true ↔ (Utf8.decode s i).1 = 65533 ∧ ¬ (byt s i = 239 ∧ byt s (i + 1) = 191 ∧ byt s (i + 2) = 189) := by
  have h0 := byt_lt s i
  have c1 := cont_iff s (i + 1)
  have c2 := cont_iff s (i + 2)
  have c3 := cont_iff s (i + 3)
  have o1 : ¬ i + 1 < s.size → byt s (i + 1) = 0 := byt_out
  have o2 : ¬ i + 2 < s.size → byt s (i + 2) = 0 := byt_out
  unfold badAt
  rw [decide_eq_true_eq, decode_eq]
  repeat' split
  all_goals simp_all
  all_goals omega
theorem isPrefixOf_three (l : List UInt8) (a b c : UInt8) : [a, b, c].isPrefixOf l = (decide (l[0]? = some a) && decide (l[1]? = some b) && decide (l[2]? = some c)) := by
  match l with
  | [] => simp [List.isPrefixOf]
  | [x] => simp [List.isPrefixOf]
  | [x, y] => simp [List.isPrefixOf]
  | x :: y :: z :: t =>
    simp only [List.isPrefixOf, Bool.and_true, List.getElem?_cons_zero, List.getElem?_cons_succ, Option.some.injEq, Bool.and_assoc]
    rw [Bool.eq_iff_iff]
    simp only [Bool.and_eq_true, beq_iff_eq, decide_eq_true_eq]
    constructor <;> (rintro ⟨rfl, rfl, rfl⟩; exact ⟨rfl, rfl, rfl⟩)
theorem get_byt {s : ByteArray} {i : Nat} {b : UInt8} : s.data.toList[i]? = some b ↔ i < s.size ∧ byt s i = b.toNat := by
  by_cases h : i < s.size
  · rw [get_lt h]
    simp only [Option.some.injEq, h, true_and]
    unfold byt
    exact ⟨fun e => by rw [e], fun e => UInt8.toNat_inj.1 e⟩
  · have : s.data.toList[i]? = none := by rw [Array.getElem?_toList]; exact Array.getElem?_eq_none (Nat.le_of_not_lt h)
    rw [this]
    simp [h]
theorem pre_fffd (s : ByteArray) (i : Nat) : Lib.hasPrefix (s.extract i s.size).data.toList [239, 191, 189] = decide (byt s i = 239 ∧ byt s (i + 1) = 191 ∧ byt s (i + 2) = 189) := by
  unfold Lib.hasPrefix
  rw [isPrefixOf_three]
  have e : ∀ (k : Nat) (b : UInt8), 0 < b.toNat → ((s.extract i s.size).data.toList[k]? = some b ↔ byt s (i + k) = b.toNat) := by
    intro k b hb
    rw [get_byt, ext_byt, ext_size]
    constructor
    · exact fun h => h.2
    · intro h
      refine ⟨?_, h⟩
      by_cases hk : i + k < s.size
      · omega
      · rw [byt_out hk] at h; omega
  rw [Bool.eq_iff_iff]
  simp only [Bool.and_eq_true, decide_eq_true_eq, e 0 239 (by decide), e 1 191 (by decide), e 2 189 (by decide), Nat.add_zero, and_assoc]
  exact Iff.rfl
end Go
namespace Go.Proofs.Ytebplobagmjfeaa
open Go.RowKit

set_option maxHeartbeats 800000 in
theorem bad_any (s : ByteArray) (i : Nat) (h : i < s.size) (hs : s.size ≤ maxLen) (w : World) :
    Calls Try.prog 78 #[.string s, .int .i64 i, .int .i32 (Utf8.decode s i).1] w fun e w' => e = .returned (.bool (badAt s i)) ∧ w' = w := by
  have hb := bad_iff h
  have hp := pre_fffd s i
  have hi : (i : Int) ≤ (s.size : Int) := by omega
  obtain ⟨X, hX⟩ : ∃ X : Bool, decide (byt s i = 239 ∧ byt s (i + 1) = 191 ∧ byt s (i + 2) = 189) = X := ⟨_, rfl⟩
  have HC : Hid (∀ w, Calls Try.prog 81 #[.string (s.extract i s.size), .string ⟨#[239, 191, 189]⟩] w fun e w' => e = .returned (.bool X) ∧ w' = w) := Lib.hid (fun w => by
    have := Try.strings_HasPrefix (s.extract i s.size) ⟨#[239, 191, 189]⟩ w
    rw [show (⟨#[239, 191, 189]⟩ : ByteArray).data.toList = [239, 191, 189] from rfl, hp, hX] at this
    exact this)
  have HB : Hid ((badAt s i) = (decide ((Utf8.decode s i).1 = 65533) && !X)) := Lib.hid (by
    rw [← hX, Bool.eq_iff_iff, hb, Bool.and_eq_true, Bool.not_eq_true', decide_eq_true_eq, decide_eq_false_iff_not])
  clear hb hp hX
  generalize badAt s i = B at *
  generalize (Utf8.decode s i).1 = r at *
  go_enter Try.func78, Try.ntmps78
  by_cases hr : (r : Int) = 65533
  · have hB : B = !X := by rw [HB.out]; simp; omega
    rw [hr]
    subst hB
    go_wp2_with fail
    refine (HC.out _).mono ?_
    rintro e w1 ⟨rfl, rfl⟩
    go_wp2
    go_ret
    exact ⟨rfl, rfl⟩
  · have hB : B = false := by rw [HB.out]; simp; omega
    subst hB
    have hrb : ((r : Int) == 65533) = false := by simp; omega
    go_wp2
    go_ret
    exact ⟨rfl, rfl⟩
end Go.Proofs.Ytebplobagmjfeaa
