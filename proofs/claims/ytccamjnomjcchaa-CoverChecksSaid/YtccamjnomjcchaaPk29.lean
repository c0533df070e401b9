/-
  graticulelaw12.Ofs. graticuleref12.Count, Sides.
-/
import Derived.Test.YtccamjnomjcchaaPk28
import Derived.Test.YtccamjnomjcchaaPk7
import Derived.Test.YtccamjnomjcchaaPk14
import Derived.Test.YtccamjnomjcchaaPk2
import Derived.Test.YtccamjnomjcchaaPk5
/- graticulelaw12.Ofs. -/
set_option linter.unusedVariables false
set_option linter.unusedSimpArgs false
set_option maxRecDepth 100000
namespace Go.Proofs.Ytccamjnomjcchaa
open Go.RowKit

set_option maxHeartbeats 6400000 in
theorem ofs12_any (a : Option Addr) (c : Nat) (l : List Fc) (hn : l.length ≤ 1000) (hl : ∀ f ∈ l, f.rs.length ≤ 1000 ∧ f.ls.length ≤ 1000 ∧ ∀ r ∈ f.rs, r.l.length ≤ 1000) (w : World) (hr : Rd w a (fcs l)) (hok : ∀ f ∈ l, f.Ok w) :
    Calls Try.prog 9 #[.slice a l.length c] w fun e w' => ∃ (gs : List Fc) (v : Value), e = .returned v ∧ w'.ownsRow w.heap.size 58 2 v gs.length (fcs gs) ∧ (∀ g ∈ gs, RfT w' g) ∧ gs.map Fc.plain = l.map Fc.plain ∧ Below w.heap.size w w' := by
  have HR := Lib.hid hr
  have HOF := Lib.hid (fun (f : Fc) (hf : f ∈ l) W (h : Below w.heap.size w W) => of12_any f (hl f hf).1 (hl f hf).2.2 (hl f hf).2.1 W ((hok f hf).keep h))
  obtain ⟨N, hN⟩ : ∃ N, l.length = N := ⟨_, rfl⟩
  have HN := Lib.hid hN
  have HTA : Hid ((l.take N).map Fc.plain = l.map Fc.plain) := Lib.hid (by rw [← hN, List.take_length])
  rw [hN] at hn ⊢
  clear hr hok hN hl
  go_enter Try.func9, Try.ntmps9
  go_wp2
  go_loopw [3, 4] (fun o i wr => ∃ (k : Nat) (gs : List Fc), k ≤ N ∧ i = .int .i64 k ∧ gs.length = k ∧ wr.ownsRow w.heap.size 58 2 o k (fcs gs) ∧ Hid (∀ g ∈ gs, RfT wr g) ∧ Hid (gs.map Fc.plain = (l.take k).map Fc.plain) ∧ Below w.heap.size w wr) (fun _ i _ => N - (intOf i).toNat)
  case atStart => exact ⟨0, [], by omega, rfl, rfl, World.ownsRow_nil _ _ _ _, Lib.hid (by simp), Lib.hid (by simp), Below.refl _ _⟩
  case round =>
    obtain ⟨k, gs, hk, rfl, hgl, ho, HRT, HPL, hbl⟩ := hrel
    by_cases h1 : k < N
    · have h1' : (k : Int) < (N : Int) := by omega
      have hkl : k < l.length := by rw [HN.out]; exact h1
      obtain ⟨b1, o1, rfl, hbb, c0, c1⟩ := (HR.out.keep hbl).fc k hkl
      have HOK1 := Lib.hid (HOF.out l[k] (List.getElem_mem hkl) wr hbl)
      have HPS : Hid ((l.take (k + 1)).map Fc.plain = (l.take k).map Fc.plain ++ [l[k].plain]) := Lib.hid (by
        rw [List.take_succ_eq_append_getElem hkl, List.map_append, List.map_singleton])
      generalize l[k] = f at *
      obtain ⟨rs, ra, rc, ls, aa, ac⟩ := f
      dsimp only [Fc.val, Fc.rval, Fc.aval] at c0 c1 HOK1
      have hs := hbl.size
      go_wp2_with fail
      refine HOK1.out.mono ?_
      rintro e w1 ⟨g, rfl, hg1, hg2, hg3, hx1⟩
      have hb1 := hbl.trans (hx1.mono hs)
      have ho1 := ho.below hx1
      have HR1 : Hid (∀ x ∈ gs ++ [g], RfT w1 x) := Lib.hid (fun x hx => by
        rcases List.mem_append.1 hx with hx | hx
        · exact (HRT.out x hx).keep hx1
        · rw [List.mem_singleton.1 hx]; exact hg1)
      have HPL2 : Hid ((gs ++ [g]).map Fc.plain = (l.take (k + 1)).map Fc.plain) := Lib.hid (by
        rw [HPS.out, List.map_append, HPL.out]
        congr 1
        simp only [List.map_cons, List.map_nil, Fc.plain, hg2, hg3])
      have HFC : Hid (fcs gs ++ [.slice g.ra g.rs.length g.rc, .slice g.aa g.ls.length g.ac] = fcs (gs ++ [g])) := Lib.hid (by
        rw [fcs_snoc]; rfl)
      have hgl2 : (gs ++ [g]).length = k + 1 := by simp [hgl]
      clear ho hx1 HRT HPL HPS hg1 hg2 hg3 HOK1
      generalize gs ++ [g] = gs2 at *
      obtain ⟨grs, gra, grc, gls, gaa, gac⟩ := g
      dsimp only at HFC ⊢
      generalize grs.length = GL at *
      generalize gls.length = GA at *
      go_wp2_with (at_builtin; go_must (refine wpList_appLit' w hb1 rfl (.tmp 11) (.tmp 17) 24 rfl 58 (.agg #[.slice none 0 0, .slice none 0 0]) 2 48 Try.underlying24 Try.infoRF rfl (by decide) (by decide) u3 k (fcs gs) rfl ho1 1 1 [.slice gra GL grc, .slice gaa GA gac] _ rfl rfl (by simp [Value.oneCell']) (by omega) ?_); intro v9 W9 ho9 hg9 hb9; have HKP := Lib.hid (KeepS.of_row ho1 refS_face hg9); clear hg9 ho1)
      rw [HFC.out] at ho9
      exact ⟨⟨k + 1, gs2, by omega, by go_num, hgl2, ho9, Lib.hid (fun x hx => (HR1.out x hx).keepS HKP.out), HPL2, hb9⟩, by simp [intOf]; omega⟩
    · obtain rfl : k = N := by omega
      have HPL2 : Hid (gs.map Fc.plain = l.map Fc.plain) := Lib.hid (by rw [HPL.out, HTA.out])
      have HO : Hid (wr.ownsRow w.heap.size 58 2 u3 gs.length (fcs gs)) := Lib.hid (by rw [hgl]; exact ho)
      go_wp2
      go_ret
      exact ⟨gs, u3, rfl, HO.out, HRT.out, HPL2.out, hbl⟩
end Go.Proofs.Ytccamjnomjcchaa
/- graticuleref12.Count, Sides. -/
set_option linter.unusedVariables false
set_option linter.unusedSimpArgs false
set_option maxRecDepth 100000
namespace Go
open Go.RowKit
theorem ringSd_len (i k : Nat) (r : List Pt) : (ringSd i k r).length = r.length := by simp [ringSd, edges]
theorem ringSd_take (i k : Nat) (r : List Pt) (n : Nat) (h : n < r.length) : (ringSd i k r).take (n + 1) = (ringSd i k r).take n ++ [⟨i, k, r[n], r[(n + 1) % r.length]'(Nat.mod_lt _ (by omega))⟩] := by
  have hm := Nat.mod_lt (n + 1) (show 0 < r.length by omega)
  have e : (ringSd i k r)[n]? = some ⟨i, k, r[n], r[(n + 1) % r.length]⟩ := by
    unfold ringSd edges
    rw [List.getElem?_map, List.getElem?_map, List.getElem?_range h]
    simp only [Option.map_some]
    rw [getElem!_pos r n h, getElem!_pos r _ hm]
  rw [List.take_add_one, e]; rfl
end Go
namespace Go.Proofs.Ytccamjnomjcchaa
open Go.RowKit
theorem Try.infoRS : (Try.prog.info? 75).map (fun i => (i.zero, i.size, i.bytes)) = some (some (.agg #[.int .i64 0, .int .i64 0, .int .i64 0, .int .i64 0, .int .i64 0, .int .i64 0]), 6, 48) := by kernel_rfl

set_option maxHeartbeats 3200000 in
theorem rcount_any (a : Option Addr) (c : Nat) (L : List Fc) (hlen : L.length ≤ 1000000) (h1 : cntR (L.map Fc.rings) ≤ 1000000) (h2 : cntP (L.map Fc.rings) ≤ 1000000) (w : World) (hr : Rd w a (fcs L)) (hok : ∀ f ∈ L, f.Ok w) :
    Calls Try.prog 35 #[.slice a L.length c] w fun e w' => e = .returned (.tuple #[.int .i64 (cntR (L.map Fc.rings)), .int .i64 (cntP (L.map Fc.rings))]) ∧ w = w' := by
  have HR := Lib.hid hr
  have HOK := Lib.hid hok
  obtain ⟨RL, hRL⟩ : ∃ R, L.map Fc.rings = R := ⟨_, rfl⟩
  have HRL := Lib.hid hRL
  rw [hRL] at h1 h2 ⊢
  obtain ⟨N, hN⟩ : ∃ N, L.length = N := ⟨_, rfl⟩
  have HN := Lib.hid hN
  have HRN : Hid (RL.length = N) := Lib.hid (by rw [← hRL, List.length_map, hN])
  have HTA : Hid (RL.take N = RL) := Lib.hid (by rw [← HRN.out, List.take_length])
  have HBR := Lib.hid (fun k => cntR_take RL k)
  have HBP := Lib.hid (fun k => cntP_take RL k)
  rw [hN] at hlen ⊢
  clear hr hok hN hRL
  go_enter Try.func35, Try.ntmps35
  go_wp2
  go_loopw [4, 5, 6] (fun x y i wr => ∃ k : Nat, k ≤ N ∧ i = .int .i64 k ∧ x = .int .i64 (cntR (RL.take k)) ∧ y = .int .i64 (cntP (RL.take k)) ∧ wr = w) (fun _ _ i _ => N - (intOf i).toNat)
  case atStart => exact ⟨0, by omega, rfl, rfl, rfl, rfl⟩
  case round =>
    obtain ⟨k, hk, rfl, rfl, rfl, rfl⟩ := hrel
    by_cases q1 : k < N
    · have q1' : (k : Int) < (N : Int) := by omega
      have hkl : k < L.length := by rw [HN.out]; exact q1
      have hkr : k < RL.length := by rw [HRN.out]; exact q1
      obtain ⟨b1, o1, rfl, hbb, c0, -⟩ := HR.out.fc k hkl
      have HF := Lib.hid (HOK.out L[k] (List.getElem_mem hkl))
      have HRK : Hid (RL[k] = L[k].rs.map PC.l) := Lib.hid (by
        have h := HRL.out
        subst h
        simp [Fc.rings])
      have HS1 : Hid (cntR (RL.take (k + 1)) = cntR (RL.take k) + RL[k].length) := Lib.hid (cntR_snoc RL k hkr)
      have HS2 : Hid (cntP (RL.take (k + 1)) = cntP (RL.take k) + lenS RL[k]) := Lib.hid (cntP_snoc RL k hkr)
      have b1' := HBR.out (k + 1)
      have b2' := HBP.out (k + 1)
      rw [HS1.out] at b1'
      rw [HS2.out] at b2'
      generalize RL[k] = rk at *
      have HLT := Lib.hid (fun j => lenS_take rk j)
      generalize L[k] = f at *
      obtain ⟨rs, ra, rc, ls, aa, ac⟩ := f
      dsimp only [Fc.rval] at c0 HRK
      obtain ⟨M, hM⟩ : ∃ M, rs.length = M := ⟨_, rfl⟩
      have HM := Lib.hid hM
      have hrk : rk.length = M := by rw [HRK.out, List.length_map, hM]
      have HRKL := Lib.hid hrk
      rw [hrk] at b1' HS1
      rw [hM] at c0
      clear hM hrk
      generalize cntR (RL.take k) = CR at *
      generalize cntP (RL.take k) = CP at *
      have HTB : Hid (lenS (rk.take M) = lenS rk) := Lib.hid (by rw [← HRKL.out, List.take_length])
      go_wp2
      go_loopw [4, 5, 7] (fun x y i W => ∃ j : Nat, j ≤ M ∧ i = .int .i64 j ∧ x = .int .i64 ((CR + j : Nat) : Int) ∧ y = .int .i64 ((CP + lenS (rk.take j) : Nat) : Int) ∧ W = wr) (fun _ _ i _ => M - (intOf i).toNat)
      case atStart => exact ⟨0, by omega, rfl, rfl, rfl, rfl⟩
      case round =>
        obtain ⟨j, hj, rfl, rfl, rfl, rfl⟩ := hrel
        by_cases q2 : j < M
        · have q2' : (j : Int) < (M : Int) := by omega
          have hjl : j < rs.length := by rw [HM.out]; exact q2
          have hjr : j < rk.length := by rw [HRKL.out]; exact q2
          obtain ⟨b2, o2, rfl, hb2, d0⟩ := HF.out.1.1.rc j hjl
          have hS3 : lenS (rk.take (j + 1)) = lenS (rk.take j) + rs[j].l.length := by
            rw [lenS_snoc rk j hjr]
            congr 1
            simp [HRK.out]
          have HS3 := Lib.hid hS3
          have hb3 := HLT.out (j + 1)
          rw [hS3] at hb3
          generalize rs[j] = R at *
          obtain ⟨LL, p, c3⟩ := R
          dsimp only [PC.val] at d0 HS3 hb3
          generalize LL.length = LN at *
          generalize lenS (rk.take j) = LS at *
          clear hS3
          go_wp2
          exact ⟨⟨j + 1, by omega, by go_num, by go_num, by rw [HS3.out]; go_num, by trivial⟩, by simp [intOf]; omega⟩
        · have hjM : j = M := by omega
          subst hjM
          go_wp2
          exact ⟨⟨k + 1, by omega, by go_num, by rw [HS1.out], by rw [HS2.out, HTB.out], by trivial⟩, by simp [intOf]; omega⟩
    · obtain rfl : k = N := by omega
      rw [HTA.out]
      go_wp2
      refine bodyPost_ret (v := .tuple #[.int .i64 (cntR RL), .int .i64 (cntP RL)]) (by simp [results, Try.results35, go_sem]) rfl ⟨rfl, rfl⟩

set_option maxHeartbeats 6400000 in
theorem rsides_any (a : Option Addr) (c : Nat) (L : List Fc) (hlen : L.length ≤ 100000) (hl1 : ∀ f ∈ L, f.rs.length ≤ 100000) (hl2 : ∀ f ∈ L, ∀ r ∈ f.rs, r.l.length ≤ 100000) (hall : (allSd (L.map Fc.rings)).length ≤ 1000000) (w : World) (hr : Rd w a (fcs L)) (hok : ∀ f ∈ L, f.Ok w) :
    Calls Try.prog 37 #[.slice a L.length c] w fun e w' => ∃ v, e = .returned v ∧ w'.ownsRow w.heap.size 75 6 v (allSd (L.map Fc.rings)).length (sds (allSd (L.map Fc.rings))) ∧ Below w.heap.size w w' := by
  have HR := Lib.hid hr
  have HOK := Lib.hid hok
  have HL1 := Lib.hid hl1
  have HL2 := Lib.hid hl2
  obtain ⟨RL, hRL⟩ : ∃ R, L.map Fc.rings = R := ⟨_, rfl⟩
  have HRL := Lib.hid hRL
  rw [hRL] at hall ⊢
  obtain ⟨N, hN⟩ : ∃ N, L.length = N := ⟨_, rfl⟩
  have HN := Lib.hid hN
  have HRN : Hid (RL.length = N) := Lib.hid (by rw [← hRL, List.length_map, hN])
  have HAL : Hid (someSd RL N = allSd RL) := Lib.hid (by unfold allSd; rw [HRN.out])
  have HPRE := Lib.hid (fun n (h : n ≤ N) => (by have := (someSd_pre RL h).length_le; rw [HAL.out] at this; omega : (someSd RL n).length ≤ 1000000))
  have HSS := Lib.hid (fun n => someSd_succ RL n)
  have HS0 : Hid (someSd RL 0 = []) := Lib.hid rfl
  rw [hN] at hlen ⊢
  clear hr hok hN hRL hl1 hl2 hall
  go_enter Try.func37, Try.ntmps37
  go_wp2
  go_loopw [3, 4] (fun o i wr => ∃ (k : Nat), k ≤ N ∧ i = .int .i64 k ∧ Hid (wr.ownsRow w.heap.size 75 6 o (someSd RL k).length (sds (someSd RL k))) ∧ Below w.heap.size w wr) (fun _ i _ => N - (intOf i).toNat)
  case atStart => exact ⟨0, by omega, rfl, Lib.hid (by rw [HS0.out]; exact World.ownsRow_nil _ _ _ _), Below.refl _ _⟩
  case round =>
    obtain ⟨i, hi, rfl, HO, hbl⟩ := hrel
    by_cases q1 : i < N
    · have q1' : (i : Int) < (N : Int) := by omega
      have hkl : i < L.length := by rw [HN.out]; exact q1
      have hkr : i < RL.length := by rw [HRN.out]; exact q1
      obtain ⟨b1, o1, rfl, hbb, c0, -⟩ := HR.out.fc i hkl
      have HF := Lib.hid (HOK.out L[i] (List.getElem_mem hkl))
      have HF1 := HL1.out L[i] (List.getElem_mem hkl)
      have HF2 := Lib.hid (HL2.out L[i] (List.getElem_mem hkl))
      have HRK : Hid (RL[i]! = L[i].rs.map PC.l) := Lib.hid (by
        rw [getElem!_pos RL i hkr]
        have h := HRL.out
        subst h
        simp [Fc.rings])
      have HSI := Lib.hid (HSS.out i)
      have HPI := HPRE.out (i + 1) (by omega)
      rw [HSI.out] at HPI
      generalize RL[i]! = rk at *
      generalize L[i] = f at *
      obtain ⟨rs, ra, rc, ls, aa, ac⟩ := f
      dsimp only [Fc.rval] at c0 HRK HF1 HF2
      obtain ⟨M, hM⟩ : ∃ M, rs.length = M := ⟨_, rfl⟩
      have HM := Lib.hid hM
      have hrk : rk.length = M := by rw [HRK.out, List.length_map, hM]
      have HRKL := Lib.hid hrk
      rw [hrk] at HSI HPI
      rw [hM] at c0 HF1
      clear hM hrk
      have HFP := Lib.hid (fun n (h : n ≤ M) => (by have := (faceSd_pre i rk h).length_le; rw [List.length_append] at HPI; omega : (someSd RL i).length + (faceSd i rk n).length ≤ 1000000))
      have HFS := Lib.hid (fun n => faceSd_succ i rk n)
      have HF0 : Hid (someSd RL i ++ faceSd i rk 0 = someSd RL i) := Lib.hid (by simp [faceSd])
      generalize someSd RL i = SI at *
      clear HPI
      go_wp2
      go_loopw [3, 5] (fun o k W => ∃ (j : Nat), j ≤ M ∧ k = .int .i64 j ∧ Hid (W.ownsRow w.heap.size 75 6 o (SI ++ faceSd i rk j).length (sds (SI ++ faceSd i rk j))) ∧ Below w.heap.size w W) (fun _ k _ => M - (intOf k).toNat)
      case atStart => exact ⟨0, by omega, rfl, Lib.hid (by rw [HF0.out]; exact HO.out), hbl⟩
      case round =>
        obtain ⟨j, hj, rfl, HO2, hbl2⟩ := hrel
        have c0' := (hbl2.cell (p := ⟨b1, o1 + i * 2, none⟩) hbb).trans c0
        by_cases q2 : j < M
        · have q2' : (j : Int) < (M : Int) := by omega
          have hjl : j < rs.length := by rw [HM.out]; exact q2
          have hjr : j < rk.length := by rw [HRKL.out]; exact q2
          obtain ⟨b2, o2, rfl, hb2, d0⟩ := HF.out.1.1.rc j hjl
          have HRR := Lib.hid (HF.out.2.1 _ (List.getElem_mem hjl)).1
          have hLL := HF2.out _ (List.getElem_mem hjl)
          have HRJ : Hid (rk[j]! = rs[j].l) := Lib.hid (by
            rw [getElem!_pos rk j hjr]
            simp [HRK.out])
          have HFJ := Lib.hid (HFS.out j)
          have HPJ := HFP.out (j + 1) (by omega)
          rw [HFJ.out] at HPJ
          rw [HRJ.out] at HFJ HPJ
          generalize rs[j] = R at *
          obtain ⟨LL, p, c3⟩ := R
          dsimp only [PC.val] at d0 HFJ HPJ HRR hLL
          rw [List.length_append, ringSd_len] at HPJ
          have HRT := Lib.hid (fun n h => ringSd_take i j LL n h)
          have HRL0 : Hid (SI ++ faceSd i rk j ++ (ringSd i j LL).take 0 = SI ++ faceSd i rk j) := Lib.hid (by simp)
          have HRLN : Hid (SI ++ faceSd i rk j ++ (ringSd i j LL).take LL.length = SI ++ faceSd i rk (j + 1)) := Lib.hid (by
            rw [HFJ.out, List.take_of_length_le (by rw [ringSd_len]; omega), List.append_assoc])
          have HLEN : Hid ((SI ++ faceSd i rk j).length ≤ 1000000 - LL.length) := Lib.hid (by rw [List.length_append]; omega)
          have hP0 : (SI ++ faceSd i rk j).length + LL.length ≤ 1000000 := by rw [List.length_append]; omega
          generalize SI ++ faceSd i rk j = SJ at *
          clear HPJ HLEN
          have d1 := (hbl2.cell (p := ⟨b2, o2 + j, none⟩) hb2).trans d0
          clear d0
          go_wp2
          go_loopw [3, 7] (fun o n W => ∃ (m : Nat), m ≤ LL.length ∧ n = .int .i64 m ∧ Hid (W.ownsRow w.heap.size 75 6 o (SJ ++ (ringSd i j LL).take m).length (sds (SJ ++ (ringSd i j LL).take m))) ∧ Below w.heap.size w W) (fun _ n _ => LL.length - (intOf n).toNat)
          case atStart => exact ⟨0, by omega, rfl, Lib.hid (by rw [HRL0.out]; exact HO2.out), hbl2⟩
          case round =>
            obtain ⟨m, hm, rfl, HO3, hbl3⟩ := hrel
            by_cases q3 : m < LL.length
            · have q3' : (m : Int) < (LL.length : Int) := by omega
              obtain ⟨q, hq⟩ : ∃ q, (m + 1) % LL.length = q := ⟨_, rfl⟩
              have hql : q < LL.length := by rw [← hq]; exact Nat.mod_lt _ (by omega)
              obtain ⟨b3, o3, rfl, hb3w, e0w, e1w⟩ := (HRR.out).pt m q3
              obtain ⟨b3', o3', e, hb3', f0w, f1w⟩ := (HRR.out).pt q hql
              cases e
              have hRT := HRT.out m q3
              simp only [hq] at hRT
              have hrem : ((m : Int) + 1) % (LL.length : Int) = (q : Int) := by rw [← hq]; simp
              have hrem2 : (IntKind.i64.wrap ((m : Int) + 1)).tmod (LL.length : Int) = (q : Int) := by
                rw [IntWalk.i64_in _ (by omega), Int.tmod_eq_emod_of_nonneg (by omega)]
                exact hrem
              generalize LL[m] = p1 at *
              generalize LL[q] = p2 at *
              have q0 : (0 : Int) ≤ (q : Int) ∧ (q : Int) < (LL.length : Int) := by omega
              have hnil : ¬ LL = [] := by intro h; rw [h] at q3; simp at q3
              have hln : ¬ LL.length = 0 := by omega
              obtain ⟨x1, y1⟩ := p1
              obtain ⟨x2, y2⟩ := p2
              dsimp only at e0w e1w f0w f1w
              have HRX : Hid (SJ ++ (ringSd i j LL).take (m + 1) = (SJ ++ (ringSd i j LL).take m) ++ [⟨i, j, ⟨x1, y1⟩, ⟨x2, y2⟩⟩]) := Lib.hid (by rw [hRT, List.append_assoc])
              have hPm : (SJ ++ (ringSd i j LL).take m).length ≤ 1000000 := by rw [List.length_append, List.length_take, ringSd_len]; omega
              clear hRT
              generalize SJ ++ (ringSd i j LL).take m = SM at *
              obtain ⟨SN, hSN⟩ : ∃ n, SM.length = n := ⟨_, rfl⟩
              have HSN := Lib.hid hSN
              have HO4 := Lib.hid (by have := HO3.out; rw [hSN] at this; exact this)
              rw [hSN] at hPm
              clear hSN
              have ho3 := HO4.out
              clear HO3 HO4
              have HSD : Hid (sds SM ++ [.int .i64 i, .int .i64 j, .int .i64 x1, .int .i64 y1, .int .i64 x2, .int .i64 y2] = sds (SM ++ [⟨i, j, ⟨x1, y1⟩, ⟨x2, y2⟩⟩])) := Lib.hid (by rw [sds_snoc]; rfl)
              go_wp2
              refine wp_region_lit_txt [0, 1, 2, 3, 4, 5, 6, 7, 8, 9, 10, 11, 12, 13, 14, 15, 18] (fun W => Below w.heap.size w W) (by kernel_rfl) (by kernel_rfl) (by kernel_rfl) (hbl3.drew) ?_
              iterate 6 ((refine txt_light ?_ rfl rfl ?_ ?_; rotate_left; · (intro w' hS; (try dsimp only at hS); go_simp; with_reducible rfl)); try simp only [Act.put, List.getElem_toArray, List.getElem_cons_succ, List.getElem_cons_zero, List.setIfInBounds_toArray, List.set_cons_zero, List.set_cons_succ])
              refine txt_light (.agg #[.int .i64 x1, .int .i64 y1]) rfl rfl ?_ ?_
              · intro w' hS
                have g0 := (hS.cell (p := ⟨b3, o3 + m * 2, none⟩) hb3w).trans e0w
                have g1 := (hS.cell (p := ⟨b3, o3 + m * 2 + 1, none⟩) hb3w).trans e1w
                clear hS
                go_simp
              try simp only [Act.put, List.getElem_toArray, List.getElem_cons_succ, List.getElem_cons_zero, List.setIfInBounds_toArray, List.set_cons_zero, List.set_cons_succ]
              iterate 5 ((refine txt_light ?_ rfl rfl ?_ ?_; rotate_left; · (intro w' hS; (try dsimp only at hS); go_simp; with_reducible rfl)); try simp only [Act.put, List.getElem_toArray, List.getElem_cons_succ, List.getElem_cons_zero, List.setIfInBounds_toArray, List.set_cons_zero, List.set_cons_succ])
              refine txt_light (.int .i64 q) rfl rfl ?_ ?_
              · intro w' hS
                clear hS
                go_simp
              try simp only [Act.put, List.getElem_toArray, List.getElem_cons_succ, List.getElem_cons_zero, List.setIfInBounds_toArray, List.set_cons_zero, List.set_cons_succ]
              (refine txt_light ?_ rfl rfl ?_ ?_; rotate_left; · (intro w' hS; (try dsimp only at hS); go_simp; with_reducible rfl)); try simp only [Act.put, List.getElem_toArray, List.getElem_cons_succ, List.getElem_cons_zero, List.setIfInBounds_toArray, List.set_cons_zero, List.set_cons_succ]
              refine txt_light (.agg #[.int .i64 x2, .int .i64 y2]) rfl rfl ?_ ?_
              · intro w' hS
                have g0 := (hS.cell (p := ⟨b3, o3 + q * 2, none⟩) hb3w).trans f0w
                have g1 := (hS.cell (p := ⟨b3, o3 + q * 2 + 1, none⟩) hb3w).trans f1w
                clear hS
                go_simp
              try simp only [Act.put, List.getElem_toArray, List.getElem_cons_succ, List.getElem_cons_zero, List.setIfInBounds_toArray, List.set_cons_zero, List.set_cons_succ]
              refine txt_light (.agg #[.int .i64 i, .int .i64 j, .int .i64 x1, .int .i64 y1, .int .i64 x2, .int .i64 y2]) rfl rfl ?_ ?_
              · intro w' hS
                clear hS
                go_simp
              try simp only [Act.put, List.getElem_toArray, List.getElem_cons_succ, List.getElem_cons_zero, List.setIfInBounds_toArray, List.set_cons_zero, List.set_cons_succ]
              have ho0 : wr.drew.ownsRow w.heap.size 75 6 u3 SN (sds SM) := ho3
              have hbd : Below w.heap.size w wr.drew := hbl3.drew
              generalize wr.drew = W1 at *
              refine txt_heavy rfl rfl (fun K hK => ?_)
              go_step
              have ho2 := ho0.below (Below.new W1 (.cells #[.int .i64 i, .int .i64 j, .int .i64 x1, .int .i64 y1, .int .i64 x2, .int .i64 y2] 75))
              have hb2 := hbd.alloc hbd.size (.cells #[.int .i64 i, .int .i64 j, .int .i64 x1, .int .i64 y1, .int .i64 x2, .int .i64 y2] 75)
              have rd := Rd.lit W1 W1.heap.size [.int .i64 i, .int .i64 j, .int .i64 x1, .int .i64 y1, .int .i64 x2, .int .i64 y2] 75 rfl
              refine hK.out _ _ hb2 ?_
              clear hK K ho0 hbd
              generalize W1.alloc (.cells #[.int .i64 i, .int .i64 j, .int .i64 x1, .int .i64 y1, .int .i64 x2, .int .i64 y2] 75) = W2 at *
              try simp only [Act.put, List.getElem_toArray, List.getElem_cons_succ, List.getElem_cons_zero, List.setIfInBounds_toArray, List.set_cons_zero, List.set_cons_succ]
              refine txt_app w hb2 rfl rfl (.tmp 38) (.tmp 54) 70 rfl 75 (.agg #[.int .i64 0, .int .i64 0, .int .i64 0, .int .i64 0, .int .i64 0, .int .i64 0]) 6 48 Try.underlying70 Try.infoRS rfl (by decide) u3 SN (sds SM) rfl ho2 (some ⟨W1.heap.size, 0, none⟩) 1 1 [.int .i64 i, .int .i64 j, .int .i64 x1, .int .i64 y1, .int .i64 x2, .int .i64 y2] rfl (fun h => by cases h) rd rfl (by simp [Value.oneCell']) (by omega) (by decide) ?_
              intro v3 W3 ho4 hg3 hb4
              refine ⟨hb4, ?_⟩
              try simp only [Act.put, List.getElem_toArray, List.getElem_cons_succ, List.getElem_cons_zero, List.setIfInBounds_toArray, List.set_cons_zero, List.set_cons_succ]
              (refine txt_light ?_ rfl rfl ?_ ?_; rotate_left; · (intro w' hS; (try dsimp only at hS); go_simp; with_reducible rfl)); try simp only [Act.put, List.getElem_toArray, List.getElem_cons_succ, List.getElem_cons_zero, List.setIfInBounds_toArray, List.set_cons_zero, List.set_cons_succ]
              refine txt_nil ?_
              rw [HSD.out] at ho4
              clear ho2 hb2 hg3 rd ho3
              have HO9 : Hid (W3.ownsRow w.heap.size 75 6 v3 (SJ ++ (ringSd i j LL).take (m + 1)).length (sds (SJ ++ (ringSd i j LL).take (m + 1)))) := Lib.hid (by rw [HRX.out, List.length_append, HSN.out]; exact ho4)
              clear ho4
              go_wp2
              exact ⟨⟨m + 1, by omega, by go_num, HO9, hb4⟩, by simp [intOf]; omega⟩
            · have hmL : m = LL.length := by omega
              subst hmL
              have h := HO3.out
              rw [HRLN.out] at h
              have HO9 := Lib.hid h
              clear h
              go_wp2
              exact ⟨⟨j + 1, by omega, by go_num, HO9, hbl3⟩, by simp [intOf]; omega⟩
        · have hjM : j = M := by omega
          subst hjM
          have h := HO2.out
          rw [← HSI.out] at h
          have HO9 := Lib.hid h
          clear h
          go_wp2
          exact ⟨⟨i + 1, by omega, by go_num, HO9, hbl2⟩, by simp [intOf]; omega⟩
    · obtain rfl : i = N := by omega
      have h := HO.out
      rw [HAL.out] at h
      have HO := Lib.hid h
      clear h
      go_wp2
      go_ret
      exact ⟨_, rfl, HO.out, hbl⟩
end Go.Proofs.Ytccamjnomjcchaa
