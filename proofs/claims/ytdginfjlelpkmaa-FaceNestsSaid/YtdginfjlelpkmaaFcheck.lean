/-
  face.Check, whatever table.Check answers.
-/
import Derived.Test.YtdginfjlelpkmaaFin
import Derived.Test.YtdginfjlelpkmaaFcount
set_option linter.unusedVariables false
set_option linter.unusedSimpArgs false
set_option maxRecDepth 100000
namespace Go
open Go.RowKit
def rIn (rs : List (List Pt)) : Bool := rs.all fun r => r.all inW
def tcs (tc : List At → Int) : List (List At) → Int
  | [] => 0
  | a :: l => if tc a = 0 then tcs tc l else tc a
/-- What is wrong with faces. -/
def chkF (tc : List At → Int) (n : Nat) (rs : List (List (List Pt))) (ls : List (List At)) : Int :=
  if 32 < n ∨ 64 < cntR rs ∨ 512 < cntP rs then 6 else if rs.all rIn = false then 5 else tcs tc ls
end Go
namespace Go.Proofs.Ytdginfjlelpkmaa
open Go.RowKit

set_option maxHeartbeats 6400000 in
theorem fcheck_any (tc : List At → Int) (a : Option Addr) (c : Nat) (L : List Fc) (hlen : L.length ≤ 1000000) (h1 : cntR (L.map Fc.rings) ≤ 1000000) (h2 : cntP (L.map Fc.rings) ≤ 1000000) (hl : ∀ f ∈ L, ∀ r ∈ f.rs, r.l.length ≤ 1000000) (w : World) (hr : Rd w a (fcs L)) (hok : ∀ f ∈ L, f.Ok w)
    (htc : ∀ f ∈ L, ∀ W, Rd W f.aa (ats f.ls) → Calls Try.prog 28 #[f.aval] W fun e w' => e = .returned (.int .i64 (tc f.ls)) ∧ Below W.heap.size W w') :
    Calls Try.prog 11 #[.slice a L.length c] w fun e w' => e = .returned (.int .i64 (chkF tc L.length (L.map Fc.rings) (L.map Fc.ls))) ∧ Below w.heap.size w w' := by
  have HR := Lib.hid hr
  have HOK := Lib.hid hok
  have HTC := Lib.hid htc
  have HLL := Lib.hid hl
  have HCN := Lib.hid (fcount_any a c L hlen h1 h2 w hr hok)
  have HCH : Hid (chkF tc L.length (L.map Fc.rings) (L.map Fc.ls) = if 32 < L.length ∨ 64 < cntR (L.map Fc.rings) ∨ 512 < cntP (L.map Fc.rings) then 6 else if (L.map Fc.rings).all rIn = false then 5 else tcs tc (L.map Fc.ls)) := Lib.hid rfl
  generalize chkF tc L.length (L.map Fc.rings) (L.map Fc.ls) = CH at *
  obtain ⟨RL, hRL⟩ : ∃ R, L.map Fc.rings = R := ⟨_, rfl⟩
  have HRL := Lib.hid hRL
  rw [hRL] at HCN HCH h1 h2
  have hRn : RL.length = L.length := by rw [← hRL, List.length_map]
  obtain ⟨CR, hCR⟩ : ∃ z, cntR RL = z := ⟨_, rfl⟩
  obtain ⟨CP, hCP⟩ : ∃ z, cntP RL = z := ⟨_, rfl⟩
  rw [hCR, hCP] at HCN HCH
  rw [hCR] at h1
  rw [hCP] at h2
  have HTS : Hid (tcs tc (L.map Fc.ls) = tcs tc ((L.drop 0).map Fc.ls)) := Lib.hid rfl
  generalize tcs tc (L.map Fc.ls) = TS at *
  obtain ⟨N, hN⟩ : ∃ N, L.length = N := ⟨_, rfl⟩
  have HN := Lib.hid hN
  rw [hN] at hlen hRn HCN HCH ⊢
  clear hr hok hRL hN hl htc hCR hCP
  go_enter Try.func11, Try.ntmps11
  go_wp2_with fail
  refine HCN.out.mono ?_
  rintro e w1 ⟨rfl, hb1⟩
  clear HCN
  by_cases q1 : 32 < N
  · have q1' : (32 : Int) < (N : Int) := by omega
    have HV : Hid (CH = 6) := Lib.hid (by rw [HCH.out, if_pos (.inl q1)])
    go_wp2
    go_ret
    exact ⟨ret_int HV.out.symm, hb1⟩
  by_cases q2 : 64 < CR
  · have q1' : ¬ (32 : Int) < (N : Int) := by omega
    have q2' : (64 : Int) < (CR : Int) := by omega
    have HV : Hid (CH = 6) := Lib.hid (by rw [HCH.out, if_pos (.inr (.inl q2))])
    go_wp2
    go_ret
    exact ⟨ret_int HV.out.symm, hb1⟩
  by_cases q3 : 512 < CP
  · have q1' : ¬ (32 : Int) < (N : Int) := by omega
    have q2' : ¬ (64 : Int) < (CR : Int) := by omega
    have q3' : (512 : Int) < (CP : Int) := by omega
    have HV : Hid (CH = 6) := Lib.hid (by rw [HCH.out, if_pos (.inr (.inr q3))])
    go_wp2
    go_ret
    exact ⟨ret_int HV.out.symm, hb1⟩
  have q1' : ¬ (32 : Int) < (N : Int) := by omega
  have q2' : ¬ (64 : Int) < (CR : Int) := by omega
  have q3' : ¬ (512 : Int) < (CP : Int) := by omega
  replace HCH : Hid (CH = if RL.all rIn = false then 5 else TS) := Lib.hid (by rw [HCH.out, if_neg (by omega)])
  go_wp2
  go_loopw [30] (fun i wr => ∃ k : Nat, i = .int .i64 k ∧ k ≤ N ∧ Hid ((RL.take k).all rIn = true) ∧ Below w.heap.size w wr) (fun i _ => N - (intOf i).toNat)
  case atStart => exact ⟨0, rfl, Nat.zero_le _, Lib.hid rfl, hb1⟩
  case round =>
    obtain ⟨i, rfl, hi, HX, hbl⟩ := hrel
    by_cases hlt : i < N
    · as_aux_lemma =>
        have hlt' : (i : Int) < (N : Int) := by omega
        have hil : i < L.length := by rw [HN.out]; exact hlt
        have hiR : i < RL.length := by omega
        obtain ⟨b1, o1, rfl, hbb, c0, c1⟩ := (HR.out.keep hbl).fc i hil
        have HRI : Hid (RL[i] = L[i].rs.map PC.l) := Lib.hid (by simp only [← HRL.out, List.getElem_map, Fc.rings])
        have HFO := Lib.hid (HOK.out _ (List.getElem_mem hil))
        have HF2 := Lib.hid (HLL.out _ (List.getElem_mem hil))
        have HSR : Hid (RL.take (i + 1) = RL.take i ++ [RL[i]]) := Lib.hid (List.take_succ_eq_append_getElem hiR)
        have HMR := Lib.hid (List.getElem_mem hiR)
        generalize L[i] = f at *
        generalize RL[i] = FR at *
        obtain ⟨rs, ra, rc, ls, aa, ac⟩ := f
        dsimp only [Fc.rval, Fc.aval] at c0 c1 HRI HF2
        obtain ⟨RN, hRN⟩ : ∃ R, rs.length = R := ⟨_, rfl⟩
        have HRN := Lib.hid hRN
        have hFR : FR.length = RN := by rw [HRI.out, List.length_map, HRN.out]
        rw [hRN] at c0
        have hrb := HFO.out.1.2
        dsimp only at hrb
        rw [hRN] at hrb
        unfold maxLen at hrb
        clear hRN
        have hbA := Below.new wr (.cells #[.slice ra RN rc, .slice aa ls.length ac] 49)
        have hA0 := hbl.trans (hbA.mono hbl.size)
        go_wp2
        clear c0 c1 hbA
        go_loopw [37] (fun i wr2 => ∃ j : Nat, i = .int .i64 j ∧ j ≤ RN ∧ Hid (rIn (FR.take j) = true) ∧ Below w.heap.size w wr2) (fun i _ => RN - (intOf i).toNat)
        case atStart => exact ⟨0, rfl, Nat.zero_le _, Lib.hid rfl, hA0⟩
        case round =>
          obtain ⟨j, rfl, hj, HZ, hb2⟩ := hrel
          by_cases hjt : j < RN
          · as_aux_lemma =>
              have hjt' : (j : Int) < (RN : Int) := by omega
              have hjl : j < rs.length := by rw [HRN.out]; exact hjt
              have hjF : j < FR.length := by omega
              obtain ⟨b3, o3, rfl, hbb3, d0⟩ := (HFO.out.1.1.keep hb2).rc j hjl
              have HRO := Lib.hid ((HFO.out.2.1 _ (List.getElem_mem hjl)).keep hb2)
              have hl2 := HF2.out _ (List.getElem_mem hjl)
              have HFJ : Hid (FR[j] = rs[j].l) := Lib.hid (by simp only [HRI.out, List.getElem_map])
              have HTJ : Hid (FR.take (j + 1) = FR.take j ++ [rs[j].l]) := Lib.hid (by rw [← HFJ.out]; exact List.take_succ_eq_append_getElem hjF)
              have HMJ : Hid (rs[j].l ∈ FR) := Lib.hid (by rw [← HFJ.out]; exact List.getElem_mem hjF)
              clear HFJ
              generalize rs[j] = R at *
              obtain ⟨LL, Rp, Rc⟩ := R
              dsimp only [PC.val] at d0 hl2 HTJ HMJ
              have HCW := Lib.hid (fun W h => containsW_any Rp Rc LL hl2 W h)
              obtain ⟨AB, hAB⟩ : ∃ B, LL.all inW = B := ⟨_, rfl⟩
              have HAB := Lib.hid hAB
              rw [hAB] at HCW
              clear hAB
              go_wp2_with fail
              refine (HCW.out _ HRO.out.1).mono ?_
              rintro e w3 ⟨rfl, hb3⟩
              have hb4 := hb2.trans (hb3.mono hb2.size)
              cases AB with
              | true =>
                have HZ2 : Hid (rIn (FR.take (j + 1)) = true) := Lib.hid (by
                  have := HZ.out
                  unfold rIn at *
                  rw [HTJ.out, List.all_append, this]; simp only [List.all_cons, List.all_nil, HAB.out, Bool.and_self])
                go_wp2
                exact ⟨⟨j + 1, by go_num, by omega, HZ2, hb4⟩, by simp [intOf]; omega⟩
              | false =>
                have HV : Hid (CH = 5) := Lib.hid (by
                  have e1 : rIn FR = false := by unfold rIn; rw [List.all_eq_false]; exact ⟨_, HMJ.out, by rw [HAB.out]; simp⟩
                  have e2 : RL.all rIn = false := by rw [List.all_eq_false]; exact ⟨_, HMR.out, by rw [e1]; simp⟩
                  rw [HCH.out, if_pos e2])
                go_wp2
                go_ret
                exact ⟨ret_int HV.out.symm, hb4⟩
          · have hjt' : ¬ (j : Int) < (RN : Int) := by omega
            have hft : FR.take j = FR := List.take_of_length_le (by omega)
            have HX2 : Hid ((RL.take (i + 1)).all rIn = true) := Lib.hid (by
              have e1 := HZ.out
              rw [hft] at e1
              rw [HSR.out, List.all_append, HX.out]; simp only [List.all_cons, List.all_nil, e1, Bool.and_self])
            clear hft
            go_wp2
            exact ⟨⟨i + 1, by go_num, by omega, HX2, hb2⟩, by simp [intOf]; omega⟩
    · as_aux_lemma =>
        have hlt' : ¬ (i : Int) < (N : Int) := by omega
        have hall : RL.take i = RL := List.take_of_length_le (by omega)
        have HCT : Hid (CH = TS) := Lib.hid (by
          have e1 := HX.out
          rw [hall] at e1
          rw [HCH.out, e1]; rfl)
        clear hall HX HCH
        go_wp2
        go_loopw [47] (fun i wr => ∃ k : Nat, i = .int .i64 k ∧ k ≤ N ∧ Hid (TS = tcs tc ((L.drop k).map Fc.ls)) ∧ Below w.heap.size w wr) (fun i _ => N - (intOf i).toNat)
        case atStart => exact ⟨0, rfl, Nat.zero_le _, HTS, hbl⟩
        case round =>
          obtain ⟨k, rfl, hk, HX, hbl2⟩ := hrel
          by_cases hkt : k < N
          · as_aux_lemma =>
              have hkt' : (k : Int) < (N : Int) := by omega
              have hkl : k < L.length := by rw [HN.out]; exact hkt
              obtain ⟨b1, o1, rfl, hbb, c0, c1⟩ := (HR.out.keep hbl2).fc k hkl
              have HFO := Lib.hid (HOK.out _ (List.getElem_mem hkl))
              have HTK := Lib.hid (fun W h => HTC.out (L[k]'hkl) (List.getElem_mem hkl) W h)
              have HX2 : Hid (TS = if tc L[k].ls = 0 then tcs tc ((L.drop (k + 1)).map Fc.ls) else tc L[k].ls) := Lib.hid (by
                rw [HX.out, List.drop_eq_getElem_cons hkl]; rfl)
              generalize L[k] = f at *
              obtain ⟨rs, ra, rc, ls, aa, ac⟩ := f
              dsimp only [Fc.rval, Fc.aval] at c0 c1 HTK HX2
              obtain ⟨TK, hTK⟩ : ∃ z, tc ls = z := ⟨_, rfl⟩
              rw [hTK] at HTK HX2
              clear hTK HX
              have hbA := Below.new wr (.cells #[.slice ra rs.length rc, .slice aa ls.length ac] 49)
              have hA0 := hbl2.trans (hbA.mono hbl2.size)
              go_wp2_with fail
              refine (HTK.out _ (HFO.out.2.2.1.keep hA0)).mono ?_
              rintro e w3 ⟨rfl, hb3⟩
              have hb4 := hA0.trans (hb3.mono hA0.size)
              by_cases z : TK = 0
              · have HX3 : Hid (TS = tcs tc ((L.drop (k + 1)).map Fc.ls)) := Lib.hid (by rw [HX2.out, if_pos z])
                go_wp2
                exact ⟨⟨k + 1, by go_num, by omega, HX3, hb4⟩, by simp [intOf]; omega⟩
              · have HV : Hid (CH = TK) := Lib.hid (by rw [HCT.out, HX2.out, if_neg z])
                go_wp2
                go_ret
                exact ⟨ret_int HV.out.symm, hb4⟩
          · have hkt' : ¬ (k : Int) < (N : Int) := by omega
            have hd : L.drop k = [] := List.drop_of_length_le (by rw [HN.out]; omega)
            have HV : Hid (CH = 0) := Lib.hid (by rw [HCT.out, HX.out, hd]; rfl)
            clear hd
            go_wp2
            go_ret
            exact ⟨ret_int HV.out.symm, hbl2⟩
end Go.Proofs.Ytdginfjlelpkmaa
