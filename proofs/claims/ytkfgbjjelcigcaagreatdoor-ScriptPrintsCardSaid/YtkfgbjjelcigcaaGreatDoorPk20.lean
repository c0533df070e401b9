/-
  graticuleref30.Print. graticulelaw04.Ints, of the same numbers. graticulelaw04.Ints and slices.Equal of any numbers. script.Same of any items.
-/
import Derived.Test.YtkfgbjjelcigcaaGreatDoorPk18
import Derived.Test.YtkfgbjjelcigcaaGreatDoorPk12
import Derived.Test.YtkfgbjjelcigcaaGreatDoorPk19
import Derived.Test.YtkfgbjjelcigcaaGreatDoorPk8
import Derived.Test.YtkfgbjjelcigcaaGreatDoorPk1
import Derived.Test.YtkfgbjjelcigcaaGreatDoorProg
/- graticuleref30.Print. -/
set_option linter.unusedVariables false
set_option linter.unusedSimpArgs false
set_option maxRecDepth 100000
namespace Go.Proofs.YtkfgbjjelcigcaaGreatDoor
open Go.RowKit
set_option maxHeartbeats 6400000 in
theorem rprint30_any (a : Option Addr) (c : Nat) (X : List It) (hN : X.length ≤ 1000) (hn : ∀ x ∈ X, x.n.length ≤ 100000) (hsz : ∀ x ∈ X, x.key.size ≤ 100000 ∧ x.v.2.1.size ≤ 100000) (w : World) (hr : Rd w a (its X)) (hok : ∀ x ∈ X, x.Ok w) :
    Calls Tryz.prog 16 #[.slice a X.length c] w fun e w' => e = .returned (.tuple #[.string (prS X), .int .i64 (badI X)]) ∧ Below w.heap.size w w' := by
  have HR := Lib.hid hr; have HOK := Lib.hid hok; have HSZ := Lib.hid hsz; have HNN := Lib.hid hn; have HB0 := Lib.hid (badI_ok X); have HB1 := Lib.hid (badI_at X); have HPS : Hid (prS X = if badI X = 0 then ⟨(textF X).toArray⟩ else ⟨#[]⟩) := Lib.hid rfl; obtain ⟨N, hNe⟩ : ∃ N, X.length = N := ⟨_, rfl⟩; have HN := Lib.hid hNe; rw [hNe] at hN ⊢; obtain ⟨BI, hBI⟩ : ∃ b, badI X = b := ⟨_, rfl⟩; obtain ⟨PS, hPS⟩ : ∃ b, prS X = b := ⟨_, rfl⟩; rw [hBI] at HB0 HPS ⊢; rw [hPS] at HPS ⊢; have HBI := Lib.hid hBI; clear hr hok hsz hn hNe hBI hPS
  go_enter Tryz.func16, Tryz.ntmps16
  go_wp2
  go_loopw [4, 5, 6, 7] (fun s i _ _ wr => ∃ k : Nat, k ≤ N ∧ i = .int .i64 k ∧ s = .string ⟨(textF (X.take k)).toArray⟩ ∧ Hid (∀ j (hj : j < X.length), j < k → chkI X[j] = 0) ∧ Below w.heap.size w wr) (fun _ i _ _ _ => N - (intOf i).toNat)
  case atStart => exact ⟨0, Nat.zero_le _, rfl, rfl, Lib.hid (fun j _ h => absurd h (Nat.not_lt_zero _)), Below.refl _ _⟩
  case round =>
    obtain ⟨k, hk, rfl, rfl, HZ, hbl⟩ := hrel
    by_cases hlt : k < N
    · have hlt' : (k : Int) < (N : Int) := by omega
      have hkX : k < X.length := by rw [HN.out]; exact hlt
      obtain ⟨b1, o1, rfl, hbw, c0w, c1w, c2w, c3w, c4w, c5w⟩ := HR.out.it k hkX; obtain ⟨b1', o1', e1', hbb, c0, c1, c2, c3, c4, c5⟩ := (HR.out.keep hbl).it k hkX
      cases e1'
      have hmx := List.getElem_mem hkX; have HCK := Lib.hid (richeck_any (X[k]'hkX) (HSZ.out _ hmx) (by have := HNN.out _ hmx; omega) wr ((HOK.out _ hmx).keep hbl)); have HOX := Lib.hid ((HOK.out _ hmx).keep hbl); have HNX := HNN.out _ hmx; have HOX2 := Lib.hid (HOK.out _ hmx).1; have HB2 : Hid (chkI X[k] ≠ 0 → BI = chkI X[k]) := Lib.hid (fun h => by rw [← HBI.out]; exact HB1.out k hkX HZ.out h); have HTS : Hid (textF (X.take (k + 1)) = textF (X.take k) ++ lineF X[k] ++ [10]) := Lib.hid (by
        rw [List.take_succ_eq_append_getElem hkX, text_snoc])
      have HZ2 : Hid (chkI X[k] = 0 → ∀ j (hj : j < X.length), j < k + 1 → chkI X[j] = 0) := Lib.hid (fun h j hj hjk => by
        by_cases hj2 : j < k
        · exact HZ.out j hj hj2
        · obtain rfl : j = k := by omega
          exact h)
      clear HB1 hmx; generalize X[k] = x at *; obtain ⟨E, hE⟩ : ∃ E, chkI x = E := ⟨_, rfl⟩; have HE := Lib.hid hE; rw [hE] at HCK HB2 HZ2; clear hE; unfold It.nval at c1 c1w; have HXV : Hid (x.val = .agg #[.int .i64 x.kind, .slice x.np x.n.length x.nc, .string x.key, .int .i64 x.v.1, .string x.v.2.1, .int .i64 x.v.2.2]) := Lib.hid rfl; rw [HXV.out] at HCK
      go_wp2_with fail
      refine HCK.out.mono ?_; rintro e w1 ⟨rfl, hb1⟩; have hbl1 := hbl.trans (hb1.mono hbl.size)
      by_cases hE0 : E = 0
      · subst hE0; have hz := chkI_zero x HE.out; have HKW := Lib.hid (rkword_any x.kind w1); have HLF : Hid (lineF x = (kwS x.kind).data.toList ++ tl (rest6 x)) := Lib.hid rfl; have HR6 : Hid (rest6 x = if x.kind = 6 then [pw x.key.data.toList, vw x.v] else x.n.map (fun n => pw (Lib.itoa n))) := Lib.hid rfl; have d0 := (hb1.cell (p := ⟨b1, o1 + k * 6, none⟩) (Nat.lt_of_lt_of_le hbb (Nat.le_refl _))).trans c0; have hTX := text_bd (X.take k) (fun y hy => by
          obtain ⟨j, hj, rfl⟩ := List.getElem_of_mem hy; rw [List.length_take] at hj; rw [List.getElem_take]; exact HZ.out j (by omega) (by omega))
        rw [List.length_take] at hTX; have hkw := kwS_size x.kind; have hts : (⟨(textF (X.take k)).toArray⟩ : ByteArray).size = (textF (X.take k)).length := by simp [ByteArray.size]
        have hcat : (⟨(textF (X.take k)).toArray⟩ : ByteArray).size + (kwS x.kind).size ≤ 9223372036854775807 := by rw [hts]; omega
        have HLLX := Lib.hid (line_len x HE.out); have HTLX := Lib.hid (tl_le x HE.out); have HST0 : Hid ((x.kind ≠ 6 ∧ lineF x = (kwS x.kind).data.toList ++ tl (x.n.map (fun n => pw (Lib.itoa n)))) ∨ (x.kind = 6 ∧ vE x.v = 0 ∧ 2 + x.key.size + (prnF x.v).size ≤ 20000 ∧ lineF x = (kwS x.kind).data.toList ++ tl (x.n.map (fun n => pw (Lib.itoa n))) ++ [32] ++ x.key.data.toList ++ [32] ++ (prnF x.v).data.toList)) := Lib.hid (by
          have hl := HLLX.out
          rcases hz.2.2.2 with ⟨h6, -, -⟩ | ⟨h6, hn6, -, hv⟩
          · exact .inl ⟨h6, by rw [HLF.out, HR6.out, if_neg h6]⟩
          · have e : lineF x = (kwS x.kind).data.toList ++ tl (x.n.map (fun n => pw (Lib.itoa n))) ++ [32] ++ x.key.data.toList ++ [32] ++ (prnF x.v).data.toList := by
              rw [HLF.out, HR6.out, if_pos h6, hn6]; simp [tl, pw, vw_prn]
            refine .inr ⟨h6, hv, ?_, e⟩; have h1 : x.key.data.toList.length = x.key.size := by rw [Array.length_toList]; rfl
            have h2 : (prnF x.v).data.toList.length = (prnF x.v).size := by rw [Array.length_toList]; rfl
            rw [e, List.length_append, List.length_append, List.length_append, List.length_append, h1, h2] at hl; simp only [List.length_singleton] at hl; omega)
        go_wp2_with fail
        refine HKW.out.mono ?_; rintro e w2 ⟨rfl, hb2⟩; have hbl2 := hbl1.trans (hb2.mono hbl1.size); go_wp2
        go_loopw [4, 7] (fun s m wr => ∃ j : Nat, j ≤ x.n.length ∧ m = .int .i64 j ∧ s = .string ⟨(textF (X.take k) ++ (kwS x.kind).data.toList ++ tl ((x.n.take j).map (fun n => pw (Lib.itoa n)))).toArray⟩ ∧ Below w.heap.size w wr) (fun _ m _ => x.n.length - (intOf m).toNat)
        case atStart =>
          refine ⟨0, Nat.zero_le _, rfl, ?_, by first | exact hbl2 | exact hbl2.drew⟩; rw [app_eqI]; simp [tl]
        case round =>
          obtain ⟨j, hj, rfl, rfl, hbj⟩ := hrel; have g0 := (hbj.cell (p := ⟨b1, o1 + k * 6, none⟩) hbw).trans c0w; have g1 := (hbj.cell (p := ⟨b1, o1 + k * 6 + 1, none⟩) hbw).trans c1w
          by_cases hjl : j < x.n.length
          · have hjl' : (j : Int) < (x.n.length : Int) := by omega
            obtain ⟨b3, o3, hnp, e0, hbn⟩ := (HOX2.out.keep hbj).at (i := j) (v := .int .i64 x.n[j]) (by simp [hjl]); have hnb := hz.2.2.1 x.n[j] (List.getElem_mem hjl); have HD := Lib.hid (fun W => rdigits_any x.n[j] hnb.1 hnb.2 W); have hl1 := tl_take x.n (j + 1); have hl0 := tl_take x.n j; have hl2 := tl_le x HE.out; have hst : tl ((x.n.take (j + 1)).map (fun n => pw (Lib.itoa n))) = tl ((x.n.take j).map (fun n => pw (Lib.itoa n))) ++ 32 :: Lib.itoa x.n[j] := by
              rw [List.take_succ_eq_append_getElem hjl, List.map_append, tl_app]; simp [tl, pw]
            have hdl : (Lib.itoa x.n[j]).length ≤ 20000 := by
              have := congrArg List.length hst; rw [List.length_append, List.length_cons] at this; omega
            have HST : Hid (textF (X.take k) ++ (kwS x.kind).data.toList ++ tl ((x.n.take (j + 1)).map (fun n => pw (Lib.itoa n))) = (textF (X.take k) ++ (kwS x.kind).data.toList ++ tl ((x.n.take j).map (fun n => pw (Lib.itoa n)))) ++ [32] ++ Lib.itoa x.n[j]) := Lib.hid (by rw [hst]; simp); have hSl : (textF (X.take k) ++ (kwS x.kind).data.toList ++ tl ((x.n.take j).map (fun n => pw (Lib.itoa n)))).length ≤ 20001 * 1000 + 6 + 20000 := by
              rw [List.length_append, List.length_append]; have : (kwS x.kind).data.toList.length = (kwS x.kind).size := rfl; omega
            obtain ⟨S, hS⟩ : ∃ S, textF (X.take k) ++ (kwS x.kind).data.toList ++ tl ((x.n.take j).map (fun n => pw (Lib.itoa n))) = S := ⟨_, rfl⟩; rw [hS] at HST hSl; rw [hS]; rw [hnp] at g1; rw [hnp]; generalize x.n[j] = nj at *; have hs1 : (⟨S.toArray⟩ : ByteArray).size + (⟨#[32]⟩ : ByteArray).size ≤ 9223372036854775807 := by rw [lsize]; show S.length + 1 ≤ _; omega
            have hs2 : ((⟨S.toArray⟩ : ByteArray) ++ ⟨#[32]⟩).size + (⟨(Lib.itoa nj).toArray⟩ : ByteArray).size ≤ 9223372036854775807 := by
              rw [app_eqI, lsize, lsize, List.length_append]; show S.length + 1 + _ ≤ _; omega
            have hcat2 : ((⟨S.toArray⟩ : ByteArray) ++ ⟨#[32]⟩) ++ ⟨(Lib.itoa nj).toArray⟩ = ⟨(S ++ [32] ++ Lib.itoa nj).toArray⟩ := by
              rw [app_eqI, app_eqI]
            clear hst hl0 hl1 hl2 hS; generalize Lib.itoa nj = DG at *
            go_wp2_with fail
            refine (HD.out _).mono ?_; rintro e w3 ⟨rfl, rfl⟩; rw [← hnp]; go_wp2; go_roundw
            case rel => exact ⟨j + 1, by omega, by go_num, by rw [HST.out]; simp, hbj⟩
            case measure => simp [intOf]; omega
          · have hjn : j = x.n.length := by omega
            subst hjn; have hjl' : ¬ ((x.n.length : Nat) : Int) < (x.n.length : Int) := by omega
            have hZ := HZ2.out (by first | rfl | trivial); have hLl := HLLX.out; have hst := HST0.out; rw [List.take_length]; have hSl : (textF (X.take k) ++ (kwS x.kind).data.toList ++ tl (x.n.map (fun n => pw (Lib.itoa n)))).length ≤ 20001 * 1000 + 6 + 20000 := by
              have h1 := HTLX.out; have : (kwS x.kind).data.toList.length = (kwS x.kind).size := rfl; rw [List.length_append, List.length_append]; omega
            obtain ⟨SB, hSB⟩ : ∃ B : ByteArray, ⟨(textF (X.take k) ++ (kwS x.kind).data.toList ++ tl (x.n.map (fun n => pw (Lib.itoa n)))).toArray⟩ = B := ⟨_, rfl⟩; have hSz : SB.size ≤ 20001 * 1000 + 6 + 20000 := by rw [← hSB, lsize]; exact hSl
            rw [hSB]; have HSB := Lib.hid hSB; clear hSB hSl
            rcases hst with ⟨h6, he⟩ | ⟨h6, hv, hsz, he⟩
            · have HFN : Hid (⟨(textF (X.take (k + 1))).toArray⟩ = SB ++ ⟨#[10]⟩) := Lib.hid (by rw [HTS.out, ← HSB.out, app_eqI, he]; simp); clear he hLl; have h6' : (x.kind == 6) = false := by simpa using h6
              have hfit : ¬ 9223372036854775807 < SB.size + 1 := by omega
              have hcv := run_convert_rd (P := Tryz.prog) (wr.alloc (.cells #[.int .u8 10] 5)) 89 5 9 Tryz.underlying89 Tryz.underlying5 Tryz.underlying9 (some ⟨wr.heap.size, 0, none⟩) 1 [10] (Rd.new wr [.int .u8 10] 5); have hs10 : strOfNums [10] = ⟨#[10]⟩ := by rfl
              rw [hs10] at hcv; have hcv : (convert 89 9 (.slice (some ⟨wr.heap.size, 0, none⟩) 1 1)).run Tryz.prog (wr.alloc (.cells #[.int .u8 10] 5)) = _ := hcv; have hbz := hbj.alloc hbj.size (.cells #[.int .u8 10] 5); go_wp2; go_roundw
              case rel => exact ⟨k + 1, by omega, by go_num, by rw [HFN.out], Lib.hid hZ, hbz⟩
              case measure => simp [intOf]; omega
            · obtain ⟨PV, hPV⟩ : ∃ P, prnF x.v = P := ⟨_, rfl⟩; have HPG := Lib.hid (fun W => rprint_good x.v hv W); rw [hPV] at HPG he hsz; have HFN : Hid (⟨(textF (X.take (k + 1))).toArray⟩ = ((((SB ++ ⟨#[32]⟩) ++ x.key) ++ ⟨#[32]⟩) ++ PV) ++ ⟨#[10]⟩) := Lib.hid (by
                rw [HTS.out, ← HSB.out, app_eqI, app_eqI, app_eqI, app_eqI, app_eqI, he]; simp)
              dsimp only [vVal] at HPG; clear he hPV hLl; rw [h6] at g0; have hf1 : ¬ 9223372036854775807 < SB.size + 1 := by omega
              have hf2 : ¬ 9223372036854775807 < SB.size + 1 + x.key.size := by omega
              have hf3 : ¬ 9223372036854775807 < SB.size + 1 + x.key.size + 1 := by omega
              have hf4 : ¬ 9223372036854775807 < SB.size + 1 + x.key.size + 1 + PV.size := by omega
              have hf5 : ¬ 9223372036854775807 < SB.size + 1 + x.key.size + 1 + PV.size + 1 := by omega
              go_wp2; refine wp_region_lit_txt [0, 1, 2, 3, 4, 5, 6, 7, 8, 9, 10, 11, 12, 13, 15, 16] (fun W => Below w.heap.size w W) (by kernel_rfl) (by kernel_rfl) (by kernel_rfl) hbj.drew ?_; have hba := hbj.drew; generalize wr.drew = wa at *
              iterate 6 ((refine txt_light ?_ rfl rfl ?_ ?_; rotate_left; · (intro w' hS; (try dsimp only at hS); go_simp; with_reducible rfl)); try simp only [Act.put, List.getElem_toArray, List.getElem_cons_succ, List.getElem_cons_zero, List.setIfInBounds_toArray, List.set_cons_zero, List.set_cons_succ])
              refine txt_light (.string x.key) rfl rfl ?_ ?_
              · intro w' hS; have e2 := (hS.cell (p := ⟨b1, o1 + k * 6 + 2, none⟩) hbw).trans c2w; clear hS; go_simp
              try simp only [Act.put, List.getElem_toArray, List.getElem_cons_succ, List.getElem_cons_zero, List.setIfInBounds_toArray, List.set_cons_zero, List.set_cons_succ]
              iterate 6 ((refine txt_light ?_ rfl rfl ?_ ?_; rotate_left; · (intro w' hS; (try dsimp only at hS); go_simp; with_reducible rfl)); try simp only [Act.put, List.getElem_toArray, List.getElem_cons_succ, List.getElem_cons_zero, List.setIfInBounds_toArray, List.set_cons_zero, List.set_cons_succ])
              refine txt_light (.agg #[.int .i64 x.v.1, .string x.v.2.1, .int .i64 x.v.2.2]) rfl rfl ?_ ?_
              · intro w' hS; have e3 := (hS.cell (p := ⟨b1, o1 + k * 6 + 3, none⟩) hbw).trans c3w; have e4 := (hS.cell (p := ⟨b1, o1 + k * 6 + 4, none⟩) hbw).trans c4w; have e5 := (hS.cell (p := ⟨b1, o1 + k * 6 + 5, none⟩) hbw).trans c5w; clear hS; go_simp
              try simp only [Act.put, List.getElem_toArray, List.getElem_cons_succ, List.getElem_cons_zero, List.setIfInBounds_toArray, List.set_cons_zero, List.set_cons_succ]
              refine txt_call [.agg #[.int .i64 x.v.1, .string x.v.2.1, .int .i64 x.v.2.2]] Tryz.f38 rfl rfl Tryz.func38 (by kernel_rfl) (by kernel_rfl) rfl ((HPG.out _).mono ?_); rintro e wb ⟨rfl, hb4⟩; have hbc := hba.trans (hb4.mono hba.size); clear hba; refine ⟨_, rfl, hbc, ?_⟩
              try simp only [Act.put, List.getElem_toArray, List.getElem_cons_succ, List.getElem_cons_zero, List.setIfInBounds_toArray, List.set_cons_zero, List.set_cons_succ]
              iterate 2 ((refine txt_light ?_ rfl rfl ?_ ?_; rotate_left; · (intro w' hS; (try dsimp only at hS); go_simp; with_reducible rfl)); try simp only [Act.put, List.getElem_toArray, List.getElem_cons_succ, List.getElem_cons_zero, List.setIfInBounds_toArray, List.set_cons_zero, List.set_cons_succ])
              refine txt_nil ?_; have hcv := run_convert_rd (P := Tryz.prog) (wb.alloc (.cells #[.int .u8 10] 5)) 89 5 9 Tryz.underlying89 Tryz.underlying5 Tryz.underlying9 (some ⟨wb.heap.size, 0, none⟩) 1 [10] (Rd.new wb [.int .u8 10] 5); have hs10 : strOfNums [10] = ⟨#[10]⟩ := by rfl
              rw [hs10] at hcv; have hcv : (convert 89 9 (.slice (some ⟨wb.heap.size, 0, none⟩) 1 1)).run Tryz.prog (wb.alloc (.cells #[.int .u8 10] 5)) = _ := hcv; have hbz := hbc.alloc hbc.size (.cells #[.int .u8 10] 5); go_wp2; go_roundw
              case rel => exact ⟨k + 1, by omega, by go_num, by rw [HFN.out], Lib.hid hZ, hbz⟩
              case measure => simp [intOf]; omega
      · have hbi := HB2.out hE0; have hp := HPS.out; rw [if_neg (by rw [hbi]; exact hE0)] at hp; subst hbi; subst hp; go_wp2; refine bodyPost_ret (v := .tuple #[.string ⟨#[]⟩, .int .i64 BI]) (by simp [results, Tryz.results16, go_sem]) rfl ⟨rfl, hbl1⟩
    · obtain rfl : k = N := by omega
      have hlt' : ¬ (k : Int) < (k : Int) := by omega
      have hb := HB0.out (fun x hx => by
        obtain ⟨j, hj, rfl⟩ := List.getElem_of_mem hx; exact HZ.out j hj (by rw [HN.out] at hj; exact hj))
      have hp := HPS.out; rw [if_pos hb] at hp; have ht : X.take k = X := List.take_of_length_le (by rw [HN.out]; exact Nat.le_refl _); rw [ht]; rw [← hp]; subst hb; clear HPS hp; go_wp2; refine bodyPost_ret (v := .tuple #[.string PS, .int .i64 0]) (by simp [results, Tryz.results16, go_sem]) rfl ⟨rfl, hbl⟩
end Go.Proofs.YtkfgbjjelcigcaaGreatDoor
/- graticulelaw04.Ints, of the same numbers. -/
set_option linter.unusedVariables false
set_option linter.unusedSimpArgs false
set_option maxRecDepth 100000
namespace Go.Proofs.YtkfgbjjelcigcaaGreatDoor
open Go.RowKit
set_option maxHeartbeats 800000 in
theorem sign0_any (w : World) :
    Calls Tryz.prog 62 #[.int .i64 0] w fun e w' => e = .returned (.int .i64 0) ∧ w' = w := by
  go_enter Tryz.func62, Tryz.ntmps62
  go_wp2; go_ret; exact ⟨rfl, rfl⟩
set_option maxHeartbeats 1600000 in
theorem cmp_same (a b : Option Addr) (ca cb : Nat) (l : List Int) (hl : l.length ≤ 1000000) (w : World) (hr : Rd w a (l.map (Value.int .i64))) (hs : Rd w b (l.map (Value.int .i64))) :
    Calls Tryz.prog 45 #[.slice a l.length ca, .slice b l.length cb] w fun e w' => e = .returned (.int .i64 0) ∧ Below w.heap.size w w' := by
  have HR := Lib.hid hr; have HS := Lib.hid hs; have HSG := Lib.hid (fun W => sign0_any W); obtain ⟨N, hN⟩ : ∃ N, l.length = N := ⟨_, rfl⟩; have HN := Lib.hid hN; rw [hN] at hl ⊢; clear hr hs hN
  go_enter Tryz.func45, Tryz.ntmps45
  go_wp2
  go_loopw [5] (fun i wr => ∃ k : Nat, k ≤ N ∧ i = .int .i64 k ∧ Below w.heap.size w wr) (fun i _ => N - (intOf i).toNat)
  case atStart => exact ⟨0, by omega, rfl, Below.refl _ _⟩
  case round =>
    obtain ⟨k, hk, rfl, hbl⟩ := hrel
    by_cases h1 : k < N
    · have h1' : (k : Int) < (N : Int) := by omega
      have hkl : k < l.length := by rw [HN.out]; exact h1
      obtain ⟨b1, o1, rfl, c0, hbb⟩ := (HR.out.keep hbl).at (i := k) (v := .int .i64 l[k]) (by simp [hkl]); obtain ⟨b2, o2, rfl, d0, hbb2⟩ := (HS.out.keep hbl).at (i := k) (v := .int .i64 l[k]) (by simp [hkl]); generalize l[k] = z at *; have d1 : wr.drew.cell? ⟨b1, o1 + k, none⟩ = some (.int .i64 z) := c0; have d2 : wr.drew.cell? ⟨b2, o2 + k, none⟩ = some (.int .i64 z) := d0; have hd := hbl.drew; go_wp2
      go_quiet (fail)
      go_wp2
      go_quiet (fail)
      go_wp2; exact ⟨⟨k + 1, by omega, by go_num, below_drewN hbl _⟩, by simp [intOf]; omega⟩
    · have h1' : ¬ (k : Int) < (N : Int) := by omega
      have hz : IntKind.i64.wrap ((N : Int) - (N : Int)) = 0 := by rw [Int.sub_self]; rfl
      go_wp2_with fail
      refine (HSG.out _).mono ?_; rintro e w1 ⟨rfl, rfl⟩; go_wp2; go_ret; exact ⟨rfl, hbl⟩
set_option maxHeartbeats 800000 in
theorem ints_same (a b : Option Addr) (ca cb : Nat) (l : List Int) (hl : l.length ≤ 1000000) (w : World) (hr : Rd w a (l.map (Value.int .i64))) (hs : Rd w b (l.map (Value.int .i64))) :
    Calls Tryz.prog 23 #[.slice a l.length ca, .slice b l.length cb] w fun e w' => e = .returned (.bool true) ∧ Below w.heap.size w w' := by
  have H := Lib.hid (cmp_same a b ca cb l hl w hr hs); clear hr hs
  go_enter Tryz.func23, Tryz.ntmps23
  go_wp2_with fail
  refine H.out.mono ?_; rintro e w1 ⟨rfl, hb⟩; go_wp2; go_ret; exact ⟨rfl, hb⟩
end Go.Proofs.YtkfgbjjelcigcaaGreatDoor
/- graticulelaw04.Ints and slices.Equal of any numbers. -/
set_option linter.unusedVariables false
set_option linter.unusedSimpArgs false
set_option maxRecDepth 100000
namespace Go
open Go.RowKit
theorem take_more {L M : List Int} {k : Nat} (h : L.take k = M.take k) (h1 : k < L.length) (h2 : k < M.length) (he : L[k] = M[k]) : L.take (k + 1) = M.take (k + 1) := by
  rw [List.take_succ_eq_append_getElem h1, List.take_succ_eq_append_getElem h2, h, he]
theorem ne_at {L M : List Int} {k : Nat} (h1 : k < L.length) (h2 : k < M.length) (he : L[k] ≠ M[k]) : L ≠ M := by
  rintro rfl; exact he rfl
theorem eq_end {L M : List Int} {k : Nat} (h : L.take k = M.take k) (h1 : L.length ≤ k ∨ M.length ≤ k) : L = M ↔ L.length = M.length := by
  refine ⟨fun h => by rw [h], fun hl => ?_⟩; have e1 : L.take k = L := List.take_of_length_le (by omega); have e2 : M.take k = M := List.take_of_length_le (by omega); rw [← e1, ← e2, h]
end Go
namespace Go.Proofs.YtkfgbjjelcigcaaGreatDoor
open Go.RowKit
set_option maxHeartbeats 800000 in
theorem sign_any (n : Int) (w : World) :
    Calls Tryz.prog 62 #[.int .i64 n] w fun e w' => e = .returned (.int .i64 (if 0 < n then 1 else if n < 0 then -1 else 0)) ∧ w' = w := by
  go_enter Tryz.func62, Tryz.ntmps62
  by_cases h1 : 0 < n
  · rw [if_pos h1]; go_wp2; go_ret; exact ⟨rfl, rfl⟩
  · rw [if_neg h1]
    by_cases h2 : n < 0
    · rw [if_pos h2]; go_wp2; go_ret; exact ⟨rfl, rfl⟩
    · rw [if_neg h2]; go_wp2; go_ret; exact ⟨rfl, rfl⟩
set_option maxHeartbeats 3200000 in
theorem cmp_gen (a b : Option Addr) (ca cb : Nat) (L M : List Int) (hl : L.length ≤ 1000000) (hm : M.length ≤ 1000000) (w : World) (hr : Rd w a (L.map (Value.int .i64))) (hs : Rd w b (M.map (Value.int .i64))) :
    Calls Tryz.prog 45 #[.slice a L.length ca, .slice b M.length cb] w fun e w' => ∃ z : Int, e = .returned (.int .i64 z) ∧ Hid (z = 0 ↔ L = M) ∧ Below w.heap.size w w' := by
  have HR := Lib.hid hr; have HS := Lib.hid hs; have HSG := Lib.hid (fun n W => sign_any n W); have HE := Lib.hid (fun k h => @eq_end L M k h); obtain ⟨N, hN⟩ : ∃ N, L.length = N := ⟨_, rfl⟩; obtain ⟨K, hK⟩ : ∃ N, M.length = N := ⟨_, rfl⟩; have HN := Lib.hid hN; have HK := Lib.hid hK; rw [hN] at hl HE ⊢; rw [hK] at hm HE ⊢; clear hr hs hN hK
  go_enter Tryz.func45, Tryz.ntmps45
  go_wp2
  go_loopw [5] (fun i wr => ∃ k : Nat, k ≤ N ∧ k ≤ K ∧ i = .int .i64 k ∧ Hid (L.take k = M.take k) ∧ Below w.heap.size w wr) (fun i _ => N - (intOf i).toNat)
  case atStart => exact ⟨0, by omega, by omega, rfl, Lib.hid rfl, Below.refl _ _⟩
  case round =>
    obtain ⟨k, hk, hk2, rfl, HT, hbl⟩ := hrel; have main : (k = N ∨ k = K) → ∀ W, Below w.heap.size w W → ∃ z : Int, (if 0 < ((N : Int) - (K : Int)) then 1 else if ((N : Int) - (K : Int)) < 0 then -1 else 0) = z ∧ Hid (z = 0 ↔ L = M) := by
      intro h W _; refine ⟨_, rfl, Lib.hid ?_⟩; rw [HE.out k HT.out (by omega)]; constructor
      · intro h
        by_cases h1 : (0 : Int) < (N : Int) - (K : Int)
        · rw [if_pos h1] at h; omega
        · rw [if_neg h1] at h
          by_cases h2 : (N : Int) - (K : Int) < 0
          · rw [if_pos h2] at h; omega
          · omega
      · intro h; rw [if_neg (by omega), if_neg (by omega)]
    have MAIN := Lib.hid main; clear main HE
    by_cases h1 : k < N
    · have h1' : (k : Int) < (N : Int) := by omega
      by_cases h2 : k < K
      · have h2' : (k : Int) < (K : Int) := by omega
        have hkl : k < L.length := by rw [HN.out]; exact h1
        have hkm : k < M.length := by rw [HK.out]; exact h2
        obtain ⟨b1, o1, rfl, c0, hbb⟩ := (HR.out.keep hbl).at (i := k) (v := .int .i64 L[k]) (by simp [hkl]); obtain ⟨b2, o2, rfl, d0, hbb2⟩ := (HS.out.keep hbl).at (i := k) (v := .int .i64 M[k]) (by simp [hkm]); have HNE := Lib.hid (@ne_at L M k hkl hkm); have HTM := Lib.hid (@take_more L M k HT.out hkl hkm); generalize L[k] = x at *; generalize M[k] = y at *; have d1 : wr.drew.cell? ⟨b1, o1 + k, none⟩ = some (.int .i64 x) := c0; have d2 : wr.drew.cell? ⟨b2, o2 + k, none⟩ = some (.int .i64 y) := d0; have hd := hbl.drew; go_wp2
        by_cases hxy : x < y
        · go_quiet (fail)
          go_wp2; refine bodyPost_ret (v := .int .i64 (-1)) (by simp [results, Tryz.results45, go_sem]) rfl ⟨-1, rfl, Lib.hid ⟨fun h => absurd h (by decide), fun h => absurd h (HNE.out (by omega))⟩, below_drewN hbl _⟩
        · go_quiet (fail)
          go_wp2
          by_cases hyx : y < x
          · go_quiet (fail)
            go_wp2; refine bodyPost_ret (v := .int .i64 1) (by simp [results, Tryz.results45, go_sem]) rfl ⟨1, rfl, Lib.hid ⟨fun h => absurd h (by decide), fun h => absurd h (HNE.out (by omega))⟩, below_drewN (below_drewN hbl _) _⟩
          · go_quiet (fail)
            have HT2 := Lib.hid (HTM.out (by omega)); go_wp2; exact ⟨⟨k + 1, by omega, by omega, by go_num, HT2, below_drewN hbl _⟩, by simp [intOf]; omega⟩
      · have h2' : ¬ (k : Int) < (K : Int) := by omega
        obtain ⟨z, hz, HZ⟩ := MAIN.out (by omega) _ hbl; have HSX := Lib.hid (HSG.out (((N : Int) - (K : Int)))); rw [hz] at HSX; clear hz
        go_wp2_with fail
        refine (HSX.out _).mono ?_; rintro e w1 ⟨rfl, rfl⟩; go_wp2; go_ret; exact ⟨z, rfl, HZ, hbl⟩
    · have h1' : ¬ (k : Int) < (N : Int) := by omega
      obtain ⟨z, hz, HZ⟩ := MAIN.out (by omega) _ hbl; have HSX := Lib.hid (HSG.out (((N : Int) - (K : Int)))); rw [hz] at HSX; clear hz
      go_wp2_with fail
      refine (HSX.out _).mono ?_; rintro e w1 ⟨rfl, rfl⟩; go_wp2; go_ret; exact ⟨z, rfl, HZ, hbl⟩
set_option maxHeartbeats 800000 in
theorem ints_gen (a b : Option Addr) (ca cb : Nat) (L M : List Int) (hl : L.length ≤ 1000000) (hm : M.length ≤ 1000000) (w : World) (hr : Rd w a (L.map (Value.int .i64))) (hs : Rd w b (M.map (Value.int .i64))) :
    Calls Tryz.prog 23 #[.slice a L.length ca, .slice b M.length cb] w fun e w' => e = .returned (.bool (decide (L = M))) ∧ Below w.heap.size w w' := by
  have H := Lib.hid (cmp_gen a b ca cb L M hl hm w hr hs); obtain ⟨D, hD⟩ : ∃ D, decide (L = M) = D := ⟨_, rfl⟩; rw [hD]; have HD := Lib.hid hD; clear hr hs hD
  go_enter Tryz.func23, Tryz.ntmps23
  go_wp2_with fail
  refine H.out.mono ?_; rintro e w1 ⟨z, rfl, HZ, hb⟩; have hd : (z == 0) = D := by
    rw [← HD.out, Bool.eq_iff_iff]; simp [HZ.out]
  go_wp2; go_ret; exact ⟨rfl, hb⟩
set_option maxHeartbeats 1600000 in
theorem eqI_any (a b : Option Addr) (ca cb : Nat) (L M : List Int) (hl : L.length ≤ 1000000) (hm : M.length ≤ 1000000) (w : World) (hr : Rd w a (L.map (Value.int .i64))) (hs : Rd w b (M.map (Value.int .i64))) :
    Calls Tryz.prog 42 #[.slice a L.length ca, .slice b M.length cb] w fun e w' => e = .returned (.bool (decide (L = M))) ∧ Below w.heap.size w w' := by
  have HR := Lib.hid hr; have HS := Lib.hid hs; have HE := Lib.hid (fun k h => @eq_end L M k h); obtain ⟨D, hD⟩ : ∃ D, decide (L = M) = D := ⟨_, rfl⟩; rw [hD]; have HD := Lib.hid hD; obtain ⟨N, hN⟩ : ∃ N, L.length = N := ⟨_, rfl⟩; obtain ⟨K, hK⟩ : ∃ N, M.length = N := ⟨_, rfl⟩; have HN := Lib.hid hN; have HK := Lib.hid hK; rw [hN] at hl HE ⊢; rw [hK] at hm HE ⊢; clear hr hs hN hK hD
  by_cases hNK : N = K
  · subst hNK
    go_enter Tryz.func42, Tryz.ntmps42
    go_wp2
    go_loopw [13] (fun i wr => ∃ k : Nat, k ≤ N ∧ i = .int .i64 k ∧ Hid (L.take k = M.take k) ∧ Below w.heap.size w wr) (fun i _ => N - (intOf i).toNat)
    case atStart => exact ⟨0, by omega, rfl, Lib.hid rfl, Below.refl _ _⟩
    case round =>
      obtain ⟨k, hk, rfl, HT, hbl⟩ := hrel
      by_cases h1 : k < N
      · have h1' : (k : Int) < (N : Int) := by omega
        have hkl : k < L.length := by rw [HN.out]; exact h1
        have hkm : k < M.length := by rw [HK.out]; exact h1
        obtain ⟨b1, o1, rfl, c0, hbb⟩ := (HR.out.keep hbl).at (i := k) (v := .int .i64 L[k]) (by simp [hkl]); obtain ⟨b2, o2, rfl, d0, hbb2⟩ := (HS.out.keep hbl).at (i := k) (v := .int .i64 M[k]) (by simp [hkm]); have HNE := Lib.hid (@ne_at L M k hkl hkm); have HTM := Lib.hid (@take_more L M k HT.out hkl hkm); generalize L[k] = x at *; generalize M[k] = y at *; have d1 : wr.drew.cell? ⟨b1, o1 + k, none⟩ = some (.int .i64 x) := c0; have d2 : wr.drew.cell? ⟨b2, o2 + k, none⟩ = some (.int .i64 y) := d0; have hd := hbl.drew
        by_cases hxy : x = y
        · subst hxy; have HT2 := Lib.hid (HTM.out rfl); go_wp2
          go_quiet (fail)
          go_wp2; exact ⟨⟨k + 1, by omega, by go_num, HT2, below_drewN hbl _⟩, by simp [intOf]; omega⟩
        · have hx : D = false := by rw [← HD.out]; exact decide_eq_false (HNE.out hxy)
          subst hx; go_wp2
          go_quiet (fail)
          go_wp2; go_ret; exact ⟨rfl, below_drewN hbl _⟩
      · have h1' : ¬ (k : Int) < (N : Int) := by omega
        have hx : D = true := by rw [← HD.out]; exact decide_eq_true ((HE.out k HT.out (by omega)).2 (by trivial))
        subst hx; go_wp2; go_ret; exact ⟨rfl, hbl⟩
  · have hx : D = false := by rw [← HD.out]; exact decide_eq_false (fun h => hNK (by rw [← HN.out, ← HK.out, h]))
    subst hx; have h1 : ((N : Int) = (K : Int)) = False := by simp; omega
    go_enter Tryz.func42, Tryz.ntmps42
    go_wp2; go_ret; exact ⟨rfl, Below.refl _ _⟩
end Go.Proofs.YtkfgbjjelcigcaaGreatDoor
/- script.Same of any items. -/
set_option linter.unusedVariables false
set_option linter.unusedSimpArgs false
set_option maxRecDepth 100000
namespace Go
theorem ba_inj (a b : ByteArray) : a = b ↔ a.toList = b.toList := by
  refine ⟨fun h => by rw [h], fun h => ?_⟩; rw [ByteArray.toList_eq, ByteArray.toList_eq] at h; exact ByteArray.ext (Array.ext' h)
end Go
namespace Go.Proofs.YtkfgbjjelcigcaaGreatDoor
open Go.RowKit
set_option maxHeartbeats 3200000 in
theorem same1_any (x y : It) (hx : x.n.length ≤ 1000000) (hy : y.n.length ≤ 1000000) (w : World) (hox : x.Ok w) (hoy : y.Ok w) :
    Calls Tryz.prog 41 #[x.val, y.val] w fun e w' => e = .returned (.bool (decide (x.core = y.core))) ∧ Below w.heap.size w w' := by
  have HE := Lib.hid (fun (W : World) (h : Below w.heap.size w W) => eqI_any x.np y.np x.nc y.nc x.n y.n hx hy W (hox.1.keep h) (hoy.1.keep h)); clear hox hoy hx hy; obtain ⟨kd, n, key, ⟨v1, v2, v3⟩, np, nc⟩ := x; obtain ⟨kd', n', key', ⟨v1', v2', v3'⟩, mp, mc⟩ := y; obtain ⟨D, hD⟩ : ∃ D, decide (It.core ⟨kd, n, key, ⟨v1, v2, v3⟩, np, nc⟩ = It.core ⟨kd', n', key', ⟨v1', v2', v3'⟩, mp, mc⟩) = D := ⟨_, rfl⟩; rw [hD]; have hD2 : (decide (kd = kd') && (decide (n = n') && (decide (key.toList = key'.toList) && (decide (v1 = v1') && (decide (v2.toList = v2'.toList) && decide (v3 = v3')))))) = D := by
    rw [← hD, Bool.eq_iff_iff]; simp [It.core, ba_inj]
  clear hD; dsimp only [It.val, It.nval] at HE ⊢; obtain ⟨E, hE⟩ : ∃ E, decide (n = n') = E := ⟨_, rfl⟩; rw [hE] at HE hD2; clear hE; obtain ⟨B, hB⟩ : ∃ B, w.heap.size = B := ⟨_, rfl⟩; generalize n.length = n1 at *; generalize n'.length = n2 at *; have k1 := (Blk.lit w B [.int .i64 kd, .slice np n1 nc, .string key, .int .i64 v1, .string v2, .int .i64 v3] 46 hB).alloc (.cells #[.int .i64 kd', .slice mp n2 mc, .string key', .int .i64 v1', .string v2', .int .i64 v3'] 46); have k2 := Blk.lit (w.alloc (.cells #[.int .i64 kd, .slice np n1 nc, .string key, .int .i64 v1, .string v2, .int .i64 v3] 46)) (B + 1) [.int .i64 kd', .slice mp n2 mc, .string key', .int .i64 v1', .string v2', .int .i64 v3'] 46 (by simp [hB]); have hb0 := (Below.new w (.cells #[.int .i64 kd, .slice np n1 nc, .string key, .int .i64 v1, .string v2, .int .i64 v3] 46)).alloc (by simp) (.cells #[.int .i64 kd', .slice mp n2 mc, .string key', .int .i64 v1', .string v2', .int .i64 v3'] 46); have HD := Lib.hid hD2; clear hD2
  go_enter Tryz.func41, Tryz.ntmps41
  have a0 := k1.cell 0 rfl; have a1 := k1.cell 1 rfl; have b0 := k2.cell 0 rfl; have b1 := k2.cell 1 rfl
  by_cases hk : kd = kd'
  · subst hk
    go_wp2_with fail
    generalize (w.alloc (.cells #[.int .i64 kd, .slice np n1 nc, .string key, .int .i64 v1, .string v2, .int .i64 v3] 46)).alloc (.cells #[.int .i64 kd, .slice mp n2 mc, .string key', .int .i64 v1', .string v2', .int .i64 v3'] 46) = w1 at *; clear hB; refine (HE.out _ hb0).mono ?_; rintro e w2 ⟨rfl, hb2⟩; have k1 := k1.keep hb2; have k2 := k2.keep hb2; have hbw := hb0.trans (hb2.mono hb0.size); clear a0 a1 b0 b1 HE; have a2 := k1.cell 2 rfl; have a3 := k1.cell 3 rfl; have a4 := k1.cell 4 rfl; have a5 := k1.cell 5 rfl; have b2 := k2.cell 2 rfl; have b3 := k2.cell 3 rfl; have b4 := k2.cell 4 rfl; have b5 := k2.cell 5 rfl
    cases E with
    | false =>
      have hx : D = false := by rw [← HD.out]; simp
      subst hx; go_wp2; go_ret; exact ⟨rfl, hbw⟩
    | true =>
      go_wp2
      all_goals (go_ret; exact ⟨ret_bool (by rw [← HD.out]; simp [*]), hbw⟩)
  · have hx : D = false := by rw [← HD.out]; simp [hk]
    subst hx; go_wp2; go_ret; exact ⟨rfl, hb0⟩
theorem core_more {X Y : List It} {k : Nat} (h : (X.take k).map It.core = (Y.take k).map It.core) (h1 : k < X.length) (h2 : k < Y.length) (he : X[k].core = Y[k].core) : (X.take (k + 1)).map It.core = (Y.take (k + 1)).map It.core := by
  rw [List.take_succ_eq_append_getElem h1, List.take_succ_eq_append_getElem h2, List.map_append, List.map_append, h, List.map_singleton, List.map_singleton, he]
theorem core_ne {X Y : List It} {k : Nat} (h1 : k < X.length) (h2 : k < Y.length) (he : X[k].core ≠ Y[k].core) : X.map It.core ≠ Y.map It.core := by
  intro h; have := congrArg (fun z => z[k]?) h; simp [h1, h2] at this; exact he this
theorem core_end {X Y : List It} {k : Nat} (h : (X.take k).map It.core = (Y.take k).map It.core) (h1 : X.length = k) (h2 : Y.length = k) : X.map It.core = Y.map It.core := by
  rwa [List.take_of_length_le (by omega), List.take_of_length_le (by omega)] at h
set_option maxHeartbeats 3200000 in
theorem eqIt_any (a b : Option Addr) (ca cb : Nat) (X Y : List It) (hl : X.length ≤ 1000000) (hl2 : Y.length ≤ 1000000) (hn : ∀ x ∈ X, x.n.length ≤ 1000000) (hn2 : ∀ x ∈ Y, x.n.length ≤ 1000000) (w : World) (hr : Rd w a (its X)) (hs : Rd w b (its Y)) (hX : ∀ x ∈ X, x.Ok w) (hY : ∀ y ∈ Y, y.Ok w) :
    Calls Tryz.prog 40 #[.slice a X.length ca, .slice b Y.length cb, .func (.func 41) #[] #[]] w fun e w' => e = .returned (.bool (decide (X.map It.core = Y.map It.core))) ∧ Below w.heap.size w w' := by
  have HR := Lib.hid hr; have HS := Lib.hid hs; have HX := Lib.hid hX; have HY := Lib.hid hY; have HN1 := Lib.hid hn; have HN2 := Lib.hid hn2; obtain ⟨D, hD⟩ : ∃ D, decide (X.map It.core = Y.map It.core) = D := ⟨_, rfl⟩; rw [hD]; have HD := Lib.hid hD; have HNL : Hid (X.length ≠ Y.length → D = false) := Lib.hid (fun h => by
    rw [← hD]; exact decide_eq_false (fun e => h (by simpa using congrArg List.length e)))
  obtain ⟨N, hN⟩ : ∃ N, X.length = N := ⟨_, rfl⟩; obtain ⟨K, hK⟩ : ∃ N, Y.length = N := ⟨_, rfl⟩; have HN := Lib.hid hN; have HK := Lib.hid hK; rw [hN] at hl HNL ⊢; rw [hK] at hl2 HNL ⊢; clear hr hs hN hK hD hX hY hn hn2
  by_cases hNK : N = K
  · subst hNK
    go_enter Tryz.func40, Tryz.ntmps40
    go_wp2
    go_loopw [17] (fun i wr => ∃ k : Nat, k ≤ N ∧ i = .int .i64 k ∧ Hid ((X.take k).map It.core = (Y.take k).map It.core) ∧ Below w.heap.size w wr) (fun i _ => N - (intOf i).toNat)
    case atStart => exact ⟨0, by omega, rfl, Lib.hid rfl, Below.refl _ _⟩
    case round =>
      obtain ⟨k, hk, rfl, HT, hbl⟩ := hrel
      by_cases h1 : k < N
      · have h1' : (k : Int) < (N : Int) := by omega
        have hkl : k < X.length := by rw [HN.out]; exact h1
        have hkm : k < Y.length := by rw [HK.out]; exact h1
        obtain ⟨b1, o1, rfl, hbb, c0, c1, c2, c3, c4, c5⟩ := (HR.out.keep hbl).it k hkl; obtain ⟨b2, o2, rfl, hbb2, d0, d1, d2, d3, d4, d5⟩ := (HS.out.keep hbl).it k hkm; have HNE := Lib.hid (@core_ne X Y k hkl hkm); have HTM := Lib.hid (@core_more X Y k HT.out hkl hkm); have HXO := Lib.hid ((HX.out _ (List.getElem_mem hkl)).keep hbl); have HYO := Lib.hid ((HY.out _ (List.getElem_mem hkm)).keep hbl); have hx := HN1.out _ (List.getElem_mem hkl); have hy := HN2.out _ (List.getElem_mem hkm); generalize X[k] = x at *; generalize Y[k] = y at *; have HC := Lib.hid (fun W h1 h2 => same1_any x y hx hy W h1 h2); obtain ⟨E, hE⟩ : ∃ E, decide (x.core = y.core) = E := ⟨_, rfl⟩; rw [hE] at HC; have HE := Lib.hid hE; clear hE hx hy; have hx1 := Below.new wr (.cells #[.int .i64 x.kind, x.nval, .string x.key, .int .i64 x.v.1, .string x.v.2.1, .int .i64 x.v.2.2] 46); have hx2 := hx1.alloc (by simp) (.cells #[.int .i64 y.kind, y.nval, .string y.key, .int .i64 y.v.1, .string y.v.2.1, .int .i64 y.v.2.2] 46); have e0 := (hx1.cell (p := ⟨b2, o2 + k * 6, none⟩) hbb2).trans d0; have e1 := (hx1.cell (p := ⟨b2, o2 + k * 6 + 1, none⟩) hbb2).trans d1; have e2 := (hx1.cell (p := ⟨b2, o2 + k * 6 + 2, none⟩) hbb2).trans d2; have e3 := (hx1.cell (p := ⟨b2, o2 + k * 6 + 3, none⟩) hbb2).trans d3; have e4 := (hx1.cell (p := ⟨b2, o2 + k * 6 + 4, none⟩) hbb2).trans d4; have e5 := (hx1.cell (p := ⟨b2, o2 + k * 6 + 5, none⟩) hbb2).trans d5; obtain ⟨B, hB⟩ : ∃ B, wr.heap.size = B := ⟨_, rfl⟩; have k1 := (Blk.lit wr B [.int .i64 x.kind, x.nval, .string x.key, .int .i64 x.v.1, .string x.v.2.1, .int .i64 x.v.2.2] 46 hB).alloc (.cells #[.int .i64 y.kind, y.nval, .string y.key, .int .i64 y.v.1, .string y.v.2.1, .int .i64 y.v.2.2] 46)
        have k2 := Blk.lit (wr.alloc (.cells #[.int .i64 x.kind, x.nval, .string x.key, .int .i64 x.v.1, .string x.v.2.1, .int .i64 x.v.2.2] 46)) (B + 1) [.int .i64 y.kind, y.nval, .string y.key, .int .i64 y.v.1, .string y.v.2.1, .int .i64 y.v.2.2] 46 (by simp [hB]); have f0 := k1.cell 0 rfl; have f1 := k1.cell 1 rfl; have f2 := k1.cell 2 rfl; have f3 := k1.cell 3 rfl; have f4 := k1.cell 4 rfl; have f5 := k1.cell 5 rfl; have g0 := k2.cell 0 rfl; have g1 := k2.cell 1 rfl; have g2 := k2.cell 2 rfl; have g3 := k2.cell 3 rfl; have g4 := k2.cell 4 rfl; have g5 := k2.cell 5 rfl; dsimp only [It.val] at HC; unfold It.nval at *; generalize x.n.length = n1 at *; generalize y.n.length = n2 at *
        go_wp2_with fail
        refine (HC.out _ (HXO.out.keep hx2) (HYO.out.keep hx2)).mono ?_; rintro e w1 ⟨rfl, hb1⟩; have hb2 := hbl.trans ((hx2.trans (hb1.mono hx2.size)).mono hbl.size); clear hx1 hx2 e0 e1 e2 e3 e4 e5 hB k1 k2 f0 f1 f2 f3 f4 f5 g0 g1 g2 g3 g4 g5 HC hb1
        cases E with
        | true =>
          have HT2 := Lib.hid (HTM.out (of_decide_eq_true HE.out)); go_wp2; exact ⟨⟨k + 1, by omega, by go_num, HT2, hb2⟩, by simp [intOf]; omega⟩
        | false =>
          have hx : D = false := by rw [← HD.out]; exact decide_eq_false (HNE.out (of_decide_eq_false HE.out))
          subst hx; go_wp2; go_ret; exact ⟨rfl, hb2⟩
      · have h1' : ¬ (k : Int) < (N : Int) := by omega
        obtain rfl : k = N := by omega
        have hx : D = true := by rw [← HD.out]; exact decide_eq_true (core_end HT.out HN.out HK.out)
        subst hx; go_wp2; go_ret; exact ⟨rfl, hbl⟩
  · have hx : D = false := HNL.out hNK; subst hx; have h1 : ((N : Int) = (K : Int)) = False := by simp; omega
    go_enter Tryz.func40, Tryz.ntmps40
    go_wp2; go_ret; exact ⟨rfl, Below.refl _ _⟩
set_option maxHeartbeats 800000 in
theorem isameg_any (a b : Option Addr) (ca cb : Nat) (X Y : List It) (hl : X.length ≤ 1000000) (hl2 : Y.length ≤ 1000000) (hn : ∀ x ∈ X, x.n.length ≤ 1000000) (hn2 : ∀ x ∈ Y, x.n.length ≤ 1000000) (w : World) (hr : Rd w a (its X)) (hs : Rd w b (its Y)) (hX : ∀ x ∈ X, x.Ok w) (hY : ∀ y ∈ Y, y.Ok w) :
    Calls Tryz.prog 19 #[.slice a X.length ca, .slice b Y.length cb] w fun e w' => e = .returned (.bool (decide (X.map It.core = Y.map It.core))) ∧ Below w.heap.size w w' := by
  have H := Lib.hid (eqIt_any a b ca cb X Y hl hl2 hn hn2 w hr hs hX hY); clear hr hs hX hY
  go_enter Tryz.func19, Tryz.ntmps19
  go_wp2_with fail
  refine H.out.mono ?_; rintro e w1 ⟨rfl, hb⟩; go_wp2; go_ret; exact ⟨rfl, hb⟩
end Go.Proofs.YtkfgbjjelcigcaaGreatDoor
