/-
  script.line, of a right item's line. script.end: where the first line ends.
-/
import Derived.Test.YtkfgbjjelcigcaaGreatDoorPk10
import Derived.Test.YtkfgbjjelcigcaaGreatDoorPk9
/- script.line, of a right item's line. -/
set_option linter.unusedVariables false
set_option linter.unusedSimpArgs false
set_option maxRecDepth 100000
namespace Go
open Go.RowKit
theorem fits_le {k : Int} {n : Nat} (h : fitsF k n = true) : n ≤ 600 := by
  unfold fitsF at h
  (repeat' split at h) <;> simp at h <;> omega
theorem name_size {s : ByteArray} (h : nameF s = true) : s.size ≤ 128 := by
  have h0 := h; unfold nameF at h; simp only [Bool.and_eq_true, decide_eq_true_eq] at h; obtain ⟨⟨h1, h2⟩, -⟩ := h; have e := (right_split s h1).1; have hl : ∀ rs : List Nat, (rs.flatMap encR).length ≤ 4 * rs.length := by
    intro rs
    induction rs with
    | nil => simp
    | cons r rs ih =>
      have := (encR_len r).2; rw [List.flatMap_cons, List.length_append, List.length_cons]; omega
  have h3 := hl ((runesF s).map (·.1)); rw [← e, Array.length_toList, List.length_map] at h3; have : s.data.size = s.size := rfl; omega
theorem line_len (x : It) (h : chkI x = 0) : (lineF x).length ≤ 20000 := by
  obtain ⟨h1, h2, h3, h4⟩ := chkI_zero x h; have hk : (kwS x.kind).data.toList.length ≤ 6 := by
    have := x.kind; have : x.kind = 1 ∨ x.kind = 2 ∨ x.kind = 3 ∨ x.kind = 4 ∨ x.kind = 5 ∨ x.kind = 6 ∨ x.kind = 7 ∨ x.kind = 8 ∨ x.kind = 9 ∨ x.kind = 10 ∨ x.kind = 11 := by omega
    rcases this with e | e | e | e | e | e | e | e | e | e | e <;> (rw [e]; decide)
  have hn := fits_le h2; have ht : ∀ l : List Int, (∀ n ∈ l, -1152921504606846976 ≤ n ∧ n ≤ 1152921504606846976) → (tl (l.map (fun n => pw (Lib.itoa n)))).length ≤ 30 * l.length := by
    intro l
    induction l with
    | nil => simp [tl]
    | cons n l ih =>
      intro hl; have i1 := Lib.itoa_length_le n (by have := hl n (by simp); omega) (by have := hl n (by simp); omega); have i2 := ih (fun m hm => hl m (by simp [hm])); simp only [tl, List.map_cons, List.flatMap_cons, List.length_append, List.length_cons, pw] at i2 ⊢; omega
  unfold lineF; rw [List.length_append]; have hr : (tl (rest6 x)).length ≤ 19000 := by
    unfold rest6
    rcases h4 with ⟨h5, h6, h7⟩ | ⟨h5, h6, h7, h8⟩
    · rw [if_neg h5]; have := ht x.n h3; omega
    · rw [if_pos h5]; have k1 := name_size h7; have k2 : (vw x.v).1.length ≤ 400 := by
        have hz := vE_zero x.v h8; unfold vw prnF
        split
        · have := quote_len x.v.2.1
          rcases hz with h | h | h | h <;> first | (dsimp only; omega) | (exfalso; omega)
        · have hi : (Lib.itoa x.v.2.2).length ≤ 21 := by
            refine Nat.le_trans (Lib.itoa_length_le x.v.2.2 ?_ ?_) (by decide) <;> (rcases hz with h | h | h | h <;> omega)
          unfold pw
          (repeat' split) <;> simp <;> omega
      have k3 : x.key.data.toList.length = x.key.size := by rw [Array.length_toList]; rfl
      simp only [tl, List.flatMap_cons, List.flatMap_nil, List.length_append, List.length_cons, List.length_nil, pw]; omega
  omega
theorem kw_same (k : Int) (h : 1 ≤ k ∧ k ≤ 11) (j : Nat) (hj : j ≤ 11) : ((kwS k).toList == (kws.getD j ⟨#[]⟩).toList) = decide ((j : Int) = k) := by
  have : k = 1 ∨ k = 2 ∨ k = 3 ∨ k = 4 ∨ k = 5 ∨ k = 6 ∨ k = 7 ∨ k = 8 ∨ k = 9 ∨ k = 10 ∨ k = 11 := by omega
  have hj : j = 0 ∨ j = 1 ∨ j = 2 ∨ j = 3 ∨ j = 4 ∨ j = 5 ∨ j = 6 ∨ j = 7 ∨ j = 8 ∨ j = 9 ∨ j = 10 ∨ j = 11 := by omega
  simp only [ByteArray.toList_eq]
  rcases this with rfl | rfl | rfl | rfl | rfl | rfl | rfl | rfl | rfl | rfl | rfl <;> (rcases hj with rfl | rfl | rfl | rfl | rfl | rfl | rfl | rfl | rfl | rfl | rfl | rfl <;> decide)
end Go
namespace Go.Proofs.YtkfgbjjelcigcaaGreatDoor
open Go.RowKit
theorem kwix0 (W : World) : (Instr.index 99 kwVal (.int .i64 0)).run Tryz.prog W = .ok (.string (kws.getD 0 ⟨#[]⟩)) W := by kernel_rfl
theorem kwix (j : Nat) (hj : j ≤ 11) (W : World) : (Instr.index 99 kwVal (.int .i64 j)).run Tryz.prog W = .ok (.string (kws.getD j ⟨#[]⟩)) W := by
  have : j = 0 ∨ j = 1 ∨ j = 2 ∨ j = 3 ∨ j = 4 ∨ j = 5 ∨ j = 6 ∨ j = 7 ∨ j = 8 ∨ j = 9 ∨ j = 10 ∨ j = 11 := by omega
  rcases this with rfl | rfl | rfl | rfl | rfl | rfl | rfl | rfl | rfl | rfl | rfl | rfl
  · exact kwix0 W
  · exact kwix1 W
  · exact kwix2 W
  · exact kwix3 W
  · exact kwix4 W
  · exact kwix5 W
  · exact kwix6 W
  · exact kwix7 W
  · exact kwix8 W
  · exact kwix9 W
  · exact kwix10 W
  · exact kwix11 W

set_option maxHeartbeats 12800000 in
theorem line_any (x : It) (hc : chkI x = 0) (w : World) :
    Calls Tryz.prog 44 #[.string ⟨(lineF x).toArray⟩] w fun e w' => ∃ g : It, e = .returned (.tuple #[g.val, .int .i64 0]) ∧ g.kind = x.kind ∧ g.n = x.n ∧ g.key = x.key ∧ g.v = x.v ∧ w'.ownsRow w.heap.size 3 1 g.nval g.n.length (g.n.map (Value.int .i64)) ∧ Below w.heap.size w w' := by
  have hlen := line_len x hc; have hwd := line_words x hc; have HWD := Lib.hid (fun W => words_any ⟨(lineF x).toArray⟩ (by rw [lsize]; omega) W); rw [hwd] at HWD; obtain ⟨h1, h2, h3, h4⟩ := chkI_zero x hc; have hn600 := fits_le h2; have HKS := Lib.hid (kw_same x.kind h1); obtain ⟨WS, hWS⟩ : ∃ l, (((kwS x.kind).data.toList, false) :: (rest6 x).map (·.2)) = l := ⟨_, rfl⟩; have HWS := Lib.hid hWS; simp only [hWS] at HWD; generalize (⟨(lineF x).toArray⟩ : ByteArray) = LN at *; obtain ⟨B, hB⟩ : ∃ B, w.heap.size = B := ⟨_, rfl⟩; have HBQ := Lib.hid hB; have hb0 := Below.new w (.cells #[.int .i64 0, .slice none 0 0, .string ⟨#[]⟩, .int .i64 0, .string ⟨#[]⟩, .int .i64 0] 46); have k0 := Blk.lit w B [.int .i64 0, .slice none 0 0, .string ⟨#[]⟩, .int .i64 0, .string ⟨#[]⟩, .int .i64 0] 46 hB; clear hlen hwd hWS hc
  go_enter Tryz.func44, Tryz.ntmps44
  go_wp2_with fail
  generalize w.alloc (.cells #[.int .i64 0, .slice none 0 0, .string ⟨#[]⟩, .int .i64 0, .string ⟨#[]⟩, .int .i64 0] 46) = w0 at *; refine (HWD.out _).mono ?_; rintro e w1 ⟨v, rfl, hown, hb1⟩; obtain ⟨wa, wc, rfl, hwlc, hwcm, hwn, hwr, -⟩ := hown.form; have k1 := k0.keep hb1; have hbw1 := hb0.trans (hb1.mono hb0.size); have HWR := Lib.hid hwr; clear HWD hown k0 hb0 hb1 hwr hB; obtain ⟨L, hL⟩ : ∃ L, WS.length = L := ⟨_, rfl⟩; have HL := Lib.hid hL; rw [hL] at hwlc; rw [hL]; clear hL; have hL1 : 1 ≤ L := by rw [← HL.out, ← HWS.out]; simp
  have hL1' : (0 : Int) < (L : Int) := by omega
  have hL0 : 0 < L := by omega
  have hLb : L ≤ 601 := by
    rw [← HL.out, ← HWS.out]; simp only [List.length_cons, List.length_map]; unfold rest6
    split <;> simp <;> omega
  obtain ⟨C, hC⟩ : ∃ C, w1.heap.size = C := ⟨_, rfl⟩; have HCQ := Lib.hid hC; have hb2 := Below.new w1 (.cells #[.int .i64 0, .slice none 0 0, .string ⟨#[]⟩, .int .i64 0, .string ⟨#[]⟩, .int .i64 0] 46); have m2 := Blk.lit w1 C [.int .i64 0, .slice none 0 0, .string ⟨#[]⟩, .int .i64 0, .string ⟨#[]⟩, .int .i64 0] 46 hC; have HWO := Lib.hid (fun W => words_any' W)
  go_wp2_with fail
  have hbw2 := hbw1.trans (hb2.mono hbw1.size); have k2 := k1.keep hb2; generalize w1.alloc (.cells #[.int .i64 0, .slice none 0 0, .string ⟨#[]⟩, .int .i64 0, .string ⟨#[]⟩, .int .i64 0] 46) = w2 at *; refine (HWO.out _).mono ?_; rintro e w3 ⟨rfl, hb3⟩; have hbl3 := hb2.trans (hb3.mono hb2.size); have k3 := k2.keep hb3; have m3 := m2.keep hb3; have hBC : B < C := by have := k1.lt; omega
  have K1 := Lib.hid k1; have hBC2 : B ≠ C := by omega
  have hBlC : B < C := hBC; clear hb2 hbw2 k2 m2 hb3 HWO k1 hC; obtain ⟨wb, wo, hwa, c0, hwb⟩ := HWR.out.at (i := 0) (v := .string (kwS x.kind)) (by rw [← HWS.out]; simp [wcells, wcell]); subst hwa; obtain ⟨wb', wo', e, c1, -⟩ := HWR.out.at (i := 1) (v := .bool false) (by rw [← HWS.out]; simp [wcells, wcell])
  cases e
  rw [Nat.add_zero] at c0; obtain ⟨kind, hkd⟩ : ∃ k, x.kind = k := ⟨_, rfl⟩; rw [hkd] at h1 h2 h4 HKS c0; have HKD := Lib.hid hkd; have hkC : (kwS kind).size ≤ 100 := by
    have : kind = 1 ∨ kind = 2 ∨ kind = 3 ∨ kind = 4 ∨ kind = 5 ∨ kind = 6 ∨ kind = 7 ∨ kind = 8 ∨ kind = 9 ∨ kind = 10 ∨ kind = 11 := by omega
    rcases this with e | e | e | e | e | e | e | e | e | e | e <;> (rw [e]; decide)
  obtain ⟨KWL, hKWL⟩ : ∃ K, (kwS x.kind).data.toList = K := ⟨_, rfl⟩; have HKL := Lib.hid hKWL; clear hKWL; generalize kwS kind = KW at *; clear hkd; have HIX := Lib.hid kwix; generalize kwVal = KV at *; go_wp2
  go_loopw [26] (fun i wr => ∃ j : Nat, j ≤ 12 ∧ i = .int .i64 j ∧ Blk wr C [.int .i64 (if kind < (j : Int) then kind else 0), .slice none 0 0, .string ⟨#[]⟩, .int .i64 0, .string ⟨#[]⟩, .int .i64 0] ∧ Below w1.heap.size w1 wr) (fun i _ => 12 - (intOf i).toNat)
  case atStart => exact ⟨0, by omega, rfl, by rw [if_neg (by omega)]; exact m3, hbl3⟩
  case round =>
    obtain ⟨j, hj, rfl, hm, hbl⟩ := hrel
    by_cases hlt : j < 12
    · have hlt' : (j : Int) < 12 := by omega
      have hix := HIX.out j (by omega); have hks := HKS.out j (by omega); generalize kws.getD j ⟨#[]⟩ = KJ at *; have d0 := (hbl.cell (p := ⟨wb, wo, none⟩) hwb).trans c0; have d1 := (hbl.cell (p := ⟨wb, wo + 1, none⟩) hwb).trans c1; have fC := hm.free 0; have cC := hm.cell 0 rfl
      by_cases hj0 : 0 < j
      · have hj0' : (0 : Int) < (j : Int) := by omega
        by_cases hjk : (j : Int) = kind
        · rw [decide_eq_true hjk] at hks; have hm2 := hm.set 0 (.int .i64 (j : Int)); have hbl2 := hbl.set_at (b := C) (o := 0) (by rw [HCQ.out]; exact Nat.le_refl _) (.int .i64 (j : Int)); have HM2 : Hid (Blk (wr.setCell ⟨C, 0, none⟩ (.int .i64 (j : Int))) C [.int .i64 (if kind < ((j + 1 : Nat) : Int) then kind else 0), .slice none 0 0, .string ⟨#[]⟩, .int .i64 0, .string ⟨#[]⟩, .int .i64 0]) := Lib.hid (by
            rw [if_pos (by omega), ← hjk]; exact hm2)
          clear hjk hm2; go_wp2
          all_goals exact ⟨⟨j + 1, by omega, by go_num, HM2.out, hbl2⟩, by simp [intOf]; omega⟩
        · rw [decide_eq_false hjk] at hks; have hm3 : Blk wr C [.int .i64 (if kind < ((j + 1 : Nat) : Int) then kind else 0), .slice none 0 0, .string ⟨#[]⟩, .int .i64 0, .string ⟨#[]⟩, .int .i64 0] := by
            have e : (if kind < ((j + 1 : Nat) : Int) then kind else 0) = (if kind < (j : Int) then kind else 0) := by split <;> split <;> omega
            rw [e]; exact hm
          have HM3 := Lib.hid hm3; clear hm3; go_wp2
          all_goals exact ⟨⟨j + 1, by omega, by go_num, HM3.out, hbl⟩, by simp [intOf]; omega⟩
      · obtain rfl : j = 0 := by omega
        have hix0 : ∀ W, (Instr.index 99 KV (.int .i64 0)).run Tryz.prog W = .ok (.string KJ) W := hix; go_wp2; refine ⟨⟨1, by omega, by go_num, ?_, hbl⟩, by simp [intOf]⟩; have e : (if kind < ((1 : Nat) : Int) then kind else 0) = (if kind < ((0 : Nat) : Int) then kind else 0) := by split <;> split <;> omega
        rw [e]; exact hm
    · have hlt' : ¬ (j : Int) < 12 := by omega
      rw [if_pos (by omega)] at hm; have x0 := hm.cell 0 rfl; have x1 := hm.cell 1 rfl; have hkz : (kind == 0) = false := by rw [beq_eq_false_iff_ne]; omega
      have hk3 := K1.out.keep hbl; clear HIX HKS c1 c0
      rcases h4 with ⟨h5, h6, h7⟩ | ⟨h5, h6, h7, h8⟩
      · have h5' : (kind == 6) = false := by rw [beq_eq_false_iff_ne]; omega
        have hL2 : L = 1 + x.n.length := by
          have := HL.out; rw [← HWS.out] at this; unfold rest6 at this; rw [if_neg (by rw [HKD.out]; exact h5)] at this; simp at this; omega
        have hWS2 : WS = ((kwS kind).data.toList, false) :: x.n.map (fun n => (Lib.itoa n, false)) := by
          rw [← HWS.out]; unfold rest6; rw [if_neg (by rw [HKD.out]; exact h5), HKD.out, List.map_map]
          rfl
        have HWS2 := Lib.hid hWS2; clear hWS2; obtain ⟨N, hN⟩ : ∃ N, x.n.length = N := ⟨_, rfl⟩; have HN := Lib.hid hN; rw [hN] at hL2 h2 hn600; clear hN
        by_cases hwc : wc = 1
        · have hN1 : N = 0 := by omega
          have hnil : x.n = [] := List.length_eq_zero_iff.1 (by rw [HN.out]; exact hN1); have ho0 : wr.ownsRow (C + 1) 3 1 (.slice none 0 0) N (x.n.map (Value.int .i64)) := by
            rw [hnil, hN1]; exact World.ownsRow_nil _ _ _ _
          have HO0 := Lib.hid ho0; clear ho0 hnil; subst hN1; subst hL2; subst hwc; go_wp2
          go_loopw [69] (fun i wq => i = .int .i64 0 ∧ wq = wr) (fun _ _ => 0)
          case atStart => exact ⟨rfl, rfl⟩
          case round =>
            obtain ⟨rfl, rfl⟩ := hrel; have ho := HO0.out; have hk4 := K1.out.keep hbl; have y0 := hm.cell 0 rfl; have y1 := hm.cell 1 rfl; have HFI := Lib.hid (fun W => kfits_any kind 0 (by omega) W); rw [h2] at HFI
            go_wp2_with fail
            refine (HFI.out _).mono ?_; rintro e w5 ⟨rfl, rfl⟩; have y2 := hm.cell 2 rfl; have y3 := hm.cell 3 rfl; have y4 := hm.cell 4 rfl; have y5 := hm.cell 5 rfl; have f0 := hk4.free 0; have f1 := hk4.free 1; have f2 := hk4.free 2; have f3 := hk4.free 3; have f4 := hk4.free 4; have f5 := hk4.free 5; have g0 := hk4.cell 0 rfl; have g1 := hk4.cell 1 rfl; have g2 := hk4.cell 2 rfl; have g3 := hk4.cell 3 rfl; have g4 := hk4.cell 4 rfl; have g5 := hk4.cell 5 rfl; have hbW := hbw1.trans (hbl.mono hbw1.size); have hBw : w.heap.size ≤ B := by rw [HBQ.out]; exact Nat.le_refl _
            go_wp2; have sB := (((((hk4.set 0 (.int .i64 kind)).set 1 (.slice none 0 0)).set 2 (.string ⟨#[]⟩)).set 3 (.int .i64 0)).set 4 (.string ⟨#[]⟩)).set 5 (.int .i64 0); have hbZ := (((((hbW.set_at (b := B) (o := 0) hBw (.int .i64 kind)).set_at (b := B) (o := 1) hBw (.slice none 0 0)).set_at (b := B) (o := 2) hBw (.string ⟨#[]⟩)).set_at (b := B) (o := 3) hBw (.int .i64 0)).set_at (b := B) (o := 4) hBw (.string ⟨#[]⟩)).set_at (b := B) (o := 5) hBw (.int .i64 0); have q0 := sB.cell 0 rfl; have q1 := sB.cell 1 rfl; have q2 := sB.cell 2 rfl; have q3 := sB.cell 3 rfl; have q4 := sB.cell 4 rfl; have q5 := sB.cell 5 rfl; have hBo : B < C + 1 := by omega
            have hoZ := (((((ho.set_lt (o := 0) hBo (.int .i64 kind)).set_lt (o := 1) hBo (.slice none 0 0)).set_lt (o := 2) hBo (.string ⟨#[]⟩)).set_lt (o := 3) hBo (.int .i64 0)).set_lt (o := 4) hBo (.string ⟨#[]⟩)).set_lt (o := 5) hBo (.int .i64 0); refine bodyPost_ret (v := .tuple #[.agg #[.int .i64 kind, .slice none 0 0, .string ⟨#[]⟩, .int .i64 0, .string ⟨#[]⟩, .int .i64 0], .int .i64 0]) (by simp [results, Tryz.results44, go_sem, q0, q1, q2, q3, q4, q5]) rfl ?_; refine ⟨⟨kind, x.n, x.key, x.v, none, 0⟩, ?_, HKD.out.symm, rfl, rfl, rfl, ?_, hbZ⟩
            · dsimp only [It.val, It.nval]; rw [HN.out, h6, h7]
              rfl
            · dsimp only [It.nval]; rw [HN.out]; exact hoZ.mono (by rw [HBQ.out]; omega)
        · have hwc2 : 1 < wc := by omega
          subst hL2; go_wp2
          go_loopw [69] (fun i wq => ∃ (k : Nat) (nv : Value), k ≤ N ∧ i = .int .i64 k ∧ Blk wq C [.int .i64 kind, nv, .string ⟨#[]⟩, .int .i64 0, .string ⟨#[]⟩, .int .i64 0] ∧ wq.ownsRow (C + 1) 3 1 nv k ((x.n.take k).map (Value.int .i64)) ∧ Below w1.heap.size w1 wq) (fun i _ => N - (intOf i).toNat)
          case atStart => exact ⟨0, .slice none 0 0, Nat.zero_le _, rfl, hm, World.ownsRow_nil _ _ _ _, hbl⟩
          case round =>
            obtain ⟨k, nv, hk, rfl, hm, ho, hbl⟩ := hrel
            by_cases hlt : k < N
            · have hk1 : (k : Int) < (N : Int) := by omega
              have hkx : k < x.n.length := by rw [HN.out]; exact hlt
              have hzz := h3 _ (List.getElem_mem hkx); have hts : x.n.take (k + 1) = x.n.take k ++ [x.n[k]] := List.take_succ_eq_append_getElem hkx; have hwk : k + 1 < WS.length := by rw [HL.out]; omega
              have hwe : WS[k + 1] = (Lib.itoa x.n[k], false) := by
                have := HWS2.out; simp [this]
              have g := fun j hj => flatMap_get wcell 2 (fun _ => rfl) WS (k + 1) j hwk hj; rw [hwe] at g; obtain ⟨b', o', e, c2, -⟩ := (HWR.out.keep hbl).at (i := (k + 1) * 2 + 0) (v := .string ⟨(Lib.itoa x.n[k]).toArray⟩) (by rw [show wcells WS = WS.flatMap wcell from rfl, g 0 (by omega)]; rfl)
              cases e
              obtain ⟨b', o', e, c3, -⟩ := (HWR.out.keep hbl).at (i := (k + 1) * 2 + 1) (v := .bool false) (by rw [show wcells WS = WS.flatMap wcell from rfl, g 1 (by omega)]; rfl)
              cases e
              rw [show wo + ((k + 1) * 2 + 0) = wo + 2 + k * 2 by omega] at c2; rw [show wo + ((k + 1) * 2 + 1) = wo + 2 + k * 2 + 1 by omega] at c3; have HNI := Lib.hid (fun W => number_itoa x.n[k] hzz.1 hzz.2 W); have HTS := Lib.hid hts; clear g hwe hts hzz; generalize x.n[k] = z at *; generalize (⟨(Lib.itoa z).toArray⟩ : ByteArray) = S at *; obtain ⟨D, hD⟩ : ∃ D, wr.heap.size = D := ⟨_, rfl⟩; have hCs := hm.lt; have hb4 := Below.new wr (.cells #[.string S, .bool false] 126); have kD := Blk.lit wr D [.string S, .bool false] 126 hD; have hm4 := hm.keep hb4; have ho4 := ho.below hb4; have hbl4 := hbl.trans (hb4.mono hbl.size); have d0 := kD.cell 0 rfl; have d1 := kD.cell 1 rfl
              go_wp2_with fail
              generalize wr.alloc (.cells #[.string S, .bool false] 126) = w4 at *; refine (HNI.out _).mono ?_; rintro e w5 ⟨rfl, hb5⟩; have hm5 := hm4.keep hb5; have ho5 := ho4.below hb5; have hbl5 := hbl4.trans (hb5.mono hbl4.size); have e1 := hm5.cell 1 rfl; have hCs5 := hm5.lt; have hCne : some C ≠ nv.ownBlock := ho5.ne (by omega); clear hb4 hm4 ho4 hbl4 hb5 hm ho hbl d0 d1 kD c2 c3 HNI hD
              go_wp2_with (at_builtin; go_must (refine wpList_appLit rfl (.tmp 87) (.tmp 89) 25 rfl (C + 1) 3 (.int .i64 0) 1 8 Tryz.underlying25 Tryz.infoInt rfl (by decide) (by decide) nv k ((x.n.take k).map (Value.int .i64)) rfl ho5 1 1 [.int .i64 z] 3 rfl rfl (by simp [Value.oneCell']) (by omega) (by omega) ?_); intro v6 w6 ho6 hg6; obtain ⟨p6, q6, rfl, -⟩ := ho6.form; have hm6 := hm5.grown hg6 hCne; have fC1 := hm6.free 1; have cC1 := hm6.cell 1 rfl)
              have hbl6 := hbl5.grown hg6 hbl5.size (fun j hj => by have := (ho5.lt j hj).1; rw [HCQ.out]; omega); go_roundw
              case rel =>
                refine ⟨k + 1, _, by omega, by go_num, hm6.set 1 _, ?_, hbl6.set_at (b := C) (o := 1) (by rw [HCQ.out]; exact Nat.le_refl _) _⟩; rw [HTS.out, List.map_append]; exact ho6.set_lt (o := 1) (Nat.lt_succ_self C) _
              case measure => simp [intOf]; omega
            · obtain rfl : k = N := by omega
              have ho : wr.ownsRow (C + 1) 3 1 nv k (x.n.map (Value.int .i64)) := by
                rw [List.take_of_length_le (by rw [HN.out]; exact Nat.le_refl _)] at ho; exact ho
              obtain ⟨na, nc, rfl, hnc1, hnc2, hnc3, -, hnb⟩ := ho.form; have hk4 := K1.out.keep hbl; have y0 := hm.cell 0 rfl; have y1 := hm.cell 1 rfl; have HFI := Lib.hid (fun W => kfits_any kind k (by omega) W); rw [h2] at HFI
              go_wp2_with fail
              refine (HFI.out _).mono ?_; rintro e w5 ⟨rfl, rfl⟩; have y2 := hm.cell 2 rfl; have y3 := hm.cell 3 rfl; have y4 := hm.cell 4 rfl; have y5 := hm.cell 5 rfl; have f0 := hk4.free 0; have f1 := hk4.free 1; have f2 := hk4.free 2; have f3 := hk4.free 3; have f4 := hk4.free 4; have f5 := hk4.free 5; have g0 := hk4.cell 0 rfl; have g1 := hk4.cell 1 rfl; have g2 := hk4.cell 2 rfl; have g3 := hk4.cell 3 rfl; have g4 := hk4.cell 4 rfl; have g5 := hk4.cell 5 rfl; have hbW := hbw1.trans (hbl.mono hbw1.size); have hBw : w.heap.size ≤ B := by rw [HBQ.out]; exact Nat.le_refl _
              go_wp2; have sB := (((((hk4.set 0 (.int .i64 kind)).set 1 (.slice na k nc)).set 2 (.string ⟨#[]⟩)).set 3 (.int .i64 0)).set 4 (.string ⟨#[]⟩)).set 5 (.int .i64 0); have hbZ := (((((hbW.set_at (b := B) (o := 0) hBw (.int .i64 kind)).set_at (b := B) (o := 1) hBw (.slice na k nc)).set_at (b := B) (o := 2) hBw (.string ⟨#[]⟩)).set_at (b := B) (o := 3) hBw (.int .i64 0)).set_at (b := B) (o := 4) hBw (.string ⟨#[]⟩)).set_at (b := B) (o := 5) hBw (.int .i64 0); have q0 := sB.cell 0 rfl; have q1 := sB.cell 1 rfl; have q2 := sB.cell 2 rfl; have q3 := sB.cell 3 rfl; have q4 := sB.cell 4 rfl; have q5 := sB.cell 5 rfl; have hBo : B < C + 1 := by omega
              have hoZ := (((((ho.set_lt (o := 0) hBo (.int .i64 kind)).set_lt (o := 1) hBo (.slice na k nc)).set_lt (o := 2) hBo (.string ⟨#[]⟩)).set_lt (o := 3) hBo (.int .i64 0)).set_lt (o := 4) hBo (.string ⟨#[]⟩)).set_lt (o := 5) hBo (.int .i64 0); refine bodyPost_ret (v := .tuple #[.agg #[.int .i64 kind, .slice na k nc, .string ⟨#[]⟩, .int .i64 0, .string ⟨#[]⟩, .int .i64 0], .int .i64 0]) (by simp [results, Tryz.results44, go_sem, q0, q1, q2, q3, q4, q5]) rfl ?_; refine ⟨⟨kind, x.n, x.key, x.v, na, nc⟩, ?_, HKD.out.symm, rfl, rfl, rfl, ?_, hbZ⟩
              · dsimp only [It.val, It.nval]; rw [HN.out, h6, h7]
                rfl
              · dsimp only [It.nval]; rw [HN.out]; exact hoZ.mono (by rw [HBQ.out]; omega)
      · subst h5; have hWS2 : WS = (KWL, false) :: (x.key.data.toList, false) :: [(vw x.v).2] := by
          rw [← HWS.out]; unfold rest6; rw [if_pos HKD.out, HKL.out]
          rfl
        have hL3 : L = 3 := by rw [← HL.out, hWS2]; rfl
        have hT : ∃ T q, (vw x.v).2 = (T, q) ∧ ((q = true ∧ x.v = (1, ⟨T.toArray⟩, 0) ∧ (⟨T.toArray⟩ : ByteArray).size ≤ 64) ∨ (q = false ∧ (⟨T.toArray⟩ : ByteArray) = prnF x.v)) := by
          refine ⟨_, _, rfl, ?_⟩; unfold vw
          by_cases hv1 : x.v.1 = 1
          · rw [if_pos hv1]
            left
            have hz := vE_zero x.v h8; have e3 : x.v.2.2 = 0 ∧ x.v.2.1.size ≤ 64 := by rcases hz with h | h | h | h <;> first | (exfalso; omega) | exact ⟨h.2.1, h.2.2⟩
            have hv : x.v = (1, x.v.2.1, 0) := Prod.ext hv1 (Prod.ext rfl e3.1); dsimp only; rw [Array.toArray_toList]; exact ⟨rfl, hv, e3.2⟩
          · rw [if_neg hv1]
            right
            exact ⟨rfl, by simp [pw]⟩
        obtain ⟨T, q, hTq, hq⟩ := hT; rw [hTq] at hWS2; have hkk : (⟨x.key.data.toList.toArray⟩ : ByteArray) = x.key := by rw [Array.toArray_toList]
        have hrW := HWR.out; rw [hWS2] at hrW; have hrW2 : Rd w1 (some ⟨wb, wo, none⟩) [.string ⟨KWL.toArray⟩, .bool false, .string x.key, .bool false, .string ⟨T.toArray⟩, .bool q] := by
          have : wcells ((KWL, false) :: (x.key.data.toList, false) :: [(T, q)]) = [.string ⟨KWL.toArray⟩, .bool false, .string ⟨x.key.data.toList.toArray⟩, .bool false, .string ⟨T.toArray⟩, .bool q] := rfl; rw [this, hkk] at hrW; exact hrW
        have HAT := Lib.hid (attr_any (some ⟨wb, wo, none⟩) wc ⟨KWL.toArray⟩ x.key ⟨T.toArray⟩ q x.v h8 h7 (by have := name_size h7; unfold maxLen; omega) hq wr (hrW2.keep hbl)); have HKY : Hid (x.n = []) := Lib.hid h6; subst hL3; clear hWS2 hTq hq hkk hrW hrW2 h6 h7 h8
        go_wp2_with fail
        refine HAT.out.mono ?_; rintro e w5 ⟨rfl, hb5⟩; have hbl5 := hbl.trans (hb5.mono hbl.size); have hk4 := K1.out.keep hbl5; have f0 := hk4.free 0; have f1 := hk4.free 1; have f2 := hk4.free 2; have f3 := hk4.free 3; have f4 := hk4.free 4; have f5 := hk4.free 5; have g0 := hk4.cell 0 rfl; have g1 := hk4.cell 1 rfl; have g2 := hk4.cell 2 rfl; have g3 := hk4.cell 3 rfl; have g4 := hk4.cell 4 rfl; have g5 := hk4.cell 5 rfl; have hbW := hbw1.trans (hbl5.mono hbw1.size); have hBw : w.heap.size ≤ B := by rw [HBQ.out]; exact Nat.le_refl _
        clear HAT hb5 hk3 hbl5; go_wp2; have sB := (((((hk4.set 0 (.int .i64 6)).set 1 (.slice none 0 0)).set 2 (.string x.key)).set 3 (.int .i64 x.v.1)).set 4 (.string x.v.2.1)).set 5 (.int .i64 x.v.2.2); have hbZ := (((((hbW.set_at (b := B) (o := 0) hBw (.int .i64 6)).set_at (b := B) (o := 1) hBw (.slice none 0 0)).set_at (b := B) (o := 2) hBw (.string x.key)).set_at (b := B) (o := 3) hBw (.int .i64 x.v.1)).set_at (b := B) (o := 4) hBw (.string x.v.2.1)).set_at (b := B) (o := 5) hBw (.int .i64 x.v.2.2); have q0 := sB.cell 0 rfl; have q1 := sB.cell 1 rfl; have q2 := sB.cell 2 rfl; have q3 := sB.cell 3 rfl; have q4 := sB.cell 4 rfl; have q5 := sB.cell 5 rfl; refine bodyPost_ret (v := .tuple #[.agg #[.int .i64 6, .slice none 0 0, .string x.key, .int .i64 x.v.1, .string x.v.2.1, .int .i64 x.v.2.2], .int .i64 0]) (by simp [results, Tryz.results44, go_sem, q0, q1, q2, q3, q4, q5]) rfl ?_; refine ⟨⟨6, x.n, x.key, x.v, none, 0⟩, ?_, HKD.out.symm, rfl, rfl, rfl, ?_, hbZ⟩
        · dsimp only [It.val, It.nval]; rw [HKY.out]
          rfl
        · dsimp only [It.nval]; rw [HKY.out]; exact World.ownsRow_nil _ _ _ _
end Go.Proofs.YtkfgbjjelcigcaaGreatDoor
/- script.end: where the first line ends. -/
set_option linter.unusedVariables false
set_option linter.unusedSimpArgs false
set_option maxRecDepth 100000
namespace Go
open Go.RowKit
def nlG (s : ByteArray) : Nat → Nat → Int
  | 0, _ => -1
  | f + 1, p => if p < s.size then (if (Utf8.decode s p).1 = 10 then (p : Int) else nlG s f (p + (Utf8.decode s p).2)) else -1
def nlF (s : ByteArray) : Int := nlG s s.size 0
theorem nlG_end (s : ByteArray) (f p : Nat) (h : ¬ p < s.size) : nlG s f p = -1 := by
  cases f with
  | zero => rfl
  | succ f => simp [nlG, h]
theorem nlG_some (s : ByteArray) (R : List UInt8) : ∀ (rs : List Nat) (f p : Nat), (∀ r ∈ rs, vr r ∧ r ≠ 10) → s.size ≤ p + f → s.data.toList.drop p = rs.flatMap encR ++ 10 :: R → nlG s f p = (p + (rs.flatMap encR).length : Nat) := by
  intro rs
  induction rs with
  | nil =>
    intro f p _ hf h; have h10 : encR 10 = [10] := enc_one (by decide); obtain ⟨h1, h2, h3⟩ := drop_dec s p 10 (.inl (by decide)) R (by rw [h, h10]; rfl); obtain ⟨f, rfl⟩ : ∃ g, f = g + 1 := ⟨f - 1, by omega⟩; unfold nlG; rw [if_pos h3, h1, if_pos rfl]; simp
  | cons r rs ih =>
    intro f p hv hf h; rw [List.flatMap_cons, List.append_assoc] at h; obtain ⟨hr1, hr2⟩ := hv r (by simp); obtain ⟨h1, h2, h3⟩ := drop_dec s p r hr1 _ h; obtain ⟨f, rfl⟩ : ∃ g, f = g + 1 := ⟨f - 1, by omega⟩; have hl := (encR_len r).1; have hd : s.data.toList.drop (p + (encR r).length) = rs.flatMap encR ++ 10 :: R := by
      rw [← List.drop_drop, h, List.drop_left]
    unfold nlG; rw [if_pos h3, h1, if_neg hr2]; dsimp only; rw [ih f _ (fun x hx => hv x (by simp [hx])) (by omega) hd, List.flatMap_cons, List.length_append]; omega
theorem nlG_none (s : ByteArray) : ∀ (rs : List Nat) (f p : Nat), (∀ r ∈ rs, vr r ∧ r ≠ 10) → s.data.toList.drop p = rs.flatMap encR → nlG s f p = -1 := by
  intro rs
  induction rs with
  | nil =>
    intro f p _ h; have hl := congrArg List.length h; simp only [List.flatMap_nil, List.length_nil, List.length_drop, Array.length_toList] at hl; have : ¬ p < s.size := by have : s.data.size = s.size := rfl; omega
    exact nlG_end s f p this
  | cons r rs ih =>
    intro f p hv h; rw [List.flatMap_cons] at h; obtain ⟨hr1, hr2⟩ := hv r (by simp); obtain ⟨h1, h2, h3⟩ := drop_dec s p r hr1 _ h
    cases f with
    | zero => rfl
    | succ f =>
      have hd : s.data.toList.drop (p + (encR r).length) = rs.flatMap encR := by
        rw [← List.drop_drop, h, List.drop_left]
      unfold nlG; rw [if_pos h3, h1, if_neg hr2]; exact ih f _ (fun x hx => hv x (by simp [hx])) hd
theorem nl_some {T R : List UInt8} (h : RT T) : nlF ⟨(T ++ 10 :: R).toArray⟩ = T.length := by
  obtain ⟨rs, rfl, hr⟩ := h; have := nlG_some ⟨(rs.flatMap encR ++ 10 :: R).toArray⟩ R rs (⟨(rs.flatMap encR ++ 10 :: R).toArray⟩ : ByteArray).size 0 hr (by omega) (by simp); rw [Nat.zero_add] at this; exact this
theorem nl_none {T : List UInt8} (h : RT T) : nlF ⟨T.toArray⟩ = -1 := by
  obtain ⟨rs, rfl, hr⟩ := h; exact nlG_none _ rs _ 0 hr (by simp)
end Go
namespace Go.Proofs.YtkfgbjjelcigcaaGreatDoor
open Go.RowKit
set_option maxHeartbeats 1600000 in
theorem end_any (s : ByteArray) (hs : s.size ≤ maxLen) (w : World) :
    Calls Tryz.prog 43 #[.string s] w fun e w' => e = .returned (.int .i64 (nlF s)) ∧ Below w.heap.size w w' := by
  have hs2 : s.size ≤ 9223372036854775807 := by unfold maxLen at hs; omega
  have HN : Hid (nlF s = nlG s s.size 0) := Lib.hid rfl; generalize nlF s = N at *
  go_enter Tryz.func43, Tryz.ntmps43
  go_wp2
  go_loopw [] (fun wr => ∃ (p f : Nat), wr = w.iter s p ∧ Hid (N = nlG s f p) ∧ s.size ≤ p + f ∧ p ≤ s.size) (fun wr => s.size - wr.iterPos w.heap.size)
  case atStart => exact ⟨0, s.size, rfl, HN, by omega, by omega⟩
  case round =>
    obtain ⟨p, f, rfl, HR, hpf, hps⟩ := hrel
    by_cases hp : p < s.size
    · obtain ⟨f, rfl⟩ : ∃ g, f = g + 1 := ⟨f - 1, by omega⟩; have hnx : ∀ ty, (Instr.next (.pointer (some ⟨w.heap.size, 0, none⟩)) true ty).run Tryz.prog (w.iter s p) = _ := fun ty => run_next_any w s p ty hp; have hwd := decode_wid hp; have HR2 : Hid (N = if (Utf8.decode s p).1 = 10 then (p : Int) else nlG s f (p + (Utf8.decode s p).2)) := Lib.hid (by
        rw [HR.out, nlG, if_pos hp])
      obtain ⟨W, hW⟩ : ∃ W, p + (Utf8.decode s p).2 = W := ⟨_, rfl⟩; rw [hW] at hnx HR2; obtain ⟨R, hR⟩ : ∃ R, (Utf8.decode s p).1 = R := ⟨_, rfl⟩; rw [hR] at hnx HR2; have hbW : Below w.heap.size w (w.iter s W) := below_iter w s W; have hWb : p < W ∧ W ≤ s.size := by omega
      clear hwd hR hW HR
      by_cases h10 : R = 10
      · have HV : Hid (N = (p : Int)) := Lib.hid (by rw [HR2.out, if_pos h10]); subst h10; clear HR2; go_wp2; go_ret; exact ⟨ret_int HV.out.symm, hbW⟩
      · have HV : Hid (N = nlG s f W) := Lib.hid (by rw [HR2.out, if_neg h10]); have h10' : ((R : Int) == 10) = false := by rw [beq_eq_false_iff_ne]; omega
        clear HR2; go_wp2; go_roundw
        case rel => exact ⟨W, f, rfl, HV, by omega, by omega⟩
        case measure => simp; omega
    · have hnx : ∀ ty, (Instr.next (.pointer (some ⟨w.heap.size, 0, none⟩)) true ty).run Tryz.prog (w.iter s p) = _ := fun ty => Lib.run_next_end_at (w.iter s p) w.heap.size s p ty (World.iter_heap w s p) hp; have hbW : Below w.heap.size w (w.iter s p) := below_iter w s p; rw [nlG_end s f p hp] at HR; go_wp2; go_ret; exact ⟨ret_int HR.out.symm, hbW⟩
end Go.Proofs.YtkfgbjjelcigcaaGreatDoor
