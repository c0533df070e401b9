/-
  graticuleref10.Check. ValueBytes: the walk. ValueBytes: the walk under what the row lays.
-/
import Derived.Test.YtinogphhbbaobaaDoorPk6
import Derived.Test.YtinogphhbbaobaaDoorPk15
import Derived.Test.YtinogphhbbaobaaDoorPk9
import Derived.Test.YtinogphhbbaobaaDoorPk14
import Derived.Test.YtinogphhbbaobaaDoorRows
import Derived.LaidSub
import Derived.Lib.LaidTab
/- graticuleref10.Check. -/
set_option linter.unusedVariables false
set_option linter.unusedSimpArgs false
set_option maxRecDepth 100000
namespace Go
theorem right_empty : rightF ⟨#[]⟩ = true := rfl
end Go
namespace Go.Proofs.YtinogphhbbaobaaDoor
open Go.RowKit

set_option maxHeartbeats 6400000 in
theorem rvchk_any (k n : Int) (t : ByteArray) (ht : t.size ≤ 100000) (w : World) :
    Calls Tryd.prog 15 #[.agg #[.int .i64 k, .string t, .int .i64 n]] w fun e w' => e = .returned (.int .i64 (vcF k t n)) ∧ Below w.heap.size w w' := by
  have HV := Lib.hid (vcF.eq_1 k t n); have HRI : ∀ W, Calls Tryd.prog 31 #[.string t] W fun e w' => ∃ vo va, e = .returned (.tuple #[vo, va, .bool (rightF t)]) ∧ Below W.heap.size W w' := fun W => (rrunes_any t ht W).mono (fun e w' ⟨vo, va, h1, h2, h3, h4⟩ => ⟨vo, va, h1, h4⟩); replace HRI := Lib.hid HRI; have HTE : Hid (t.size = 0 → t = ⟨#[]⟩ ∧ rightF t = true) := Lib.hid (fun h => by
    have : t = ⟨#[]⟩ := by
      apply ByteArray.ext; exact Array.eq_empty_of_size_eq_zero h
    subst this; exact ⟨rfl, right_empty⟩)
  have HTN : Hid (t.size ≠ 0 → t.toList.isEmpty = false) := Lib.hid (fun h => by rw [empty_txt]; simp [h]); generalize vcF k t n = V at *; obtain ⟨RT, hRT⟩ : ∃ b, rightF t = b := ⟨_, rfl⟩; rw [hRT] at HV HRI HTE; clear hRT; have k1 := Blk.lit w w.heap.size [.int .i64 k, .string t, .int .i64 n] 39 rfl; have hb0 := Below.new w (.cells #[.int .i64 k, .string t, .int .i64 n] 39); obtain ⟨B, hB⟩ : ∃ B, w.heap.size = B := ⟨_, rfl⟩; have HBE := Lib.hid hB; rw [hB] at k1; have x0 := k1.cell 0 rfl; have x1 := k1.cell 1 rfl; have x2 := k1.cell 2 rfl; have hs0 := hb0.size
  go_enter Tryd.func15, Tryd.ntmps15
  by_cases hk0 : k < 1
  · have hq := HV.out; rw [if_neg (by omega), if_neg (by omega), if_neg (by omega), if_neg (by omega)] at hq; have hV := Lib.hid hq; clear HV hq; go_wp2; go_ret; exact ⟨ret_int hV.out.symm, by first | exact hb0 | (rw [HBE.out]; exact hb0) | (rw [← HBE.out]; exact hb0)⟩
  · by_cases hk4 : 4 < k
    · have hq := HV.out; rw [if_neg (by omega), if_neg (by omega), if_neg (by omega), if_neg (by omega)] at hq; have hV := Lib.hid hq; clear HV hq; go_wp2; go_ret; exact ⟨ret_int hV.out.symm, by first | exact hb0 | (rw [HBE.out]; exact hb0) | (rw [← HBE.out]; exact hb0)⟩
    · have hk : k = 1 ∨ k = 2 ∨ k = 3 ∨ k = 4 := by omega
      clear hk0 hk4
      rcases hk with rfl | rfl | rfl | rfl
      · have hq := HV.out; rw [if_pos rfl] at hq; have hV := Lib.hid hq; clear HV hq
        by_cases hn : n = 0
        · subst hn
          go_wp2_with fail
          refine (HRI.out _).mono ?_; rintro e w1 ⟨vo, va, rfl, hb1⟩; have k2 := k1.keep hb1; have hbw := hb0.trans (hb1.mono hs0); clear x0 x1 x2 hb1; have x0 := k2.cell 0 rfl; have x1 := k2.cell 1 rfl; have x2 := k2.cell 2 rfl
          cases RT with
          | false =>
            go_wp2; go_ret; exact ⟨ret_int (by rw [hV.out]; simp), by first | exact hbw | (rw [HBE.out]; exact hbw) | (rw [← HBE.out]; exact hbw)⟩
          | true =>
            by_cases hl : 64 < t.size
            · have hl' : (64 : Int) < (t.size : Int) := by omega
              go_wp2; go_ret; exact ⟨ret_int (by rw [hV.out]; simp [hl]), by first | exact hbw | (rw [HBE.out]; exact hbw) | (rw [← HBE.out]; exact hbw)⟩
            · have hl' : ¬ (64 : Int) < (t.size : Int) := by omega
              go_wp2; go_ret; exact ⟨ret_int (by rw [hV.out]; simp [hl]), by first | exact hbw | (rw [HBE.out]; exact hbw) | (rw [← HBE.out]; exact hbw)⟩
        · have hn' : (n == 0) = false := by simpa using hn
          go_wp2; go_ret; exact ⟨ret_int (by rw [hV.out, if_pos hn]), by first | exact hb0 | (rw [HBE.out]; exact hb0) | (rw [← HBE.out]; exact hb0)⟩
      · have hq := HV.out; rw [if_neg (by omega), if_neg (by omega), if_pos rfl] at hq; have hV := Lib.hid hq; clear HV hq
        by_cases hz : t.size = 0
        · have hq := hV.out; rw [if_neg (by omega)] at hq; replace hV := Lib.hid hq; clear hq; obtain ⟨rfl, hR⟩ := HTE.out hz; subst hR; clear HTE HTN hz
          go_wp2_with fail
          refine (HRI.out _).mono ?_; rintro e w1 ⟨vo, va, rfl, hb1⟩; have k2 := k1.keep hb1; have hbw := hb0.trans (hb1.mono hs0); clear x0 x1 x2 hb1; have x0 := k2.cell 0 rfl; have x1 := k2.cell 1 rfl; have x2 := k2.cell 2 rfl
          by_cases ha : n < 0
          · by_cases ha2 : n < -1152921504606846976
            · have ha3 : ¬ 1152921504606846976 < n := by omega
              go_wp2; go_ret; exact ⟨ret_int (by rw [hV.out]; simp [ha]), by first | exact hbw | (rw [HBE.out]; exact hbw) | (rw [← HBE.out]; exact hbw)⟩
            · have ha3 : ¬ 1152921504606846976 < n := by omega
              have ha4 : n < 0 := by omega
              go_wp2; go_ret; exact ⟨ret_int (by rw [hV.out]; simp [ha]), by first | exact hbw | (rw [HBE.out]; exact hbw) | (rw [← HBE.out]; exact hbw)⟩
          · by_cases hc : 1152921504606846976 < n
            · by_cases hc2 : 1152921504606846976 < n
              · go_wp2; go_ret; exact ⟨ret_int (by rw [hV.out]; simp [hc]), by first | exact hbw | (rw [HBE.out]; exact hbw) | (rw [← HBE.out]; exact hbw)⟩
              · exfalso; omega
            · have hc2 : ¬ 1152921504606846976 < n := by omega
              have hc3 : ¬ n < -1152921504606846976 := by omega
              have hq : ¬ (n < 0 ∨ 1152921504606846976 < n) := by omega
              have HQ : Hid (V = 0) := Lib.hid (by rw [hV.out, if_neg hq]); clear hV hq; have hc4 : ¬ n < 0 := by omega
              by_cases hc5 : 1 < n
              · go_wp2; go_ret; exact ⟨ret_int HQ.out.symm, by first | exact hbw | (rw [HBE.out]; exact hbw) | (rw [← HBE.out]; exact hbw)⟩
              · go_wp2; go_ret; exact ⟨ret_int HQ.out.symm, by first | exact hbw | (rw [HBE.out]; exact hbw) | (rw [← HBE.out]; exact hbw)⟩
        · have HQ : Hid (V = 3) := Lib.hid (by rw [hV.out, if_pos hz]); have hte := HTN.out hz; go_wp2; go_ret; exact ⟨ret_int HQ.out.symm, by first | exact hb0 | (rw [HBE.out]; exact hb0) | (rw [← HBE.out]; exact hb0)⟩
      · have hq := HV.out; rw [if_neg (by omega), if_pos rfl] at hq; have hV := Lib.hid hq; clear HV hq
        by_cases hz : t.size = 0
        · have hq := hV.out; rw [if_neg (by omega)] at hq; replace hV := Lib.hid hq; clear hq; obtain ⟨rfl, hR⟩ := HTE.out hz; subst hR; clear HTE HTN hz
          go_wp2_with fail
          refine (HRI.out _).mono ?_; rintro e w1 ⟨vo, va, rfl, hb1⟩; have k2 := k1.keep hb1; have hbw := hb0.trans (hb1.mono hs0); clear x0 x1 x2 hb1; have x0 := k2.cell 0 rfl; have x1 := k2.cell 1 rfl; have x2 := k2.cell 2 rfl
          by_cases ha : n < -1152921504606846976
          · by_cases ha2 : n < -1152921504606846976
            · have ha3 : ¬ 1152921504606846976 < n := by omega
              go_wp2; go_ret; exact ⟨ret_int (by rw [hV.out]; simp [ha]), by first | exact hbw | (rw [HBE.out]; exact hbw) | (rw [← HBE.out]; exact hbw)⟩
            · exfalso; omega
          · by_cases hc : 1152921504606846976 < n
            · by_cases hc2 : 1152921504606846976 < n
              · go_wp2; go_ret; exact ⟨ret_int (by rw [hV.out]; simp [hc]), by first | exact hbw | (rw [HBE.out]; exact hbw) | (rw [← HBE.out]; exact hbw)⟩
              · exfalso; omega
            · have hc2 : ¬ 1152921504606846976 < n := by omega
              have hc3 : ¬ n < -1152921504606846976 := by omega
              have hq : ¬ (n < -1152921504606846976 ∨ 1152921504606846976 < n) := by omega
              have HQ : Hid (V = 0) := Lib.hid (by rw [hV.out, if_neg hq]); clear hV hq
              by_cases hc4 : n < 0
              · have hc5 : ¬ 1 < n := by omega
                go_wp2; go_ret; exact ⟨ret_int HQ.out.symm, by first | exact hbw | (rw [HBE.out]; exact hbw) | (rw [← HBE.out]; exact hbw)⟩
              · by_cases hc5 : 1 < n
                · go_wp2; go_ret; exact ⟨ret_int HQ.out.symm, by first | exact hbw | (rw [HBE.out]; exact hbw) | (rw [← HBE.out]; exact hbw)⟩
                · go_wp2; go_ret; exact ⟨ret_int HQ.out.symm, by first | exact hbw | (rw [HBE.out]; exact hbw) | (rw [← HBE.out]; exact hbw)⟩
        · have HQ : Hid (V = 3) := Lib.hid (by rw [hV.out, if_pos hz]); have hte := HTN.out hz; go_wp2; go_ret; exact ⟨ret_int HQ.out.symm, by first | exact hb0 | (rw [HBE.out]; exact hb0) | (rw [← HBE.out]; exact hb0)⟩
      · have hq := HV.out; rw [if_neg (by omega), if_neg (by omega), if_neg (by omega), if_pos rfl] at hq; have hV := Lib.hid hq; clear HV hq
        by_cases hz : t.size = 0
        · have hq := hV.out; rw [if_neg (by omega)] at hq; replace hV := Lib.hid hq; clear hq; obtain ⟨rfl, hR⟩ := HTE.out hz; subst hR; clear HTE HTN hz
          go_wp2_with fail
          refine (HRI.out _).mono ?_; rintro e w1 ⟨vo, va, rfl, hb1⟩; have k2 := k1.keep hb1; have hbw := hb0.trans (hb1.mono hs0); clear x0 x1 x2 hb1; have x0 := k2.cell 0 rfl; have x1 := k2.cell 1 rfl; have x2 := k2.cell 2 rfl
          by_cases ha : n < 0
          · by_cases ha2 : n < -1152921504606846976
            · have ha3 : ¬ 1152921504606846976 < n := by omega
              go_wp2; go_ret; exact ⟨ret_int (by rw [hV.out]; simp [ha]), by first | exact hbw | (rw [HBE.out]; exact hbw) | (rw [← HBE.out]; exact hbw)⟩
            · have ha3 : ¬ 1152921504606846976 < n := by omega
              have ha4 : n < 0 := by omega
              go_wp2; go_ret; exact ⟨ret_int (by rw [hV.out]; simp [ha]), by first | exact hbw | (rw [HBE.out]; exact hbw) | (rw [← HBE.out]; exact hbw)⟩
          · by_cases hc : 1 < n
            · by_cases hc2 : 1152921504606846976 < n
              · go_wp2; go_ret; exact ⟨ret_int (by rw [hV.out]; simp [hc]), by first | exact hbw | (rw [HBE.out]; exact hbw) | (rw [← HBE.out]; exact hbw)⟩
              · have hc3 : ¬ n < -1152921504606846976 := by omega
                have hc4 : ¬ n < 0 := by omega
                have hc5 : 1 < n := by omega
                go_wp2; go_ret; exact ⟨ret_int (by rw [hV.out]; simp [hc]), by first | exact hbw | (rw [HBE.out]; exact hbw) | (rw [← HBE.out]; exact hbw)⟩
            · have hc2 : ¬ 1152921504606846976 < n := by omega
              have hc3 : ¬ n < -1152921504606846976 := by omega
              have hq : ¬ (n < 0 ∨ 1 < n) := by omega
              have HQ : Hid (V = 0) := Lib.hid (by rw [hV.out, if_neg hq]); clear hV hq; have hc4 : ¬ n < 0 := by omega
              have hc5 : ¬ 1 < n := by omega
              go_wp2; go_ret; exact ⟨ret_int HQ.out.symm, by first | exact hbw | (rw [HBE.out]; exact hbw) | (rw [← HBE.out]; exact hbw)⟩
        · have HQ : Hid (V = 3) := Lib.hid (by rw [hV.out, if_pos hz]); have hte := HTN.out hz; go_wp2; go_ret; exact ⟨ret_int HQ.out.symm, by first | exact hb0 | (rw [HBE.out]; exact hb0) | (rw [← HBE.out]; exact hb0)⟩
end Go.Proofs.YtinogphhbbaobaaDoor
/- ValueBytes: the walk. -/
set_option linter.unusedVariables false
set_option linter.unusedSimpArgs false
set_option maxRecDepth 100000
namespace Go
open Go.RowKit Go.Proto Go.Vint
theorem reads_v (v : VV) (hv : vE v = 0) : vrd (fby (vFld v)) = (v, 0) := by
  have hf := vFld_ok v hv; have e : fby (vFld v) = [vFld v].flatMap fby := by simp
  rw [e, vrd_flds _ (by
    intro x hx; obtain rfl := List.mem_singleton.1 hx; exact ⟨hf.1, hf.2.1, hf.2.2.1, by omega⟩)]
  have hk := vE_kind v hv; have he : vcF v.1 v.2.1 v.2.2 = 0 := hv; simp [vrdF, knF_vFld v hv, hk, he, vZ]
end Go
namespace Go.Proofs.YtinogphhbbaobaaDoor
open Go.RowKit Go.Proto Go.Vint
set_option maxHeartbeats 8000000 in
theorem vbytes_walk (v : VV) (hv : v.2.1.size ≤ maxLen) (w : World) (htab : TabOk w) :
    Calls Tryd.prog 5 #[vVal v] w fun e w' => e = .returned (.bool true) ∧ Below w.heap.size w w' := by
  obtain ⟨k, t, n⟩ := v; dsimp only at hv; obtain ⟨t', ht⟩ : ∃ x, t.extract 0 (min t.size 100) = x := ⟨_, rfl⟩; have hts : t'.size ≤ 100 := by rw [← ht, ByteArray.size_extract]; omega
  have hts2 : t'.size ≤ maxLen := by unfold maxLen; omega
  have HC := Lib.hid (fun W => vcut_any k n t hv W); rw [ht] at HC; have HRC := Lib.hid (fun W => rvchk_any k n t' (by omega) W); have HVC := Lib.hid (fun W => vchk_any k n t' hts2 W); have HVB := Lib.hid (fun W => valbytes_any (k, t', n) hts2 W); have HPB := Lib.hid (fun h W => print_bad (k, t', n) hts2 h W); have HPG := Lib.hid (fun h W hW => print_good (k, t', n) h W hW); have HPP := Lib.hid (fun h W => parse_print (k, t', n) h W); have HRP := Lib.hid (fun h W => rprint_good (k, t', n) h W); have HRB := Lib.hid (fun h W => rvby_any (k, t', n) h W); have HRD := Lib.hid (fun h => reads_v (k, t', n) h); have HBE : Hid (vE (k, t', n) = 0 → vby (k, t', n) = fby (vFld (k, t', n)) ∧ (fby (vFld (k, t', n))).length ≤ 84 ∧ ∀ y ∈ fby (vFld (k, t', n)), 0 ≤ y ∧ y ≤ 255) := Lib.hid (fun h => by
    have hf := vFld_ok _ h; have := fby_len (vFld (k, t', n)) hf.1 hf.2.1 hf.2.2.1 (by omega); exact ⟨by rw [vby, if_pos h], by omega, fby_bd _ hf.1 hf.2.1 hf.2.2.2.1⟩)
  have HBN : Hid (vE (k, t', n) ≠ 0 → vby (k, t', n) = []) := Lib.hid (fun h => by rw [vby, if_neg h]); have HT := Lib.hid (fun W (h : Below w.heap.size w W) => (Joins.tab_stays (B := w.heap.size) (by kernel_rfl : Tryd.prog.globalNamed "internal/strconv.uint64pow10" = some 0) htab h (Nat.le_refl _) : TabOk W))
  have hEq : vcF k t' n = vE (k, t', n) := rfl; rw [hEq] at HRC HVC; clear hEq htab ht hv; obtain ⟨E, hE⟩ : ∃ E, vE (k, t', n) = E := ⟨_, rfl⟩; rw [hE] at HRC HVC HVB HPB HPG HPP HRP HRB HRD HBE HBN; generalize vby (k, t', n) = VB at *; generalize fby (vFld (k, t', n)) = FB at *; generalize prnF (k, t', n) = PV at *; clear hE; dsimp only [vVal] at HC HVB HPB HPG HPP HRP HRB HRD ⊢; obtain ⟨B, hB⟩ : ∃ B, w.heap.size = B := ⟨_, rfl⟩; have HBQ := Lib.hid hB; have hb0 := Below.new w (.cells #[.int .i64 k, .string t, .int .i64 n] 23); have k0 := Blk.lit w B [.int .i64 k, .string t, .int .i64 n] 23 hB
  go_enter Tryd.func5, Tryd.ntmps5
  have x0 := k0.cell 0 rfl; have x1 := k0.cell 1 rfl; have x2 := k0.cell 2 rfl
  go_wp2_with fail
  generalize w.alloc (.cells #[.int .i64 k, .string t, .int .i64 n] 23) = wA at *; have hBb : w.heap.size ≤ B := by omega
  clear hB; refine (HC.out _).mono ?_; rintro e w1 ⟨rfl, hb1⟩; have k1 := k0.keep hb1; have hbz := hb0.trans (hb1.mono hb0.size); clear k0 hb0 hb1 x0 x1 x2 HC; have c0 := k1.cell 0 rfl; have f0 := k1.free 0; have s0 := k1.set 0 (.int .i64 k); have c1 := s0.cell 1 rfl; have f1 := s0.free 1; have s1 := s0.set 1 (.string t'); have c2 := s1.cell 2 rfl; have f2 := s1.free 2; have kV := s1.set 2 (.int .i64 n); have hbw := ((hbz.set_at (b := B) (o := 0) hBb (.int .i64 k)).set_at (b := B) (o := 1) hBb (.string t')).set_at (b := B) (o := 2) hBb (.int .i64 n); have y0 := kV.cell 0 rfl; have y1 := kV.cell 1 rfl; have y2 := kV.cell 2 rfl
  go_wp2_with fail
  generalize ((w1.setCell ⟨B, 0, none⟩ (.int .i64 k)).setCell ⟨B, 1, none⟩ (.string t')).setCell ⟨B, 2, none⟩ (.int .i64 n) = Z at *; clear c0 c1 c2 f0 f1 f2 s0 s1 k1 hbz; refine (HRC.out _).mono ?_; rintro e w2 ⟨rfl, hb2⟩; have kV := kV.keep hb2; have hbw := hbw.trans (hb2.mono hbw.size); clear hb2 y0 y1 y2 HRC; have y0 := kV.cell 0 rfl; have y1 := kV.cell 1 rfl; have y2 := kV.cell 2 rfl
  go_wp2_with fail
  refine (HVB.out _).mono ?_; rintro e w3 ⟨x, rfl, hown, hb3⟩; obtain ⟨pa, pc, rfl, q1, q2, q3, hrd, -⟩ := hown.form; have kV := kV.keep hb3; have hbw := hbw.trans (hb3.mono hbw.size); clear hb3 y0 y1 y2 HVB hown; have y0 := kV.cell 0 rfl; have y1 := kV.cell 1 rfl; have y2 := kV.cell 2 rfl
  by_cases hE : E = 0
  · subst hE; obtain ⟨rfl, g2, g3⟩ := HBE.out rfl; have HVR := Lib.hid (fun W c (h1 : VB.length ≤ c) (h2 : c ≤ maxLen) a hr => valread_any a c VB g3 (by omega) h1 h2 W hr); rw [HRD.out rfl] at HVR; have HPG2 := Lib.hid (HPG.out rfl); have HPP2 := Lib.hid (HPP.out rfl); have HRP2 := Lib.hid (HRP.out rfl); have HRB2 := Lib.hid (HRB.out rfl); dsimp only [vVal] at HVR; clear HPG HPP HRP HRB HRD HBE HBN HPB
    go_wp2_with fail
    refine (HPG2.out _ (HT.out _ hbw)).mono ?_; rintro e w4 ⟨rfl, hb4⟩; have kV := kV.keep hb4; have hbw := hbw.trans (hb4.mono hbw.size); have hrd := hrd.keep hb4; clear hb4 y0 y1 y2; have y0 := kV.cell 0 rfl; have y1 := kV.cell 1 rfl; have y2 := kV.cell 2 rfl
    go_wp2_with fail
    refine (HVC.out _).mono ?_; rintro e w5 ⟨rfl, hb5⟩; have kV := kV.keep hb5; have hbw := hbw.trans (hb5.mono hbw.size); have hrd := hrd.keep hb5; clear hb5 y0 y1 y2
    go_wp2_with fail
    refine (HVR.out _ _ q1 q2 _ hrd).mono ?_; rintro e w6 ⟨rfl, hb6⟩; have kV := kV.keep hb6; have hbw := hbw.trans (hb6.mono hbw.size); have hrd := hrd.keep hb6; clear hb6; have k8 := Blk.lit w6 w6.heap.size [.int .i64 k, .string t', .int .i64 n] 23 rfl; have hb7 := Below.new w6 (.cells #[.int .i64 k, .string t', .int .i64 n] 23); have kV := kV.keep hb7; have hbw := hbw.trans (hb7.mono hbw.size); have hrd := hrd.keep hb7; clear hb7
    go_wp2_with fail
    generalize w6.alloc (.cells #[.int .i64 k, .string t', .int .i64 n] 23) = w7 at *; refine (HPP2.out _).mono ?_; rintro e w8 ⟨rfl, hb8⟩; have kV := kV.keep hb8; have k8 := k8.keep hb8; have hbw := hbw.trans (hb8.mono hbw.size); have hrd := hrd.keep hb8; clear hb8; have k9 := Blk.lit w8 w8.heap.size [.int .i64 k, .string t', .int .i64 n] 23 rfl; have hb9 := Below.new w8 (.cells #[.int .i64 k, .string t', .int .i64 n] 23); have kV := kV.keep hb9; have k8 := k8.keep hb9; have hbw := hbw.trans (hb9.mono hbw.size); have hrd := hrd.keep hb9; clear hb9
    go_wp2_with fail
    generalize w8.alloc (.cells #[.int .i64 k, .string t', .int .i64 n] 23) = w9 at *; obtain ⟨b8, hb8⟩ : ∃ b, w6.heap.size = b := ⟨_, rfl⟩; obtain ⟨b9, hb9⟩ : ∃ b, w8.heap.size = b := ⟨_, rfl⟩; rw [hb8] at k8 ⊢; rw [hb9] at k9 ⊢; clear hb8 hb9; refine (vknown_any w9).mono ?_; rintro e w10 ⟨rfl, hb10⟩; have kV := kV.keep hb10; have k8 := k8.keep hb10; have k9 := k9.keep hb10; have hbw := hbw.trans (hb10.mono hbw.size); have hrd := hrd.keep hb10; clear hb10; have y0 := kV.cell 0 rfl; have y1 := kV.cell 1 rfl; have y2 := kV.cell 2 rfl
    go_wp2_with fail
    refine (HRB2.out _).mono ?_; rintro e w11 ⟨x2, rfl, hown2, hb11⟩; obtain ⟨pa2, pc2, rfl, -, -, -, hrd2, -⟩ := hown2.form; have kV := kV.keep hb11; have k8 := k8.keep hb11; have k9 := k9.keep hb11; have hbw := hbw.trans (hb11.mono hbw.size); have hrd := hrd.keep hb11; clear hb11 hown2 y0 y1 y2
    go_wp2_with fail
    refine (rsame_any _ _ _ _ VB VB (by omega) (by omega) _ hrd hrd2).mono ?_; rintro e w12 ⟨rfl, nn, rfl⟩; rw [decide_eq_true (rfl : VB = VB)]; have kV := kV.drewN nn; have k8 := k8.drewN nn; have k9 := k9.drewN nn; have hbw := below_drewN hbw nn; clear hrd hrd2; generalize w11.drewN nn = w12 at *; have y0 := kV.cell 0 rfl; have y1 := kV.cell 1 rfl; have y2 := kV.cell 2 rfl
    go_wp2_with fail
    refine (HRP2.out _).mono ?_; rintro e w13 ⟨rfl, hb13⟩; have kV := kV.keep hb13; have k8 := k8.keep hb13; have k9 := k9.keep hb13; have hbw := hbw.trans (hb13.mono hbw.size); clear hb13 y0 y1 y2; have y0 := kV.cell 0 rfl; have y1 := kV.cell 1 rfl; have y2 := kV.cell 2 rfl; have z0 := k8.cell 0 rfl; have z1 := k8.cell 1 rfl; have z2 := k8.cell 2 rfl; have u0 := k9.cell 0 rfl; have u1 := k9.cell 1 rfl; have u2 := k9.cell 2 rfl; go_wp2; go_ret; exact ⟨rfl, hbw⟩
  · have hE' : (E != 0) = true := by simpa using hE
    obtain rfl := HBN.out hE; have HPB2 := Lib.hid (HPB.out hE); clear HPG HPP HRP HRB HRD HBE HBN HPB hE
    go_wp2_with fail
    refine (HPB2.out _).mono ?_; rintro e w4 ⟨rfl, hb4⟩; have kV := kV.keep hb4; have hbw := hbw.trans (hb4.mono hbw.size); clear hb4 y0 y1 y2; have y0 := kV.cell 0 rfl; have y1 := kV.cell 1 rfl; have y2 := kV.cell 2 rfl
    go_wp2_with fail
    refine (HVC.out _).mono ?_; rintro e w5 ⟨rfl, hb5⟩; have hbw := hbw.trans (hb5.mono hbw.size); clear hb5 y0 y1 y2
    go_wp2_with fail
    refine (vknown_any w5).mono ?_; rintro e w6 ⟨rfl, hb6⟩; have hbw := hbw.trans (hb6.mono hbw.size); go_wp2; go_ret; exact ⟨rfl, hbw⟩
end Go.Proofs.YtinogphhbbaobaaDoor
/- ValueBytes: the walk under what the row lays. -/
set_option linter.unusedVariables false
set_option linter.unusedSimpArgs false
set_option maxRecDepth 100000
namespace Go.Proofs.YtinogphhbbaobaaDoor
open Go.RowKit
theorem tab_of {W : World} (hL : laidMetH Tryd.prog Rows.valueBytesRow.laid W) : TabOk W := by
  have h1 := hL.filter (fun x => x.1 == "internal/strconv.uint64pow10")
  have e : Rows.valueBytesRow.laid.filter (fun x => x.1 == "internal/strconv.uint64pow10") = [("internal/strconv.uint64pow10", Lib.tabData .u64 Lib.pow10Tab)] := by kernel_rfl
  rw [e] at h1; have h2 : laidMet Tryd.prog [("internal/strconv.uint64pow10", Lib.tabData .u64 Lib.pow10Tab)] W := h1
  exact Lib.tabIs_of_head (g := 0) (t := 140) (e := 31) (n := 20) (by kernel_rfl) (by kernel_rfl) (by kernel_rfl) (by kernel_rfl) (by kernel_rfl) (by kernel_rfl) h2
theorem vbytes_law {w : World} (hL : laidMetH Tryd.prog Rows.valueBytesRow.laid w) (v : VV) (hv : ValIn v) :
    Calls Tryd.prog 5 #[vVal v] w fun e w' => e = .returned (.bool true) ∧ Below w.heap.size w w' :=
  vbytes_walk v hv.1 w (tab_of hL)
end Go.Proofs.YtinogphhbbaobaaDoor
