/-
  graticuleref24.named, Check. append to a row of our own, whose base is told by a letter. graticuleref11.Key, Value, Add: attributes told by tags.
-/
import Derived.Test.YtjggoajfilnfjaaGreatPk24
import Derived.Test.YtjggoajfilnfjaaGreatPk35
import Derived.Test.YtjggoajfilnfjaaGreatPk33
import Derived.Test.YtjggoajfilnfjaaGreatPk20
import Derived.Test.YtjggoajfilnfjaaGreatPk1
import Derived.Test.YtjggoajfilnfjaaGreatPk12
import Derived.Test.YtjggoajfilnfjaaGreatPk13
import Derived.Test.YtjggoajfilnfjaaGreatPk14
import Derived.Test.YtjggoajfilnfjaaGreatPk8
import Derived.Test.YtjggoajfilnfjaaGreatPk27
set_option linter.unusedVariables false
set_option linter.unusedSimpArgs false
set_option maxRecDepth 100000
namespace Go
theorem ba_injn (a b : ByteArray) : a = b ↔ a.toList = b.toList := by
 refine ⟨fun h => by rw [h], fun h => ?_⟩; rw [ByteArray.toList_eq, ByteArray.toList_eq] at h; exact ByteArray.ext (Array.ext' h)
end Go
namespace Go.Proofs.YtjggoajfilnfjaaGreat
open Go.RowKit
set_option maxHeartbeats 1600000 in
theorem rnamed_any (s : ByteArray) (hs : s.size ≤ 100000) (w : World) :
  Calls Tryz.prog 19 #[.string s] w fun e w' => e = .returned (.int .i64 (namedF s)) ∧ Below w.heap.size w w' := by
 have HR := Lib.hid (fun W => rrunes_any s hs W); have HN := Lib.hid (namedF.eq_1 s); generalize namedF s = NF at *; generalize rightF s = RF at *
 go_enter Tryz.func19, Tryz.ntmps19
 go_wp2_with fail
 refine (HR.out _).mono ?_; rintro e w1 ⟨vo, va, rfl, -, -, hb⟩; clear HR
 by_cases h0 : s.size = 0
 ·have he : s = ⟨#[]⟩ := by
   apply ByteArray.ext; exact Array.eq_empty_of_size_eq_zero h0
  subst he; have hn := HN.out; rw [if_pos (.inl h0)] at hn; subst hn; clear HN; go_wp2; go_ret; exact ⟨rfl, hb⟩
 ·have h0t : s.toList.isEmpty = false := by rw [empty_txt]; simp [h0]
  cases RF with
  | false =>
   have hn := HN.out; rw [if_pos (.inr rfl)] at hn; subst hn; clear HN; go_wp2; go_ret; exact ⟨rfl, hb⟩
  | true =>
   have hn := HN.out; rw [if_neg (by simp [h0])] at hn; clear HN
   by_cases h1 : 64 < s.size
   ·rw [if_pos h1] at hn; subst hn; have h1' : (64 : Int) < (s.size : Int) := by omega
    go_wp2; go_ret; exact ⟨rfl, hb⟩
   ·rw [if_neg h1] at hn; subst hn; have h1' : ¬ (64 : Int) < (s.size : Int) := by omega
    go_wp2; go_ret; exact ⟨rfl, hb⟩
set_option maxHeartbeats 12800000 in
theorem rmcheck_any (a : Option Addr) (c : Nat) (Y : List Ly) (hl : Y.length ≤ 1000) (hz : ∀ y ∈ Y, y.Sz) (hn : ∀ y ∈ Y, y.name.size ≤ 100000 ∧ ∀ f ∈ y.fs, ∀ x ∈ f.ls, x.key.size ≤ 100000 ∧ x.text.size ≤ 100000) (w : World) (hr : Rd w a (lys Y)) (hok : ∀ y ∈ Y, y.Ok w) :
  Calls Tryz.prog 6 #[.agg #[.slice a Y.length c]] w fun e w' => e = .returned (.int .i64 (tileE (Y.map Ly.core))) ∧ Below w.heap.size w w' := by
 have HR := Lib.hid hr; have HOK := Lib.hid hok; have HZ : Hid (∀ y ∈ Y, y.Sz ∧ y.name.size ≤ 100000 ∧ ∀ f ∈ y.fs, ∀ x ∈ f.ls, x.key.size ≤ 100000 ∧ x.text.size ≤ 100000) := Lib.hid (fun y hy => ⟨hz y hy, hn y hy⟩); have HT : Hid (tileE (Y.map Ly.core) = if 16 < (Y.map Ly.core).length then 6 else tlGo (((Y.take 0).map (fun y => y.name.data.toList)).reverse) ((Y.map Ly.core).drop 0)) := Lib.hid rfl; generalize tileE (Y.map Ly.core) = TC at *; have HAT := Lib.hid (fun met k h => @tlGo_at (Y.map Ly.core) met k h); obtain ⟨N, hN⟩ : ∃ N, Y.length = N := ⟨_, rfl⟩; have HN := Lib.hid hN; have hcl : (Y.map Ly.core).length = N := by rw [List.length_map, hN]
 rw [hcl] at HT; rw [hN] at hl ⊢; clear hr hok hz hN hn; have HCL := Lib.hid hcl; clear hcl; have kT := BkT.lit w w.heap.size [.slice a N c] 29 rfl; have hb0 := Below.new w (.cells #[.slice a N c] 29); have a0 := kT.blk.cell 0 rfl; have hzl : (Tryz.prog.info? 58).map (fun i => i.zero) = some (some (.agg #[.string ⟨#[]⟩, .slice none 0 0])) := by kernel_rfl
 have hzf : (Tryz.prog.info? 63).map (fun i => i.zero) = some (some (.agg #[.int .i64 0, .int .i64 0, .slice none 0 0, .slice none 0 0])) := by kernel_rfl
 go_enter Tryz.func6, Tryz.ntmps6
 by_cases h8 : 16 < N
 ·have h8' : (16 : Int) < (N : Int) := by omega
  go_wp2; go_ret; exact ⟨ret_int (by rw [HT.out, if_pos h8]), hb0⟩
 ·have h8' : ¬ (16 : Int) < (N : Int) := by omega
  have HT2 : Hid (TC = tlGo (((Y.take 0).map (fun y => y.name.data.toList)).reverse) ((Y.map Ly.core).drop 0)) := Lib.hid (by rw [HT.out, if_neg h8]); clear HT; go_wp2; generalize w.alloc (.cells #[.slice a N c] 29) = w0 at *; obtain ⟨B, hB⟩ : ∃ B, w.heap.size = B := ⟨_, rfl⟩; rw [hB] at kT ⊢; clear hB; have KT := Lib.hid kT; have HB0 := Lib.hid hb0; clear a0 kT hb0
  go_loopw [3] (fun i wr => ∃ k : Nat, k ≤ N ∧ i = .int .i64 k ∧ Hid (TC = tlGo (((Y.take k).map (fun y => y.name.data.toList)).reverse) ((Y.map Ly.core).drop k)) ∧ Hid (Below w0.heap.size w0 wr)) (fun i _ => N - (intOf i).toNat)
  case atStart => exact ⟨0, by omega, rfl, HT2, Lib.hid (Below.refl _ _)⟩
  case round =>
   clear HT2; obtain ⟨k, hk, rfl, HZZ, HBR⟩ := hrel; obtain ⟨Wn, hWn⟩ : ∃ W, W = wr := ⟨_, rfl⟩; subst hWn; have hbl := HB0.out.trans (HBR.out.mono HB0.out.size); have kT := KT.out.keep HBR.out; have a0 := kT.blk.cell 0 rfl
   by_cases h1 : k < N
   ·have h1' : (k : Int) < (N : Int) := by omega
    have hkl : k < Y.length := by rw [HN.out]; exact h1
    obtain ⟨b1, o1, rfl, hbb, c0, c1⟩ := (HR.out.keep hbl).ly k hkl; have hyo := (HOK.out Y[k] (List.getElem_mem hkl)).keep hbl; have hyz := HZ.out Y[k] (List.getElem_mem hkl); have hk2 : k < (Y.map Ly.core).length := by rw [HCL.out]; exact h1
    have hce : (Y.map Ly.core)[k] = (Y[k].name, Y[k].fs.map Ft.core) := by rw [List.getElem_map]; rfl
    have HZ2 := HZZ.out.trans (HAT.out _ k hk2); rw [hce] at HZ2; dsimp only at HZ2; have HSN : Hid (Y[k].name.data.toList :: (((Y.take k).map (fun y => y.name.data.toList)).reverse) = ((Y.take (k + 1)).map (fun y => y.name.data.toList)).reverse) := Lib.hid (by rw [List.take_succ_eq_append_getElem hkl, List.map_append, List.reverse_append]; rfl); have HMI : Hid (∀ nm : ByteArray, (∀ j (hj : j < Y.length), j < k → Y[j].name ≠ nm) → nm.data.toList ∉ ((Y.take k).map (fun y => y.name.data.toList)).reverse) := Lib.hid (fun nm h hm => by
     rw [List.mem_reverse] at hm; obtain ⟨y, hy, he⟩ := List.mem_map.1 hm; obtain ⟨j, hj, rfl⟩ := List.mem_iff_getElem.1 hy; rw [List.length_take] at hj; rw [List.getElem_take] at he; exact h j (by omega) (by omega) (keyL_eq.1 he))
    have HMY : Hid (∀ (nm : ByteArray) j (hj : j < Y.length), j < k → Y[j].name = nm → nm.data.toList ∈ ((Y.take k).map (fun y => y.name.data.toList)).reverse) := Lib.hid (fun nm j hj hjk he => by
     rw [List.mem_reverse]; refine List.mem_map.2 ⟨Y[j], ?_, by rw [he]⟩; rw [List.mem_take_iff_getElem]; exact ⟨j, by omega, rfl⟩)
    generalize ((Y.take k).map (fun y => y.name.data.toList)).reverse = met at *; obtain ⟨met2, hmt2⟩ : ∃ m, ((Y.take (k + 1)).map (fun y => y.name.data.toList)).reverse = m := ⟨_, rfl⟩; rw [hmt2] at HSN; have HMT2 := Lib.hid hmt2; clear hmt2; clear HZZ hce hk2; generalize hYk : Y[k] = y at *; clear hYk; obtain ⟨NM, fs, fa, fc⟩ := y; obtain ⟨⟨hrf, f2, f3, f4⟩, hfo⟩ := hyo; obtain ⟨⟨z1, z2, z3⟩, z4, z5⟩ := hyz; dsimp only [Ly.fval] at c0 c1 hrf f2 f3 f4 hfo z1 z2 z3 z4 z5 HZ2 HSN; rw [HSN.out] at HZ2; have HRF := Lib.hid hrf; have HFO := Lib.hid hfo; have HFZ := Lib.hid z3; have HFW := Lib.hid z5; have HLE : Hid (lyE met (NM, fs.map Ft.core) = if namedF NM ≠ 0 then namedF NM else if NM.data.toList ∈ met then 8 else if (fs.map Ft.core).length = 0 then 7 else if 1024 < (fs.map Ft.core).length then 6 else fsChk ((fs.map Ft.core).drop 0)) := Lib.hid rfl; have HFA := Lib.hid (fun j h => @fsChk_at (fs.map Ft.core) j h); have hml : (fs.map Ft.core).length = fs.length := List.length_map _; rw [hml] at HLE; have HML := Lib.hid hml; obtain ⟨M, hM⟩ : ∃ M, fs.length = M := ⟨_, rfl⟩; have HM := Lib.hid hM; rw [hM] at c1 f2 z2 HLE; have HZ3 := Lib.hid HZ2; have HNA := Lib.hid (fun W => rnamed_any NM z4 W); generalize lyE met (NM, fs.map Ft.core) = LE at *; generalize namedF NM = NF at *; clear hrf hfo z3 z5 hml hM HZ2 HSN; have hxT := Below.new Wn (.cells #[.string NM, .slice fa M fc] 58); have kL := BkT.lit Wn Wn.heap.size [.string NM, .slice fa M fc] 58 rfl; have hb1 := hbl.trans (hxT.mono hbl.size); have y0 := kL.blk.cell 0 rfl
    have hWx := HBR.out.trans (hxT.mono HBR.out.size)
    go_wp2_with fail
    obtain ⟨S, hS⟩ : ∃ S, Wn.heap.size = S := ⟨_, rfl⟩; rw [hS] at kL y0 ⊢; generalize Wn.alloc (.cells #[.string NM, .slice fa M fc] 58) = W1 at *; refine (HNA.out W1).mono ?_; rintro e W2 ⟨rfl, hx2⟩; have hn2 : Below Wn.heap.size Wn W2 := hxT.trans (hx2.mono hxT.size); have kL := kL.keep hx2; have hb2 := hb1.trans (hx2.mono hb1.size); have hW2 := hWx.trans (hx2.mono hWx.size); have a0 := (KT.out.keep hW2).blk.cell 0 rfl; have c0 := (hn2.cell (p := ⟨b1, o1 + k * 2, none⟩) hbb).trans c0; clear hx2 hb1 y0 hxT c1 hS hWx hbl; have y0 := kL.blk.cell 0 rfl; have y1 := kL.blk.cell 1 rfl
    by_cases hn : NF = 0
    ·subst hn; have HKL := Lib.hid kL; have HW2 := Lib.hid hW2; have HN2w := Lib.hid hn2; have HBB2 := Lib.hid hb2; have HL2 : Hid (NM.data.toList ∉ met → LE = if M = 0 then 7 else if 1024 < M then 6 else fsChk ((fs.map Ft.core).drop 0)) := Lib.hid (fun h => by rw [HLE.out, if_neg (by simp), if_neg h]); have HL1 : Hid (NM.data.toList ∈ met → TC = 8) := Lib.hid (fun h => by
      have hle : LE = 8 := by rw [HLE.out, if_neg (by simp), if_pos h]
      rw [HZ3.out, hle]; rfl)
     clear HLE hn2 kL hb2 hW2 a0 c0 y0 y1; go_wp2
     go_loopw [6] (fun i wq => ∃ j : Nat, j ≤ k ∧ i = .int .i64 j ∧ Hid (∀ q (hq : q < Y.length), q < j → Y[q].name ≠ NM) ∧ Hid (Below W2.heap.size W2 wq)) (fun i _ => k - (intOf i).toNat)
     case atStart => exact ⟨0, by omega, rfl, Lib.hid (by omega), Lib.hid (Below.refl _ _)⟩
     case round =>
      obtain ⟨j, hj, rfl, HE, HBQ⟩ := hrel; have hq := HBQ.out; have kT := KT.out.keep (HW2.out.trans (hq.mono HW2.out.size)); have a0 := kT.blk.cell 0 rfl; have kL := HKL.out.keep hq; have y0 := kL.blk.cell 0 rfl; have hbq := HBB2.out.trans (hq.mono HBB2.out.size)
      by_cases h2 : j < k
      ·have h2' : (j : Int) < (k : Int) := by omega
       have hjl : j < Y.length := by omega
       obtain ⟨b2, o2, e2, hbb2, d0, -⟩ := (HR.out.keep hbq).ly j hjl
       cases e2
       have HY : Hid (Y[j].name = NM → TC = 8) := Lib.hid (fun h => HL1.out (HMY.out NM j hjl h2 h)); have HS : Hid (Y[j].name ≠ NM → ∀ q (hq : q < Y.length), q < j + 1 → Y[q].name ≠ NM) := Lib.hid (fun h q hq hqj => by
        rcases Nat.lt_or_ge q j with h3 | h3
        ·exact HE.out q hq h3
        ·obtain rfl : q = j := by omega
         exact h)
       generalize Y[j].name = NJ at *
       by_cases hnm : NJ = NM
       ·subst hnm; have hV := HY.out rfl; clear HY HS HL1 HL2 HZ3; subst hV; go_wp2
        go_quiet (fail)
        go_wp2; go_ret; exact ⟨rfl, below_drewN hbq _⟩
       ·have hs : ¬ NJ.toList = NM.toList := fun h => hnm ((ba_injn _ _).2 h); have hs2 : (NJ.toList == NM.toList) = false := by simpa using hs
        have HS2 := Lib.hid (HS.out hnm); clear HY HS hnm; go_wp2
        go_quiet (fail)
        go_wp2; exact ⟨⟨j + 1, by omega, by go_num, HS2, Lib.hid (below_drewN hq _)⟩, by simp [intOf]; omega⟩
      ·obtain rfl : k = j := by omega
       have h2' : ¬ (k : Int) < (k : Int) := by omega
       have HL3 := Lib.hid (HL2.out (HMI.out NM (fun q hq hqj => HE.out q hq hqj))); have y1 := kL.blk.cell 1 rfl; clear HL1 HL2 HMI HMY HE
       by_cases hM0 : M = 0
       ·have hV : TC = 7 := by
         have he := HL3.out; rw [if_pos hM0] at he; rw [HZ3.out, he]; rfl
        subst hM0; clear HZ3 HL3; subst hV; go_wp2; go_ret; exact ⟨rfl, hbq⟩
       ·have hM0' : ((M : Int) == 0) = false := by simpa using hM0
        have hM0n : ¬ ((M : Int) = 0) := by omega
        by_cases hM1 : 1024 < M
        ·have hM1' : (1024 : Int) < (M : Int) := by omega
         have hV : TC = 6 := by
          have he := HL3.out; rw [if_neg hM0, if_pos hM1] at he; rw [HZ3.out, he]; rfl
         clear HZ3 HL3; subst hV; go_wp2; go_ret; exact ⟨rfl, hbq⟩
        ·have hM1' : ¬ (1024 : Int) < (M : Int) := by omega
         have HE2 : Hid (LE = fsChk ((fs.map Ft.core).drop 0)) := Lib.hid (by
          have he := HL3.out; rw [if_neg hM0, if_neg hM1] at he; exact he)
         obtain ⟨W3, hW3⟩ : ∃ W, W = wr := ⟨_, rfl⟩; subst hW3; have HWN3 : Hid (Below Wn.heap.size Wn W3) := Lib.hid (HN2w.out.trans (hq.mono HN2w.out.size)); have HBQ3 := Lib.hid hbq; have HKL3 := Lib.hid kL; have HKT3 := Lib.hid (HW2.out.trans (hq.mono HW2.out.size)); clear HL3 kT a0 y0 hbq hq HKL HBB2 kL; go_wp2
         go_loopw [7] (fun i wq => ∃ j : Nat, j ≤ M ∧ i = .int .i64 j ∧ Hid (LE = fsChk ((fs.map Ft.core).drop j)) ∧ Hid (Below W3.heap.size W3 wq)) (fun i _ => M - (intOf i).toNat)
         case atStart => exact ⟨0, by omega, rfl, HE2, Lib.hid (Below.refl _ _)⟩
         case round =>
          clear HE2 y1; obtain ⟨q, hq, rfl, HQ, HBF⟩ := hrel; have hbf := HBF.out; have kL := HKL3.out.keep hbf; have y1 := kL.blk.cell 1 rfl; have hb4 := HBQ3.out.trans (hbf.mono HBQ3.out.size)
          by_cases h3 : q < M
          ·have h3' : (q : Int) < (M : Int) := by omega
           have hql : q < fs.length := by rw [HM.out]; exact h3
           have hWnq := HWN3.out.trans (hbf.mono HWN3.out.size); obtain ⟨b3, o3, rfl, hbb3, e0, e1, e2, e3⟩ := (HRF.out.keep hWnq).ft q hql; have hfc : (fs.map Ft.core)[q]'(by rw [HML.out, HM.out]; exact h3) = fs[q].core := List.getElem_map _; have hfq := HQ.out.trans (HFA.out q (by rw [HML.out, HM.out]; exact h3)); rw [hfc] at hfq; have hfo := (HFO.out fs[q] (List.getElem_mem hql)).keep hWnq; have hfz := HFZ.out fs[q] (List.getElem_mem hql); have hfw := HFW.out fs[q] (List.getElem_mem hql); generalize fs[q] = ff at *; obtain ⟨id, kd, ls, aa, ac, rs, ra, rc⟩ := ff; obtain ⟨s1, s2, s3, s4⟩ := hfz; obtain ⟨⟨g1, g2, g3, g4⟩, ⟨g5, g6, g7, g8⟩, g9⟩ := hfo; dsimp only [Ft.aval, Ft.rval] at *; have hfe : fchkF (id, kd, ls, rs.map (·.l)) = if id < 0 ∨ 9007199254740992 < id then 5 else if tcF ls ≠ 0 then tcF ls else checkE kd (rs.map (·.l)) := rfl; replace hfq : LE = if fchkF (id, kd, ls, rs.map (·.l)) ≠ 0 then fchkF (id, kd, ls, rs.map (·.l)) else fsChk ((fs.map Ft.core).drop (q + 1)) := hfq; have HA := Lib.hid (fun W (h : Below wr.heap.size wr W) => rtcheck_any aa ac ls (by omega) hfw W (g1.keep h)); have HP := Lib.hid (fun W (h : Below wr.heap.size wr W) => rcheck23_any kd ra rc rs (by omega) (fun x hx => by have := s4 x hx; omega) W (by rw [← rcs_map]; exact g5.keep h) (fun x hx => (g9 x hx).keep h)); obtain ⟨TA, hTA⟩ : ∃ t, tcF ls = t := ⟨_, rfl⟩; obtain ⟨TG, hTG⟩ : ∃ t, checkE kd (rs.map (·.l)) = t := ⟨_, rfl⟩; obtain ⟨FC, hFC⟩ : ∃ t, fchkF (id, kd, ls, rs.map (·.l)) = t := ⟨_, rfl⟩; rw [hTA] at HA hfe
           rw [hTG] at HP hfe; rw [hFC] at hfe hfq; have HFQ := Lib.hid hfq; have HFE := Lib.hid hfe; clear hTA hTG hFC; generalize ls.length = m1 at *; generalize rs.length = m2 at *; have hxF := Below.new wr (.cells #[.int .i64 id, .int .i64 kd, .slice aa m1 ac, .slice ra m2 rc] 63); have kF := BkT.lit wr wr.heap.size [.int .i64 id, .int .i64 kd, .slice aa m1 ac, .slice ra m2 rc] 63 rfl; have r0 := kF.blk.cell 0 rfl; have r2 := kF.blk.cell 2 rfl; have hb5 := hb4.trans (hxF.mono hb4.size); have hf5 := hbf.trans (hxF.mono hbf.size); clear hfc hfq hfe s1 s2 s3 s4 g1 g2 g5 g6 g9 hfw HQ
           by_cases hid : id < 0 ∨ 9007199254740992 < id
           ·have hfc : FC = 5 := by rw [HFE.out, if_pos hid]
            have hV : TC = 5 := by
             have hle : LE = 5 := by rw [HFQ.out, hfc]; rfl
             rw [HZ3.out, hle]; rfl
            clear HFQ HFE HZ3; subst hV; have hid2 : id < 0 ∨ (¬ id < 0 ∧ 9007199254740992 < id) := by omega
            rcases hid2 with hid2 | ⟨hid2, hid3⟩
            all_goals (
             go_wp2; go_ret; exact ⟨rfl, hb5⟩)
           ·have hid2 : ¬ id < 0 := by omega
            have hid3 : ¬ 9007199254740992 < id := by omega
            have HFE2 : Hid (FC = if TA ≠ 0 then TA else TG) := Lib.hid (by rw [HFE.out, if_neg hid]); clear HFE hid
            go_wp2_with fail
            refine (HA.out _ hxF).mono ?_; rintro e W6 ⟨rfl, hx⟩; have kF := kF.keep hx; have r1 := kF.blk.cell 1 rfl; have r3 := kF.blk.cell 3 rfl; have hxw := hxF.trans (hx.mono hxF.size); have hb6 := hb5.trans (hx.mono hb5.size); have hf6 := hf5.trans (hx.mono hf5.size); clear r0 r2 hx
            by_cases hTA : TA = 0
            ·subst hTA; have HFE3 : Hid (FC = TG) := Lib.hid (by rw [HFE2.out]; simp); clear HFE2
             go_wp2_with fail
             refine (HP.out _ hxw).mono ?_; rintro e W7 ⟨rfl, hx⟩; have hb7 := hb6.trans (hx.mono hb6.size); have hf7 := hf6.trans (hx.mono hf6.size); clear hx r1 r3
             by_cases hTG : TG = 0
             ·subst hTG; have HN2q : Hid (LE = fsChk ((fs.map Ft.core).drop (q + 1))) := Lib.hid (by rw [HFQ.out, HFE3.out, if_neg (by simp)]); clear HFQ HFE3; go_wp2; go_roundw
              case rel => exact ⟨q + 1, by omega, by go_num, HN2q, Lib.hid hf7⟩
              case measure => simp [intOf]; omega
             ·have hV : TC = TG := by
               have hle : LE = TG := by rw [HFQ.out, HFE3.out, if_pos hTG]
               rw [HZ3.out, hle, if_pos hTG]
              clear HFQ HFE3 HZ3; subst hV; go_wp2; go_ret; exact ⟨rfl, hb7⟩
            ·have hV : TC = TA := by
              have hfe : FC = TA := by rw [HFE2.out, if_pos hTA]
              have hle : LE = TA := by rw [HFQ.out, hfe, if_pos hTA]
              rw [HZ3.out, hle, if_pos hTA]
             clear HFQ HFE2 HZ3; subst hV; go_wp2; go_ret; exact ⟨rfl, hb6⟩
          ·have h3' : ¬ (q : Int) < (M : Int) := by omega
           have hLE0 : LE = 0 := by
            rw [HQ.out, List.drop_eq_nil_of_le (by rw [HML.out, HM.out]; omega)]; rfl
           have HZ4 : Hid (TC = tlGo (((Y.take (k + 1)).map (fun y => y.name.data.toList)).reverse) ((Y.map Ly.core).drop (k + 1))) := Lib.hid (by
            rw [HMT2.out]; have := HZ3.out; rw [hLE0] at this
            simpa using this)
           have hfin := HKT3.out.trans (hbf.mono HKT3.out.size); clear HZ3 hLE0 HQ; go_wp2; go_roundw
           case rel => exact ⟨k + 1, by omega, by go_num, HZ4, Lib.hid hfin⟩
           case measure => simp [intOf]; omega
    ·have hV : TC = NF := by
      have hle : LE = NF := by rw [HLE.out, if_pos hn]
      rw [HZ3.out, hle, if_pos hn]
     clear HLE HZ3; subst hV; go_wp2; go_ret; exact ⟨rfl, hb2⟩
   ·have h1' : ¬ (k : Int) < (N : Int) := by omega
    have hV : TC = 0 := by rw [HZZ.out, List.drop_eq_nil_of_le (by rw [HCL.out]; omega)]; rfl
    clear HZZ; subst hV; go_wp2; go_ret; exact ⟨rfl, hbl⟩
end Go.Proofs.YtjggoajfilnfjaaGreat
namespace Go
open Go.RowKit

theorem ownsRow_emptyB (w : World) (B : Nat) (e : TypeId) (size : Nat) (hB : w.heap.size = B) : (w.alloc (.cells #[] e)).ownsRow B e size (.slice (some ⟨B, 0, none⟩) 0 0) 0 [] := by
 subst hB; exact ownsRow_empty w e size
end Go
namespace Go
open Go.RowKit
theorem plc_ix {α : Type} [DecidableEq α] {l : List α} {x : α} {k : Nat} (hk : k < l.length) (h : ∀ j (hj : j < l.length), j < k → l[j] ≠ x) (he : l[k] = x) : (plc l x).2 = k := by
 have hm : x ∈ l := by rw [← he]; exact List.getElem_mem hk
 unfold plc; rw [if_pos hm]; show l.idxOf x = k; have h1 : l.idxOf x < l.length := List.idxOf_lt_length_iff.2 hm; have h2 : l[l.idxOf x] = x := List.getElem_idxOf h1
 rcases Nat.lt_trichotomy (l.idxOf x) k with h3 | h3 | h3
 ·exact absurd h2 (h _ h1 h3)
 ·exact h3
 ·have h4 := List.not_of_lt_findIdx (p := (· == x)) (xs := l) (i := k) h3; simp at h4; exact absurd he h4
theorem plc_outR {α : Type} [DecidableEq α] {l : List α} {x : α} (h : ∀ j (hj : j < l.length), l[j] ≠ x) : (plc l x).2 = l.length := by
 have hm : x ∉ l := fun hm => by
  obtain ⟨j, hj, he⟩ := List.mem_iff_getElem.1 hm; exact h j hj he
 unfold plc; rw [if_neg hm]
theorem plc_cases {α : Type} [DecidableEq α] (l : List α) (x : α) : ((plc l x).2 < l.length ∧ (plc l x).1 = l) ∨ ((plc l x).2 = l.length ∧ (plc l x).1 = l ++ [x]) := by
 unfold plc
 by_cases hm : x ∈ l
 ·rw [if_pos hm]; exact .inl ⟨List.idxOf_lt_length_iff.2 hm, rfl⟩
 ·rw [if_neg hm]; exact .inr ⟨rfl, rfl⟩
theorem grown_ofA {w a b : World} {r : Option Nat} (h : Below w.heap.size w a) (k : a.grownBy b r) : w.grownBy b r :=
 ⟨k.os.trans h.os, k.tape.trans h.tape, k.output.trans h.output, Nat.le_trans h.size k.size, fun j hj hne => (k.block j (Nat.lt_of_lt_of_le hj h.size) hne).trans (h.block j hj)⟩
theorem Off.typA {W : World} {base R : Nat} {Ts : List TypeId} {T : TypeId} {vs : List Value} (hb : BkT W R T vs) (hT : T ∉ Ts) : Off W base Ts (some R) := fun b cs T' fr hc hm _ e => by
 have h1 := Option.some.inj e; subst h1; have h2 : W.heap[b]? = some (.cells vs.toArray T (0, 0)) := hb; rw [h2] at hc
 cases hc
 exact hT hm
end Go
namespace Go.Proofs.YtjggoajfilnfjaaGreat
open Go.RowKit
theorem Tryz.infoStrA : (Tryz.prog.info? 9).map (fun i => (i.zero, i.size, i.bytes)) = some (some (.string ⟨#[]⟩), 1, 16) := by kernel_rfl
theorem Tryz.infoRV : (Tryz.prog.info? 110).map (fun i => (i.zero, i.size, i.bytes)) = some (some (.agg #[.int .i64 0, .string ⟨#[]⟩, .int .i64 0]), 3, 32) := by kernel_rfl
theorem Tryz.infoIntA : (Tryz.prog.info? 3).map (fun i => (i.zero, i.size, i.bytes)) = some (some (.int .i64 0), 1, 8) := by kernel_rfl
def tbTs : List TypeId := [9, 110]
def KyT (base : Nat) (W : World) (a : Option Addr) (c : Nat) (L : List ByteArray) : Prop := Rd W a (L.map Value.string) ∧ (a = none → c = 0) ∧ ByT W base a 9
def VyT (base : Nat) (W : World) (a : Option Addr) (c : Nat) (L : List VV) : Prop := Rd W a (vvs L) ∧ (a = none → c = 0) ∧ ByT W base a 110
theorem KyT.gr {base : Nat} {W W' : World} {a : Option Addr} {c : Nat} {L : List ByteArray} {r : Option Nat} (h : KyT base W a c L) (hg : W.grownBy W' r) (ho : Off W base tbTs r) : KyT base W' a c L :=
 ⟨h.1.grown hg (h.2.2.ne ho (by simp [tbTs])), h.2.1, h.2.2.gr hg ho (by simp [tbTs])⟩
theorem VyT.gr {base : Nat} {W W' : World} {a : Option Addr} {c : Nat} {L : List VV} {r : Option Nat} (h : VyT base W a c L) (hg : W.grownBy W' r) (ho : Off W base tbTs r) : VyT base W' a c L :=
 ⟨h.1.grown hg (h.2.2.ne ho (by simp [tbTs])), h.2.1, h.2.2.gr hg ho (by simp [tbTs])⟩
theorem KyT.below {base : Nat} {W W' : World} {a : Option Addr} {c : Nat} {L : List ByteArray} (h : KyT base W a c L) (hb : Below W.heap.size W W') : KyT base W' a c L := h.gr (grownBy_of_below hb none) Off.none
theorem VyT.below {base : Nat} {W W' : World} {a : Option Addr} {c : Nat} {L : List VV} (h : VyT base W a c L) (hb : Below W.heap.size W W') : VyT base W' a c L := h.gr (grownBy_of_below hb none) Off.none
theorem KyT.nil (base : Nat) (W : World) : KyT base W none 0 [] := ⟨Rd.nil _ _, fun _ => rfl, ⟨TypB.none _ _, fun b h => by cases h⟩⟩
theorem VyT.nil (base : Nat) (W : World) : VyT base W none 0 [] := ⟨Rd.nil _ _, fun _ => rfl, ⟨TypB.none _ _, fun b h => by cases h⟩⟩
set_option maxHeartbeats 3200000 in
theorem rkey_any (a : Option Addr) (c : Nat) (L : List ByteArray) (x : ByteArray) (hl : L.length ≤ 1000000) (w : World) (hr : Rd w a (L.map Value.string)) :
  Calls Tryz.prog 95 #[.slice a L.length c, .string x] w fun e w' => e = .returned (.int .i64 ((plc L x).2 : Nat)) ∧ Below w.heap.size w w' := by
 have HR := Lib.hid hr; have HIX := Lib.hid (fun k hk h he => @plc_ix _ _ L x k hk h he); have HOT := Lib.hid (@plc_outR _ _ L x); generalize (plc L x).2 = IX at *; obtain ⟨N, hN⟩ : ∃ N, L.length = N := ⟨_, rfl⟩; have HN := Lib.hid hN; rw [hN] at hl ⊢; clear hr hN
 go_enter Tryz.func95, Tryz.ntmps95
 go_wp2
 go_loopw [5] (fun i wr => ∃ k : Nat, k ≤ N ∧ i = .int .i64 k ∧ Hid (∀ j (hj : j < L.length), j < k → L[j] ≠ x) ∧ wr = w) (fun i _ => N - (intOf i).toNat)
 case atStart => exact ⟨0, by omega, rfl, Lib.hid (by omega), rfl⟩
 case round =>
  obtain ⟨k, hk, rfl, HE, hwr⟩ := hrel; subst hwr
  by_cases h1 : k < N
  ·have h1' : (k : Int) < (N : Int) := by omega
   have hkl : k < L.length := by rw [HN.out]; exact h1
   obtain ⟨b1, o1, rfl, c0, hbb⟩ := HR.out.at (i := k) (v := .string L[k]) (by simp [hkl]); have HF : Hid (L[k] = x → IX = k) := Lib.hid (fun h => HIX.out k hkl HE.out h); have HS : Hid (L[k] ≠ x → ∀ j (hj : j < L.length), j < k + 1 → L[j] ≠ x) := Lib.hid (fun h j hj hjk => by
    rcases Nat.lt_or_ge j k with h2 | h2
    ·exact HE.out j hj h2
    ·obtain rfl : j = k := by omega
     exact h)
   generalize L[k] = y at *
   by_cases hxy : y = x
   ·subst hxy; have hix := HF.out rfl; subst hix; clear HF HS HIX HOT; go_wp2; go_ret; exact ⟨rfl, Below.refl _ _⟩
   ·have hs : ¬ y.toList = x.toList := fun h => hxy ((ba_inj _ _).2 h); have hs2 : (y.toList == x.toList) = false := by simpa using hs
    have HS2 := Lib.hid (HS.out hxy); clear HF HS hxy; go_wp2; exact ⟨⟨k + 1, by omega, by go_num, HS2, by trivial⟩, by simp [intOf]; omega⟩
  ·have h1' : ¬ (k : Int) < (N : Int) := by omega
   have hix : IX = k := by rw [HOT.out (fun j hj => HE.out j hj (by rw [HN.out] at hj; omega)), HN.out]; omega
   subst hix; clear HIX HOT; go_wp2; go_ret; exact ⟨rfl, Below.refl _ _⟩
set_option maxHeartbeats 3200000 in
theorem rvalue_any (a : Option Addr) (c : Nat) (L : List VV) (x : VV) (hl : L.length ≤ 1000000) (w : World) (hr : Rd w a (vvs L)) :
  Calls Tryz.prog 96 #[.slice a L.length c, vVal x] w fun e w' => e = .returned (.int .i64 ((plc L x).2 : Nat)) ∧ Below w.heap.size w w' := by
 have HR := Lib.hid hr; have HIX := Lib.hid (fun k hk h he => @plc_ix _ _ L x k hk h he); have HOT := Lib.hid (@plc_outR _ _ L x); generalize (plc L x).2 = IX at *; obtain ⟨N, hN⟩ : ∃ N, L.length = N := ⟨_, rfl⟩; have HN := Lib.hid hN; rw [hN] at hl ⊢; clear hr hN; obtain ⟨x1, x2, x3⟩ := x; dsimp only [vVal]; have kX := Blk.lit w w.heap.size [.int .i64 x1, .string x2, .int .i64 x3] 110 rfl; have hb0 := Below.new w (.cells #[.int .i64 x1, .string x2, .int .i64 x3] 110)
 go_enter Tryz.func96, Tryz.ntmps96
 go_wp2; generalize w.alloc (.cells #[.int .i64 x1, .string x2, .int .i64 x3] 110) = w1 at *; obtain ⟨B, hB⟩ : ∃ B, w.heap.size = B := ⟨_, rfl⟩; rw [hB] at kX ⊢; clear hB; have KX := Lib.hid kX; have HB0 := Lib.hid hb0; clear kX hb0
 go_loopw [5] (fun i wr => ∃ k : Nat, k ≤ N ∧ i = .int .i64 k ∧ Hid (∀ j (hj : j < L.length), j < k → L[j] ≠ (x1, x2, x3)) ∧ Hid (Below w1.heap.size w1 wr)) (fun i _ => N - (intOf i).toNat)
 case atStart => exact ⟨0, by omega, rfl, Lib.hid (by omega), Lib.hid (Below.refl _ _)⟩
 case round =>
  obtain ⟨k, hk, rfl, HE, HBR⟩ := hrel; have hbr := HBR.out; have hbl := HB0.out.trans (hbr.mono HB0.out.size)
  by_cases h1 : k < N
  ·have h1' : (k : Int) < (N : Int) := by omega
   have hkl : k < L.length := by rw [HN.out]; exact h1
   obtain ⟨b1, o1, rfl, hbb, c0, c1, c2⟩ := (HR.out.keep hbl).vv k hkl; have HF : Hid (L[k] = (x1, x2, x3) → IX = k) := Lib.hid (fun h => HIX.out k hkl HE.out h); have HS : Hid (L[k] ≠ (x1, x2, x3) → ∀ j (hj : j < L.length), j < k + 1 → L[j] ≠ (x1, x2, x3)) := Lib.hid (fun h j hj hjk => by
    rcases Nat.lt_or_ge j k with h2 | h2
    ·exact HE.out j hj h2
    ·obtain rfl : j = k := by omega
     exact h)
   generalize L[k] = y at *; obtain ⟨y1, y2, y3⟩ := y; dsimp only at c0 c1 c2; have kX := KX.out.keep hbr; have d0 := kX.cell 0 rfl; have d1 := kX.cell 1 rfl; have d2 := kX.cell 2 rfl
   by_cases h10 : y1 = x1
   ·subst h10
    by_cases h11 : y2 = x2
    ·subst h11
     by_cases h12 : y3 = x3
     ·subst h12; have hix := HF.out rfl; subst hix; clear HF HS HIX HOT; go_wp2
      go_quiet (fail)
      go_wp2; go_ret; exact ⟨rfl, below_drewN hbl _⟩
     ·have HS2 := Lib.hid (HS.out (by simp [h12])); clear HF HS; go_wp2
      go_quiet (fail)
      go_wp2; exact ⟨⟨k + 1, by omega, by go_num, HS2, Lib.hid (below_drewN hbr _)⟩, by simp [intOf]; omega⟩
    ·have hs : ¬ y2.toList = x2.toList := fun h => h11 ((ba_inj _ _).2 h); have HS2 := Lib.hid (HS.out (by simp [h11])); clear HF HS; go_wp2
     go_quiet (fail)
     go_wp2; exact ⟨⟨k + 1, by omega, by go_num, HS2, Lib.hid (below_drewN hbr _)⟩, by simp [intOf]; omega⟩
   ·have HS2 := Lib.hid (HS.out (by simp [h10])); clear HF HS; go_wp2
    go_quiet (fail)
    go_wp2; exact ⟨⟨k + 1, by omega, by go_num, HS2, Lib.hid (below_drewN hbr _)⟩, by simp [intOf]; omega⟩
  ·have h1' : ¬ (k : Int) < (N : Int) := by omega
   have hix : IX = k := by rw [HOT.out (fun j hj => HE.out j hj (by rw [HN.out] at hj; omega)), HN.out]; omega
   subst hix; clear HIX HOT; go_wp2
   go_quiet (fail)
   go_wp2; go_ret; exact ⟨rfl, below_drewN hbl _⟩
end Go.Proofs.YtjggoajfilnfjaaGreat
