/-
  FaceChecks: the walk.
-/
import Derived.Test.YtebplobagmjfeaaPk10
import Derived.Test.YtebplobagmjfeaaPk11
import Derived.Test.YtebplobagmjfeaaPk12
import Derived.Test.YtebplobagmjfeaaPk18
/- FaceChecks: the walk. -/
set_option linter.unusedVariables false
set_option linter.unusedSimpArgs false
set_option maxRecDepth 100000
namespace Go
open Go.RowKit
theorem faceSd_lenS (i : Nat) (f : List (List Pt)) (n : Nat) (h : n ≤ f.length) : (faceSd i f n).length = lenS (f.take n) := by
  induction n with
  | zero => simp [faceSd, lenS]
  | succ n ih =>
    rw [faceSd_succ, List.length_append, ih (by omega), lenS_snoc f n (by omega), getElem!_pos f n (by omega)]
    congr 1
    simp [ringSd, edges]
theorem someSd_cntP (l : List (List (List Pt))) (n : Nat) (h : n ≤ l.length) : (someSd l n).length = cntP (l.take n) := by
  induction n with
  | zero => simp [someSd, cntP]
  | succ n ih =>
    rw [someSd_succ, List.length_append, ih (by omega), cntP_snoc l n (by omega), getElem!_pos l n (by omega), faceSd_lenS _ _ _ (Nat.le_refl _), List.take_length]
theorem allSd_cntP (l : List (List (List Pt))) : (allSd l).length = cntP l := by
  unfold allSd
  rw [someSd_cntP l _ (Nat.le_refl _), List.take_length]
theorem cntR_mem {l : List (List (List Pt))} {f : List (List Pt)} (h : f ∈ l) : f.length ≤ cntR l := by
  induction l with
  | nil => cases h
  | cons g l ih =>
    simp only [cntR]
    rcases List.mem_cons.1 h with rfl | h
    · omega
    · have := ih h; omega
theorem lenS_mem {l : List (List Pt)} {r : List Pt} (h : r ∈ l) : r.length ≤ lenS l := by
  induction l with
  | nil => cases h
  | cons g l ih =>
    simp only [lenS]
    rcases List.mem_cons.1 h with rfl | h
    · omega
    · have := ih h; omega
theorem cntP_mem {l : List (List (List Pt))} {f : List (List Pt)} (h : f ∈ l) : lenS f ≤ cntP l := by
  induction l with
  | nil => cases h
  | cons g l ih =>
    simp only [cntP]
    rcases List.mem_cons.1 h with rfl | h
    · omega
    · have := ih h; omega
theorem cut_each {fs : List Fc} (h : CutOk fs) : ∀ f ∈ fs, f.rs.length ≤ 70 ∧ f.ls.length ≤ 10 ∧ ∀ r ∈ f.rs, r.l.length ≤ 600 := by
  intro f hf
  have h1 := cntR_mem (List.mem_map_of_mem (f := Fc.rings) hf)
  have h2 := cntP_mem (List.mem_map_of_mem (f := Fc.rings) hf)
  refine ⟨?_, (h.2.2.2 f hf).1, fun r hr => ?_⟩
  · have : f.rings.length = f.rs.length := by simp [Fc.rings]
    have := h.2.1; omega
  · have h3 := lenS_mem (List.mem_map_of_mem (f := PC.l) hr)
    have : f.rs.map PC.l = f.rings := rfl
    rw [this] at h3
    have := h.2.2.1; omega
theorem plain_rings {a b : List Fc} (h : a.map Fc.plain = b.map Fc.plain) : a.map Fc.rings = b.map Fc.rings ∧ a.map Fc.ls = b.map Fc.ls ∧ a.length = b.length := by
  refine ⟨?_, ?_, ?_⟩
  · have := congrArg (List.map Fp.rings) h
    simpa [List.map_map, Function.comp_def, Fc.plain] using this
  · have := congrArg (List.map Fp.ls) h
    simpa [List.map_map, Function.comp_def, Fc.plain] using this
  · have := congrArg List.length h
    simpa using this
theorem cutOk_same {a b : List Fc} (h : a.map Fc.plain = b.map Fc.plain) (hb : CutOk b) : CutOk a := by
  obtain ⟨h1, h2, h3⟩ := plain_rings h
  obtain ⟨k1, k2, k3, k4⟩ := hb
  refine ⟨by omega, by rw [h1]; exact k2, by rw [h1]; exact k3, fun f hf => ?_⟩
  have : f.ls ∈ b.map Fc.ls := by rw [← h2]; exact List.mem_map_of_mem hf
  obtain ⟨g, hg, he⟩ := List.mem_map.1 this
  rw [← he]; exact k4 g hg
end Go
namespace Go.Proofs.Ytebplobagmjfeaa
open Go.RowKit

set_option maxHeartbeats 12800000 in
theorem fchecks_walk (a : Option Addr) (c : Nat) (l : List Fc) (hlc : l.length ≤ c) (hcm : c ≤ maxLen) (w : World) (hr : Rd w a (fcs l)) (hok : ∀ f ∈ l, f.In w) :
    Calls Try.prog 3 #[.slice a l.length c] w fun e w' => e = .returned (.bool true) ∧ Below w.heap.size w w' := by
  have HC := Lib.hid (cut12_any a c l hlc hcm w hr hok)
  obtain ⟨N0, hN0⟩ : ∃ N, l.length = N := ⟨_, rfl⟩
  rw [hN0] at HC ⊢
  clear hr hok hlc hcm hN0
  have HLP := Lib.hid (fun (p : Pt) W => lof_any p W)
  go_enter Try.func3, Try.ntmps3
  go_wp2_with fail
  refine HC.out.mono ?_
  rintro e w1 ⟨fs, v1, rfl, ho1, ht1, hcut, hb1⟩
  clear HC
  obtain ⟨a1, c1, rfl, u1, u2, u3, hr1, -⟩ := ho1.form
  have hce := cut_each hcut
  obtain ⟨x1, x2, x3, x4⟩ := hcut
  have hokf : ∀ f ∈ fs, f.Ok w1 := fun f hf => (ht1 f hf).1
  have HT1 := Lib.hid (fun (f : Fc) (hf : f ∈ fs) => (hokf f hf))
  have HR1 := Lib.hid hr1
  have HAT : ∀ f ∈ fs, ∀ x ∈ f.ls, AtOk x := fun f hf x hx => by
    have := (x4 f hf).2 x hx
    unfold AtOk maxLen
    omega
  have HOF := Lib.hid (ofs12_any a1 c1 fs (by omega) (fun f hf => by have := hce f hf; exact ⟨by omega, by omega, fun r hr => by have := this.2.2 r hr; omega⟩) w1 hr1 hokf)
  have HCO := Lib.hid (fun W (h : Below w1.heap.size w1 W) => fcount_any a1 c1 fs (by omega) (by omega) (by omega) W (hr1.keep h) (fun f hf => (hokf f hf).keep h))
  have HSI := Lib.hid (fun W (h : Below w1.heap.size w1 W) => fsides_any a1 c1 fs (by omega) (fun f hf => by have := hce f hf; omega) (fun f hf r hr => by have := (hce f hf).2.2 r hr; omega) (by rw [allSd_cntP]; omega) W (hr1.keep h) (fun f hf => (hokf f hf).keep h))
  have HFC := Lib.hid (fun W (h : Below w1.heap.size w1 W) => fcheck_any tcF a1 c1 fs (by omega) (by omega) (by omega) (fun f hf r hr => by have := (hce f hf).2.2 r hr; omega) W (hr1.keep h) (fun f hf => (hokf f hf).keep h) (fun f hf W2 h2 => tcheck_any f.aa f.ac f.ls (by have := hce f hf; omega) (HAT f hf) W2 h2))
  have HCUT : Hid (CutOk fs) := Lib.hid ⟨x1, x2, x3, x4⟩
  have hSL := allSd_cntP (fs.map Fc.rings)
  have HSLB : Hid ((allSd (fs.map Fc.rings)).length ≤ 600) := Lib.hid (by rw [hSL]; exact x3)
  have HNL : Hid (fs.length ≤ 40) := Lib.hid x1
  clear ho1 hr1 hokf hce ht1 HAT x1 x2 x3 x4 hSL HT1 HR1
  obtain ⟨RS, hRS⟩ : ∃ R, fs.map Fc.rings = R := ⟨_, rfl⟩
  obtain ⟨LS, hLS⟩ : ∃ R, fs.map Fc.ls = R := ⟨_, rfl⟩
  obtain ⟨N, hN⟩ : ∃ R, fs.length = R := ⟨_, rfl⟩
  have HRS := Lib.hid hRS
  have HLS := Lib.hid hLS
  have HNE := Lib.hid hN
  rw [hN] at HOF u1 ⊢
  rw [hRS, hN] at HCO HSI
  rw [hRS, hLS, hN] at HFC
  rw [hRS] at HSLB
  rw [hN] at HNL
  clear hRS hLS hN
  go_wp2_with fail
  refine HOF.out.mono ?_
  rintro e w2 ⟨gs, v2, rfl, ho2, ht2, hpl, hb2⟩
  clear HOF
  obtain ⟨a2, c2, rfl, t1, t2, t3, hr2, -⟩ := ho2.form
  obtain ⟨hp1, hp2, hp3⟩ := plain_rings hpl
  have hcut2 := cutOk_same hpl HCUT.out
  have hce := cut_each hcut2
  obtain ⟨x1, x2, x3, x4⟩ := hcut2
  have hokg : ∀ f ∈ gs, f.Ok w2 := fun f hf => (ht2 f hf).1
  have RCO := Lib.hid (fun W (h : Below w2.heap.size w2 W) => rcount_any a2 c2 gs (by omega) (by omega) (by omega) W (hr2.keep h) (fun f hf => (hokg f hf).keep h))
  have RSI := Lib.hid (fun W (h : Below w2.heap.size w2 W) => rsides_any a2 c2 gs (by omega) (fun f hf => by have := hce f hf; omega) (fun f hf r hr => by have := (hce f hf).2.2 r hr; omega) (by rw [allSd_cntP]; omega) W (hr2.keep h) (fun f hf => (hokg f hf).keep h))
  have RFC := Lib.hid (fun W (h : Below w2.heap.size w2 W) => rfcheck_any a2 c2 gs (by omega) (by omega) (by omega) (fun f hf => by have := hce f hf; exact ⟨by omega, fun r hr => by have := this.2.2 r hr; omega⟩) (fun f hf => ⟨by have := (x4 f hf).1; omega, fun x hx => by have := (x4 f hf).2 x hx; omega⟩) W (hr2.keep h) (fun f hf => (hokg f hf).keep h))
  rw [HRS.out] at hp1
  rw [HLS.out] at hp2
  rw [HNE.out] at hp3
  rw [hp1, hp3] at RCO RSI
  rw [hp1, hp2, hp3] at RFC
  rw [hp3] at t1 ⊢
  clear ho2 hr2 hokg hce ht2 hpl x1 x2 x3 x4 hp1 hp2 hp3 HCUT HRS HLS HNE
  have hs1 := hb1.size
  have hb12 := hb1.trans (hb2.mono hs1)
  have hs2 := hb2.size
  generalize chkF tcF N RS LS = CH at *
  generalize cntR RS = CR at *
  generalize cntP RS = CP at *
  generalize allSd RS = SS at *
  go_wp2_with fail
  refine (HCO.out w2 hb2).mono ?_
  rintro e w3 ⟨rfl, hb3⟩
  have hb13 := hb2.trans (hb3.mono hs2)
  clear HCO
  go_wp2_with fail
  refine (RCO.out w3 hb3).mono ?_
  rintro e w3' ⟨rfl, rfl⟩
  clear RCO
  go_wp2_with fail
  refine (HSI.out w3 hb13).mono ?_
  rintro e w4 ⟨v4, rfl, ho4, hb4⟩
  obtain ⟨a4, c4, rfl, k1, k2, k3, hq4, -⟩ := ho4.form
  have hb24 := hb3.trans (hb4.mono hb3.size)
  have hb14 := hb13.trans (hb4.mono hb13.size)
  clear HSI ho4 hb3 hb13
  go_wp2_with fail
  refine (RSI.out w4 hb24).mono ?_
  rintro e w5 ⟨v5, rfl, ho5, hb5⟩
  obtain ⟨a5, c5, rfl, m1, m2, m3, hq5, -⟩ := ho5.form
  have hq4 := hq4.keep hb5
  have hb25 := hb24.trans (hb5.mono hb24.size)
  have hb15 := hb14.trans (hb5.mono hb14.size)
  clear RSI ho5 hb24 hb14 hb4 hb5
  go_wp2_with fail
  refine (HFC.out w5 hb15).mono ?_
  rintro e w6 ⟨rfl, hb6⟩
  have hq4 := hq4.keep hb6
  have hq5 := hq5.keep hb6
  have hb26 := hb25.trans (hb6.mono hb25.size)
  have hb16 := hb15.trans (hb6.mono hb15.size)
  clear HFC hb25 hb15 hb6
  go_wp2_with fail
  refine (RFC.out w6 hb26).mono ?_
  rintro e w7 ⟨rfl, hb7⟩
  have hq4 := hq4.keep hb7
  have hq5 := hq5.keep hb7
  have hb17 := hb1.trans ((hb16.trans (hb7.mono hb16.size)).mono hs1)
  clear RFC hb26 hb16 hb7 hb2 hb12
  obtain ⟨SL, hSL⟩ : ∃ n, SS.length = n := ⟨_, rfl⟩
  have HSL := Lib.hid hSL
  rw [hSL] at k1 m1 HSLB ⊢
  clear hSL
  have hSLb := HSLB.out
  have hc1 : (CH != CH) = false := by simp
  have hc2 : ((CR : Int) != (CR : Int)) = false := by simp
  have hc3 : ((CP : Int) != (CP : Int)) = false := by simp
  have hc4 : ((SL : Int) != (SL : Int)) = false := by simp
  go_wp2
  go_loopw [10] (fun i W => ∃ (k : Nat), k ≤ SL ∧ i = .int .i64 k ∧ Below w7.heap.size w7 W) (fun i _ => SL - (intOf i).toNat)
  case atStart => exact ⟨0, by omega, rfl, Below.refl _ _⟩
  case round =>
    obtain ⟨k, hk, rfl, hbl⟩ := hrel
    by_cases q1 : k < SL
    · have q1' : (k : Int) < (SL : Int) := by omega
      have hks : k < SS.length := by rw [HSL.out]; exact q1
      obtain ⟨g4, o4, rfl, hg4, p0, p1, p2, p3, p4, p5⟩ := (hq4.keep hbl).sd k hks
      obtain ⟨g5, o5, rfl, hg5, r0, r1, r2, r3, r4, r5⟩ := (hq5.keep hbl).sd k hks
      generalize SS[k] = s at *
      obtain ⟨sf, sr, ⟨sax, say⟩, ⟨sbx, sby⟩⟩ := s
      dsimp only at p0 p1 p2 p3 p4 p5 r0 r1 r2 r3 r4 r5
      have HLA := Lib.hid (fun W => HLP.out ⟨sax, say⟩ W)
      have HLB := Lib.hid (fun W => HLP.out ⟨sbx, sby⟩ W)
      dsimp only [Pt.val] at HLA HLB
      have h1 : ((sf : Int) != (sf : Int)) = false := by simp
      have h2 : ((sr : Int) != (sr : Int)) = false := by simp
      go_wp2
      refine wp_region_lit_txtZ none [0, 1, 2, 3, 4, 5, 6, 7, 8, 9, 10, 11, 12, 13, 14, 15, 16, 17, 18, 19, 20, 21, 22, 23, 24, 25, 26, 27, 28, 29, 31, 32, 33, 34, 35, 36, 37, 38, 39, 40, 41, 42, 43, 45, 46, 47, 48, 49, 50, 51] (fun W => Below wr.heap.size wr W) (by kernel_rfl) (by kernel_rfl) (by kernel_rfl) (by kernel_rfl) (Below.refl _ _).drew ?_
      (refine txt_light ?_ rfl rfl ?_ ?_; rotate_left; · (intro w' hS; (try dsimp only at hS); go_simp; with_reducible rfl)); try simp only [Act.put, List.getElem_toArray, List.getElem_cons_succ, List.getElem_cons_zero, List.setIfInBounds_toArray, List.set_cons_zero, List.set_cons_succ]
      (refine txt_light ?_ rfl rfl ?_ ?_; rotate_left; · (intro w' hS; (try dsimp only at hS); go_simp; with_reducible rfl)); try simp only [Act.put, List.getElem_toArray, List.getElem_cons_succ, List.getElem_cons_zero, List.setIfInBounds_toArray, List.set_cons_zero, List.set_cons_succ]
      (refine txt_light ?_ rfl rfl ?_ ?_; rotate_left; · (intro w' hS; (try dsimp only at hS); go_simp; with_reducible rfl)); try simp only [Act.put, List.getElem_toArray, List.getElem_cons_succ, List.getElem_cons_zero, List.setIfInBounds_toArray, List.set_cons_zero, List.set_cons_succ]
      (refine txt_light ?_ rfl rfl ?_ ?_; rotate_left; · (intro w' hS; (try dsimp only at hS); go_simp; with_reducible rfl)); try simp only [Act.put, List.getElem_toArray, List.getElem_cons_succ, List.getElem_cons_zero, List.setIfInBounds_toArray, List.set_cons_zero, List.set_cons_succ]
      refine txt_light (.int .i64 (sf : Int)) rfl rfl ?_ ?_
      · intro w' hS
        have e0 := (hS.cell (p := ⟨g4, o4 + k * 6, none⟩) hg4).trans p0
        clear hS
        go_simp
      try simp only [Act.put, List.getElem_toArray, List.getElem_cons_succ, List.getElem_cons_zero, List.setIfInBounds_toArray, List.set_cons_zero, List.set_cons_succ]
      (refine txt_light ?_ rfl rfl ?_ ?_; rotate_left; · (intro w' hS; (try dsimp only at hS); go_simp; with_reducible rfl)); try simp only [Act.put, List.getElem_toArray, List.getElem_cons_succ, List.getElem_cons_zero, List.setIfInBounds_toArray, List.set_cons_zero, List.set_cons_succ]
      (refine txt_light ?_ rfl rfl ?_ ?_; rotate_left; · (intro w' hS; (try dsimp only at hS); go_simp; with_reducible rfl)); try simp only [Act.put, List.getElem_toArray, List.getElem_cons_succ, List.getElem_cons_zero, List.setIfInBounds_toArray, List.set_cons_zero, List.set_cons_succ]
      (refine txt_light ?_ rfl rfl ?_ ?_; rotate_left; · (intro w' hS; (try dsimp only at hS); go_simp; with_reducible rfl)); try simp only [Act.put, List.getElem_toArray, List.getElem_cons_succ, List.getElem_cons_zero, List.setIfInBounds_toArray, List.set_cons_zero, List.set_cons_succ]
      (refine txt_light ?_ rfl rfl ?_ ?_; rotate_left; · (intro w' hS; (try dsimp only at hS); go_simp; with_reducible rfl)); try simp only [Act.put, List.getElem_toArray, List.getElem_cons_succ, List.getElem_cons_zero, List.setIfInBounds_toArray, List.set_cons_zero, List.set_cons_succ]
      refine txt_light (.int .i64 (sf : Int)) rfl rfl ?_ ?_
      · intro w' hS
        have e0 := (hS.cell (p := ⟨g5, o5 + k * 6, none⟩) hg5).trans r0
        clear hS
        go_simp
      try simp only [Act.put, List.getElem_toArray, List.getElem_cons_succ, List.getElem_cons_zero, List.setIfInBounds_toArray, List.set_cons_zero, List.set_cons_succ]
      refine txt_light (.bool false) rfl rfl ?_ ?_
      · intro w' hS
        clear hS
        go_simp
      try simp only [Act.put, List.getElem_toArray, List.getElem_cons_succ, List.getElem_cons_zero, List.setIfInBounds_toArray, List.set_cons_zero, List.set_cons_succ]
      (refine txt_light ?_ rfl rfl ?_ ?_; rotate_left; · (intro w' hS; (try dsimp only at hS); go_simp; with_reducible rfl)); try simp only [Act.put, List.getElem_toArray, List.getElem_cons_succ, List.getElem_cons_zero, List.setIfInBounds_toArray, List.set_cons_zero, List.set_cons_succ]
      (refine txt_light ?_ rfl rfl ?_ ?_; rotate_left; · (intro w' hS; (try dsimp only at hS); go_simp; with_reducible rfl)); try simp only [Act.put, List.getElem_toArray, List.getElem_cons_succ, List.getElem_cons_zero, List.setIfInBounds_toArray, List.set_cons_zero, List.set_cons_succ]
      (refine txt_light ?_ rfl rfl ?_ ?_; rotate_left; · (intro w' hS; (try dsimp only at hS); go_simp; with_reducible rfl)); try simp only [Act.put, List.getElem_toArray, List.getElem_cons_succ, List.getElem_cons_zero, List.setIfInBounds_toArray, List.set_cons_zero, List.set_cons_succ]
      (refine txt_light ?_ rfl rfl ?_ ?_; rotate_left; · (intro w' hS; (try dsimp only at hS); go_simp; with_reducible rfl)); try simp only [Act.put, List.getElem_toArray, List.getElem_cons_succ, List.getElem_cons_zero, List.setIfInBounds_toArray, List.set_cons_zero, List.set_cons_succ]
      (refine txt_light ?_ rfl rfl ?_ ?_; rotate_left; · (intro w' hS; (try dsimp only at hS); go_simp; with_reducible rfl)); try simp only [Act.put, List.getElem_toArray, List.getElem_cons_succ, List.getElem_cons_zero, List.setIfInBounds_toArray, List.set_cons_zero, List.set_cons_succ]
      refine txt_light (.int .i64 (sr : Int)) rfl rfl ?_ ?_
      · intro w' hS
        have e0 := (hS.cell (p := ⟨g4, o4 + k * 6 + 1, none⟩) hg4).trans p1
        clear hS
        go_simp
      try simp only [Act.put, List.getElem_toArray, List.getElem_cons_succ, List.getElem_cons_zero, List.setIfInBounds_toArray, List.set_cons_zero, List.set_cons_succ]
      (refine txt_light ?_ rfl rfl ?_ ?_; rotate_left; · (intro w' hS; (try dsimp only at hS); go_simp; with_reducible rfl)); try simp only [Act.put, List.getElem_toArray, List.getElem_cons_succ, List.getElem_cons_zero, List.setIfInBounds_toArray, List.set_cons_zero, List.set_cons_succ]
      (refine txt_light ?_ rfl rfl ?_ ?_; rotate_left; · (intro w' hS; (try dsimp only at hS); go_simp; with_reducible rfl)); try simp only [Act.put, List.getElem_toArray, List.getElem_cons_succ, List.getElem_cons_zero, List.setIfInBounds_toArray, List.set_cons_zero, List.set_cons_succ]
      (refine txt_light ?_ rfl rfl ?_ ?_; rotate_left; · (intro w' hS; (try dsimp only at hS); go_simp; with_reducible rfl)); try simp only [Act.put, List.getElem_toArray, List.getElem_cons_succ, List.getElem_cons_zero, List.setIfInBounds_toArray, List.set_cons_zero, List.set_cons_succ]
      (refine txt_light ?_ rfl rfl ?_ ?_; rotate_left; · (intro w' hS; (try dsimp only at hS); go_simp; with_reducible rfl)); try simp only [Act.put, List.getElem_toArray, List.getElem_cons_succ, List.getElem_cons_zero, List.setIfInBounds_toArray, List.set_cons_zero, List.set_cons_succ]
      refine txt_light (.int .i64 (sr : Int)) rfl rfl ?_ ?_
      · intro w' hS
        have e0 := (hS.cell (p := ⟨g5, o5 + k * 6 + 1, none⟩) hg5).trans r1
        clear hS
        go_simp
      try simp only [Act.put, List.getElem_toArray, List.getElem_cons_succ, List.getElem_cons_zero, List.setIfInBounds_toArray, List.set_cons_zero, List.set_cons_succ]
      refine txt_light (.bool false) rfl rfl ?_ ?_
      · intro w' hS
        clear hS
        go_simp
      try simp only [Act.put, List.getElem_toArray, List.getElem_cons_succ, List.getElem_cons_zero, List.setIfInBounds_toArray, List.set_cons_zero, List.set_cons_succ]
      refine txt_light (.bool false) rfl rfl ?_ ?_
      · intro w' hS
        clear hS
        go_simp
      try simp only [Act.put, List.getElem_toArray, List.getElem_cons_succ, List.getElem_cons_zero, List.setIfInBounds_toArray, List.set_cons_zero, List.set_cons_succ]
      (refine txt_light ?_ rfl rfl ?_ ?_; rotate_left; · (intro w' hS; (try dsimp only at hS); go_simp; with_reducible rfl)); try simp only [Act.put, List.getElem_toArray, List.getElem_cons_succ, List.getElem_cons_zero, List.setIfInBounds_toArray, List.set_cons_zero, List.set_cons_succ]
      (refine txt_light ?_ rfl rfl ?_ ?_; rotate_left; · (intro w' hS; (try dsimp only at hS); go_simp; with_reducible rfl)); try simp only [Act.put, List.getElem_toArray, List.getElem_cons_succ, List.getElem_cons_zero, List.setIfInBounds_toArray, List.set_cons_zero, List.set_cons_succ]
      (refine txt_light ?_ rfl rfl ?_ ?_; rotate_left; · (intro w' hS; (try dsimp only at hS); go_simp; with_reducible rfl)); try simp only [Act.put, List.getElem_toArray, List.getElem_cons_succ, List.getElem_cons_zero, List.setIfInBounds_toArray, List.set_cons_zero, List.set_cons_succ]
      (refine txt_light ?_ rfl rfl ?_ ?_; rotate_left; · (intro w' hS; (try dsimp only at hS); go_simp; with_reducible rfl)); try simp only [Act.put, List.getElem_toArray, List.getElem_cons_succ, List.getElem_cons_zero, List.setIfInBounds_toArray, List.set_cons_zero, List.set_cons_succ]
      (refine txt_light ?_ rfl rfl ?_ ?_; rotate_left; · (intro w' hS; (try dsimp only at hS); go_simp; with_reducible rfl)); try simp only [Act.put, List.getElem_toArray, List.getElem_cons_succ, List.getElem_cons_zero, List.setIfInBounds_toArray, List.set_cons_zero, List.set_cons_succ]
      refine txt_light (.agg #[.int .i64 sax, .int .i64 say]) rfl rfl ?_ ?_
      · intro w' hS
        have e0 := (hS.cell (p := ⟨g4, o4 + k * 6 + 2, none⟩) hg4).trans p2
        have e1 := (hS.cell (p := ⟨g4, o4 + k * 6 + 3, none⟩) hg4).trans p3
        clear hS
        go_simp
      try simp only [Act.put, List.getElem_toArray, List.getElem_cons_succ, List.getElem_cons_zero, List.setIfInBounds_toArray, List.set_cons_zero, List.set_cons_succ]
      have hbd : Below wr.heap.size wr wr.drew := (Below.refl _ _).drew
      generalize wr.drew = W0 at *
      refine txt_heavy rfl rfl (fun K hK => ?_)
      go_step
      refine (HLA.out W0).mono ?_
      rintro e W1 ⟨rfl, hbx⟩
      have hbd1 := hbd.trans (hbx.mono hbd.size)
      dsimp only
      refine hK.out _ _ hbd1 ?_
      clear hK K hbx hbd
      try simp only [Act.put, List.getElem_toArray, List.getElem_cons_succ, List.getElem_cons_zero, List.setIfInBounds_toArray, List.set_cons_zero, List.set_cons_succ]
      (refine txt_light ?_ rfl rfl ?_ ?_; rotate_left; · (intro w' hS; (try dsimp only at hS); go_simp; with_reducible rfl)); try simp only [Act.put, List.getElem_toArray, List.getElem_cons_succ, List.getElem_cons_zero, List.setIfInBounds_toArray, List.set_cons_zero, List.set_cons_succ]
      (refine txt_light ?_ rfl rfl ?_ ?_; rotate_left; · (intro w' hS; (try dsimp only at hS); go_simp; with_reducible rfl)); try simp only [Act.put, List.getElem_toArray, List.getElem_cons_succ, List.getElem_cons_zero, List.setIfInBounds_toArray, List.set_cons_zero, List.set_cons_succ]
      (refine txt_light ?_ rfl rfl ?_ ?_; rotate_left; · (intro w' hS; (try dsimp only at hS); go_simp; with_reducible rfl)); try simp only [Act.put, List.getElem_toArray, List.getElem_cons_succ, List.getElem_cons_zero, List.setIfInBounds_toArray, List.set_cons_zero, List.set_cons_succ]
      (refine txt_light ?_ rfl rfl ?_ ?_; rotate_left; · (intro w' hS; (try dsimp only at hS); go_simp; with_reducible rfl)); try simp only [Act.put, List.getElem_toArray, List.getElem_cons_succ, List.getElem_cons_zero, List.setIfInBounds_toArray, List.set_cons_zero, List.set_cons_succ]
      refine txt_light (.agg #[.int .i64 sax, .int .i64 say]) rfl rfl ?_ ?_
      · intro w' hS
        have e0 := (hS.cell (p := ⟨g5, o5 + k * 6 + 2, none⟩) hg5).trans r2
        have e1 := (hS.cell (p := ⟨g5, o5 + k * 6 + 3, none⟩) hg5).trans r3
        clear hS
        go_simp
      try simp only [Act.put, List.getElem_toArray, List.getElem_cons_succ, List.getElem_cons_zero, List.setIfInBounds_toArray, List.set_cons_zero, List.set_cons_succ]
      refine txt_light (.bool false) rfl rfl ?_ ?_
      · intro w' hS
        clear hS
        go_simp
      try simp only [Act.put, List.getElem_toArray, List.getElem_cons_succ, List.getElem_cons_zero, List.setIfInBounds_toArray, List.set_cons_zero, List.set_cons_succ]
      refine txt_light (.bool false) rfl rfl ?_ ?_
      · intro w' hS
        clear hS
        go_simp
      try simp only [Act.put, List.getElem_toArray, List.getElem_cons_succ, List.getElem_cons_zero, List.setIfInBounds_toArray, List.set_cons_zero, List.set_cons_succ]
      (refine txt_light ?_ rfl rfl ?_ ?_; rotate_left; · (intro w' hS; (try dsimp only at hS); go_simp; with_reducible rfl)); try simp only [Act.put, List.getElem_toArray, List.getElem_cons_succ, List.getElem_cons_zero, List.setIfInBounds_toArray, List.set_cons_zero, List.set_cons_succ]
      (refine txt_light ?_ rfl rfl ?_ ?_; rotate_left; · (intro w' hS; (try dsimp only at hS); go_simp; with_reducible rfl)); try simp only [Act.put, List.getElem_toArray, List.getElem_cons_succ, List.getElem_cons_zero, List.setIfInBounds_toArray, List.set_cons_zero, List.set_cons_succ]
      (refine txt_light ?_ rfl rfl ?_ ?_; rotate_left; · (intro w' hS; (try dsimp only at hS); go_simp; with_reducible rfl)); try simp only [Act.put, List.getElem_toArray, List.getElem_cons_succ, List.getElem_cons_zero, List.setIfInBounds_toArray, List.set_cons_zero, List.set_cons_succ]
      (refine txt_light ?_ rfl rfl ?_ ?_; rotate_left; · (intro w' hS; (try dsimp only at hS); go_simp; with_reducible rfl)); try simp only [Act.put, List.getElem_toArray, List.getElem_cons_succ, List.getElem_cons_zero, List.setIfInBounds_toArray, List.set_cons_zero, List.set_cons_succ]
      (refine txt_light ?_ rfl rfl ?_ ?_; rotate_left; · (intro w' hS; (try dsimp only at hS); go_simp; with_reducible rfl)); try simp only [Act.put, List.getElem_toArray, List.getElem_cons_succ, List.getElem_cons_zero, List.setIfInBounds_toArray, List.set_cons_zero, List.set_cons_succ]
      refine txt_light (.agg #[.int .i64 sbx, .int .i64 sby]) rfl rfl ?_ ?_
      · intro w' hS
        have e0 := (hS.cell (p := ⟨g4, o4 + k * 6 + 4, none⟩) hg4).trans p4
        have e1 := (hS.cell (p := ⟨g4, o4 + k * 6 + 5, none⟩) hg4).trans p5
        clear hS
        go_simp
      try simp only [Act.put, List.getElem_toArray, List.getElem_cons_succ, List.getElem_cons_zero, List.setIfInBounds_toArray, List.set_cons_zero, List.set_cons_succ]
      refine txt_heavy rfl rfl (fun K hK => ?_)
      go_step
      refine (HLB.out W1).mono ?_
      rintro e W2 ⟨rfl, hbx⟩
      have hbd2 := hbd1.trans (hbx.mono hbd1.size)
      dsimp only
      refine hK.out _ _ hbd2 ?_
      clear hK K hbx hbd1
      try simp only [Act.put, List.getElem_toArray, List.getElem_cons_succ, List.getElem_cons_zero, List.setIfInBounds_toArray, List.set_cons_zero, List.set_cons_succ]
      (refine txt_light ?_ rfl rfl ?_ ?_; rotate_left; · (intro w' hS; (try dsimp only at hS); go_simp; with_reducible rfl)); try simp only [Act.put, List.getElem_toArray, List.getElem_cons_succ, List.getElem_cons_zero, List.setIfInBounds_toArray, List.set_cons_zero, List.set_cons_succ]
      (refine txt_light ?_ rfl rfl ?_ ?_; rotate_left; · (intro w' hS; (try dsimp only at hS); go_simp; with_reducible rfl)); try simp only [Act.put, List.getElem_toArray, List.getElem_cons_succ, List.getElem_cons_zero, List.setIfInBounds_toArray, List.set_cons_zero, List.set_cons_succ]
      (refine txt_light ?_ rfl rfl ?_ ?_; rotate_left; · (intro w' hS; (try dsimp only at hS); go_simp; with_reducible rfl)); try simp only [Act.put, List.getElem_toArray, List.getElem_cons_succ, List.getElem_cons_zero, List.setIfInBounds_toArray, List.set_cons_zero, List.set_cons_succ]
      (refine txt_light ?_ rfl rfl ?_ ?_; rotate_left; · (intro w' hS; (try dsimp only at hS); go_simp; with_reducible rfl)); try simp only [Act.put, List.getElem_toArray, List.getElem_cons_succ, List.getElem_cons_zero, List.setIfInBounds_toArray, List.set_cons_zero, List.set_cons_succ]
      refine txt_light (.agg #[.int .i64 sbx, .int .i64 sby]) rfl rfl ?_ ?_
      · intro w' hS
        have e0 := (hS.cell (p := ⟨g5, o5 + k * 6 + 4, none⟩) hg5).trans r4
        have e1 := (hS.cell (p := ⟨g5, o5 + k * 6 + 5, none⟩) hg5).trans r5
        clear hS
        go_simp
      try simp only [Act.put, List.getElem_toArray, List.getElem_cons_succ, List.getElem_cons_zero, List.setIfInBounds_toArray, List.set_cons_zero, List.set_cons_succ]
      refine txt_light (.bool false) rfl rfl ?_ ?_
      · intro w' hS
        clear hS
        go_simp
      try simp only [Act.put, List.getElem_toArray, List.getElem_cons_succ, List.getElem_cons_zero, List.setIfInBounds_toArray, List.set_cons_zero, List.set_cons_succ]
      refine txt_light (.bool false) rfl rfl ?_ ?_
      · intro w' hS
        clear hS
        go_simp
      try simp only [Act.put, List.getElem_toArray, List.getElem_cons_succ, List.getElem_cons_zero, List.setIfInBounds_toArray, List.set_cons_zero, List.set_cons_succ]
      refine txt_nil ?_
      have hblZ := hbl.trans (hbd2.mono hbl.size)
      clear p0 p1 p2 p3 p4 p5 r0 r1 r2 r3 r4 r5 hbd2
      go_wp2
      exact ⟨⟨k + 1, by omega, by go_num, hblZ⟩, by simp [intOf]; omega⟩
    · have hkS : SL = k := by omega
      subst hkS
      have hbz := hb17.trans (hbl.mono hb17.size)
      go_wp2_with fail
      refine (known12 _).mono ?_
      rintro e w9 ⟨rfl, hb9⟩
      have hbf := hbz.trans (hb9.mono hbz.size)
      go_wp2
      go_ret
      exact ⟨rfl, hbf⟩

theorem fchecks_law {w : World} (a : Option Addr) (c : Nat) (X : List Fc) (hl : X.length ≤ c) (hm : c ≤ maxLen) (hn : a = none → c = 0) (hr : Rd w a (fcs X)) (hx : ∀ y ∈ X, FcIn w y) :
    Calls Try.prog 3 #[.slice a X.length c] w fun e w' => e = .returned (.bool true) ∧ Below w.heap.size w w' :=
  fchecks_walk a c X hl hm w hr (fun f hf => (hx f hf).in)
end Go.Proofs.Ytebplobagmjfeaa
