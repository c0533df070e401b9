/-
  ScriptFolds: the walk.
-/
import Derived.Test.YtkfgbjjelcigcaaGreatDoorPk15
import Derived.Test.YtkfgbjjelcigcaaGreatDoorPk19
import Derived.Test.YtkfgbjjelcigcaaGreatDoorPk20
import Derived.Test.YtkfgbjjelcigcaaGreatDoorPk21
/- ScriptFolds: the walk. -/
set_option linter.unusedVariables false
set_option linter.unusedSimpArgs false
set_option maxRecDepth 100000
namespace Go.Proofs.YtkfgbjjelcigcaaGreatDoor
open Go.RowKit
set_option maxHeartbeats 12800000 in
theorem sfolds_law {w : World} (a : Option Addr) (c : Nat) (X : List It) (hlc : X.length ≤ c) (hcm : c ≤ maxLen) (hn0 : a = none → c = 0) (hr : Rd w a (its X)) (hw : ∀ x ∈ X, ItIn w x) :
    Calls Tryz.prog 3 #[.slice a X.length c] w fun e w' => e = .returned (.bool true) ∧ Below w.heap.size w w' := by
  have HKN := Lib.hid (fun W => known30_any W); have HCT := Lib.hid (icut_any a c X hlc hcm w hw hr); obtain ⟨Y, hY⟩ : ∃ Y, cutG (X.take 40) = Y := ⟨_, rfl⟩; have hYl : Y.length ≤ 40 := by rw [← hY, cutG_len, List.length_take]; omega
  have hYo : ∀ y ∈ Y, y.Ok w ∧ y.Cut := by
    rw [← hY]; exact cutG_mem _ (fun x hx m hm => ⟨cutIt_ok (hw x (List.mem_of_mem_take hx)).1 m, cutIt_cut m hm x⟩)
  rw [hY] at HCT; have hbd := foldG_bd Y fs0 0 0 (FB.zero 0) (fun y hy => (hYo y hy).2.2.2); obtain ⟨FR, hFR⟩ : ∃ r, foldG fs0 0 Y = r := ⟨_, rfl⟩; rw [hFR] at hbd; obtain ⟨fb1, fb2, fb3, fb4, fb5⟩ := hbd; have HYO := Lib.hid hYo; have HFR := Lib.hid hFR; have HF2 := Lib.hid fb2; have HF5 := Lib.hid fb5; clear hY hw hr hYo hFR fb2 fb5; generalize X.length = XL at *
  go_enter Tryz.func3, Tryz.ntmps3
  go_wp2_with fail
  refine HCT.out.mono ?_; rintro e w1 ⟨v, rfl, ho1, hb1⟩; obtain ⟨ca, cc, rfl, hc1, hc2, hc3, hrY, -⟩ := ho1.form; have HFD := Lib.hid (fun (W : World) (hW : Below w1.heap.size w1 W) => fold_any ca cc Y hc1 hc2 (by omega) (fun y hy => by have := (HYO.out y hy).2.2.2; omega) (fun y hy => ⟨by have := (HYO.out y hy).2.1; unfold maxLen; omega, by have := (HYO.out y hy).2.2.1; unfold maxLen; omega⟩) W (hrY.keep hW) (fun y hy => ((HYO.out y hy).1.keep hb1).keep hW)); have HOF := Lib.hid (fun (W : World) (hW : Below w1.heap.size w1 W) => iofs_any ca cc Y (by omega) W (hrY.keep hW)); have HRD := Lib.hid (fun (W : World) (p : Option Addr) (q : Nat) (h1 : Y.length ≤ q) (h2 : q ≤ maxLen) (hW : Below w1.heap.size w1 W) (h : Rd W p (its Y)) => rfold_any p q Y h1 h2 (by omega) (fun y hy => by have := (HYO.out y hy).2.2.2; omega) (fun y hy => ⟨by have := (HYO.out y hy).2.1; omega, by have := (HYO.out y hy).2.2.1; omega⟩) W h (fun y hy => ((HYO.out y hy).1.keep hb1).keep hW)); clear HCT ho1 hrY; generalize Y.length = YL at *
  go_wp2_with fail
  refine (HFD.out w1 (Below.refl _ _)).mono ?_; intro e w2 hp; unfold FoldPost at hp; rw [HFR.out] at hp; obtain ⟨LF, fp, fc, zp, zc, G, ap, ac, rfl, p1, p2, p3, p4, p5, p6, p7, hb2⟩ := hp; have hrF := Rd.of_owns p3; have hLl : LF.length ≤ 100000 := by have := congrArg List.length p1; rw [List.length_map] at this; omega
  have hLb : ∀ f ∈ LF, f.rs.length ≤ 1000000 ∧ (∀ r ∈ f.rs, r.l.length ≤ 1000000) ∧ f.ls.length ≤ 1000000 := fun f hf => by
    have hm : f.tell ∈ FR.fst.faces := by rw [← p1]; exact List.mem_map_of_mem hf
    obtain ⟨g1, g2, g3⟩ := HF2.out _ hm; simp only [Fc.tell, Fc.rings, List.length_map] at g1 g2 g3; exact ⟨by omega, fun r hr => by have := g3 r.l (List.mem_map_of_mem hr); omega, by omega⟩
  have hGl : G.length ≤ 100000 := by have := congrArg List.length p2; rw [List.length_map] at this; omega
  have hGb : ∀ g ∈ G, g.n.length ≤ 1000000 := fun g hg => by
    have hm : g.core ∈ FR.fst.asked := by rw [← p2]; exact List.mem_map_of_mem hg
    have := HF5.out _ hm; simp only [It.core] at this; omega
  have hZl : FR.fst.zooms.length ≤ 1000000 := by omega
  have hrZ := Rd.of_owns p5; have hrG := Rd.of_owns p6; have HINS := Lib.hid (fun (MF : List Fc) (gp : Option Addr) (gc : Nat) (yp : Option Addr) (yc : Nat) (W : World) (he : LF.map Fc.tell = MF.map Fc.tell) (hW : Below w2.heap.size w2 W) (h2 : Rd W gp (fcs MF)) (h4 : ∀ f ∈ MF, f.Ok W) (h6 : Rd W yp (FR.fst.zooms.map (Value.int .i64))) => insm_any fp gp fc gc LF MF FR.fst.buf FR.fst.tol zp yp zc yc FR.fst.zooms he hLl hZl hLb W (hrF.keep hW) h2 (fun f hf => (p4 f hf).1.keep hW) h4 (hrZ.keep hW) h6); have HISM := Lib.hid (fun (G2 : List It) (bp : Option Addr) (bc : Nat) (W : World) (he : G.map It.core = G2.map It.core) (hW : Below w2.heap.size w2 W) (h2 : Rd W bp (its G2)) (h4 : ∀ g ∈ G2, g.Ok W) => isame_any ap bp ac bc G G2 he hGl hGb W (hrG.keep hW) h2 (fun g hg => (p7 g hg).1.keep hW) h4); have HP1 := Lib.hid p1; have HP2 := Lib.hid p2; clear p1 p2 p3 p4 p5 p6 p7 hrF hrG hrZ hLl hLb hGl hGb hZl; obtain ⟨FL, hFL⟩ : ∃ n, LF.length = n := ⟨_, rfl⟩; obtain ⟨GL, hGL⟩ : ∃ n, G.length = n := ⟨_, rfl⟩; obtain ⟨ZN, hZN⟩ : ∃ n, FR.fst.zooms.length = n := ⟨_, rfl⟩; have HFL := Lib.hid hFL; have HGL := Lib.hid hGL; rw [hFL] at HINS; rw [hGL] at HISM; rw [hZN] at HINS; rw [hFL, hGL, hZN]; have HZN := Lib.hid hZN; clear hFL hGL hZN; have hx3 := Below.new w2 (.cells #[.slice fp FL fc, .int .i64 FR.fst.buf, .int .i64 FR.fst.tol, .slice zp ZN zc] 27); obtain ⟨B3, hB3⟩ : ∃ B, w2.heap.size = B := ⟨_, rfl⟩; have k3 := BT.lit w2 B3 [.slice fp FL fc, .int .i64 FR.fst.buf, .int .i64 FR.fst.tol, .slice zp ZN zc] 27 hB3
  go_wp2_with fail
  try rw [hB3]
  generalize w2.alloc (.cells #[.slice fp FL fc, .int .i64 FR.fst.buf, .int .i64 FR.fst.tol, .slice zp ZN zc] 27) = w3 at *; have b13 := hb2.trans (hx3.mono hb2.size); refine (HOF.out w3 b13).mono ?_; rintro e w4 ⟨v4, rfl, ho4, hb4⟩; obtain ⟨da, dc, rfl, hd1, hd2, hd3, hrD, -⟩ := ho4.form; have c4 := hx3.trans (hb4.mono hx3.size); have b14 := b13.trans (hb4.mono b13.size); have k4 := k3.keep hb4
  go_wp2_with fail
  refine (HRD.out w4 da dc hd1 hd2 b14 hrD).mono ?_; intro e w5 hp; unfold RFoldPost at hp; rw [HFR.out] at hp; obtain ⟨MF, gp, gc, yp, yc, G2, bp, bc, rfl, q1, q2, q3, q4, q5, q6, q7, hb5⟩ := hp; have hrM := Rd.of_owns q3; have hrH := Rd.of_owns q6; have c5 := c4.trans (hb5.mono c4.size); have b15 := b14.trans (hb5.mono b14.size); have k5 := k4.keep hb5; have hML : MF.length = FL := by have h1 := congrArg List.length q1; have h2 := congrArg List.length HP1.out; rw [List.length_map] at h1 h2; rw [h1, ← h2, HFL.out]
  have hHL : G2.length = GL := by have h1 := congrArg List.length q2; have h2 := congrArg List.length HP2.out; rw [List.length_map] at h1 h2; rw [h1, ← h2, HGL.out]
  have HI2 := Lib.hid (fun (W : World) (hV : Below w2.heap.size w2 W) (hW : Below w5.heap.size w5 W) => HINS.out MF gp gc yp yc W (HP1.out.trans q1.symm) hV (hrM.keep hW) (fun f hf => (q4 f hf).1.keep hW) (q5.keep hW)); have HS2 := Lib.hid (fun (W : World) (hV : Below w2.heap.size w2 W) (hW : Below w5.heap.size w5 W) => HISM.out G2 bp bc W (HP2.out.trans q2.symm) hV (hrH.keep hW) (fun g hg => (q7 g hg).keep hW)); rw [hML] at HI2; rw [hHL] at HS2; rw [hML, hHL, HZN.out]; clear q1 q2 q3 q4 q5 q6 q7 hrM hrH hML hHL HINS HISM HOF HRD HFD ho4 hrD k3 k4; have hx6 := Below.new w5 (.cells #[.slice gp FL gc, .int .i64 FR.fst.buf, .int .i64 FR.fst.tol, .slice yp ZN yc] 33); obtain ⟨B6, hB6⟩ : ∃ B, w5.heap.size = B := ⟨_, rfl⟩; have k6 := BT.lit w5 B6 [.slice gp FL gc, .int .i64 FR.fst.buf, .int .i64 FR.fst.tol, .slice yp ZN yc] 33 hB6
  go_wp2_with fail
  try rw [hB6]
  generalize w5.alloc (.cells #[.slice gp FL gc, .int .i64 FR.fst.buf, .int .i64 FR.fst.tol, .slice yp ZN yc] 33) = w6 at *; have c6 := c5.trans (hx6.mono c5.size); have b16 := b15.trans (hx6.mono b15.size); refine (HKN.out w6).mono ?_; rintro e w7 ⟨rfl, hb7⟩; have c7 := c6.trans (hb7.mono c6.size); have b17 := b16.trans (hb7.mono b16.size); have e7 := hx6.trans (hb7.mono hx6.size); have k7 := (k5.keep hx6).keep hb7; have m7 := k6.keep hb7; have x0 := k7.blk.cell 0 rfl; have x1 := k7.blk.cell 1 rfl; have x2 := k7.blk.cell 2 rfl; have x3 := k7.blk.cell 3 rfl; have y0 := m7.blk.cell 0 rfl; have y1 := m7.blk.cell 1 rfl; have y2 := m7.blk.cell 2 rfl; have y3 := m7.blk.cell 3 rfl
  go_wp2_with fail
  refine (HI2.out w7 c7 e7).mono ?_; rintro e w8 ⟨rfl, hb8⟩; have c8 := c7.trans (hb8.mono c7.size); have b18 := b17.trans (hb8.mono b17.size); have e8 := e7.trans (hb8.mono e7.size); clear x0 x1 x2 x3 y0 y1 y2 y3
  go_wp2_with fail
  refine (HS2.out w8 c8 e8).mono ?_; rintro e w9 ⟨rfl, hb9⟩; have b19 := b18.trans (hb9.mono b18.size); have bw := hb1.trans (b19.mono hb1.size); go_wp2; go_ret; exact ⟨rfl, bw⟩
end Go.Proofs.YtkfgbjjelcigcaaGreatDoor
