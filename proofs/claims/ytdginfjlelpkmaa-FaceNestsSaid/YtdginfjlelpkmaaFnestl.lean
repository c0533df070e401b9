/-
  FaceNests: the walk.
-/
import Derived.Test.YtdginfjlelpkmaaKno12
import Derived.Test.YtdginfjlelpkmaaRof12
import Derived.Test.YtdginfjlelpkmaaRnest2
import Derived.Test.YtdginfjlelpkmaaOpenFc
import Derived.Test.YtdginfjlelpkmaaLof
set_option linter.unusedVariables false
set_option linter.unusedSimpArgs false
set_option maxRecDepth 100000
namespace Go
open Go.RowKit
theorem fewFs_ls (most : Nat) (l : List Fp) : (∀ f ∈ (fewFs most l).1, f.rings.length ≤ 8 ∧ f.ls.length ≤ 10 ∧ ∀ r ∈ f.rings, r.length ≤ most) ∧ (fewFs most l).1.length = l.length := by
  have kr : ∀ (l : List (List Pt)) (s : List (List Pt) × Nat), (∀ r ∈ s.1, r.length ≤ most) → (l.foldl (fewStep most) s).1.length = s.1.length + l.length ∧ ∀ r ∈ (l.foldl (fewStep most) s).1, r.length ≤ most := by
    intro l
    induction l with
    | nil => intro s h; exact ⟨rfl, h⟩
    | cons r l ih =>
      intro s h
      have h2 : ∀ r' ∈ (fewStep most s r).1, r'.length ≤ most := by
        intro r' hr
        simp only [fewStep, List.mem_append, List.mem_singleton] at hr
        rcases hr with hr | hr
        · exact h r' hr
        · rw [hr, List.length_take]; omega
      obtain ⟨k1, k2⟩ := ih _ h2
      refine ⟨?_, k2⟩
      simp only [List.foldl_cons]
      rw [k1]
      simp [fewStep]; omega
  have key : ∀ (l : List Fp) (s : List Fp × Nat), (∀ f ∈ s.1, f.rings.length ≤ 8 ∧ f.ls.length ≤ 10 ∧ ∀ r ∈ f.rings, r.length ≤ most) → (∀ f ∈ (l.foldl (fewStepF most) s).1, f.rings.length ≤ 8 ∧ f.ls.length ≤ 10 ∧ ∀ r ∈ f.rings, r.length ≤ most) ∧ (l.foldl (fewStepF most) s).1.length = s.1.length + l.length := by
    intro l
    induction l with
    | nil => intro s h; exact ⟨h, rfl⟩
    | cons f l ih =>
      intro s h
      have h2 : ∀ g ∈ (fewStepF most s f).1, g.rings.length ≤ 8 ∧ g.ls.length ≤ 10 ∧ ∀ r ∈ g.rings, r.length ≤ most := by
        intro g hg
        simp only [fewStepF, List.mem_append, List.mem_singleton] at hg
        rcases hg with hg | hg
        · exact h g hg
        · obtain ⟨k1, k2⟩ := kr (f.rings.take 8) ([], s.2) (by simp)
          rw [hg]
          refine ⟨?_, by simp; omega, fun r hr => k2 r hr⟩
          show (fewRs most s.2 (f.rings.take 8)).1.length ≤ 8
          unfold fewRs
          rw [k1]
          simp; omega
      obtain ⟨k1, k2⟩ := ih _ h2
      refine ⟨k1, ?_⟩
      simp only [List.foldl_cons]
      rw [k2]
      simp [fewStepF]; omega
  obtain ⟨k1, k2⟩ := key l ([], 0) (by simp)
  exact ⟨k1, by unfold fewFs; rw [k2]; simp⟩
theorem few_one {fs : List Fc} {most : Nat} {x : Fp} (h : fs.map Fc.plain = fewF most [x]) : ∃ g, fs = [g] ∧ g.rs.length ≤ 8 ∧ g.ls.length ≤ 10 ∧ ∀ r ∈ g.rs, r.l.length ≤ most := by
  have h0 : fewF most [x] = (fewFs most [x]).1 := rfl
  obtain ⟨k1, k2⟩ := fewFs_ls most [x]
  rw [← h0, ← h] at k1 k2
  rw [List.length_map] at k2
  match fs, k2 with
  | [g], _ =>
    have := k1 g.plain (by simp)
    refine ⟨g, rfl, by simpa [Fc.plain, Fc.rings] using this.1, this.2.1, fun r hr => this.2.2 r.l ?_⟩
    exact List.mem_map_of_mem hr
theorem nestGo_len (rs : List (List Pt)) : ∀ (l : List (List Pt)) (acc : List Int), (nestGo rs acc l).1.length ≤ acc.length + l.length := by
  intro l
  induction l with
  | nil => intro acc; simp [nestGo]
  | cons r l ih =>
    intro acc
    unfold nestGo
    split
    · simp
    · split
      · split
        · simp
        · have := ih (acc ++ [arF rs r]); simp at this ⊢; omega
      · have := ih (acc ++ [-1]); simp at this ⊢; omega
theorem nestF_len (rs : List (List Pt)) : (nestF rs).1.length ≤ rs.length := by
  have := nestGo_len rs rs []
  simpa [nestF] using this
end Go
namespace Go.Proofs.Ytdginfjlelpkmaa
open Go.RowKit

set_option maxHeartbeats 12800000 in
theorem fnests_walk (f : Fc) (p : Pt) (w : World) (hf : f.In w) :
    Calls Try.prog 4 #[f.val, p.val] w fun e w' => e = .returned (.bool true) ∧ Below w.heap.size w w' := by
  have hF : ∀ W (a : Option Addr), Below w.heap.size w W → Rd W a [f.rval, f.aval] → Calls Try.prog 15 #[.slice a 1 1, .int .i64 60] W fun e w' => ∃ (g : Fc) (a1 : Option Addr) (c1 : Nat), e = .returned (.slice a1 1 c1) ∧ Rd w' a1 (fcs [g]) ∧ g.Ok w' ∧ (g.rs.length ≤ 8 ∧ g.ls.length ≤ 10 ∧ ∀ r ∈ g.rs, r.l.length ≤ 60) ∧ Below W.heap.size W w' := by
    intro W a h hR
    have h1 := few_any a 1 [f] (Nat.le_refl 1) (by unfold maxLen; omega) 60 (by omega) W hR (fun g hg => by rw [List.mem_singleton.1 hg]; exact ⟨hf.1.keep h, hf.2⟩)
    refine Calls.mono h1 ?_
    rintro e w1 ⟨fs, v1, rfl, ho1, ht1, hp1, hb1⟩
    obtain ⟨g, rfl, hg1, hg2, hg3⟩ := few_one hp1
    obtain ⟨a1, c1, rfl, u1, u2, u3, hr1, -⟩ := ho1.form
    exact ⟨g, a1, c1, rfl, hr1, (ht1 g (List.mem_singleton.2 rfl)).1, ⟨hg1, hg2, hg3⟩, hb1⟩
  clear hf
  obtain ⟨B, hB⟩ : ∃ B, w.heap.size = B := ⟨_, rfl⟩
  have HBE := Lib.hid hB
  have k2 := Blk.lit (w.alloc (.cells #[f.rval, f.aval] 49)) (B + 1) p.cells 37 (by simp [hB])
  have hb0 := (Below.new w (.cells #[f.rval, f.aval] 49)).alloc (by simp) (.cells p.cells.toArray 37)
  have hlp := fun W => lof_any p W
  have HLP := Lib.hid hlp
  have HW1 := Lib.hid (fun (g : Fc) h1 h2 W h => fwind_any g h1 h2 p W h)
  have HW2 := Lib.hid (fun (g : Fc) h1 h2 W h => rwind12_any g h1 h2 p W h)
  clear hlp
  obtain ⟨fr, hfr⟩ : ∃ v, f.rval = v := ⟨_, rfl⟩
  obtain ⟨fa, hfa⟩ : ∃ v, f.aval = v := ⟨_, rfl⟩
  have HFV : Hid (f.val = .agg #[fr, fa]) := Lib.hid (by rw [← hfr, ← hfa]; rfl)
  have hfr1 : ∃ a b c, fr = .slice a b c := ⟨_, _, _, hfr.symm⟩
  have hfa1 : ∃ a b c, fa = .slice a b c := ⟨_, _, _, hfa.symm⟩
  rw [hfr, hfa] at hF k2 hb0
  have HF := Lib.hid hF
  clear hF
  rw [HFV.out]
  clear hfr hfa
  obtain ⟨fra, frl, frc, rfl⟩ := hfr1
  obtain ⟨faa, fal, fac, rfl⟩ := hfa1
  clear HFV
  obtain ⟨px, py⟩ := p
  dsimp only [Pt.val, Pt.cells] at *
  go_enter Try.func4, Try.ntmps4
  go_wp2_with fail
  generalize hwS : (w.alloc (.cells #[.slice fra frl frc, .slice faa fal fac] 49)).alloc (.cells #[.int .i64 px, .int .i64 py] 37) = wS at *
  have hsS := k2.lt
  have hbA := hb0.alloc hb0.size (.cells #[.slice fra frl frc, .slice faa fal fac] 49)
  have hzS : wS.heap.size = B + 1 + 1 := by rw [← hwS]; simp [hB]
  refine (HF.out _ (some ⟨B + 1 + 1, 0, none⟩) hbA (Rd.lit wS (B + 1 + 1) [.slice fra frl frc, .slice faa fal fac] 49 hzS)).mono ?_
  rintro e w1 ⟨g, a1, c1, rfl, hr1, hg0, ⟨hg1, hg2, hg3⟩, hb1⟩
  clear HF
  have HB3 := Lib.hid (fun r hr => (hg3 r hr : r.l.length ≤ 60))
  have HG := Lib.hid hg0
  clear hg0
  have hbx : Below w.heap.size w w1 := hbA.trans (hb1.mono hbA.size)
  have hb1' := (Below.new wS (.cells #[.slice fra frl frc, .slice faa fal fac] 49)).trans (hb1.mono (by simp))
  have k3 := k2.keep hb1'
  have hOF := fun W (h : g.Ok W) => of12_any g (by omega) (fun r hr => by have := hg3 r hr; omega) (by omega) W h
  have hNE := fun W (h : g.Ok W) => nest_any g (by omega) (fun r hr => by have := hg3 r hr; omega) W h
  have hWI := fun W (h : g.Ok W) => HW1.out g (by omega) (fun r hr => by have := hg3 r hr; omega) W h
  have hNL := nestF_len g.rings
  have hgl : g.rings.length = g.rs.length := by simp [Fc.rings]
  obtain ⟨bf, of, rfl, hbf, c0, c1'⟩ := hr1.fc 0 (by simp)
  rw [Nat.zero_mul, Nat.add_zero] at c0 c1'
  dsimp only [List.getElem_cons_zero] at c0 c1'
  obtain ⟨rs, ra, rc, ls, aa, ac⟩ := g
  dsimp only [Fc.val, Fc.rval, Fc.aval] at c0 c1' hOF hNE hWI hg1 hg2 hgl
  have HOF := Lib.hid hOF
  have HNE := Lib.hid hNE
  have HWI := Lib.hid hWI
  obtain ⟨RS, hRS⟩ : ∃ x, Fc.rings ⟨rs, ra, rc, ls, aa, ac⟩ = x := ⟨_, rfl⟩
  have HRS := Lib.hid hRS
  rw [hRS] at HOF HNE HWI hNL hgl
  have HRN : Hid (rs.length ≤ 8) := Lib.hid hg1
  have HMAP : Hid (rs.map PC.l = RS) := Lib.hid hRS
  clear hRS hOF hNE hWI hb0 hbA hb1 k2 hr1 hwS hsS hzS hg3
  have hnb : (nestF RS).1.length ≤ 8 := by omega
  obtain ⟨NF, hNF⟩ : ∃ x, nestF RS = x := ⟨_, rfl⟩
  obtain ⟨FW, hFW⟩ : ∃ x, fwF ⟨px, py⟩ RS = x := ⟨_, rfl⟩
  obtain ⟨FO, hFO⟩ : ∃ x, fwOk ⟨px, py⟩ RS = x := ⟨_, rfl⟩
  rw [hNF] at HNE hnb
  rw [hFW, hFO] at HWI
  have HNFE := Lib.hid hNF
  have HFWE := Lib.hid hFW
  have HFOE := Lib.hid hFO
  clear hNF hFW hFO
  obtain ⟨RL, hRL⟩ : ∃ n, rs.length = n := ⟨_, rfl⟩
  rw [hRL] at c0 HOF HNE HWI
  clear hRL hgl hNL
  obtain ⟨NL, NB⟩ := NF
  dsimp only at HNE hnb
  have hs1 : B ≤ w1.heap.size := by have := hbx.size; omega
  clear hB
  go_wp2_with fail
  refine (HOF.out w1 HG.out).mono ?_
  rintro e w2 ⟨h, rfl, hh1, hh2, hh3, hx2⟩
  obtain ⟨hrs, hra, hrc, hls, haa, hac⟩ := h
  dsimp only at hh3
  subst hh3
  have HH := Lib.hid hh1.1
  have hH8 : hrs.length ≤ 8 := by
    have h1 : (hrs.map PC.l).length = rs.length := by
      have h2 : hrs.map PC.l = rs.map PC.l := by rw [HMAP.out]; exact hh2
      rw [h2, List.length_map]
    rw [List.length_map] at h1
    omega
  have hH6 : ∀ r ∈ hrs, r.l.length ≤ 60 := by
    intro r hr
    have h2 : hrs.map PC.l = rs.map PC.l := by rw [HMAP.out]; exact hh2
    have h3 : r.l ∈ rs.map PC.l := by rw [← h2]; exact List.mem_map_of_mem hr
    obtain ⟨x, hx, hxe⟩ := List.mem_map.1 h3
    rw [← hxe]; exact HB3.out x hx
  have hN2 := fun W (h : Fc.Ok W ⟨hrs, hra, hrc, hls, haa, hac⟩) => rnest12_any ⟨hrs, hra, hrc, hls, haa, hac⟩ (by dsimp only; omega) (fun r hr => by have := hH6 r hr; omega) W h
  have hW2 := fun W (h : Fc.Ok W ⟨hrs, hra, hrc, hls, haa, hac⟩) => HW2.out ⟨hrs, hra, hrc, hls, haa, hac⟩ (by dsimp only; omega) (fun r hr => by have := hH6 r hr; omega) W h
  rw [hh2, HNFE.out] at hN2
  rw [hh2, HFWE.out, HFOE.out] at hW2
  dsimp only [Fc.val, Fc.rval, Fc.aval] at hN2 hW2 ⊢
  have HN2 := Lib.hid hN2
  have HW2' := Lib.hid hW2
  clear hN2 hW2 HW1 HW2 hh1 hh2
  generalize hrs.length = HL at *
  generalize hls.length = AL at *
  have hbx2 := hbx.trans (hx2.mono hbx.size)
  have k4 := k3.keep hx2
  have c0 := (hx2.cell (p := ⟨bf, of, none⟩) hbf).trans c0
  have c1' := (hx2.cell (p := ⟨bf, of + 1, none⟩) hbf).trans c1'
  have hbf2 : bf < w2.heap.size := Nat.lt_of_lt_of_le hbf hx2.size
  have hHG := HG.out.keep hx2
  have hxT := Below.new w2 (.cells #[.slice hra HL hrc, .slice haa AL hac] 54)
  obtain ⟨T0, hT0⟩ : ∃ T, w2.heap.size = T := ⟨_, rfl⟩
  have kT := Blk.lit w2 T0 [.slice hra HL hrc, .slice haa AL hac] 54 hT0
  have k5 := k4.alloc (.cells #[.slice hra HL hrc, .slice haa AL hac] 54)
  have hbxT := hbx2.trans (hxT.mono hbx2.size)
  have c2 := (hxT.cell (p := ⟨bf, of, none⟩) hbf2).trans c0
  have c3 := (hxT.cell (p := ⟨bf, of + 1, none⟩) hbf2).trans c1'
  have HGT := Lib.hid (hHG.keep hxT)
  have HHT := Lib.hid (HH.out.keep hxT)
  have hbfT : bf < (w2.alloc (.cells #[.slice hra HL hrc, .slice haa AL hac] 54)).heap.size := Nat.lt_of_lt_of_le hbf2 hxT.size
  go_wp2_with fail
  generalize w2.alloc (.cells #[.slice hra HL hrc, .slice haa AL hac] 54) = wT at *
  clear c0 c1' k4 k3 hxT hT0 hHG HH HG hx2 hbx hbf2 hb1' hbf HOF
  refine (HNE.out wT HGT.out).mono ?_
  rintro e w3 ⟨va, rfl, ho3, hx3⟩
  obtain ⟨a3, c3n, rfl, -, -, -, hr3, -⟩ := ho3.form
  have kT := kT.keep hx3
  have k5 := k5.keep hx3
  have c2 := (hx3.cell (p := ⟨bf, of, none⟩) hbfT).trans c2
  have c3 := (hx3.cell (p := ⟨bf, of + 1, none⟩) hbfT).trans c3
  have hbf3 : bf < w3.heap.size := Nat.lt_of_lt_of_le hbfT hx3.size
  have HG3 := Lib.hid (HGT.out.keep hx3)
  have HH3 := Lib.hid (HHT.out.keep hx3)
  have hbx3 := hbxT.trans (hx3.mono hbxT.size)
  clear hx3 HGT HHT hbxT hbfT ho3 HNE
  have y0 := kT.cell 0 rfl
  have y1 := kT.cell 1 rfl
  go_wp2_with fail
  refine (HN2.out w3 HH3.out).mono ?_
  rintro e w4 ⟨vb, rfl, ho4, hx4⟩
  obtain ⟨a4, c4n, rfl, -, -, -, hr4, -⟩ := ho4.form
  have kT := kT.keep hx4
  have k5 := k5.keep hx4
  have c2 := (hx4.cell (p := ⟨bf, of, none⟩) hbf3).trans c2
  have c3 := (hx4.cell (p := ⟨bf, of + 1, none⟩) hbf3).trans c3
  have hbf4 : bf < w4.heap.size := Nat.lt_of_lt_of_le hbf3 hx4.size
  have HG4 := Lib.hid (HG3.out.keep hx4)
  have HH4 := Lib.hid (HH3.out.keep hx4)
  have hr3 := hr3.keep hx4
  have hbx4 := hbx3.trans (hx4.mono hbx3.size)
  clear hx4 HG3 HH3 hbx3 hbf3 ho4 HN2 y0 y1
  have y0 := kT.cell 0 rfl
  have y1 := kT.cell 1 rfl
  have z0 := k5.cell 0 rfl
  have z1 := k5.cell 1 rfl
  have hTl : T0 < w4.heap.size := kT.lt
  have hBl : B + 1 < w4.heap.size := k5.lt
  go_wp2_with fail
  refine wp_region_lit_txtZ none [0, 1, 2, 3, 5, 6, 7, 8, 9] (fun W => Below w4.heap.size w4 W) (by kernel_rfl) (by kernel_rfl) (by kernel_rfl) (by kernel_rfl) (Below.refl _ _).drew ?_
  (refine txt_light ?_ rfl rfl ?_ ?_; rotate_left; · (intro w' hS; (try dsimp only at hS); go_simp; with_reducible rfl)); try simp only [Act.put, List.getElem_toArray, List.getElem_cons_succ, List.getElem_cons_zero, List.setIfInBounds_toArray, List.set_cons_zero, List.set_cons_succ]
  (refine txt_light ?_ rfl rfl ?_ ?_; rotate_left; · (intro w' hS; (try dsimp only at hS); go_simp; with_reducible rfl)); try simp only [Act.put, List.getElem_toArray, List.getElem_cons_succ, List.getElem_cons_zero, List.setIfInBounds_toArray, List.set_cons_zero, List.set_cons_succ]
  refine txt_light (.agg #[.slice ra RL rc, .slice aa AL ac]) rfl rfl ?_ ?_
  · intro w' hS
    have e0 := (hS.cell (p := ⟨bf, of, none⟩) hbf4).trans c2
    have e1 := (hS.cell (p := ⟨bf, of + 1, none⟩) hbf4).trans c3
    clear hS
    go_simp
  try simp only [Act.put, List.getElem_toArray, List.getElem_cons_succ, List.getElem_cons_zero, List.setIfInBounds_toArray, List.set_cons_zero, List.set_cons_succ]
  refine txt_light (.agg #[.int .i64 px, .int .i64 py]) rfl rfl ?_ ?_
  · intro w' hS
    have e0 := (hS.cell (p := ⟨B + 1, 0, none⟩) hBl).trans z0
    have e1 := (hS.cell (p := ⟨B + 1, 1, none⟩) hBl).trans z1
    clear hS
    go_simp
  try simp only [Act.put, List.getElem_toArray, List.getElem_cons_succ, List.getElem_cons_zero, List.setIfInBounds_toArray, List.set_cons_zero, List.set_cons_succ]
  have hbd : Below w4.heap.size w4 w4.drew := (Below.refl _ _).drew
  generalize w4.drew = W0 at *
  refine txt_heavy rfl rfl (fun K hK => ?_)
  go_step
  refine (HWI.out W0 (HG4.out.keep hbd)).mono ?_
  rintro e W1 ⟨rfl, hbx⟩
  have hbd1 := hbd.trans (hbx.mono hbd.size)
  dsimp only
  refine hK.out _ _ hbd1 ?_
  clear hK K hbx hbd
  try simp only [Act.put, List.getElem_toArray, List.getElem_cons_succ, List.getElem_cons_zero, List.setIfInBounds_toArray, List.set_cons_zero, List.set_cons_succ]
  (refine txt_light ?_ rfl rfl ?_ ?_; rotate_left; · (intro w' hS; (try dsimp only at hS); go_simp; with_reducible rfl)); try simp only [Act.put, List.getElem_toArray, List.getElem_cons_succ, List.getElem_cons_zero, List.setIfInBounds_toArray, List.set_cons_zero, List.set_cons_succ]
  (refine txt_light ?_ rfl rfl ?_ ?_; rotate_left; · (intro w' hS; (try dsimp only at hS); go_simp; with_reducible rfl)); try simp only [Act.put, List.getElem_toArray, List.getElem_cons_succ, List.getElem_cons_zero, List.setIfInBounds_toArray, List.set_cons_zero, List.set_cons_succ]
  (refine txt_light ?_ rfl rfl ?_ ?_; rotate_left; · (intro w' hS; (try dsimp only at hS); go_simp; with_reducible rfl)); try simp only [Act.put, List.getElem_toArray, List.getElem_cons_succ, List.getElem_cons_zero, List.setIfInBounds_toArray, List.set_cons_zero, List.set_cons_succ]
  (refine txt_light ?_ rfl rfl ?_ ?_; rotate_left; · (intro w' hS; (try dsimp only at hS); go_simp; with_reducible rfl)); try simp only [Act.put, List.getElem_toArray, List.getElem_cons_succ, List.getElem_cons_zero, List.setIfInBounds_toArray, List.set_cons_zero, List.set_cons_succ]
  (refine txt_light ?_ rfl rfl ?_ ?_; rotate_left; · (intro w' hS; (try dsimp only at hS); go_simp; with_reducible rfl)); try simp only [Act.put, List.getElem_toArray, List.getElem_cons_succ, List.getElem_cons_zero, List.setIfInBounds_toArray, List.set_cons_zero, List.set_cons_succ]
  refine txt_nil ?_
  go_wp2_with fail
  refine wp_region_lit_txtZ none [0, 1, 4, 5, 6, 7, 8] (fun W => Below w4.heap.size w4 W) (by kernel_rfl) (by kernel_rfl) (by kernel_rfl) (by kernel_rfl) hbd1.drew ?_
  refine txt_light (.agg #[.slice hra HL hrc, .slice haa AL hac]) rfl rfl ?_ ?_
  · intro w' hS
    have e0 := (hS.cell (p := ⟨T0, 0, none⟩) hTl).trans y0
    have e1 := (hS.cell (p := ⟨T0, 1, none⟩) hTl).trans y1
    clear hS
    go_simp
  try simp only [Act.put, List.getElem_toArray, List.getElem_cons_succ, List.getElem_cons_zero, List.setIfInBounds_toArray, List.set_cons_zero, List.set_cons_succ]
  refine txt_light (.agg #[.int .i64 px, .int .i64 py]) rfl rfl ?_ ?_
  · intro w' hS
    have e0 := (hS.cell (p := ⟨B + 1, 0, none⟩) hBl).trans z0
    have e1 := (hS.cell (p := ⟨B + 1, 1, none⟩) hBl).trans z1
    clear hS
    go_simp
  try simp only [Act.put, List.getElem_toArray, List.getElem_cons_succ, List.getElem_cons_zero, List.setIfInBounds_toArray, List.set_cons_zero, List.set_cons_succ]
  have hbd : Below w4.heap.size w4 W1.drew := hbd1.drew
  generalize W1.drew = W2 at *
  refine txt_heavy rfl rfl (fun K hK => ?_)
  go_step
  refine (HLP.out W2).mono ?_
  rintro e W3 ⟨rfl, hbx⟩
  have hbd3 := hbd.trans (hbx.mono hbd.size)
  dsimp only
  refine hK.out _ _ hbd3 ?_
  clear hK K hbx hbd hbd1
  try simp only [Act.put, List.getElem_toArray, List.getElem_cons_succ, List.getElem_cons_zero, List.setIfInBounds_toArray, List.set_cons_zero, List.set_cons_succ]
  refine txt_heavy rfl rfl (fun K hK => ?_)
  go_step
  refine (HW2'.out W3 (HH4.out.keep hbd3)).mono ?_
  rintro e W4 ⟨rfl, hbx⟩
  have hbd4 := hbd3.trans (hbx.mono hbd3.size)
  dsimp only
  refine hK.out _ _ hbd4 ?_
  clear hK K hbx hbd3
  try simp only [Act.put, List.getElem_toArray, List.getElem_cons_succ, List.getElem_cons_zero, List.setIfInBounds_toArray, List.set_cons_zero, List.set_cons_succ]
  (refine txt_light ?_ rfl rfl ?_ ?_; rotate_left; · (intro w' hS; (try dsimp only at hS); go_simp; with_reducible rfl)); try simp only [Act.put, List.getElem_toArray, List.getElem_cons_succ, List.getElem_cons_zero, List.setIfInBounds_toArray, List.set_cons_zero, List.set_cons_succ]
  (refine txt_light ?_ rfl rfl ?_ ?_; rotate_left; · (intro w' hS; (try dsimp only at hS); go_simp; with_reducible rfl)); try simp only [Act.put, List.getElem_toArray, List.getElem_cons_succ, List.getElem_cons_zero, List.setIfInBounds_toArray, List.set_cons_zero, List.set_cons_succ]
  (refine txt_light ?_ rfl rfl ?_ ?_; rotate_left; · (intro w' hS; (try dsimp only at hS); go_simp; with_reducible rfl)); try simp only [Act.put, List.getElem_toArray, List.getElem_cons_succ, List.getElem_cons_zero, List.setIfInBounds_toArray, List.set_cons_zero, List.set_cons_succ]
  (refine txt_light ?_ rfl rfl ?_ ?_; rotate_left; · (intro w' hS; (try dsimp only at hS); go_simp; with_reducible rfl)); try simp only [Act.put, List.getElem_toArray, List.getElem_cons_succ, List.getElem_cons_zero, List.setIfInBounds_toArray, List.set_cons_zero, List.set_cons_succ]
  (refine txt_light ?_ rfl rfl ?_ ?_; rotate_left; · (intro w' hS; (try dsimp only at hS); go_simp; with_reducible rfl)); try simp only [Act.put, List.getElem_toArray, List.getElem_cons_succ, List.getElem_cons_zero, List.setIfInBounds_toArray, List.set_cons_zero, List.set_cons_succ]
  refine txt_nil ?_
  have hbx5 := hbx4.trans (hbd4.mono hbx4.size)
  have hr3 := hr3.keep hbd4
  have hr4 := hr4.keep hbd4
  clear y0 y1 z0 z1 c2 c3 kT k5 hbd4 HG4 HH4 HLP HWI HW2'
  go_wp2_with fail
  refine (known12 _).mono ?_
  rintro e W5 ⟨rfl, hx5⟩
  have hr3 := hr3.keep hx5
  have hr4 := hr4.keep hx5
  have hbx6 := hbx5.trans (hx5.mono hbx5.size)
  clear hx5 hbx5
  have HIN := Lib.hid (ints_same a3 a4 c3n c4n NL (by omega) W5 hr3 hr4)
  clear hr3 hr4
  go_wp2_with fail
  refine HIN.out.mono ?_
  rintro e W6 ⟨rfl, q, rfl⟩
  have hbx7 := below_drewN hbx6 q
  clear HIN
  go_wp2
  go_ret
  exact ⟨ret_bool (by simp), hbx7⟩
theorem fnests_law {w : World} (f : Fc) (hf : FcIn w f) (p : Pt) (hp : PtIn p) :
    Calls Try.prog 4 #[f.val, p.val] w fun e w' => e = .returned (.bool true) ∧ Below w.heap.size w w' :=
  fnests_walk f p w hf.in
end Go.Proofs.Ytdginfjlelpkmaa
