/-
  graticuleref03.Same, graticulelaw11.Same, of the same things. graticulelaw01.Of. graticulelaw01.Ofs. graticulelaw12.Same, of faces of which the same is told. graticulelaw30.same, of the same input. ScriptFolds: how great what items fold to is. Opening a law's arguments: items of a script.
-/
import Derived.Test.YtkfgbjjelcigcaaGreatDoorPk12
import Derived.Test.YtkfgbjjelcigcaaGreatDoorPk2
import Derived.Test.YtkfgbjjelcigcaaGreatDoorProg
import Derived.BigRegion
import Derived.RegionTactic
import Derived.Maps.AppendAt
import Derived.Test.YtkfgbjjelcigcaaGreatDoorPk8
import Derived.Test.YtkfgbjjelcigcaaGreatDoorPk20
import Derived.Test.YtkfgbjjelcigcaaGreatDoorPk3
/- graticuleref03.Same, graticulelaw11.Same, of the same things. -/
set_option linter.unusedVariables false
set_option linter.unusedSimpArgs false
set_option maxRecDepth 100000
namespace Go.Proofs.YtkfgbjjelcigcaaGreatDoor
open Go.RowKit
set_option maxHeartbeats 1600000 in
theorem rsame_same (a b : Option Addr) (ca cb : Nat) (l : List Pt) (hl : l.length ≤ 1000000) (w : World) (hr : Rd w a (pts l)) (hs : Rd w b (pts l)) :
    Calls Tryz.prog 47 #[.slice a l.length ca, .slice b l.length cb] w fun e w' => e = .returned (.bool true) ∧ Below w.heap.size w w' := by
  have HR := Lib.hid hr; have HS := Lib.hid hs; obtain ⟨N, hN⟩ : ∃ N, l.length = N := ⟨_, rfl⟩; have HN := Lib.hid hN; rw [hN] at hl ⊢; clear hr hs hN
  go_enter Tryz.func47, Tryz.ntmps47
  go_wp2
  go_loopw [5] (fun i wr => ∃ k : Nat, k ≤ N ∧ i = .int .i64 k ∧ Below w.heap.size w wr) (fun i _ => N - (intOf i).toNat)
  case atStart => exact ⟨0, by omega, rfl, Below.refl _ _⟩
  case round =>
    obtain ⟨k, hk, rfl, hbl⟩ := hrel
    by_cases h1 : k < N
    · have h1' : (k : Int) < (N : Int) := by omega
      have hkl : k < l.length := by rw [HN.out]; exact h1
      obtain ⟨b1, o1, rfl, hbb, c0, c1⟩ := (HR.out.keep hbl).pt k hkl; obtain ⟨b2, o2, rfl, hbb2, d0, d1⟩ := (HS.out.keep hbl).pt k hkl; generalize l[k] = p at *; obtain ⟨x, y⟩ := p; dsimp only at c0 c1 d0 d1; go_wp2
      go_quiet (fail)
      go_wp2; exact ⟨⟨k + 1, by omega, by go_num, below_drewN hbl _⟩, by simp [intOf]; omega⟩
    · have h1' : ¬ (k : Int) < (N : Int) := by omega
      go_wp2; go_ret; exact ⟨rfl, hbl⟩
set_option maxHeartbeats 1600000 in
theorem asame_same (a b : Option Addr) (ca cb : Nat) (l : List At) (hl : l.length ≤ 1000000) (w : World) (hr : Rd w a (ats l)) (hs : Rd w b (ats l)) :
    Calls Tryz.prog 46 #[.slice a l.length ca, .slice b l.length cb] w fun e w' => e = .returned (.bool true) ∧ Below w.heap.size w w' := by
  have HR := Lib.hid hr; have HS := Lib.hid hs; obtain ⟨N, hN⟩ : ∃ N, l.length = N := ⟨_, rfl⟩; have HN := Lib.hid hN; rw [hN] at hl ⊢; clear hr hs hN
  go_enter Tryz.func46, Tryz.ntmps46
  go_wp2
  go_loopw [5] (fun i wr => ∃ k : Nat, k ≤ N ∧ i = .int .i64 k ∧ Below w.heap.size w wr) (fun i _ => N - (intOf i).toNat)
  case atStart => exact ⟨0, by omega, rfl, Below.refl _ _⟩
  case round =>
    obtain ⟨k, hk, rfl, hbl⟩ := hrel
    by_cases h1 : k < N
    · have h1' : (k : Int) < (N : Int) := by omega
      have hkl : k < l.length := by rw [HN.out]; exact h1
      obtain ⟨b1, o1, rfl, hbb, c0, c1, c2, c3⟩ := (HR.out.keep hbl).atr k hkl; obtain ⟨b2, o2, rfl, hbb2, d0, d1, d2, d3⟩ := (HS.out.keep hbl).atr k hkl; generalize l[k] = p at *; obtain ⟨x, y, z, u⟩ := p; dsimp only at c0 c1 c2 c3 d0 d1 d2 d3; go_wp2
      go_quiet (fail)
      go_wp2; exact ⟨⟨k + 1, by omega, by go_num, below_drewN hbl _⟩, by simp [intOf]; omega⟩
    · have h1' : ¬ (k : Int) < (N : Int) := by omega
      go_wp2; go_ret; exact ⟨rfl, hbl⟩
end Go.Proofs.YtkfgbjjelcigcaaGreatDoor
/- graticulelaw01.Of. -/
set_option linter.unusedVariables false
set_option linter.unusedSimpArgs false
namespace Go.Proofs.YtkfgbjjelcigcaaGreatDoor
open Go.RowKit
theorem Tryz.infoRP : (Tryz.prog.info? 77).map (fun i => (i.zero, i.size, i.bytes)) = some (some (.agg #[.int .i64 0, .int .i64 0]), 2, 16) := by kernel_rfl
theorem lof_any (p : Pt) (w : World) :
    Calls Tryz.prog 63 #[p.val] w fun e w' => e = .returned p.val ∧ Below w.heap.size w w' := by
  obtain ⟨x, y⟩ := p; dsimp only [Pt.val]
  go_enter Tryz.func63, Tryz.ntmps63
  go_wp2; refine bodyPost_ret (v := .agg #[.int .i64 x, .int .i64 y]) (by simp [results, Tryz.results63, go_sem]) rfl ⟨rfl, ((Below.new _ _).alloc (by simp) _)⟩
end Go.Proofs.YtkfgbjjelcigcaaGreatDoor
/- graticulelaw01.Ofs. -/
set_option linter.unusedVariables false
set_option linter.unusedSimpArgs false
namespace Go.Proofs.YtkfgbjjelcigcaaGreatDoor
open Go.RowKit
set_option maxHeartbeats 800000 in
theorem lofs_any (a : Option Addr) (c : Nat) (l : List Pt) (hl : l.length ≤ 1000000) (w : World) (hr : Rd w a (pts l)) :
    Calls Tryz.prog 48 #[.slice a l.length c] w fun e w' => ∃ v, e = .returned v ∧
      w'.ownsRow w.heap.size 77 2 v l.length (pts l) ∧ Below w.heap.size w w' := by
  go_enter Tryz.func48, Tryz.ntmps48
  go_wp2
  go_loopw [3, 4] (fun o i wr => ∃ k : Nat, k ≤ l.length ∧ i = .int .i64 k ∧ wr.ownsRow w.heap.size 77 2 o k (pts (l.take k)) ∧ Below w.heap.size w wr) (fun _ i _ => l.length - (intOf i).toNat)
  case atStart => exact ⟨0, Nat.zero_le _, rfl, World.ownsRow_nil _ _ _ _, Below.refl _ _⟩
  case round =>
    obtain ⟨k, hk, rfl, hown, hbl⟩ := hrel
    by_cases hlt : k < l.length
    · obtain ⟨b, off, rfl, hb, c0, c1⟩ := (hr.keep hbl).pt k hlt; have hst : Hid (pts (l.take (k + 1)) = pts (l.take k) ++ (l[k]).cells) := by
        refine Lib.hid ?_; rw [List.take_succ_eq_append_getElem hlt, pts_snoc]
      generalize l[k] = p at *; have hm := lof_any p wr; have HM := Lib.hid hm; obtain ⟨x, y⟩ := p; dsimp only [Pt.val] at c0 c1; clear hm
      go_wp2_with fail
      refine HM.out.mono ?_; rintro e w1 ⟨rfl, hb1⟩; have hbl1 := hbl.trans (hb1.mono hbl.size); have hown1 := hown.below hb1; dsimp only [Pt.val]; clear hown HM hb1 hbl c0 c1; obtain ⟨i0, hi, hz0, hz1, hz2⟩ := info_parts Tryz.infoRP
      go_wp2_with (at_builtin; go_must (refine wpList_append_own_at (w1.alloc (.cells #[.int .i64 x, .int .i64 y] 77)) rfl (.tmp 11) (.tmp 17) 76 rfl w.heap.size 77 i0 (.agg #[.int .i64 0, .int .i64 0]) 2 16 Tryz.underlying76 hi hz0 hz1 hz2 rfl (by decide) u3 k (pts (l.take k)) rfl (hown1.below (Below.new _ _)) ⟨w1.heap.size, 0, none⟩ 1 1 [.int .i64 x, .int .i64 y] rfl rfl (Rd.new w1 [.int .i64 x, .int .i64 y] 77).add (by simp [Value.oneCell']) (by unfold maxLen; omega) (by omega) (by have := hbl1.size; simp; omega) ?_); intro v2 w2 hown2 hg2 _ _; have hbl2 := (hbl1.alloc hbl1.size (.cells #[.int .i64 x, .int .i64 y] 77)).grown hg2 (by have := hbl1.size; simp; omega) (fun j hj => ((hown1.below (Below.new _ (.cells #[.int .i64 x, .int .i64 y] 77))).lt j hj).1); clear hown1 hbl1 hg2)
      go_roundw
      case rel =>
        refine ⟨k + 1, by omega, by go_num, ?_, hbl2⟩; rw [hst.out]; exact hown2
      case measure => simp [intOf]; omega
    · obtain rfl : k = l.length := by omega
      rw [List.take_length] at hown; go_wp2; go_ret; exact ⟨_, rfl, hown, hbl⟩

end Go.Proofs.YtkfgbjjelcigcaaGreatDoor
/- graticulelaw12.Same, of faces of which the same is told. -/
set_option linter.unusedVariables false
set_option linter.unusedSimpArgs false
set_option maxRecDepth 100000
namespace Go.Proofs.YtkfgbjjelcigcaaGreatDoor
open Go.RowKit
set_option maxHeartbeats 6400000 in
theorem fsm_any (a b : Option Addr) (ca cb : Nat) (L M : List Fc) (he : L.map Fc.tell = M.map Fc.tell) (hl : L.length ≤ 100000) (h1 : ∀ f ∈ L, f.rs.length ≤ 1000000 ∧ (∀ r ∈ f.rs, r.l.length ≤ 1000000) ∧ f.ls.length ≤ 1000000) (w : World) (hr : Rd w a (fcs L)) (hs : Rd w b (fcs M)) (hL : ∀ f ∈ L, f.Ok w) (hM : ∀ f ∈ M, f.Ok w) :
    Calls Tryz.prog 24 #[.slice a L.length ca, .slice b M.length cb] w fun e w' => e = .returned (.bool true) ∧ Below w.heap.size w w' := by
  have HR := Lib.hid hr; have HS := Lib.hid hs; have HX := Lib.hid hL; have HY := Lib.hid hM; have HN0 := Lib.hid h1; have hlen : M.length = L.length := by have := congrArg List.length he; simpa using this.symm
  have HC : Hid (∀ (i : Nat) (h1 : i < L.length) (h2 : i < M.length), L[i].tell = M[i].tell) := Lib.hid (fun i h1 h2 => by
    have h3 : (L.map Fc.tell)[i]? = (M.map Fc.tell)[i]? := by rw [he]
    simpa [h1, h2] using h3)
  have HRS := Lib.hid (fun a b ca cb l h W p q => rsame_same a b ca cb l h W p q); have HOF := Lib.hid (fun a c l h W p => lofs_any a c l h W p); obtain ⟨N, hN⟩ : ∃ N, L.length = N := ⟨_, rfl⟩; have HN := Lib.hid hN; have HM : Hid (M.length = N) := Lib.hid (hlen.trans hN); rw [hlen, hN]; rw [hN] at hl; clear hr hs hN hL hM h1 hlen he
  go_enter Tryz.func24, Tryz.ntmps24
  go_wp2
  go_loopw [5, 6] (fun i _ wr => ∃ k : Nat, k ≤ N ∧ i = .int .i64 k ∧ Below w.heap.size w wr) (fun i _ _ => N - (intOf i).toNat)
  case atStart => exact ⟨0, by omega, rfl, Below.refl _ _⟩
  case round =>
    obtain ⟨i, hi, rfl, hbl⟩ := hrel
    by_cases h1 : i < N
    · have h1' : (i : Int) < (N : Int) := by omega
      have hil : i < L.length := by rw [HN.out]; exact h1
      have hil2 : i < M.length := by rw [HM.out]; exact h1
      obtain ⟨b1, o1, rfl, hbb, c0, c1⟩ := HR.out.fc i hil; obtain ⟨b2, o2, rfl, hbb2, d0, d1⟩ := HS.out.fc i hil2; have hc := HC.out i hil hil2; have hxo := HX.out L[i] (List.getElem_mem hil); have hyo := HY.out M[i] (List.getElem_mem hil2); have hnl := HN0.out L[i] (List.getElem_mem hil); generalize L[i] = x at *; generalize M[i] = y at *; obtain ⟨rs, ra, rc, ls, aa, ac⟩ := x; obtain ⟨qs, ra', rc', ls', aa', ac'⟩ := y; simp only [Fc.tell, Fc.rings, Prod.mk.injEq] at hc; obtain ⟨hrq, rfl⟩ := hc; have hql : qs.length = rs.length := by have := congrArg List.length hrq; simpa using this.symm
      have HQ : Hid (∀ (k : Nat) (h1 : k < rs.length) (h2 : k < qs.length), rs[k].l = qs[k].l) := Lib.hid (fun k h1 h2 => by
        have h3 : (rs.map PC.l)[k]? = (qs.map PC.l)[k]? := by rw [hrq]
        simpa [h1, h2] using h3)
      have HI := Lib.hid (fun (W : World) (hW : Below w.heap.size w W) => asame_same aa aa' ac ac' ls hnl.2.2 W (hxo.2.2.1.keep hW) (hyo.2.2.1.keep hW)); have HXR := Lib.hid hxo.1.1; have HYR := Lib.hid hyo.1.1; have HXO := Lib.hid hxo.2.1; have HYO := Lib.hid hyo.2.1; have HNL := Lib.hid hnl; dsimp only [Fc.rval, Fc.aval] at c0 c1 d0 d1 HI HXR HYR HXO HYO HNL; rw [hql] at d0; obtain ⟨RN, hRN⟩ : ∃ RN, rs.length = RN := ⟨_, rfl⟩; have HRN := Lib.hid hRN; have HQN : Hid (qs.length = RN) := Lib.hid (hql.trans hRN); rw [hRN] at c0 d0; have hR6 : RN ≤ 1000000 := by rw [← hRN]; exact HNL.out.1
      clear hxo hyo hnl hql hRN hrq; generalize ls.length = NL at *; go_wp2; refine wp_region_lit_txt [0, 1, 2, 3, 4, 5, 6, 7, 8, 9, 11, 12, 13, 14, 15, 16, 17, 18, 19, 20, 21, 22, 23, 24, 25, 26] (fun W => Below w.heap.size w W) (by kernel_rfl) (by kernel_rfl) (by kernel_rfl) (hbl.drew) ?_
      iterate 4 ((refine txt_light ?_ rfl rfl ?_ ?_; rotate_left; · (intro w' hS; (try dsimp only at hS); go_simp; with_reducible rfl)); try simp only [Act.put, List.getElem_toArray, List.getElem_cons_succ, List.getElem_cons_zero, List.setIfInBounds_toArray, List.set_cons_zero, List.set_cons_succ])
      refine txt_light (.slice aa NL ac) rfl rfl ?_ ?_
      · intro w' hS; have e0 := (hS.cell (p := ⟨b1, o1 + i * 2 + 1, none⟩) hbb).trans c1; clear hS; go_simp
      try simp only [Act.put, List.getElem_toArray, List.getElem_cons_succ, List.getElem_cons_zero, List.setIfInBounds_toArray, List.set_cons_zero, List.set_cons_succ]
      iterate 4 ((refine txt_light ?_ rfl rfl ?_ ?_; rotate_left; · (intro w' hS; (try dsimp only at hS); go_simp; with_reducible rfl)); try simp only [Act.put, List.getElem_toArray, List.getElem_cons_succ, List.getElem_cons_zero, List.setIfInBounds_toArray, List.set_cons_zero, List.set_cons_succ])
      refine txt_light ((.slice aa' NL ac')) rfl rfl ?_ ?_
      · intro w' hS; have e0 := (hS.cell (p := ⟨b2, o2 + i * 2 + 1, none⟩) hbb2).trans d1; clear hS; go_simp
      try simp only [Act.put, List.getElem_toArray, List.getElem_cons_succ, List.getElem_cons_zero, List.setIfInBounds_toArray, List.set_cons_zero, List.set_cons_succ]
      have hb1 := hbl.drew; generalize wr.drew = W1 at *; refine txt_call [.slice aa NL ac, .slice aa' NL ac'] Tryz.f46 rfl rfl Tryz.func46 (by kernel_rfl) (by kernel_rfl) rfl ((HI.out W1 hb1).mono ?_); rintro e W2 ⟨rfl, hx1⟩; have hb2 := hb1.trans (hx1.mono hb1.size); refine ⟨_, rfl, hb2, ?_⟩; clear hx1 hb1
      try simp only [Act.put, List.getElem_toArray, List.getElem_cons_succ, List.getElem_cons_zero, List.setIfInBounds_toArray, List.set_cons_zero, List.set_cons_succ]
      iterate 6 ((refine txt_light ?_ rfl rfl ?_ ?_; rotate_left; · (intro w' hS; (try dsimp only at hS); go_simp; with_reducible rfl)); try simp only [Act.put, List.getElem_toArray, List.getElem_cons_succ, List.getElem_cons_zero, List.setIfInBounds_toArray, List.set_cons_zero, List.set_cons_succ])
      refine txt_light (.slice ra RN rc) rfl rfl ?_ ?_
      · intro w' hS; have e0 := (hS.cell (p := ⟨b1, o1 + i * 2, none⟩) hbb).trans c0; clear hS; go_simp
      try simp only [Act.put, List.getElem_toArray, List.getElem_cons_succ, List.getElem_cons_zero, List.setIfInBounds_toArray, List.set_cons_zero, List.set_cons_succ]
      iterate 5 ((refine txt_light ?_ rfl rfl ?_ ?_; rotate_left; · (intro w' hS; (try dsimp only at hS); go_simp; with_reducible rfl)); try simp only [Act.put, List.getElem_toArray, List.getElem_cons_succ, List.getElem_cons_zero, List.setIfInBounds_toArray, List.set_cons_zero, List.set_cons_succ])
      refine txt_light ((.slice ra' RN rc')) rfl rfl ?_ ?_
      · intro w' hS; have e0 := (hS.cell (p := ⟨b2, o2 + i * 2, none⟩) hbb2).trans d0; clear hS; go_simp
      try simp only [Act.put, List.getElem_toArray, List.getElem_cons_succ, List.getElem_cons_zero, List.setIfInBounds_toArray, List.set_cons_zero, List.set_cons_succ]
      iterate 3 ((refine txt_light ?_ rfl rfl ?_ ?_; rotate_left; · (intro w' hS; (try dsimp only at hS); go_simp; with_reducible rfl)); try simp only [Act.put, List.getElem_toArray, List.getElem_cons_succ, List.getElem_cons_zero, List.setIfInBounds_toArray, List.set_cons_zero, List.set_cons_succ])
      refine txt_nil ?_; clear HI c1 d1; go_wp2
      go_loopw [6] (fun kk wr => ∃ k : Nat, k ≤ RN ∧ kk = .int .i64 k ∧ Below w.heap.size w wr) (fun kk _ => RN - (intOf kk).toNat)
      case atStart => exact ⟨0, by omega, rfl, hb2⟩
      case round =>
        obtain ⟨k, hk, rfl, hbk⟩ := hrel; have e0 := (hbk.cell (p := ⟨b1, o1 + i * 2, none⟩) hbb).trans c0
        by_cases h2 : k < RN
        · have h2' : (k : Int) < (RN : Int) := by omega
          have hkl : k < rs.length := by rw [HRN.out]; exact h2
          have hkl2 : k < qs.length := by rw [HQN.out]; exact h2
          obtain ⟨b3, o3, rfl, hbb3, c2⟩ := HXR.out.rc k hkl; obtain ⟨b4, o4, rfl, hbb4, d2⟩ := HYR.out.rc k hkl2; have hq := HQ.out k hkl hkl2; have hpx := HXO.out rs[k] (List.getElem_mem hkl); have hpy := HYO.out qs[k] (List.getElem_mem hkl2); have hpl := HNL.out.2.1 rs[k] (List.getElem_mem hkl); generalize rs[k] = p at *; generalize qs[k] = q at *; obtain ⟨xl, xp, xc⟩ := p; obtain ⟨yl, yp, yc⟩ := q; dsimp only at hq hpl; subst hq; dsimp only [PC.val] at c2 d2; have HO1 := Lib.hid (fun (W : World) (hW : Below w.heap.size w W) => HOF.out xp xc xl hpl W (hpx.1.keep hW)); have HS1 := Lib.hid (fun (W : World) (hW : Below w.heap.size w W) (p : Option Addr) (c : Nat) (h : Rd W p (pts xl)) => HRS.out p yp c yc xl hpl W h (hpy.1.keep hW)); clear hpx hpy hpl; generalize xl.length = PL at *; go_wp2; refine wp_region_lit_txt [0, 1, 2, 3, 4, 5, 6, 7, 9, 10, 11, 12, 13, 14, 15, 16, 18] (fun W => Below w.heap.size w W) (by kernel_rfl) (by kernel_rfl) (by kernel_rfl) (hbk.drew) ?_; clear e0
          iterate 4 ((refine txt_light ?_ rfl rfl ?_ ?_; rotate_left; · (intro w' hS; (try dsimp only at hS); go_simp; with_reducible rfl)); try simp only [Act.put, List.getElem_toArray, List.getElem_cons_succ, List.getElem_cons_zero, List.setIfInBounds_toArray, List.set_cons_zero, List.set_cons_succ])
          refine txt_light (.slice (some ⟨b3, o3, none⟩) RN rc) rfl rfl ?_ ?_
          · intro w' hS; have e1 := (hS.cell (p := ⟨b1, o1 + i * 2, none⟩) hbb).trans c0; clear hS; go_simp
          try simp only [Act.put, List.getElem_toArray, List.getElem_cons_succ, List.getElem_cons_zero, List.setIfInBounds_toArray, List.set_cons_zero, List.set_cons_succ]
          iterate 2 ((refine txt_light ?_ rfl rfl ?_ ?_; rotate_left; · (intro w' hS; (try dsimp only at hS); go_simp; with_reducible rfl)); try simp only [Act.put, List.getElem_toArray, List.getElem_cons_succ, List.getElem_cons_zero, List.setIfInBounds_toArray, List.set_cons_zero, List.set_cons_succ])
          refine txt_light (.slice xp PL xc) rfl rfl ?_ ?_
          · intro w' hS; have e1 := (hS.cell (p := ⟨b3, o3 + k, none⟩) hbb3).trans c2; clear hS; go_simp
          try simp only [Act.put, List.getElem_toArray, List.getElem_cons_succ, List.getElem_cons_zero, List.setIfInBounds_toArray, List.set_cons_zero, List.set_cons_succ]
          have hb3 := hbk.drew; generalize wr.drew = W3 at *; refine txt_call [.slice xp PL xc] Tryz.f48 rfl rfl Tryz.func48 (by kernel_rfl) (by kernel_rfl) rfl ((HO1.out W3 hb3).mono ?_); rintro e W4 ⟨v4, rfl, ho4, hx4⟩; have hb4 := hb3.trans (hx4.mono hb3.size); refine ⟨_, rfl, hb4, ?_⟩; obtain ⟨p4, q4, rfl, -, -, -, hrd4, -⟩ := ho4.form; clear hx4 hb3 ho4
          try simp only [Act.put, List.getElem_toArray, List.getElem_cons_succ, List.getElem_cons_zero, List.setIfInBounds_toArray, List.set_cons_zero, List.set_cons_succ]
          iterate 4 ((refine txt_light ?_ rfl rfl ?_ ?_; rotate_left; · (intro w' hS; (try dsimp only at hS); go_simp; with_reducible rfl)); try simp only [Act.put, List.getElem_toArray, List.getElem_cons_succ, List.getElem_cons_zero, List.setIfInBounds_toArray, List.set_cons_zero, List.set_cons_succ])
          refine txt_light ((.slice (some ⟨b4, o4, none⟩) RN rc')) rfl rfl ?_ ?_
          · intro w' hS; have e1 := (hS.cell (p := ⟨b2, o2 + i * 2, none⟩) hbb2).trans d0; clear hS; go_simp
          try simp only [Act.put, List.getElem_toArray, List.getElem_cons_succ, List.getElem_cons_zero, List.setIfInBounds_toArray, List.set_cons_zero, List.set_cons_succ]
          iterate 2 ((refine txt_light ?_ rfl rfl ?_ ?_; rotate_left; · (intro w' hS; (try dsimp only at hS); go_simp; with_reducible rfl)); try simp only [Act.put, List.getElem_toArray, List.getElem_cons_succ, List.getElem_cons_zero, List.setIfInBounds_toArray, List.set_cons_zero, List.set_cons_succ])
          refine txt_light (.slice yp PL yc) rfl rfl ?_ ?_
          · intro w' hS; have e1 := (hS.cell (p := ⟨b4, o4 + k, none⟩) hbb4).trans d2; clear hS; go_simp
          try simp only [Act.put, List.getElem_toArray, List.getElem_cons_succ, List.getElem_cons_zero, List.setIfInBounds_toArray, List.set_cons_zero, List.set_cons_succ]
          refine txt_call [.slice p4 PL q4, .slice yp PL yc] Tryz.f47 rfl rfl Tryz.func47 (by kernel_rfl) (by kernel_rfl) rfl ((HS1.out W4 hb4 p4 q4 hrd4).mono ?_); rintro e W5 ⟨rfl, hx5⟩; have hb5 := hb4.trans (hx5.mono hb4.size); refine ⟨_, rfl, hb5, ?_⟩; clear hx5 hb4 hrd4
          try simp only [Act.put, List.getElem_toArray, List.getElem_cons_succ, List.getElem_cons_zero, List.setIfInBounds_toArray, List.set_cons_zero, List.set_cons_succ]
          (refine txt_light ?_ rfl rfl ?_ ?_; rotate_left; · (intro w' hS; (try dsimp only at hS); go_simp; with_reducible rfl)); try simp only [Act.put, List.getElem_toArray, List.getElem_cons_succ, List.getElem_cons_zero, List.setIfInBounds_toArray, List.set_cons_zero, List.set_cons_succ]
          refine txt_nil ?_; go_wp2; exact ⟨⟨k + 1, by omega, by go_num, hb5⟩, by simp [intOf]; omega⟩
        · have h2' : ¬ (k : Int) < (RN : Int) := by omega
          go_wp2; exact ⟨⟨i + 1, by omega, by go_num, hbk⟩, by simp [intOf]; omega⟩
    · have h1' : ¬ (i : Int) < (N : Int) := by omega
      go_wp2; go_ret; exact ⟨rfl, hbl⟩
end Go.Proofs.YtkfgbjjelcigcaaGreatDoor
/- graticulelaw30.same, of the same input. -/
set_option linter.unusedVariables false
set_option linter.unusedSimpArgs false
set_option maxRecDepth 100000
namespace Go.Proofs.YtkfgbjjelcigcaaGreatDoor
open Go.RowKit
set_option maxHeartbeats 3200000 in
theorem insm_any (a b : Option Addr) (ca cb : Nat) (L M : List Fc) (buf tol : Int) (za zb : Option Addr) (zc zd : Nat) (zs : List Int) (he : L.map Fc.tell = M.map Fc.tell) (hl : L.length ≤ 100000) (hz : zs.length ≤ 1000000) (h1 : ∀ f ∈ L, f.rs.length ≤ 1000000 ∧ (∀ r ∈ f.rs, r.l.length ≤ 1000000) ∧ f.ls.length ≤ 1000000) (w : World) (hr : Rd w a (fcs L)) (hs : Rd w b (fcs M)) (hL : ∀ f ∈ L, f.Ok w) (hM : ∀ f ∈ M, f.Ok w) (hza : Rd w za (zs.map (Value.int .i64))) (hzb : Rd w zb (zs.map (Value.int .i64))) :
    Calls Tryz.prog 10 #[.agg #[.slice a L.length ca, .int .i64 buf, .int .i64 tol, .slice za zs.length zc], .agg #[.slice b M.length cb, .int .i64 buf, .int .i64 tol, .slice zb zs.length zd]] w fun e w' => e = .returned (.bool true) ∧ Below w.heap.size w w' := by
  have HF := Lib.hid (fun (W : World) (hW : Below w.heap.size w W) => fsm_any a b ca cb L M he hl h1 W (hr.keep hW) (hs.keep hW) (fun f hf => (hL f hf).keep hW) (fun f hf => (hM f hf).keep hW)); have HI := Lib.hid (fun (W : World) (hW : Below w.heap.size w W) => ints_same za zb zc zd zs hz W (hza.keep hW) (hzb.keep hW)); generalize L.length = LN at *; generalize M.length = MN at *; generalize zs.length = ZN at *; clear hr hs hL hM hza hzb he h1 hl hz; have hb0 := (Below.new w (.cells #[.slice a LN ca, .int .i64 buf, .int .i64 tol, .slice za ZN zc] 27)).alloc (by simp) (.cells #[.slice b MN cb, .int .i64 buf, .int .i64 tol, .slice zb ZN zd] 33); obtain ⟨B, hB⟩ : ∃ B, w.heap.size = B := ⟨_, rfl⟩; have k0 := (BT.lit w B [.slice a LN ca, .int .i64 buf, .int .i64 tol, .slice za ZN zc] 27 hB).alloc (.cells #[.slice b MN cb, .int .i64 buf, .int .i64 tol, .slice zb ZN zd] 33); have k1 := BT.lit (w.alloc (.cells #[.slice a LN ca, .int .i64 buf, .int .i64 tol, .slice za ZN zc] 27)) (B + 1) [.slice b MN cb, .int .i64 buf, .int .i64 tol, .slice zb ZN zd] 33 (by simp [hB]); have x0 := k0.blk.cell 0 rfl; have x1 := k0.blk.cell 1 rfl; have x2 := k0.blk.cell 2 rfl; have x3 := k0.blk.cell 3 rfl; have y0 := k1.blk.cell 0 rfl; have y1 := k1.blk.cell 1 rfl; have y2 := k1.blk.cell 2 rfl; have y3 := k1.blk.cell 3 rfl
  go_enter Tryz.func10, Tryz.ntmps10
  go_wp2_with fail
  generalize (w.alloc (.cells #[.slice a LN ca, .int .i64 buf, .int .i64 tol, .slice za ZN zc] 27)).alloc (.cells #[.slice b MN cb, .int .i64 buf, .int .i64 tol, .slice zb ZN zd] 33) = w1 at *; clear x0 x1 x2 x3 y0 y1 y2 y3; refine (HI.out w1 hb0).mono ?_; rintro e w2 ⟨rfl, hx2⟩; have hb2 := hb0.trans (hx2.mono hb0.size); have x0 := (k0.keep hx2).blk.cell 0 rfl; have y0 := (k1.keep hx2).blk.cell 0 rfl
  go_wp2_with fail
  refine (HF.out w2 hb2).mono ?_; rintro e w3 ⟨rfl, hx3⟩; have hb3 := hb2.trans (hx3.mono hb2.size); go_wp2; go_ret; exact ⟨rfl, hb3⟩
end Go.Proofs.YtkfgbjjelcigcaaGreatDoor
/- ScriptFolds: how great what items fold to is. -/
set_option linter.unusedVariables false
set_option linter.unusedSimpArgs false
set_option maxRecDepth 100000
namespace Go.Proofs.YtkfgbjjelcigcaaGreatDoor
open Go.RowKit
theorem mem_modLast {α : Type} (f : α → α) : ∀ (l : List α) (y : α), y ∈ modLast f l → y ∈ l ∨ ∃ x ∈ l, y = f x
  | [], y, h => by simp [modLast] at h
  | [a], y, h => by
    simp only [modLast, List.mem_singleton] at h; exact .inr ⟨a, by simp, h⟩
  | a :: b :: l, y, h => by
    rw [modLast] at h
    rcases List.mem_cons.1 h with rfl | h
    · exact .inl (by simp)
    · rcases mem_modLast f (b :: l) y h with h | ⟨x, hx, rfl⟩
      · exact .inl (List.mem_cons_of_mem _ h)
      · exact .inr ⟨x, List.mem_cons_of_mem _ hx, rfl⟩
theorem len_modLast {α : Type} (f : α → α) : ∀ (l : List α), (modLast f l).length = l.length
  | [] => rfl
  | [a] => rfl
  | a :: b :: l => by rw [modLast, List.length_cons, len_modLast f (b :: l)]; rfl
theorem pairsF_le : ∀ (l : List Int), (pairsF l).length ≤ l.length
  | [] => by simp [pairsF]
  | [a] => by simp [pairsF]
  | a :: b :: l => by have := pairsF_le l; simp [pairsF]; omega
def FB (k : Nat) (s : FS) : Prop := s.faces.length ≤ k ∧ (∀ f ∈ s.faces, f.1.length ≤ k ∧ f.2.length ≤ k ∧ ∀ r ∈ f.1, r.length ≤ 610) ∧ s.zooms.length ≤ 610 ∧ s.asked.length ≤ k ∧ ∀ x ∈ s.asked, x.2.1.length ≤ 610
theorem FB.zero (k : Nat) : FB k fs0 := ⟨by simp [fs0], by simp [fs0], by simp [fs0], by simp [fs0], by simp [fs0]⟩
theorem FB.step {k : Nat} {s : FS} (h : FB k s) (x : It) (hx : x.n.length ≤ 610) : FB (k + 1) (stepF s x) := by
  obtain ⟨h1, h2, h3, h4, h5⟩ := h; have h2' : ∀ f ∈ s.faces, f.1.length ≤ k + 1 ∧ f.2.length ≤ k + 1 ∧ ∀ r ∈ f.1, r.length ≤ 610 := fun f hf => ⟨by have := (h2 f hf).1; omega, by have := (h2 f hf).2.1; omega, (h2 f hf).2.2⟩; unfold stepF
  split
  · refine ⟨by simp only [len_modLast]; omega, fun f hf => ?_, h3, by simp only; omega, h5⟩
    rcases mem_modLast _ _ _ hf with hf | ⟨g, hg, rfl⟩
    · exact h2' f hf
    · obtain ⟨g1, g2, g3⟩ := h2 g hg; refine ⟨by simp; omega, by simp only; omega, fun r hr => ?_⟩
      rcases List.mem_append.1 hr with hr | hr
      · exact g3 r hr
      · rw [List.mem_singleton.1 hr]; exact Nat.le_trans (pairsF_le _) hx
  split
  · refine ⟨by simp only [len_modLast]; omega, fun f hf => ?_, h3, by simp only; omega, h5⟩
    rcases mem_modLast _ _ _ hf with hf | ⟨g, hg, rfl⟩
    · exact h2' f hf
    · obtain ⟨g1, g2, g3⟩ := h2 g hg; exact ⟨by simp only; omega, by simp; omega, g3⟩
  split
  · refine ⟨by simp; omega, fun f hf => ?_, h3, by simp only; omega, h5⟩
    rcases List.mem_append.1 hf with hf | hf
    · exact h2' f hf
    · rw [List.mem_singleton.1 hf]; exact ⟨by simp, by simp, by simp⟩
  split
  · exact ⟨by simp only; omega, h2', h3, by simp only; omega, h5⟩
  split
  · exact ⟨by simp only; omega, h2', h3, by simp only; omega, h5⟩
  split
  · exact ⟨by simp only; omega, h2', hx, by simp only; omega, h5⟩
  · refine ⟨by simp only; omega, h2', h3, by simp; omega, fun y hy => ?_⟩
    rcases List.mem_append.1 hy with hy | hy
    · exact h5 y hy
    · rw [List.mem_singleton.1 hy]; exact hx
theorem foldG_bd : ∀ (X : List It) (s : FS) (i k : Nat), FB k s → (∀ x ∈ X, x.n.length ≤ 610) → FB (k + X.length) (foldG s i X).1
  | [], s, i, k, h, _ => by rw [foldG]; exact h
  | x :: X, s, i, k, h, hx => by
    rw [foldG]
    split
    · exact FB.zero _
    split
    · exact FB.zero _
    · have := foldG_bd X (stepF s x) (i + 1) (k + 1) (h.step x (hx x (by simp))) (fun y hy => hx y (List.mem_cons_of_mem _ hy)); rw [List.length_cons, show k + (X.length + 1) = k + 1 + X.length by omega]; exact this
end Go.Proofs.YtkfgbjjelcigcaaGreatDoor
/- Opening a law's arguments: items of a script. -/
set_option linter.unusedVariables false
set_option linter.unusedSimpArgs false
set_option maxRecDepth 100000
namespace Go
open Go.RowKit
def ItIn (W : World) (x : It) : Prop := x.Ok W ∧ x.Sz
end Go
namespace Go.Proofs.YtkfgbjjelcigcaaGreatDoor
open Go.RowKit Go.ChangeShapes Go.WideShapes Go.ChangeAt
theorem one_sliceI {cs : List Value} {H : Type} {enc : TypeId × Value → H} {W : World} {base : Nat} {spare : Nat → Bool} {held : Bool} {n : Nat} {v : Value} {z : DataW H × List MemPlace} {t e : TypeId} (ht : Tryz.prog.underlying t = some (.slice e))
    (h : DataW.trod enc Tryz.prog W base spare held n t [v] = some z) : ∃ a l c, v = .slice a l c := by
  rcases DataW.trod_slice ht h with ⟨hc, _⟩ | ⟨a, l, c, _, _, _, _, hc, _⟩
  · simp at hc; exact ⟨_, _, _, hc⟩
  · simp at hc; exact ⟨_, _, _, hc⟩
theorem one_item {H : Type} {enc : TypeId × Value → H} {W : World} {base : Nat} {spare : Nat → Bool} {held : Bool} (hsp : ∀ b, spare b = true) (n : Nat) (cs : List Value) (z : DataW H × List MemPlace) (hcl : cs.length = 6)
    (ht : DataW.trod enc Tryz.prog W base spare held n 46 cs = some z) : ∃ y : It, cs = y.cells ∧ ItIn W y := by
  have c3 : Tryz.prog.cellsOf 3 = 1 := by kernel_rfl
  have c1 : Tryz.prog.cellsOf 9 = 1 := by kernel_rfl
  have cv : Tryz.prog.cellsOf 44 = 3 := by kernel_rfl
  have cs1 : Tryz.prog.cellsOf 25 = 1 := by kernel_rfl
  obtain ⟨ys, k, hk, hxy, _, hxl, hf⟩ := DataW.trod_struct Tryz.underlying46 ht
  match ys, hxl, cs, hcl with
  | [y0, y1, y2, y3], _, [v0, v1, v2, v3, v4, v5], _ =>
    have g0 := hf 0 _ rfl; have g1 := hf 1 _ rfl; have g2 := hf 2 _ rfl; have g3 := hf 3 _ rfl; simp [c1, c3, cv, cs1] at g0 g1 g2 g3; obtain ⟨n0, e0, -, w0⟩ := DataW.trod_int Tryz.underlying3 g0; obtain ⟨b, m, e, rfl⟩ := one_sliceI (cs := []) Tryz.underlying25 g1; obtain ⟨s2, e2, -, w2⟩ := DataW.trod_string Tryz.underlying9 g2; simp at e0 e2; subst e0 e2; obtain ⟨ns, rfl, k1, k2, k3, k4, k5⟩ : ∃ L : List Int, m = L.length ∧ m ≤ e ∧ e ≤ maxLen ∧ (b = none → e = 0) ∧ Rd W b (L.map (Value.int .i64)) ∧ ∀ n ∈ L, (Lit.int .i64 n).wf = true :=
      open_rowRd Tryz.underlying25 Tryz.underlying3 (by kernel_rfl) hsp g1
    obtain ⟨zs, k2', hk2, hxy2, _, hzl, hf2⟩ := DataW.trod_struct Tryz.underlying44 g3
    match zs, hzl with
    | [u0, u1, u2], _ =>
      have g4 := hf2 0 _ rfl; have g5 := hf2 1 _ rfl; have g6 := hf2 2 _ rfl; simp [c1, c3] at g4 g5 g6; obtain ⟨n1, e1, -, w1⟩ := DataW.trod_int Tryz.underlying3 g4; obtain ⟨s3, e3, -, w3⟩ := DataW.trod_string Tryz.underlying9 g5; obtain ⟨n4, e4, -, w4⟩ := DataW.trod_int Tryz.underlying3 g6; simp at e1 e3 e4; subst e1 e3 e4; exact ⟨⟨n0, ns, s2, (n1, s3, n4), b, e⟩, rfl, ⟨k4, k1, k2, k3⟩, w2, w3⟩
theorem open_items {H : Type} {enc : TypeId × Value → H} {W : World} {base : Nat} {spare : Nat → Bool} {fuel : Nat} {a : Option Addr} {len cap : Nat} {x : DataW H × List MemPlace} {held : Bool} (hsp : ∀ b, spare b = true)
    (h : DataW.trod enc Tryz.prog W base spare held fuel 22 [.slice a len cap] = some x) :
    ∃ xs : List It, len = xs.length ∧ len ≤ cap ∧ cap ≤ maxLen ∧ (a = none → cap = 0) ∧ Rd W a (its xs) ∧ ∀ y ∈ xs, ItIn W y :=
  open_flat 6 (by decide) It.cells (ItIn W) (fun _ => rfl) Tryz.underlying22 (by kernel_rfl) (fun n cs' z hl hz => one_item hsp n cs' z hl hz) h
end Go.Proofs.YtkfgbjjelcigcaaGreatDoor
