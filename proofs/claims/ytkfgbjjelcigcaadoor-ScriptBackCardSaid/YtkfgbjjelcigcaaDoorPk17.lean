/-
  graticulelaw12.Cut. Plain: an input's items fold to it. face.Same, of faces of which the same is told.
-/
import Derived.Test.YtkfgbjjelcigcaaDoorPk16
import Derived.Test.YtkfgbjjelcigcaaDoorPk13
import Derived.Test.YtkfgbjjelcigcaaDoorPk12
/- graticulelaw12.Cut. -/
set_option linter.unusedVariables false
set_option linter.unusedSimpArgs false
set_option maxRecDepth 100000
namespace Go
open Go.RowKit
def CutOk (fs : List Fc) : Prop := fs.length ≤ 40 ∧ cntR (fs.map Fc.rings) ≤ 70 ∧ cntP (fs.map Fc.rings) ≤ 600 ∧ ∀ f ∈ fs, AtsOk f.ls
end Go
namespace Go.Proofs.YtkfgbjjelcigcaaDoor
open Go.RowKit

set_option maxHeartbeats 12800000 in
theorem cut12_any (a : Option Addr) (c : Nat) (l : List Fc) (hlc : l.length ≤ c) (hcm : c ≤ maxLen) (w : World) (hr : Rd w a (fcs l)) (hok : ∀ f ∈ l, f.In w) :
    Calls Tryd.prog 5 #[.slice a l.length c] w fun e w' => ∃ (fs : List Fc) (v : Value), e = .returned v ∧ w'.ownsRow w.heap.size 51 2 v fs.length (fcs fs) ∧ (∀ f ∈ fs, FcT w' f) ∧ CutOk fs ∧ Below w.heap.size w w' := by
  have HCUT := Lib.hid (fun (f : Fc) (hf : f ∈ l) (W : World) (h : Rd W f.aa (ats f.ls)) => cut11_any f.aa f.ac f.ls (hok f hf).1.2.2.2.1 (hok f hf).1.2.2.2.2.1 (hok f hf).2 W h); have HOK := Lib.hid hok; have HR := Lib.hid hr; unfold maxLen at hcm; obtain ⟨N, hN⟩ : ∃ N, l.length = N := ⟨_, rfl⟩; have HN := Lib.hid hN; rw [hN] at hlc ⊢; clear hr hN hok
  go_enter Tryd.func5, Tryd.ntmps5
  go_wp2
  go_loopw [3, 4, 5, 6] (fun o ri p i wr => ∃ (k : Nat) (fs : List Fc) (rn pn : Nat), k ≤ N ∧ k ≤ 40 ∧ i = .int .i64 k ∧ ri = .int .i64 rn ∧ p = .int .i64 pn ∧ fs.length = k ∧ Hid ((cntR (fs.map Fc.rings) = rn ∧ cntP (fs.map Fc.rings) = pn) ∧ ∀ f ∈ fs, AtsOk f.ls) ∧ rn ≤ 70 ∧ pn ≤ 600 ∧ wr.ownsRow w.heap.size 51 2 o k (fcs fs) ∧ Hid (∀ f ∈ fs, FcT wr f) ∧ Below w.heap.size w wr) (fun _ _ _ i _ => 40 - (intOf i).toNat)
  case atStart => exact ⟨0, [], 0, 0, by omega, by omega, rfl, rfl, rfl, rfl, Lib.hid ⟨⟨rfl, rfl⟩, by simp⟩, by omega, by omega, World.ownsRow_nil _ _ _ _, Lib.hid (by simp), Below.refl _ _⟩
  case round =>
    obtain ⟨i, fs, rn, pn, hi, hi10, rfl, rfl, rfl, hfl, HST, hrm, hpm, ho, HFT, hbl⟩ := hrel
    by_cases hlt : i < N ∧ i < 40
    · obtain ⟨h1, h2⟩ := hlt; have h1' : (i : Int) < (N : Int) := by omega
      have h2' : (i : Int) < 40 := by omega
      have hil : i < l.length := by rw [HN.out]; exact h1
      obtain ⟨b1, o1, rfl, hbb, c0, c1⟩ := (HR.out.keep hbl).fc i hil; have HIN := Lib.hid (HOK.out l[i] (List.getElem_mem hil)); have HCT := Lib.hid (fun (W : World) (h : Rd W (l[i]'hil).aa (ats (l[i]'hil).ls)) => HCUT.out (l[i]'hil) (List.getElem_mem hil) W h); generalize l[i] = f at *; obtain ⟨rs, ra, rc, ls, aa, ac⟩ := f; dsimp only [Fc.rval, Fc.aval] at c0 c1 HCT
      go_wp2_with fail
      refine (HCT.out _ (HIN.out.1.2.2.1.keep hbl)).mono ?_; rintro e wB ⟨va, rfl, hoa, hxB⟩
      try dsimp only at hoa
      have hcu : ∀ x ∈ (ls.take 10).map cutA, AtOk x := fun x hx => by
        obtain ⟨y, -, rfl⟩ := List.mem_map.1 hx; exact cutA_ok y
      have HATS : Hid (AtsOk ((ls.take 10).map cutA)) := Lib.hid (atsOk_cut ls); obtain ⟨AL, hAL⟩ : ∃ A, (ls.take 10).map cutA = A := ⟨_, rfl⟩; rw [hAL] at HATS; rw [hAL] at hoa; obtain ⟨AN, hAN⟩ : ∃ A, AL.length = A := ⟨_, rfl⟩; have HAN := Lib.hid hAN; rw [hAN] at hoa; clear hAL hAN hcu HCT; obtain ⟨aa2, ac2, rfl, hac1, hac2, hac3, har, -⟩ := hoa.form; have hat := TypB.of_owns hoa; have hsr := hbl.size; have hsB := hxB.size; have hoB := ho.below hxB; have HFB : Hid (∀ f ∈ fs, FcT wB f) := Lib.hid (fun f hf => (HFT.out f hf).keep hxB); have hblB := hbl.trans (hxB.mono hsr); have kF : (wB.alloc (.cells #[.slice none 0 0, .slice aa2 AN ac2] 51)).heap[wB.heap.size]? = some (.cells #[.slice none 0 0, .slice aa2 AN ac2] 51 (0, 0)) := heap_alloc_new wB _; have hbC := Below.new wB (.cells #[.slice none 0 0, .slice aa2 AN ac2] 51); have cB0 := (hxB.cell (p := ⟨b1, o1 + i * 2, none⟩) hbb).trans c0; have hbB : b1 < wB.heap.size := by omega
      have hsB' : w.heap.size ≤ wB.heap.size := hblB.size; clear ho HFT; obtain ⟨RN, hRN⟩ : ∃ R, rs.length = R := ⟨_, rfl⟩; have HRN := Lib.hid hRN; have hrc := HIN.out.1.1.2; dsimp only at hrc; rw [hRN] at cB0 hrc; clear hRN; unfold maxLen at hrc; go_wp2
      go_loopw [4, 5, 8] (fun ri p k W => ∃ (j : Nat) (q : List PC) (rm pm : Nat) (v : Value), j ≤ RN ∧ Hid (rm = rn + j) ∧ k = .int .i64 j ∧ ri = .int .i64 rm ∧ p = .int .i64 pm ∧ q.length = j ∧ Hid (pm = pn + lenS (q.map PC.l)) ∧ rm ≤ 70 ∧ pm ≤ 600 ∧ Hid (W.heap[wB.heap.size]? = some (.cells #[v, .slice aa2 AN ac2] 51 (0, 0))) ∧ W.ownsRow wB.heap.size 52 1 v j (rcs q) ∧ Hid (∀ r ∈ q, PcT W r) ∧ Below wB.heap.size wB W) (fun _ _ k _ => RN - (intOf k).toNat)
      case atStart => exact ⟨0, [], rn, pn, .slice none 0 0, by omega, Lib.hid rfl, rfl, rfl, rfl, rfl, Lib.hid rfl, hrm, hpm, Lib.hid kF, World.ownsRow_nil _ _ _ _, Lib.hid (by simp), hbC⟩
      case round =>
        obtain ⟨j, q, rm, pm, v, hj, hrj, rfl, rfl, rfl, hql, HSR, hrm2, hpm2, HKF, hor, HPT, hbr⟩ := hrel; have e0 := (hbr.cell (p := ⟨b1, o1 + i * 2, none⟩) hbB).trans cB0
        by_cases hlr : j < RN ∧ rm < 70
        · obtain ⟨r1, r2⟩ := hlr; have r1' : (j : Int) < (RN : Int) := by omega
          have r2' : (rm : Int) < 70 := by omega
          have hj70 : j < 70 := by have := hrj.out; omega
          have hjl : j < rs.length := by rw [HRN.out]; exact r1
          have hbw := hblB.trans (hbr.mono hsB'); obtain ⟨b2, o2, rfl, hb2, d0⟩ := (HIN.out.1.1.1.keep hbw).rc j hjl; have HRO := Lib.hid ((HIN.out.1.2.1 _ (List.getElem_mem hjl)).keep hbw); generalize rs[j] = R at *; obtain ⟨L, Rp, Rc⟩ := R; obtain ⟨LN, hLN⟩ : ∃ R, L.length = R := ⟨_, rfl⟩; have HLN := Lib.hid hLN; have q1 := HRO.out.2.1; have q2 := HRO.out.2.2.1; dsimp only [PC.val] at d0 q1 q2; rw [hLN] at d0 q1; clear hLN; unfold maxLen at q2; obtain ⟨MN, hMN⟩ : ∃ z : Nat, min (600 - pm) LN = z := ⟨_, rfl⟩; have hz0 : (if (600 - (pm : Int)) < (LN : Int) then (600 - (pm : Int)) else (LN : Int)) = (MN : Int) := by split <;> omega
          have hzm : min (LN : Int) (600 - (pm : Int)) = (MN : Int) := by omega
          have hzn : min (600 - (pm : Int)) (LN : Int) = (MN : Int) := by omega
          have HMN := Lib.hid hMN; have q3 : (MN : Int) ≤ LN := by omega
          have q4 : MN ≤ 600 - pm := by omega
          clear hMN; go_wp2; refine wp_region_lit_txtZ (some 8) [0, 1, 3, 7] (fun W => W.heap[wB.heap.size]? = some (.cells #[v, .slice aa2 AN ac2] 51 (0, 0)) ∧ Below wB.heap.size wB W) (by kernel_rfl) (by kernel_rfl) (by kernel_rfl) (by kernel_rfl) ⟨HKF.out, hbr.drew⟩ ?_
          (refine txt_light ?_ rfl rfl ?_ ?_; rotate_left; · (intro w' hS; (try dsimp only at hS); go_simp; with_reducible rfl)); try simp only [Act.put, List.getElem_toArray, List.getElem_cons_succ, List.getElem_cons_zero, List.setIfInBounds_toArray, List.set_cons_zero, List.set_cons_succ]
          refine txt_light (v) rfl rfl ?_ ?_
          · intro w' hS; obtain ⟨hS1, hS2⟩ := hS; have c7 : w'.cell? ⟨wB.heap.size, 0, none⟩ = some v := by simp [World.cell?, hS1]
            clear hS1; go_simp
          try simp only [Act.put, List.getElem_toArray, List.getElem_cons_succ, List.getElem_cons_zero, List.setIfInBounds_toArray, List.set_cons_zero, List.set_cons_succ]
          have HK0 : Hid (wr.drew.heap[wB.heap.size]? = some (.cells #[v, .slice aa2 AN ac2] 51 (0, 0))) := HKF; have hbd : Below wB.heap.size wB wr.drew := hbr.drew; have hor0 : wr.drew.ownsRow wB.heap.size 52 1 v j (rcs q) := hor; have HP0 : Hid (∀ r ∈ q, PcT wr.drew r) := HPT; have hrL : Rd wr.drew Rp (pts (L.take MN)) := by
            have := HRO.out.1.take (MN * 2); rw [pts_take] at this; exact this
          have hRN0 : Rp = none → Rc = 0 := HRO.out.2.2.2; clear hor HKF HPT hbr e0 d0; generalize wr.drew = W0 at *; refine txt_heavy rfl rfl (fun K hK => ?_); go_step; have hlW : wB.heap.size < W0.heap.size := (Array.getElem?_eq_some_iff.1 HK0.out).1; have hb1 := hbd.alloc (by omega) (.cells #[] 55); have k1 : (W0.alloc (.cells #[] 55)).heap[wB.heap.size]? = some (.cells #[v, .slice aa2 AN ac2] 51 (0, 0)) := (Below.heap_alloc _ _ _ hlW).trans HK0.out; have hr1 := hrL.keep (Below.new W0 (.cells #[] 55)); have ho1 : (W0.alloc (.cells #[] 55)).ownsRow W0.heap.size 55 2 (.slice (some ⟨W0.heap.size, 0, none⟩) 0 0) 0 [] := World.ownsRow_lit W0 #[] 0 (Nat.le_refl _) (by decide) rfl; have hlt : (L.take MN).length = MN := by rw [List.length_take, HLN.out]; omega
          refine hK.out _ _ ⟨k1, hb1⟩ ?_; clear hK K
          try simp only [Act.put, List.getElem_toArray, List.getElem_cons_succ, List.getElem_cons_zero, List.setIfInBounds_toArray, List.set_cons_zero, List.set_cons_succ]
          (refine txt_light ?_ rfl rfl ?_ ?_; rotate_left; · (intro w' hS; (try dsimp only at hS); go_simp; with_reducible rfl)); try simp only [Act.put, List.getElem_toArray, List.getElem_cons_succ, List.getElem_cons_zero, List.setIfInBounds_toArray, List.set_cons_zero, List.set_cons_succ]
          refine txt_app W0 (Below.new W0 (.cells #[] 55)) rfl rfl (.tmp 58) (.tmp 59) 52 rfl 55 (.agg #[.int .i64 0, .int .i64 0]) 2 16 Tryd.underlying52 Tryd.infoPnt rfl (by decide) (.slice (some ⟨W0.heap.size, 0, none⟩) 0 0) 0 [] rfl ho1 Rp MN Rc (pts (L.take MN)) rfl hRN0 hr1 (by rw [pts_len, hlt]) (pts_one _) (by omega) (by decide) ?_; intro v2 W2 ho2 hg2 hb2; rw [Nat.zero_add, List.nil_append] at ho2; have HK2 : Hid (W2.heap[wB.heap.size]? = some (.cells #[v, .slice aa2 AN ac2] 51 (0, 0))) := Lib.hid ((hb2.block _ hlW).trans HK0.out); have hbd2 := hbd.trans (hb2.mono hbd.size); refine ⟨⟨HK2.out, hbd2⟩, ?_⟩; have hor2 := hor0.below hb2; have HP2 : Hid (∀ r ∈ q, PcT W2 r) := Lib.hid (fun r hr => (HP0.out r hr).keep hb2); obtain ⟨p2, k2, rfl, f1, f2, f3, f4, -⟩ := ho2.form; have HPN : Hid (PcT W2 ⟨L.take MN, p2, k2⟩) := Lib.hid ⟨⟨f4, by dsimp only; omega, f2, f3⟩, TypB.of_owns ho2⟩; clear k1 hb1 hr1 ho1 hg2 hrL hor0 HK0 HP0
          try simp only [Act.put, List.getElem_toArray, List.getElem_cons_succ, List.getElem_cons_zero, List.setIfInBounds_toArray, List.set_cons_zero, List.set_cons_succ]
          refine txt_heavy rfl rfl (fun K hK => ?_); go_step; have hlX : wB.heap.size < W2.heap.size := (Array.getElem?_eq_some_iff.1 HK2.out).1; have hb3 := hbd2.alloc (by omega) (.cells #[.slice p2 MN k2] 52); have hx3 := Below.new W2 (.cells #[.slice p2 MN k2] 52); have k3 : (W2.alloc (.cells #[.slice p2 MN k2] 52)).heap[wB.heap.size]? = some (.cells #[v, .slice aa2 AN ac2] 51 (0, 0)) := (Below.heap_alloc _ _ _ hlX).trans HK2.out; have rd := Rd.lit W2 W2.heap.size [.slice p2 MN k2] 52 rfl; have hor3 := hor2.below hx3; have HP3 : Hid (∀ r ∈ q, PcT (W2.alloc (.cells #[.slice p2 MN k2] 52)) r) := Lib.hid (fun r hr => (HP2.out r hr).keep hx3); have HPN3 := Lib.hid (HPN.out.keep hx3); have HK3 := Lib.hid k3; refine hK.out _ _ ⟨k3, hb3⟩ ?_; clear hK K k3 hx3 ho2 hor2 HP2 HPN HK2 hbd2 hb2 hlX; generalize W2.alloc (.cells #[.slice p2 MN k2] 52) = W3 at *
          try simp only [Act.put, List.getElem_toArray, List.getElem_cons_succ, List.getElem_cons_zero, List.setIfInBounds_toArray, List.set_cons_zero, List.set_cons_succ]
          refine txt_app wB hb3 rfl rfl (.tmp 57) (.tmp 61) 49 rfl 52 (.slice none 0 0) 1 24 Tryd.underlying49 Tryd.infoRow rfl (by decide) v j (rcs q) rfl hor3 (some ⟨W2.heap.size, 0, none⟩) 1 1 [.slice p2 MN k2] rfl (fun h => by cases h) rd rfl (by simp [Value.oneCell']) (by omega) (by decide) ?_; intro v3 W4 ho4 hg4 hb4; have HK4 : Hid (W4.heap[wB.heap.size]? = some (.cells #[v, .slice aa2 AN ac2] 51 (0, 0))) := Lib.hid (((KeepS.of_row (S := fun T => T = 51) hor3 (by decide) hg4).2 _ _ _ _ HK3.out rfl).trans HK3.out); have HKS := Lib.hid (KeepS.of_row (S := fun T => T = 55) hor3 (by decide) hg4); have HP4 : Hid (∀ r ∈ q ++ [⟨L.take MN, p2, k2⟩], PcT W4 r) := Lib.hid (fun r hr => by
            rcases List.mem_append.1 hr with hr | hr
            · exact (HP3.out r hr).keepS (S := fun T => T = 55) rfl HKS.out
            · rw [List.mem_singleton.1 hr]; exact HPN3.out.keepS (S := fun T => T = 55) rfl HKS.out)
          have hqc : rcs q ++ [.slice p2 MN k2] = rcs (q ++ [⟨L.take MN, p2, k2⟩]) := by rw [rcs_snoc]; simp [PC.val, hlt]
          rw [hqc] at ho4; obtain ⟨p3, k3, rfl, -⟩ := ho4.form; refine ⟨⟨HK4.out, hb4⟩, ?_⟩; clear hor3 HP3 HPN3 HK3 HKS hg4 rd hb3 hqc
          try simp only [Act.put, List.getElem_toArray, List.getElem_cons_succ, List.getElem_cons_zero, List.setIfInBounds_toArray, List.set_cons_zero, List.set_cons_succ]
          (refine txt_light ?_ rfl rfl ?_ ?_; rotate_left; · (intro w' hS; (try dsimp only at hS); go_simp; with_reducible rfl)); try simp only [Act.put, List.getElem_toArray, List.getElem_cons_succ, List.getElem_cons_zero, List.setIfInBounds_toArray, List.set_cons_zero, List.set_cons_succ]
          refine txt_last rfl rfl rfl (fun K hK => ?_); have c7 : W4.cell? ⟨wB.heap.size, 0, none⟩ = some v := by simp [World.cell?, HK4.out]
          have c8 : W4.frozen? ⟨wB.heap.size, 0, none⟩ = false := by simp [World.frozen?, HK4.out]
          go_step; refine hK.out _ _ ?_; refine txt_nil ?_; have HK5 : Hid ((W4.setCell ⟨wB.heap.size, 0, none⟩ (.slice p3 (j + 1) k3)).heap[wB.heap.size]? = some (.cells #[.slice p3 (j + 1) k3, .slice aa2 AN ac2] 51 (0, 0))) := Lib.hid (blkT_set (vs := [v, .slice aa2 AN ac2]) HK4.out 0 _); have ho5 := ownsRow_box ho4 HK4.out (by decide) 0 (.slice p3 (j + 1) k3); have HP5 : Hid (∀ r ∈ q ++ [⟨L.take MN, p2, k2⟩], PcT (W4.setCell ⟨wB.heap.size, 0, none⟩ (.slice p3 (j + 1) k3)) r) := Lib.hid (fun r hr => (HP4.out r hr).keepS (S := fun T => T = 55) rfl (KeepS.store HK4.out (by decide) _)); have hb5 := hb4.setCell (p := ⟨wB.heap.size, 0, none⟩) (Nat.le_refl _) (.slice p3 (j + 1) k3); have HSQ : Hid (pm + MN = pn + lenS ((q ++ [(⟨L.take MN, p2, k2⟩ : PC)]).map PC.l)) := Lib.hid (by
            rw [List.map_append, lenS_append, HSR.out]; simp only [List.map_cons, List.map_nil, lenS, hlt]; omega)
          have hql5 : (q ++ [(⟨L.take MN, p2, k2⟩ : PC)]).length = j + 1 := by simp [hql]
          clear hK K c7 c8 ho4 HP4 hb4 HK4 HSR HRO hlt HMN HLN hRN0 f1 f2 f3 f4 hz0 hbd; generalize q ++ [(⟨L.take MN, p2, k2⟩ : PC)] = q5 at *; generalize W4.setCell ⟨wB.heap.size, 0, none⟩ (.slice p3 (j + 1) k3) = W5 at *; go_wp2; exact ⟨⟨j + 1, q5, rm + 1, pm + MN, .slice p3 (j + 1) k3, by omega, Lib.hid (by have := hrj.out; omega), by go_num, by go_num, by go_num, hql5, HSQ, by omega, by omega, HK5, ho5, HP5, hb5⟩, by simp [intOf]; omega⟩
        · obtain ⟨p3, k3, rfl, g1, g2, g3, g4, -⟩ := hor.form; have e6 : wr.cell? ⟨wB.heap.size, 0, none⟩ = some (.slice p3 j k3) := by simp [World.cell?, HKF.out]
          have e7 : wr.cell? ⟨wB.heap.size, 0 + 1, none⟩ = some (.slice aa2 AN ac2) := by simp [World.cell?, HKF.out]
          have hbw := hblB.trans (hbr.mono hsB'); have hoX := hoB.below hbr; have HFC : Hid (fcs fs ++ [.slice p3 j k3, .slice aa2 AN ac2] = fcs (fs ++ [⟨q, p3, k3, AL, aa2, ac2⟩])) := Lib.hid (by
            rw [fcs_snoc]; simp [Fc.cells, Fc.rval, Fc.aval, hql, HAN.out])
          have HSX : Hid ((cntR ((fs ++ [(⟨q, p3, k3, AL, aa2, ac2⟩ : Fc)]).map Fc.rings) = rm ∧ cntP ((fs ++ [(⟨q, p3, k3, AL, aa2, ac2⟩ : Fc)]).map Fc.rings) = pm) ∧ ∀ f ∈ fs ++ [(⟨q, p3, k3, AL, aa2, ac2⟩ : Fc)], AtsOk f.ls) := Lib.hid (by
            obtain ⟨⟨e1, e2⟩, e3⟩ := HST.out; refine ⟨⟨?_, ?_⟩, ?_⟩
            · rw [List.map_append, cntR_append, e1]; simp only [List.map_cons, List.map_nil, cntR, Fc.rings, List.length_map, hql]; have := hrj.out; omega
            · rw [List.map_append, cntP_append, e2, HSR.out]; simp only [List.map_cons, List.map_nil, cntP, Fc.rings]; omega
            · intro f hf
              rcases List.mem_append.1 hf with hf | hf
              · exact e3 f hf
              · rw [List.mem_singleton.1 hf]; exact HATS.out)
          have HFA : Hid (∀ f ∈ fs ++ [(⟨q, p3, k3, AL, aa2, ac2⟩ : Fc)], FcT wr f) := Lib.hid (fun f hf => by
            rcases List.mem_append.1 hf with hf | hf
            · exact (HFB.out f hf).keep hbr
            · rw [List.mem_singleton.1 hf]; exact ⟨⟨⟨g4, by rw [hql]; exact g1, g2, g3⟩, fun r hr => (HPT.out r hr).1, ⟨har.keep hbr, by rw [HAN.out]; exact hac1, hac2, hac3⟩⟩, TypB.of_owns hor, HPT.out, hat.keepS (S := fun _ => True) trivial (KeepS.of_below hbr)⟩)
          clear hor HSR HKF HPT g1 g2 g3 g4 hoB HFB
          by_cases r1 : j < RN
          · have r1' : (j : Int) < (RN : Int) := by omega
            have r2' : ¬ (rm : Int) < 70 := by omega
            go_wp2_with (at_builtin; go_must (refine wpList_appLit' w hbw rfl (.tmp 70) (.tmp 72) 22 rfl 51 (.agg #[.slice none 0 0, .slice none 0 0]) 2 48 Tryd.underlying22 Tryd.infoFace rfl (by decide) (by decide) u3 i (fcs fs) rfl hoX 1 1 [.slice p3 j k3, .slice aa2 AN ac2] _ rfl rfl (by simp [Value.oneCell']) (by omega) ?_); intro v9 W9 ho9 hg9 hb9; have HKP := Lib.hid (KeepS.of_row hoX faceS_face hg9); clear hg9 hoX)
            rw [HFC.out] at ho9; exact ⟨⟨i + 1, fs ++ [⟨q, p3, k3, AL, aa2, ac2⟩], rm, pm, by omega, by omega, by go_num, rfl, rfl, by simp [hfl], HSX, hrm2, hpm2, ho9, Lib.hid (fun f hf => (HFA.out f hf).keepS HKP.out), hb9⟩, by simp [intOf]; omega⟩
          · have r1' : ¬ (j : Int) < (RN : Int) := by omega
            go_wp2_with (at_builtin; go_must (refine wpList_appLit' w hbw rfl (.tmp 70) (.tmp 72) 22 rfl 51 (.agg #[.slice none 0 0, .slice none 0 0]) 2 48 Tryd.underlying22 Tryd.infoFace rfl (by decide) (by decide) u3 i (fcs fs) rfl hoX 1 1 [.slice p3 j k3, .slice aa2 AN ac2] _ rfl rfl (by simp [Value.oneCell']) (by omega) ?_); intro v9 W9 ho9 hg9 hb9; have HKP := Lib.hid (KeepS.of_row hoX faceS_face hg9); clear hg9 hoX)
            rw [HFC.out] at ho9; exact ⟨⟨i + 1, fs ++ [⟨q, p3, k3, AL, aa2, ac2⟩], rm, pm, by omega, by omega, by go_num, rfl, rfl, by simp [hfl], HSX, hrm2, hpm2, ho9, Lib.hid (fun f hf => (HFA.out f hf).keepS HKP.out), hb9⟩, by simp [intOf]; omega⟩
    · have HRE : Hid (CutOk fs) := Lib.hid (by
        obtain ⟨⟨e1, e2⟩, e3⟩ := HST.out; exact ⟨by omega, by omega, by omega, e3⟩)
      rw [← hfl] at ho
      by_cases h1 : i < N
      · have h1' : (i : Int) < (N : Int) := by omega
        have h2' : ¬ (i : Int) < 40 := by omega
        go_wp2; go_ret; exact ⟨fs, _, rfl, ho, HFT.out, HRE.out, hbl⟩
      · have h1' : ¬ (i : Int) < (N : Int) := by omega
        go_wp2; go_ret; exact ⟨fs, _, rfl, ho, HFT.out, HRE.out, hbl⟩
end Go.Proofs.YtkfgbjjelcigcaaDoor
/- Plain: an input's items fold to it. -/
set_option linter.unusedVariables false
set_option linter.unusedSimpArgs false
set_option maxRecDepth 100000
namespace Go
open Go.RowKit
def itC (c : Core) : It := ⟨c.1, c.2.1, c.2.2.1, c.2.2.2, none, 0⟩
theorem itC_core (c : Core) : (itC c).core = c := rfl
def okL : FS → List It → Prop
  | _, [] => True
  | s, x :: l => ((x.kind = 5 ∨ x.kind = 6) → s.faces ≠ []) ∧ okL (stepF s x) l
theorem okL_app : ∀ (a b : List It) (s : FS), okL s (a ++ b) ↔ okL s a ∧ okL (a.foldl stepF s) b
  | [], b, s => by simp [okL]
  | x :: a, b, s => by simp only [List.cons_append, okL, List.foldl_cons, okL_app a b, and_assoc]
theorem fold_all : ∀ (l : List It) (s : FS) (i : Nat), okL s l → (∀ x ∈ l, chkI x = 0) → foldG s i l = (l.foldl stepF s, 0, 0)
  | [], s, i, _, _ => rfl
  | x :: l, s, i, h, hc => by
    unfold foldG; rw [if_neg (by rw [hc x (by simp)]; simp), if_neg (fun h2 => h.1 h2.1 h2.2), fold_all l _ _ h.2 (fun y hy => hc y (by simp [hy]))]
    rfl
theorem fold_err : ∀ (A : List It) (x : It) (B : List It) (s : FS) (i : Nat), okL s (A ++ x :: B) → (∀ a ∈ A, chkI a = 0) → chkI x ≠ 0 → foldG s i (A ++ x :: B) = (fs0, i + A.length, chkI x)
  | [], x, B, s, i, h, _, hx => by
    rw [List.nil_append]; unfold foldG; rw [if_pos hx]; rfl
  | a :: A, x, B, s, i, h, hc, hx => by
    rw [List.cons_append] at h ⊢; unfold foldG; rw [if_neg (by rw [hc a (by simp)]; simp), if_neg (fun h2 => h.1 h2.1 h2.2), fold_err A x B _ _ h.2 (fun y hy => hc y (by simp [hy])) hx, List.length_cons]
    congr 2
    omega
theorem pairs_flat : ∀ r : List Pt, pairsF (flatP r) = r
  | [] => rfl
  | p :: r => by
    have := pairs_flat r; show pairsF (p.x :: p.y :: flatP r) = _; rw [pairsF, this]
theorem step5 (s : FS) (A : List FTell) (R : List (List Pt)) (T : List At) (h : s.faces = A ++ [(R, T)]) (r : List Pt) : stepF s (itC (5, flatP r, ⟨#[]⟩, vZ)) = { s with faces := A ++ [(R ++ [r], T)] } := by
  unfold stepF itC; dsimp only; rw [if_pos rfl, h, modLast_snoc, pairs_flat]
theorem step6 (s : FS) (A : List FTell) (R : List (List Pt)) (T : List At) (h : s.faces = A ++ [(R, T)]) (a : At) : stepF s (itC (6, [], a.key, (a.kind, a.text, a.n))) = { s with faces := A ++ [(R, T ++ [a])] } := by
  unfold stepF itC; dsimp only; rw [if_neg (by decide), if_pos rfl, h, modLast_snoc]
theorem rings_step : ∀ (rs : List (List Pt)) (s : FS) (A : List FTell) (R : List (List Pt)) (T : List At), s.faces = A ++ [(R, T)] →
    okL s (rs.map (fun r => itC (5, flatP r, ⟨#[]⟩, vZ))) ∧ (rs.map (fun r => itC (5, flatP r, ⟨#[]⟩, vZ))).foldl stepF s = { s with faces := A ++ [(R ++ rs, T)] }
  | [], s, A, R, T, h => ⟨trivial, by simp [← h]⟩
  | r :: rs, s, A, R, T, h => by
    have h1 := step5 s A R T h r; have h2 := rings_step rs { s with faces := A ++ [(R ++ [r], T)] } A (R ++ [r]) T rfl; rw [List.map_cons]; refine ⟨⟨fun _ => by rw [h]; simp, ?_⟩, ?_⟩
    · rw [h1]; exact h2.1
    · rw [List.foldl_cons, h1, h2.2]; simp
theorem attrs_step : ∀ (l : List At) (s : FS) (A : List FTell) (R : List (List Pt)) (T : List At), s.faces = A ++ [(R, T)] →
    okL s (l.map (fun a => itC (6, [], a.key, (a.kind, a.text, a.n)))) ∧ (l.map (fun a => itC (6, [], a.key, (a.kind, a.text, a.n)))).foldl stepF s = { s with faces := A ++ [(R, T ++ l)] }
  | [], s, A, R, T, h => ⟨trivial, by simp [← h]⟩
  | a :: l, s, A, R, T, h => by
    have h1 := step6 s A R T h a; have h2 := attrs_step l { s with faces := A ++ [(R, T ++ [a])] } A R (T ++ [a]) rfl; rw [List.map_cons]; refine ⟨⟨fun _ => by rw [h]; simp, ?_⟩, ?_⟩
    · rw [h1]; exact h2.1
    · rw [List.foldl_cons, h1, h2.2]; simp
theorem face_step (f : FTell) (s : FS) : okL s ((faceI f).map itC) ∧ ((faceI f).map itC).foldl stepF s = { s with faces := s.faces ++ [f] } := by
  have h4 : stepF s (itC (4, [], ⟨#[]⟩, vZ)) = { s with faces := s.faces ++ [([], [])] } := by
    unfold stepF itC; dsimp only; rw [if_neg (by decide), if_neg (by decide), if_pos rfl]
  have h5 := rings_step f.1 { s with faces := s.faces ++ [([], [])] } s.faces [] [] rfl; have h6 := attrs_step f.2 { s with faces := s.faces ++ [([] ++ f.1, [])] } s.faces ([] ++ f.1) [] rfl; have he : (faceI f).map itC = itC (4, [], ⟨#[]⟩, vZ) :: (f.1.map (fun r => itC (5, flatP r, ⟨#[]⟩, vZ)) ++ f.2.map (fun a => itC (6, [], a.key, (a.kind, a.text, a.n)))) := by
    simp [faceI, Function.comp_def]
  rw [he]; refine ⟨⟨fun h => by simp [itC] at h, ?_⟩, ?_⟩
  · rw [h4, okL_app, h5.2]; exact ⟨h5.1, h6.1⟩
  · rw [List.foldl_cons, h4, List.foldl_append, h5.2, h6.2]; simp
theorem faces_step : ∀ (F : List FTell) (s : FS), okL s ((F.flatMap faceI).map itC) ∧ ((F.flatMap faceI).map itC).foldl stepF s = { s with faces := s.faces ++ F }
  | [], s => ⟨trivial, by simp⟩
  | f :: F, s => by
    obtain ⟨h1, h2⟩ := face_step f s; obtain ⟨h3, h4⟩ := faces_step F { s with faces := s.faces ++ [f] }; rw [List.flatMap_cons, List.map_append]; refine ⟨?_, ?_⟩
    · rw [okL_app, h2]; exact ⟨h1, h3⟩
    · rw [List.foldl_append, h2, h4]; simp
theorem of_step (buf tol : Int) (zs : List Int) (F : List FTell) : okL fs0 ((ofI buf tol zs F).map itC) ∧ ((ofI buf tol zs F).map itC).foldl stepF fs0 = ⟨F, buf, tol, zs, []⟩ := by
  obtain ⟨h1, h2⟩ := faces_step F ⟨[], buf, tol, zs, []⟩; have he : (ofI buf tol zs F).map itC = itC (1, [buf], ⟨#[]⟩, vZ) :: itC (2, [tol], ⟨#[]⟩, vZ) :: itC (3, zs, ⟨#[]⟩, vZ) :: (F.flatMap faceI).map itC := by simp [ofI]
  have e1 : stepF fs0 (itC (1, [buf], ⟨#[]⟩, vZ)) = ⟨[], buf, 0, [], []⟩ := rfl; have e2 : stepF ⟨[], buf, 0, [], []⟩ (itC (2, [tol], ⟨#[]⟩, vZ)) = ⟨[], buf, tol, [], []⟩ := rfl; have e3 : stepF ⟨[], buf, tol, [], []⟩ (itC (3, zs, ⟨#[]⟩, vZ)) = ⟨[], buf, tol, zs, []⟩ := rfl; rw [he]; refine ⟨⟨fun h => by simp [itC] at h, ?_⟩, ?_⟩
  · rw [e1]; refine ⟨fun h => by simp [itC] at h, ?_⟩; rw [e2]; refine ⟨fun h => by simp [itC] at h, ?_⟩; rw [e3]; exact h1
  · rw [List.foldl_cons, List.foldl_cons, List.foldl_cons, e1, e2, e3, h2]; simp
theorem back_fold (G : List It) (buf tol : Int) (zs : List Int) (F : List FTell) (h : G.map It.core = ofI buf tol zs F) :
    ((∀ g ∈ G, chkI g = 0) → foldG fs0 0 G = (⟨F, buf, tol, zs, []⟩, 0, 0)) ∧ ∀ (k : Nat) (hk : k < G.length), (∀ j (hj : j < k), chkI (G[j]'(by omega)) = 0) → chkI G[k] ≠ 0 → foldG fs0 0 G = (fs0, k, chkI G[k]) := by
  have hC : (G.map It.core).map itC = (ofI buf tol zs F).map itC := by rw [h]
  have hco : G.map It.core = ((G.map It.core).map itC).map It.core := by
    rw [List.map_map]; simp [Function.comp_def, itC_core]
  have hfe : foldG fs0 0 G = foldG fs0 0 ((G.map It.core).map itC) := foldG_core _ _ _ _ hco; obtain ⟨s1, s2⟩ := of_step buf tol zs F; rw [← hC] at s1 s2; have hchk : ∀ g : It, chkI (itC g.core) = chkI g := fun g => chkI_core rfl; refine ⟨fun ha => ?_, fun k hk hb hx => ?_⟩
  · rw [hfe, fold_all _ _ _ s1 ?_, s2]; intro x hx; obtain ⟨c, hc, rfl⟩ := List.mem_map.1 hx; obtain ⟨g, hg, rfl⟩ := List.mem_map.1 hc; rw [hchk]; exact ha g hg
  · rw [List.map_map] at s1 hfe; have hsp : G = G.take k ++ G[k] :: G.drop (k + 1) := by
      rw [← List.drop_eq_getElem_cons hk, List.take_append_drop]
    have hsp2 : G.map (itC ∘ It.core) = (G.take k).map (itC ∘ It.core) ++ itC (G[k].core) :: (G.drop (k + 1)).map (itC ∘ It.core) := by
      conv => lhs; rw [hsp]
      rw [List.map_append, List.map_cons]; rfl
    rw [hsp2] at s1; rw [hfe, hsp2, fold_err _ _ _ _ _ s1 ?_ (by rw [hchk]; exact hx), hchk]
    · simp; omega
    · intro a ha; obtain ⟨g, hg, rfl⟩ := List.mem_map.1 ha; obtain ⟨j, hj, rfl⟩ := List.getElem_of_mem hg; rw [List.length_take] at hj; rw [Function.comp_apply, hchk, List.getElem_take]; exact hb j (by omega)
theorem cnt_mem : ∀ (fs : List Fc), ∀ f ∈ fs, f.rs.length ≤ cntR (fs.map Fc.rings) ∧ ∀ r ∈ f.rs, r.l.length ≤ cntP (fs.map Fc.rings)
  | [], f, h => by simp at h
  | g :: fs, f, h => by
    have hl : ∀ l : List PC, ∀ r ∈ l, r.l.length ≤ lenS (l.map PC.l) := by
      intro l
      induction l with
      | nil => simp
      | cons a l ih =>
        intro r hr; simp only [List.map_cons, lenS]
        rcases List.mem_cons.1 hr with rfl | hr
        · omega
        · have := ih r hr; omega
    rw [List.map_cons]; simp only [cntR, cntP]
    rcases List.mem_cons.1 h with rfl | h
    · refine ⟨by simp [Fc.rings], fun r hr => ?_⟩; have := hl _ r hr; unfold Fc.rings; omega
    · obtain ⟨h1, h2⟩ := cnt_mem fs f h; exact ⟨by omega, fun r hr => by have := h2 r hr; omega⟩
theorem of_len (buf tol : Int) (zs : List Int) : ∀ (fs : List Fc), (∀ f ∈ fs, f.ls.length ≤ 10) → (ofI buf tol zs (fs.map Fc.tell)).length ≤ 3 + 11 * fs.length + cntR (fs.map Fc.rings)
  | [], _ => by simp [ofI]
  | f :: fs, h => by
    have := of_len buf tol zs fs (fun g hg => h g (by simp [hg])); have h1 := h f (by simp); simp only [ofI, List.map_cons, List.flatMap_cons, List.length_append, List.length_cons, List.length_nil, faceI, Fc.tell, List.length_map, cntR] at this ⊢; omega
theorem of_mem (buf tol : Int) (zs : List Int) (fs : List Fc) (hz : zs.length ≤ 20) (hf : ∀ f ∈ fs, (∀ r ∈ f.rs, r.l.length ≤ 600) ∧ AtsOk f.ls) : ∀ c ∈ ofI buf tol zs (fs.map Fc.tell), c.2.1.length ≤ 100000 ∧ c.2.2.1.size ≤ maxLen ∧ c.2.2.2.2.1.size ≤ maxLen := by
  have h0 : (⟨#[]⟩ : ByteArray).size ≤ maxLen := Nat.zero_le _; have hv : (vZ : VV).2.1.size ≤ maxLen := Nat.zero_le _; intro c hc; unfold ofI at hc
  rcases List.mem_append.1 hc with hc | hc
  · simp only [List.mem_cons, List.not_mem_nil, or_false] at hc
    rcases hc with rfl | rfl | rfl
    · exact ⟨by simp, h0, hv⟩
    · exact ⟨by simp, h0, hv⟩
    · exact ⟨by dsimp only; omega, h0, hv⟩
  · obtain ⟨t, ht, hc⟩ := List.mem_flatMap.1 hc; obtain ⟨f, hfm, rfl⟩ := List.mem_map.1 ht; obtain ⟨h1, h2⟩ := hf f hfm; unfold faceI Fc.tell Fc.rings at hc; dsimp only at hc
    rcases List.mem_cons.1 hc with rfl | hc
    · exact ⟨by simp, h0, hv⟩
    · rcases List.mem_append.1 hc with hc | hc
      · obtain ⟨l, hl, rfl⟩ := List.mem_map.1 hc; obtain ⟨r, hr, rfl⟩ := List.mem_map.1 hl; refine ⟨?_, h0, hv⟩; dsimp only; rw [flatP_len]; have := h1 r hr; omega
      · obtain ⟨a, ha, rfl⟩ := List.mem_map.1 hc; obtain ⟨k1, k2⟩ := h2.2 a ha; exact ⟨by simp, by dsimp only; unfold maxLen; omega, by dsimp only; unfold maxLen; omega⟩
end Go
/- face.Same, of faces of which the same is told. -/
set_option linter.unusedVariables false
set_option linter.unusedSimpArgs false
set_option maxRecDepth 100000
namespace Go.Proofs.YtkfgbjjelcigcaaDoor
open Go.RowKit
set_option maxHeartbeats 1600000 in
theorem eqP_same (a b : Option Addr) (ca cb : Nat) (l : List Pt) (hl : l.length ≤ 1000000) (w : World) (hr : Rd w a (pts l)) (hs : Rd w b (pts l)) :
    Calls Tryd.prog 29 #[.slice a l.length ca, .slice b l.length cb] w fun e w' => e = .returned (.bool true) ∧ Below w.heap.size w w' := by
  have HR := Lib.hid hr; have HS := Lib.hid hs; obtain ⟨N, hN⟩ : ∃ N, l.length = N := ⟨_, rfl⟩; have HN := Lib.hid hN; rw [hN] at hl ⊢; clear hr hs hN
  go_enter Tryd.func29, Tryd.ntmps29
  go_wp2
  go_loopw [13] (fun i wr => ∃ k : Nat, k ≤ N ∧ i = .int .i64 k ∧ Below w.heap.size w wr) (fun i _ => N - (intOf i).toNat)
  case atStart => exact ⟨0, by omega, rfl, Below.refl _ _⟩
  case round =>
    obtain ⟨k, hk, rfl, hbl⟩ := hrel
    by_cases h1 : k < N
    · have h1' : (k : Int) < (N : Int) := by omega
      have hkl : k < l.length := by rw [HN.out]; exact h1
      obtain ⟨b1, o1, rfl, hbb, c0, c1⟩ := (HR.out.keep hbl).pt k hkl; obtain ⟨b2, o2, rfl, hbb2, d0, d1⟩ := (HS.out.keep hbl).pt k hkl; generalize l[k] = p at *; obtain ⟨x, y⟩ := p; dsimp only at c0 c1 d0 d1; go_wp2
      go_quiet (fail)
      go_wp2; exact ⟨⟨k + 1, by omega, by go_num, below_drewN hbl _⟩, by simp [intOf]; omega⟩
    · have h1' : ¬ (k : Int) < (N : Int) := by omega
      go_wp2; go_ret; exact ⟨rfl, hbl⟩
set_option maxHeartbeats 1600000 in
theorem eqA_same (a b : Option Addr) (ca cb : Nat) (l : List At) (hl : l.length ≤ 1000000) (w : World) (hr : Rd w a (ats l)) (hs : Rd w b (ats l)) :
    Calls Tryd.prog 46 #[.slice a l.length ca, .slice b l.length cb] w fun e w' => e = .returned (.bool true) ∧ Below w.heap.size w w' := by
  have HR := Lib.hid hr; have HS := Lib.hid hs; obtain ⟨N, hN⟩ : ∃ N, l.length = N := ⟨_, rfl⟩; have HN := Lib.hid hN; rw [hN] at hl ⊢; clear hr hs hN
  go_enter Tryd.func46, Tryd.ntmps46
  go_wp2
  go_loopw [13] (fun i wr => ∃ k : Nat, k ≤ N ∧ i = .int .i64 k ∧ Below w.heap.size w wr) (fun i _ => N - (intOf i).toNat)
  case atStart => exact ⟨0, by omega, rfl, Below.refl _ _⟩
  case round =>
    obtain ⟨k, hk, rfl, hbl⟩ := hrel
    by_cases h1 : k < N
    · have h1' : (k : Int) < (N : Int) := by omega
      have hkl : k < l.length := by rw [HN.out]; exact h1
      obtain ⟨b1, o1, rfl, hbb, c0, c1, c2, c3⟩ := (HR.out.keep hbl).atr k hkl; obtain ⟨b2, o2, rfl, hbb2, d0, d1, d2, d3⟩ := (HS.out.keep hbl).atr k hkl; generalize l[k] = p at *; obtain ⟨x, y, z, u⟩ := p; dsimp only at c0 c1 c2 c3 d0 d1 d2 d3; go_wp2
      go_quiet (fail)
      go_wp2; exact ⟨⟨k + 1, by omega, by go_num, below_drewN hbl _⟩, by simp [intOf]; omega⟩
    · have h1' : ¬ (k : Int) < (N : Int) := by omega
      go_wp2; go_ret; exact ⟨rfl, hbl⟩
set_option maxHeartbeats 800000 in
theorem tsame_same (a b : Option Addr) (ca cb : Nat) (l : List At) (hl : l.length ≤ 1000000) (w : World) (hr : Rd w a (ats l)) (hs : Rd w b (ats l)) :
    Calls Tryd.prog 27 #[.slice a l.length ca, .slice b l.length cb] w fun e w' => e = .returned (.bool true) ∧ Below w.heap.size w w' := by
  have H := Lib.hid (eqA_same a b ca cb l hl w hr hs); clear hr hs
  go_enter Tryd.func27, Tryd.ntmps27
  go_wp2_with fail
  refine H.out.mono ?_; rintro e w1 ⟨rfl, hb⟩; go_wp2; go_ret; exact ⟨rfl, hb⟩
set_option maxHeartbeats 1600000 in
theorem eqR_same (a b : Option Addr) (ca cb : Nat) (L M : List PC) (he : L.map PC.l = M.map PC.l) (hl : L.length ≤ 1000000) (hl2 : ∀ r ∈ L, r.l.length ≤ 1000000) (w : World) (hr : Rd w a (rcs L)) (hs : Rd w b (rcs M)) (hL : ∀ r ∈ L, r.Ok w) (hM : ∀ r ∈ M, r.Ok w) :
    Calls Tryd.prog 28 #[.slice a L.length ca, .slice b M.length cb, .func (.func 29) #[] #[]] w fun e w' => e = .returned (.bool true) ∧ Below w.heap.size w w' := by
  have HR := Lib.hid hr; have HS := Lib.hid hs; have HL := Lib.hid hL; have HM := Lib.hid hM; have HE := Lib.hid he; have HL2 := Lib.hid hl2; have hlm : M.length = L.length := by
    have := congrArg List.length he
    simpa using this.symm
  rw [hlm]; obtain ⟨N, hN⟩ : ∃ N, L.length = N := ⟨_, rfl⟩; have HN := Lib.hid hN; have HNM : Hid (M.length = N) := Lib.hid (hlm.trans hN); rw [hN] at hl ⊢; clear hr hs hN hL hM he hlm hl2
  go_enter Tryd.func28, Tryd.ntmps28
  go_wp2
  go_loopw [17] (fun i wr => ∃ k : Nat, k ≤ N ∧ i = .int .i64 k ∧ Below w.heap.size w wr) (fun i _ => N - (intOf i).toNat)
  case atStart => exact ⟨0, by omega, rfl, Below.refl _ _⟩
  case round =>
    obtain ⟨k, hk, rfl, hbl⟩ := hrel
    by_cases h1 : k < N
    · have h1' : (k : Int) < (N : Int) := by omega
      have hkl : k < L.length := by rw [HN.out]; exact h1
      have hkm : k < M.length := by rw [HNM.out]; exact h1
      obtain ⟨b1, o1, rfl, hbb, c0⟩ := (HR.out.keep hbl).rc k hkl; obtain ⟨b2, o2, rfl, hbb2, d0⟩ := (HS.out.keep hbl).rc k hkm; have hle : M[k].l = L[k].l := by
        have := congrArg (fun z => z[k]?) HE.out; simp [hkl, hkm] at this; exact this.symm
      have hx := (HL.out _ (List.getElem_mem hkl)).keep hbl; have hy := (HM.out _ (List.getElem_mem hkm)).keep hbl; have hz := HL2.out _ (List.getElem_mem hkl); generalize L[k] = x at *; generalize M[k] = y at *; obtain ⟨xl, xp, xc⟩ := x; obtain ⟨yl, yp, yc⟩ := y; dsimp only at hle hz; subst hle; dsimp only [PC.val] at c0 d0; have HC := Lib.hid (eqP_same xp yp xc yc yl hz wr hx.1 hy.1); clear hx hy hz
      go_wp2_with fail
      refine HC.out.mono ?_; rintro e w1 ⟨rfl, hb1⟩; have hb2 := hbl.trans (hb1.mono hbl.size); go_wp2; exact ⟨⟨k + 1, by omega, by go_num, hb2⟩, by simp [intOf]; omega⟩
    · have h1' : ¬ (k : Int) < (N : Int) := by omega
      go_wp2; go_ret; exact ⟨rfl, hbl⟩
def SameT (f g : Fc) : Prop := f.rings = g.rings ∧ f.ls = g.ls
set_option maxHeartbeats 1600000 in
theorem fsame1_same (f g : Fc) (he : SameT f g) (h1 : f.rs.length ≤ 1000000) (h2 : ∀ r ∈ f.rs, r.l.length ≤ 1000000) (h3 : f.ls.length ≤ 1000000) (w : World) (hf : f.Ok w) (hg : g.Ok w) :
    Calls Tryd.prog 26 #[f.val, g.val] w fun e w' => e = .returned (.bool true) ∧ Below w.heap.size w w' := by
  obtain ⟨he1, he2⟩ := he; have HA := Lib.hid (fun W h k => tsame_same f.aa g.aa f.ac g.ac f.ls h3 W h k); have HRR := Lib.hid (fun W h k p q => eqR_same f.ra g.ra f.rc g.rc f.rs g.rs he1 h1 h2 W h k p q); have HF := Lib.hid hf; have HG := Lib.hid hg; have hgl : g.ls.length = f.ls.length := by rw [he2]
  have hgA := Lib.hid he2; clear hf hg he1 he2 h1 h2 h3; obtain ⟨rs, ra, rc, ls, aa, ac⟩ := f; obtain ⟨rs2, ra2, rc2, ls2, aa2, ac2⟩ := g; dsimp only [Fc.val, Fc.rval, Fc.aval] at *; rw [hgl]; clear hgl; obtain ⟨B, hB⟩ : ∃ B, w.heap.size = B := ⟨_, rfl⟩; obtain ⟨n1, hn1⟩ : ∃ n, rs.length = n := ⟨_, rfl⟩; obtain ⟨n2, hn2⟩ : ∃ n, rs2.length = n := ⟨_, rfl⟩; obtain ⟨n3, hn3⟩ : ∃ n, ls.length = n := ⟨_, rfl⟩; rw [hn1, hn2] at HRR; rw [hn3] at HA; rw [hn1, hn2, hn3]; have k1 := (Blk.lit w B [.slice ra n1 rc, .slice aa n3 ac] 51 hB).alloc (.cells #[.slice ra2 n2 rc2, .slice aa2 n3 ac2] 51); have k2 := Blk.lit (w.alloc (.cells #[.slice ra n1 rc, .slice aa n3 ac] 51)) (B + 1) [.slice ra2 n2 rc2, .slice aa2 n3 ac2] 51 (by simp [hB]); have hb0 := (Below.new w (.cells #[.slice ra n1 rc, .slice aa n3 ac] 51)).alloc (by simp) (.cells #[.slice ra2 n2 rc2, .slice aa2 n3 ac2] 51)
  go_enter Tryd.func26, Tryd.ntmps26
  have a0 := k1.cell 0 rfl; have a1 := k1.cell 1 rfl; have b0 := k2.cell 0 rfl; have b1 := k2.cell 1 rfl
  go_wp2_with fail
  generalize (w.alloc (.cells #[.slice ra n1 rc, .slice aa n3 ac] 51)).alloc (.cells #[.slice ra2 n2 rc2, .slice aa2 n3 ac2] 51) = w1 at *; clear hB; refine (HA.out _ (HF.out.2.2.1.keep hb0) (by have := HG.out.2.2.1; rw [← hgA.out] at this; exact this.keep hb0)).mono ?_; rintro e w2 ⟨rfl, hb2⟩; have k1 := k1.keep hb2; have k2 := k2.keep hb2; have hbw := hb0.trans (hb2.mono hb0.size); clear a0 a1 b0 b1 HA; have a0 := k1.cell 0 rfl; have b0 := k2.cell 0 rfl
  go_wp2_with fail
  refine (HRR.out _ (HF.out.1.1.keep hbw) (HG.out.1.1.keep hbw) (fun r hr => (HF.out.2.1 r hr).keep hbw) (fun r hr => (HG.out.2.1 r hr).keep hbw)).mono ?_; rintro e w3 ⟨rfl, hb3⟩; have hbz := hbw.trans (hb3.mono hbw.size); go_wp2; go_ret; exact ⟨rfl, hbz⟩
set_option maxHeartbeats 1600000 in
theorem eqF_same (a b : Option Addr) (ca cb : Nat) (L M : List Fc) (he : L.map Fc.tell = M.map Fc.tell) (hl : L.length ≤ 1000000) (h1 : ∀ f ∈ L, f.rs.length ≤ 1000000 ∧ (∀ r ∈ f.rs, r.l.length ≤ 1000000) ∧ f.ls.length ≤ 1000000) (w : World) (hr : Rd w a (fcs L)) (hs : Rd w b (fcs M)) (hL : ∀ f ∈ L, f.Ok w) (hM : ∀ f ∈ M, f.Ok w) :
    Calls Tryd.prog 25 #[.slice a L.length ca, .slice b M.length cb, .func (.func 26) #[] #[]] w fun e w' => e = .returned (.bool true) ∧ Below w.heap.size w w' := by
  have HR := Lib.hid hr; have HS := Lib.hid hs; have HL := Lib.hid hL; have HM := Lib.hid hM; have HE := Lib.hid he; have H1 := Lib.hid h1; have hlm : M.length = L.length := by
    have := congrArg List.length he
    simpa using this.symm
  rw [hlm]; obtain ⟨N, hN⟩ : ∃ N, L.length = N := ⟨_, rfl⟩; have HN := Lib.hid hN; have HNM : Hid (M.length = N) := Lib.hid (hlm.trans hN); rw [hN] at hl ⊢; clear hr hs hN hL hM he hlm h1
  go_enter Tryd.func25, Tryd.ntmps25
  go_wp2
  go_loopw [17] (fun i wr => ∃ k : Nat, k ≤ N ∧ i = .int .i64 k ∧ Below w.heap.size w wr) (fun i _ => N - (intOf i).toNat)
  case atStart => exact ⟨0, by omega, rfl, Below.refl _ _⟩
  case round =>
    obtain ⟨k, hk, rfl, hbl⟩ := hrel
    by_cases h1 : k < N
    · have h1' : (k : Int) < (N : Int) := by omega
      have hkl : k < L.length := by rw [HN.out]; exact h1
      have hkm : k < M.length := by rw [HNM.out]; exact h1
      obtain ⟨b1, o1, rfl, hbb, c0, c1⟩ := (HR.out.keep hbl).fc k hkl; obtain ⟨b2, o2, rfl, hbb2, d0, d1⟩ := (HS.out.keep hbl).fc k hkm; have hle : SameT L[k] M[k] := by
        have := congrArg (fun z => z[k]?) HE.out; simp [hkl, hkm, Fc.tell] at this; exact this
      have hx := (HL.out _ (List.getElem_mem hkl)).keep hbl; have hy := (HM.out _ (List.getElem_mem hkm)).keep hbl; obtain ⟨hz1, hz2, hz3⟩ := H1.out _ (List.getElem_mem hkl); generalize L[k] = x at *; generalize M[k] = y at *; have HC := Lib.hid (fun W h k => fsame1_same x y hle hz1 hz2 hz3 W h k); have hgl : y.ls.length = x.ls.length := by rw [hle.2]
      dsimp only [Fc.val, Fc.rval, Fc.aval] at c0 c1 d0 d1 HC; have HX := Lib.hid hx; have HY := Lib.hid hy; generalize x.rs.length = n1 at *; generalize y.rs.length = n2 at *; generalize x.ls.length = n3 at *; generalize y.ls.length = n4 at *; generalize x.ra = ra at *; generalize x.rc = rc at *; generalize x.aa = aa at *; generalize x.ac = ac at *; generalize y.ra = ra2 at *; generalize y.rc = rc2 at *; generalize y.aa = aa2 at *; generalize y.ac = ac2 at *; have hx1 := Below.new wr (.cells #[.slice ra n1 rc, .slice aa n3 ac] 51); have hx2 := hx1.alloc (by simp) (.cells #[.slice ra2 n2 rc2, .slice aa2 n4 ac2] 51); have e0 := (hx1.cell (p := ⟨b2, o2 + k * 2, none⟩) hbb2).trans d0; have e1 := (hx1.cell (p := ⟨b2, o2 + k * 2 + 1, none⟩) hbb2).trans d1; obtain ⟨B, hB⟩ : ∃ B, wr.heap.size = B := ⟨_, rfl⟩; have k1 := (Blk.lit wr B [.slice ra n1 rc, .slice aa n3 ac] 51 hB).alloc (.cells #[.slice ra2 n2 rc2, .slice aa2 n4 ac2] 51); have k2 := Blk.lit (wr.alloc (.cells #[.slice ra n1 rc, .slice aa n3 ac] 51)) (B + 1) [.slice ra2 n2 rc2, .slice aa2 n4 ac2] 51 (by simp [hB]); have f0 := k1.cell 0 rfl; have f1 := k1.cell 1 rfl; have g0 := k2.cell 0 rfl; have g1 := k2.cell 1 rfl; clear hx hy hz1 hz2 hz3 hle hgl
      go_wp2_with fail
      refine (HC.out _ (HX.out.keep hx2) (HY.out.keep hx2)).mono ?_; rintro e w1 ⟨rfl, hb1⟩; have hb2 := hbl.trans ((hx2.trans (hb1.mono hx2.size)).mono hbl.size); clear hx1 hx2 e0 e1 hB k1 k2 f0 f1 g0 g1 HC hb1; go_wp2; exact ⟨⟨k + 1, by omega, by go_num, hb2⟩, by simp [intOf]; omega⟩
    · have h1' : ¬ (k : Int) < (N : Int) := by omega
      go_wp2; go_ret; exact ⟨rfl, hbl⟩
set_option maxHeartbeats 800000 in
theorem fsame_same (a b : Option Addr) (ca cb : Nat) (L M : List Fc) (he : L.map Fc.tell = M.map Fc.tell) (hl : L.length ≤ 1000000) (h1 : ∀ f ∈ L, f.rs.length ≤ 1000000 ∧ (∀ r ∈ f.rs, r.l.length ≤ 1000000) ∧ f.ls.length ≤ 1000000) (w : World) (hr : Rd w a (fcs L)) (hs : Rd w b (fcs M)) (hL : ∀ f ∈ L, f.Ok w) (hM : ∀ f ∈ M, f.Ok w) :
    Calls Tryd.prog 11 #[.slice a L.length ca, .slice b M.length cb] w fun e w' => e = .returned (.bool true) ∧ Below w.heap.size w w' := by
  have H := Lib.hid (eqF_same a b ca cb L M he hl h1 w hr hs hL hM); clear hr hs hL hM
  go_enter Tryd.func11, Tryd.ntmps11
  go_wp2_with fail
  refine H.out.mono ?_; rintro e w1 ⟨rfl, hb⟩; go_wp2; go_ret; exact ⟨rfl, hb⟩
end Go.Proofs.YtkfgbjjelcigcaaDoor
