/-
  cover.Near.
-/
import Derived.Test.YtccamjnomjcchaaPk22
import Derived.Test.YtccamjnomjcchaaPk15
import Derived.Test.YtccamjnomjcchaaPk19
import Derived.Test.YtccamjnomjcchaaPk17
/- cover.Near. -/
set_option linter.unusedVariables false
set_option linter.unusedSimpArgs false
set_option maxRecDepth 100000
namespace Go
open Go.RowKit
theorem grownBy_setAt (W : World) (b i : Nat) (v : Value) : W.grownBy (W.setCell ⟨b, i, none⟩ v) (some b) :=
  ⟨rfl, rfl, rfl, by simp [World.setCell], fun k _ hne => Below.heap_setCell _ _ _ _ (fun e => hne (by rw [e]))⟩
theorem wpList_app_at {P : Program} {w : World} {ops : Array Oper} {rest : List Oper} {o : Oper} {a : Act} {Q : Exit → Act → World → Prop} (hgd : o.guard = none) (s x : Operand) (t : TypeId)
    (ho : o.op = .call { callee := .builtin .append, args := #[s, x], argTypes := #[t, t] })
    (base : Nat) (e : TypeId) (z : Value) (size bytes : Nat) (ht : P.underlying t = some (.slice e)) (hinfo : (P.info? e).map (fun i => (i.zero, i.size, i.bytes)) = some (some z, size, bytes))
    (hzs : z.cells.size = size) (hsz : 0 < size)
    (v : Value) (n : Nat) (xs : List Value) (hs : a.eval s = v) (hown : w.ownsRow base e size v n xs)
    (ad : Addr) (m c : Nat) (vs : List Value) (hx : a.eval x = .slice (some ad) m c) (hvs : Rd w (some ad) vs) (hl : vs.length = m * size) (h1 : ∀ u ∈ vs, u.oneCell' = true)
    (hbytes : (n + m) * bytes ≤ 140737488355328) (hb1 : 0 < bytes) (hbase : base ≤ w.heap.size)
    (h : ∀ v' w', w'.ownsRow base e size v' (n + m) (xs ++ vs) → w.grownBy w' v.ownBlock → (v'.ownBlock = v.ownBlock ∨ v'.ownBlock = some w.heap.size) → wpList P ops Q rest (a.put o.dst v') w') : wpList P ops Q (o :: rest) a w :=
  wpList_plain hgd fun K hK => wp_app_at s x t ho base e z size bytes ht hinfo hzs hsz v n xs hs hown ad m c vs hx hvs hl h1 hbytes hb1 hbase fun v' w' h1 h2 h3 => hK _ _ (h v' w' h1 h2 h3)
end Go
namespace Go.Proofs.Ytccamjnomjcchaa
open Go.RowKit
theorem Try.infoIs : (Try.prog.info? 43).map (fun i => (i.zero, i.size, i.bytes)) = some (some (.slice none 0 0), 1, 24) := by kernel_rfl
set_option maxHeartbeats 6400000 in
theorem near_any (a : Option Addr) (c : Nat) (L : List Fc) (hlen : L.length ≤ 90) (hl3 : ∀ f ∈ L, f.rs.length ≤ 1000000) (h2 : (allSd (L.map Fc.rings)).length ≤ 90) (hl2 : ∀ f ∈ L, ∀ r ∈ f.rs, r.l.length ≤ 1000000) (hwf : ∀ s ∈ allSd (L.map Fc.rings), s.a.Wf ∧ s.b.Wf) (hsf : ∀ s ∈ allSd (L.map Fc.rings), s.f < L.length) (w : World) (hr : Rd w a (fcs L)) (hok : ∀ f ∈ L, f.Ok w) :
    Calls Try.prog 19 #[.slice a L.length c] w fun e w' => (∃ v, e = .returned v ∧ NearIs w' w.heap.size v L.length (nearG (allSd (L.map Fc.rings)) (allSd (L.map Fc.rings)))) ∧ Below w.heap.size w w' := by
  have HSC : ∀ W, Below w.heap.size w W → Calls Try.prog 44 #[.slice a L.length c] W fun e w' => ∃ v, e = .returned v ∧ w'.ownsRow W.heap.size 82 6 v (allSd (L.map Fc.rings)).length (sds (allSd (L.map Fc.rings))) ∧ Below W.heap.size W w' := by
    intro W hW; exact fsides_any a c L (by omega) hl3 hl2 (by omega) W (hr.keep hW) (fun f hf => (hok f hf).keep hW)
  replace HSC := Lib.hid HSC; obtain ⟨N, hN⟩ : ∃ N, L.length = N := ⟨_, rfl⟩; rw [hN] at hlen hsf HSC ⊢; obtain ⟨S, hS⟩ : ∃ S, allSd (L.map Fc.rings) = S := ⟨_, rfl⟩; rw [hS] at h2 hwf hsf HSC ⊢; obtain ⟨M, hM⟩ : ∃ M, S.length = M := ⟨_, rfl⟩; have HM := Lib.hid hM; rw [hM] at h2 HSC; have HWF := Lib.hid hwf; have HSF := Lib.hid hsf; have hmm := @run_makeMap Try.prog; have hV0 := VMap.madeB Try.prog 83 Pt2.val w w.heap.size rfl; have hG0 := GRows.made (α := Pt × Pt) 3 1 iCell (w.alloc (.map #[] 0)) (w.heap.size + 1); have hb0 := (Below.refl w.heap.size w).alloc (Nat.le_refl _) (.map #[] 0); have hsz0 : w.heap.size + 1 ≤ (w.alloc (.map #[] 0)).heap.size := by simp
  clear hr hwf hsf hM hS hok hl2 hl3 hN
  go_enter Try.func19, Try.ntmps19
  go_wp2_with fail
  generalize w.alloc (.map #[] 0) = w0 at *; refine (HSC.out w0 hb0).mono ?_; rintro e w1 ⟨v1, rfl, hO1, hb1⟩; obtain ⟨sa1, sc1, rfl, -, -, -, hS1, -⟩ := hO1.form; have HBN : Hid (∀ g, sa1.map (·.block) = some g → w.heap.size < g ∧ g < w1.heap.size) := Lib.hid (fun g hg => by
    have e : (Value.slice sa1 M sc1).ownBlock = some g := by cases sa1 with
      | none => cases hg
      | some a => simpa [Value.ownBlock] using hg
    have := hO1.lt g e; omega)
  have HS1 := Lib.hid hS1; replace hV0 := hV0.keep hb1; replace hG0 := hG0.keep hb1; have hbm0 := hb0.trans (hb1.mono (by omega)); have hb10 : w1.heap.size = w1.heap.size := rfl; have hsz1 := hb1.size
  -- the row of the sides lies apart from the map's rows
  have hG1 : GRows (α := Pt × Pt) 3 1 iCell w1 w1.heap.size (fun _ => none) (fun _ => []) := GRows.made _ _ _ _ _; clear hS1 hO1 hG0 hb10; go_wp2
  go_loopw [18] (fun i wr => ∃ (k : Nat) (f : Pt × Pt → Option Value) (m n : Nat), k ≤ M ∧ i = .int .i64 k ∧ Hid (VMap Try.prog 83 Pt2.val wr w.heap.size f m n) ∧ Hid (GRows 3 1 iCell wr w1.heap.size f (waysF (S.take k))) ∧ n ≤ k ∧ Hid (Rd wr sa1 (sds S)) ∧ w1.heap.size ≤ wr.heap.size ∧ Below w.heap.size w wr) (fun i _ => M - (intOf i).toNat)
  case atStart => exact ⟨0, _, _, _, by omega, rfl, Lib.hid hV0, Lib.hid hG1, by omega, HS1, Nat.le_refl _, hbm0⟩
  case round =>
    obtain ⟨k, f, m, n, hk, rfl, HV, HG, hn, HRS, hsz, hbl⟩ := hrel
    by_cases h1 : k < M
    · have h1' : (k : Int) < (M : Int) := by omega
      have hkl : k < S.length := by rw [HM.out]; exact h1
      obtain ⟨b, off, rfl, hbb, c0, c1, c2, c3, c4, c5⟩ := HRS.out.sd k hkl; have HT : Hid (waysF (S.take (k + 1)) = gput (waysF (S.take k)) (S[k].a, S[k].b) (waysF (S.take k) (S[k].a, S[k].b) ++ [(S[k].f : Int)])) := Lib.hid (by rw [List.take_succ_eq_append_getElem hkl]; exact waysF_snoc _ _); have hwl := waysF_len (S.take k) (S[k].a, S[k].b); obtain ⟨hwa, hwb⟩ := HWF.out _ (List.getElem_mem hkl); have HKY := Lib.hid (k13.pt2Key (S[k].a, S[k].b) hwa hwb); have hwl2 : (waysF (S.take k) (S[k].a, S[k].b)).length ≤ 90 := by rw [List.length_take] at hwl; omega
      generalize S[k] = p at *; obtain ⟨f1, r1, ⟨x1, y1⟩, ⟨x2, y2⟩⟩ := p; dsimp only at c0 c1 c2 c3 c4 c5 HT hwl2 HKY; clear hwl hwa hwb hkl; have hbA : Below wr.heap.size wr (((wr.alloc (.cells #[.int .i64 f1, .int .i64 r1, .int .i64 x1, .int .i64 y1, .int .i64 x2, .int .i64 y2] 82)).alloc (.cells #[.int .i64 x1, .int .i64 y1, .int .i64 x2, .int .i64 y2] 83)).alloc (.cells #[.int .i64 f1] 3)) := ((Below.new wr (.cells #[.int .i64 f1, .int .i64 r1, .int .i64 x1, .int .i64 y1, .int .i64 x2, .int .i64 y2] 82)).alloc (by simp) (.cells #[.int .i64 x1, .int .i64 y1, .int .i64 x2, .int .i64 y2] 83)).alloc (by simp; omega) (.cells #[.int .i64 f1] 3); have HVM := Lib.hid (HV.out.keep hbA); have HGM := Lib.hid (HG.out.keep hbA); have HRM := Lib.hid (HRS.out.keep hbA); have hbM := hbl.trans (hbA.mono hbl.size); have HL := Lib.hid (Rd.lit ((wr.alloc (.cells #[.int .i64 f1, .int .i64 r1, .int .i64 x1, .int .i64 y1, .int .i64 x2, .int .i64 y2] 82)).alloc (.cells #[.int .i64 x1, .int .i64 y1, .int .i64 x2, .int .i64 y2] 83)) (wr.heap.size + 1 + 1) [.int .i64 f1] 3 (by simp)); obtain ⟨st, ob, hrun, hob, hgM, hstore⟩ := HVM.out.entry k13.pt2 Pt2.inj Try.underlying78 (by unfold maxLen; omega) Try.zeroIs HKY.out; obtain ⟨V0, hV0⟩ : ∃ v, (f (⟨x1, y1⟩, ⟨x2, y2⟩)).getD (.slice none 0 0) = v := ⟨_, rfl⟩; rw [hV0] at hrun; have HV0 := Lib.hid hV0; have HST := Lib.hid hstore; have HOB := Lib.hid hob; have HGR := Lib.hid hgM; have hszM : w1.heap.size ≤ (((wr.alloc (.cells #[.int .i64 f1, .int .i64 r1, .int .i64 x1, .int .i64 y1, .int .i64 x2, .int .i64 y2] 82)).alloc (.cells #[.int .i64 x1, .int .i64 y1, .int .i64 x2, .int .i64 y2] 83)).alloc (.cells #[.int .i64 f1] 3)).heap.size := by simp; omega
      have hv0 := ownsRow_other (HGM.out.look (⟨x1, y1⟩, ⟨x2, y2⟩)) hgM (fun r e e2 => by cases e; have := ((HGM.out.look (⟨x1, y1⟩, ⟨x2, y2⟩)).lt _ e2).1; omega); rw [hV0, iCells] at hv0; have hrdL : Rd (Go.ChangeMaps.setBlock (((wr.alloc (.cells #[.int .i64 f1, .int .i64 r1, .int .i64 x1, .int .i64 y1, .int .i64 x2, .int .i64 y2] 82)).alloc (.cells #[.int .i64 x1, .int .i64 y1, .int .i64 x2, .int .i64 y2] 83)).alloc (.cells #[.int .i64 f1] 3)) w.heap.size ob) (some ⟨wr.heap.size + 1 + 1, 0, none⟩) [.int .i64 f1] := HL.out.grown hgM (fun b hb e => by simp at hb; cases e; omega); have hszB := hgM.size; obtain ⟨WB, hWB⟩ : ∃ W, Go.ChangeMaps.setBlock (((wr.alloc (.cells #[.int .i64 f1, .int .i64 r1, .int .i64 x1, .int .i64 y1, .int .i64 x2, .int .i64 y2] 82)).alloc (.cells #[.int .i64 x1, .int .i64 y1, .int .i64 x2, .int .i64 y2] 83)).alloc (.cells #[.int .i64 f1] 3)) w.heap.size ob = W := ⟨_, rfl⟩; rw [hWB] at hrun hob HGR hv0 hrdL hszB hgM; have HOB := Lib.hid hob; have HGR := Lib.hid hgM; have hVs : ∀ r, V0.ownBlock = some r → r ≠ w.heap.size ∧ w1.heap.size ≤ r := fun r hr => by
        have := (hv0.lt r hr).1; omega
      have HVs := Lib.hid hVs; have HV0 := Lib.hid hV0; clear hV0 hstore hob hgM HV HG HRS hbA HL hWB hVs; dsimp only [Pt2.val] at hrun
      go_wp2_with (first | (at_builtin; (refine wpList_app_at rfl (.tmp 29) (.tmp 32) 43 rfl w1.heap.size 3 _ 1 8 Try.underlying43 Try.infoIz rfl (by decide) V0 _ _ rfl hv0 ⟨wr.heap.size + 1 + 1, 0, none⟩ 1 1 [.int .i64 f1] rfl hrdL rfl (ins_one [(f1 : Int)]) (by omega) (by decide) (by omega) ?_; intro v' WC hownC hgC hatC; obtain ⟨WD, hrun2, hVD, hgD⟩ := HST.out WC v' ((hgC.block _ (by have := HVM.out.lt; omega) (fun e => (HVs.out _ e.symm).1 rfl)).trans HOB.out); have HOC := Lib.hid hownC; have HGC := Lib.hid hgC; have HAC := Lib.hid hatC; have HVD := Lib.hid hVD; have HGD := Lib.hid hgD; clear hownC hgC hatC hVD hgD)) | fail)
      have hb0 := HBN.out b rfl; have hrwB := HGM.out.low HGR.out (by omega); have hl2 : ∀ l : List Int, l.length + 1 = (l ++ [(f1 : Int)]).length := fun l => by simp
      have hc2 : ∀ l : List Int, ins l ++ [.int .i64 (f1 : Int)] = (l ++ [(f1 : Int)]).flatMap iCell := fun l => by rw [iCells]; simp [ins]
      have hown := HOC.out; rw [hl2, hc2] at hown; have hrwD := hrwB.step (⟨x1, y1⟩, ⟨x2, y2⟩) (by rw [HV0.out]; exact HGC.out) hown (by rw [HV0.out]; exact HAC.out.imp id (fun e => ⟨_, e, Nat.le_refl _⟩)) HGD.out (by omega); rw [← HT.out] at hrwD; have hrdD := ((HRM.out.grown HGR.out (fun b' hb' e => by simp at hb'; subst hb'; cases e; omega)).grown HGC.out (fun b' hb' e => by simp at hb'; subst hb'; have := (HVs.out _ e.symm).2; omega)).grown HGD.out (fun b' hb' e => by simp at hb'; subst hb'; cases e; omega); have hbD := ((hbM.grown HGR.out (by simp; omega) (fun k e => by cases e; exact Nat.le_refl _)).grown HGC.out (by omega) (fun k e => by have := (HVs.out _ e).2; omega)).grown HGD.out (by have := HGC.out.size; omega) (fun k e => by cases e; exact Nat.le_refl _); have hszD := HGD.out.size; have hszC := HGC.out.size; exact ⟨⟨k + 1, _, _, _, by omega, by go_num, HVD, Lib.hid hrwD, by omega, Lib.hid hrdD, by omega, hbD⟩, by simp [intOf]; omega⟩
    · have h1' : ¬ (k : Int) < (M : Int) := by omega
      obtain ⟨k0, rfl⟩ : ∃ k0, k0 = k := ⟨_, rfl⟩; obtain rfl : k0 = M := by omega
      obtain ⟨wm, rfl⟩ : ∃ x, x = wr := ⟨_, rfl⟩; rw [List.take_of_length_le (by rw [HM.out]; exact Nat.le_refl _)] at HG; obtain ⟨ji, hji, ji0, ji1, ji2⟩ := info_parts Try.infoIs; have hbW := hbl.size; clear HS1 HRS HBN hV0 hG1
      go_wp2_with (first | (at_make; go_must (refine wpList_make_full _ rfl (.tmp 38) (.tmp 38) 41 rfl w.heap.size 43 ji (.slice none 0 0) 1 Try.underlying41 hji ji0 ji1 .i64 .i64 (N : Int) (N : Int) N rfl rfl rfl rfl (by rw [ji2]; omega) (by unfold maxLen; omega) hbW ?_); intro w2 hown2 hgrow2) | fail)
      obtain ⟨OB, hOB⟩ : ∃ n, wm.heap.size = n := ⟨_, rfl⟩; rw [hOB] at hown2 ⊢; have hOBw : w.heap.size ≤ OB := by omega
      have hlt2 : OB < w2.heap.size := (hown2.lt OB rfl).2; have hbo : Below OB wm w2 := ⟨hgrow2.os, hgrow2.tape, hgrow2.output, hgrow2.size, fun i hi => hgrow2.block i (by omega) (by simp)⟩; have hb2 : Below w.heap.size w w2 := hbl.trans (hbo.mono hOBw); refine (HSC.out w2 hb2).mono ?_; rintro e w3 ⟨v3, rfl, hO3, hb3⟩; obtain ⟨sa, sc, rfl, -, -, -, hS3, -⟩ := hO3.form; have HS3 := Lib.hid hS3; have HB3 : Hid (Below OB wm w3) := Lib.hid (hbo.trans (hb3.mono (by omega))); have HBN : Hid (∀ g, sa.map (·.block) = some g → OB < g ∧ g < w3.heap.size) := Lib.hid (fun g hg => by
        have e : (Value.slice sa k0 sc).ownBlock = some g := by cases sa with
          | none => cases hg
          | some a => simpa [Value.ownBlock] using hg
        have := hO3.lt g e; omega)
      have hbk3 : NRows w3 OB w3.heap.size N (List.replicate N (.slice none 0 0)) (fun _ => []) 3 := by
        have hh := hown2.block; rw [made_slices] at hh; have hk : Blk w2 OB (List.replicate N (.slice none 0 0)) := ⟨_, hh⟩; exact ⟨by simp, hk.keep hb3, (NRows.madeG w3 w3.heap.size N 3)⟩
      have HNR := Lib.hid hbk3; have hsz3 := hb3.size; clear hown2 hgrow2 hbo hb2 hO3 hS3 hb3 hbk3 hji ji0 ji1 ji2 HSC
      -- what stands in the map may be read
      have HLK : Hid (∀ k : Pt × Pt, k.1.Wf → k.2.Wf → ∃ va vc, Rd wm va (ins (waysF S k)) ∧ ∀ W, Below OB wm W → (Instr.lookup 78 (.map (some w.heap.size)) (Pt2.val k) false).run Try.prog W = .ok (.slice va (waysF S k).length vc) W) := by
        refine Lib.hid fun k hk1 hk2 => ?_; have h2 := HG.out.look k; have h1 : ∀ W, Below OB wm W → (Instr.lookup 78 (.map (some w.heap.size)) (Pt2.val k) false).run Try.prog W = .ok ((f k).getD (.slice none 0 0)) W := fun W hW => by
          rw [← hOB] at hW; exact (HV.out.keep hW).look k13.pt2 Try.underlying78 (Try.zeroIs W) (k13.pt2Key k hk1 hk2)
        generalize (f k).getD (.slice none 0 0) = V at *; obtain ⟨va, vc, rfl, -, -, -, h3, -⟩ := h2.form; rw [iCells] at h3; exact ⟨va, vc, h3, h1⟩
      have HBL := Lib.hid hbl; clear HV HG hbl; go_wp2
      go_loopw [43] (fun i wr => ∃ (k : Nat) (vals : List Value), k ≤ k0 ∧ i = .int .i64 k ∧ Hid (NRows wr OB w3.heap.size N vals (nearG S (S.take k)) 3) ∧ Hid (Rd wr sa (sds S)) ∧ w3.heap.size ≤ wr.heap.size ∧ Hid (Below OB wm wr)) (fun i _ => k0 - (intOf i).toNat)
      case atStart => exact ⟨0, _, by omega, rfl, HNR, HS3, Nat.le_refl _, HB3⟩
      case round =>
        obtain ⟨t, vals, ht, rfl, HN, HRS, hsz, HBW⟩ := hrel
        --SECOND
        by_cases h1 : t < k0
        · have h1' : (t : Int) < (k0 : Int) := by omega
          have hkl : t < S.length := by rw [HM.out]; exact h1
          obtain ⟨b, off, rfl, hbb, c0, c1, c2, c3, c4, c5⟩ := HRS.out.sd t hkl; have HT : Hid (nearG S (S.take (t + 1)) = gput (nearG S (S.take t)) S[t].f (nearG S (S.take t) S[t].f ++ nearOne S S[t])) := Lib.hid (by rw [List.take_succ_eq_append_getElem hkl]; exact nearG_snoc _ _ _); obtain ⟨hwa, hwb⟩ := HWF.out _ (List.getElem_mem hkl); have hsf := HSF.out _ (List.getElem_mem hkl); obtain ⟨va, vc, hrv, hlk⟩ := HLK.out (S[t].b, S[t].a) hwb hwa; have HGL := Lib.hid (nearG_len S (S.take t) S[t].f); generalize S[t] = p at *; obtain ⟨f1, r1, ⟨x1, y1⟩, ⟨x2, y2⟩⟩ := p; dsimp only [Pt2.val] at c0 c1 c2 c3 c4 c5 HT hsf hlk hrv HGL; have HWL : Hid ((waysF S (⟨x2, y2⟩, ⟨x1, y1⟩)).length ≤ 90) := Lib.hid (by have := waysF_len S (⟨x2, y2⟩, ⟨x1, y1⟩); have := HM.out; omega); have HME := Lib.hid (nearM_end S ⟨f1, r1, ⟨x1, y1⟩, ⟨x2, y2⟩⟩); have HMS : Hid (∀ j f, (waysF S (⟨x2, y2⟩, ⟨x1, y1⟩))[j]? = some f → nearM S ⟨f1, r1, ⟨x1, y1⟩, ⟨x2, y2⟩⟩ (j + 1) = nearM S ⟨f1, r1, ⟨x1, y1⟩, ⟨x2, y2⟩⟩ j ++ if f = (f1 : Int) then [] else [f]) := Lib.hid (fun j f h => nearM_step h); have HM0 := Lib.hid (nearM_zero S ⟨f1, r1, ⟨x1, y1⟩, ⟨x2, y2⟩⟩); have HMLN := Lib.hid (nearM_len S ⟨f1, r1, ⟨x1, y1⟩, ⟨x2, y2⟩⟩); dsimp only at HME; generalize nearM S ⟨f1, r1, ⟨x1, y1⟩, ⟨x2, y2⟩⟩ = NM at *; generalize nearOne S ⟨f1, r1, ⟨x1, y1⟩, ⟨x2, y2⟩⟩ = NO at *; have HGL2 : Hid ((nearG S (S.take t) f1).length ≤ 9000) := Lib.hid (by
            have h := HGL.out; have h3 := HM.out; rw [List.length_take, h3] at h; have h4 : min t k0 * (k0 + 1) ≤ 90 * 91 := Nat.mul_le_mul (by omega) (by omega); omega)
          clear hkl hwa hwb HGL; generalize nearG S (S.take t) = G0 at *; generalize waysF S (⟨x2, y2⟩, ⟨x1, y1⟩) = WL at *; obtain ⟨LW, hLW⟩ : ∃ n, WL.length = n := ⟨_, rfl⟩; have HLW := Lib.hid hLW; rw [hLW] at hlk HWL HME; have HLKW := Lib.hid hlk; have HRV := Lib.hid hrv; obtain ⟨S0, hS0⟩ : ∃ n, wr.heap.size = n := ⟨_, rfl⟩; have hbA := Below.new wr (.cells #[.int .i64 f1, .int .i64 r1, .int .i64 x1, .int .i64 y1, .int .i64 x2, .int .i64 y2] 82); have HK : Hid (TBlk 82 (wr.alloc (.cells #[.int .i64 f1, .int .i64 r1, .int .i64 x1, .int .i64 y1, .int .i64 x2, .int .i64 y2] 82)) S0 [.int .i64 f1, .int .i64 r1, .int .i64 x1, .int .i64 y1, .int .i64 x2, .int .i64 y2]) := Lib.hid (TBlk.lit wr S0 [.int .i64 f1, .int .i64 r1, .int .i64 x1, .int .i64 y1, .int .i64 x2, .int .i64 y2] 82 hS0); have HNA : Hid (NRows (wr.alloc (.cells #[.int .i64 f1, .int .i64 r1, .int .i64 x1, .int .i64 y1, .int .i64 x2, .int .i64 y2] 82)) OB w3.heap.size N vals (gput G0 f1 (G0 f1 ++ NM 0)) 3) := Lib.hid (by rw [HM0.out, List.append_nil, gput_self]; exact HN.out.keep hbA); have HSA := Lib.hid (HRS.out.keep hbA); have HBA := Lib.hid (HBW.out.trans (hbA.mono HBW.out.size |>.mono (by have := HBW.out.size; omega))); have hszA : w3.heap.size ≤ (wr.alloc (.cells #[.int .i64 f1, .int .i64 r1, .int .i64 x1, .int .i64 y1, .int .i64 x2, .int .i64 y2] 82)).heap.size := by simp; omega
          have hlw := HLKW.out _ HBA.out; have hS3 : w3.heap.size ≤ S0 := by omega
          have p0 := HK.out.cell 0 rfl; have p1 := HK.out.cell 1 rfl; have p2 := HK.out.cell 2 rfl; have p3 := HK.out.cell 3 rfl; have p4 := HK.out.cell 4 rfl; have p5 := HK.out.cell 5 rfl; clear hbA HN HRS HBW hlk hrv HLK hLW hsz; generalize hWY : wr.alloc (.cells #[.int .i64 f1, .int .i64 r1, .int .i64 x1, .int .i64 y1, .int .i64 x2, .int .i64 y2] 82) = wq at *; go_wp2; have hLWb := HWL.out
          go_loopw [10, 55] (fun fl i wr => ∃ (j : Nat) (vals : List Value), j ≤ LW ∧ i = .int .i64 j ∧ fl = .bool (decide (NM j = [])) ∧ Hid (NRows wr OB w3.heap.size N vals (gput G0 f1 (G0 f1 ++ NM j)) 3) ∧ Hid (TBlk 82 wr S0 [.int .i64 f1, .int .i64 r1, .int .i64 x1, .int .i64 y1, .int .i64 x2, .int .i64 y2]) ∧ Hid (Rd wr (some ⟨b, off, none⟩) (sds S)) ∧ w3.heap.size ≤ wr.heap.size ∧ Hid (Below OB wm wr)) (fun _ i _ => LW - (intOf i).toNat)
          case atStart => exact ⟨0, vals, by omega, rfl, by rw [HM0.out]; rfl, HNA, HK, HSA, hszA, HBA⟩
          case round =>
            obtain ⟨wy, rfl⟩ : ∃ x, x = wr := ⟨_, rfl⟩; clear p0 p1 p2 p3 p4 p5 HNA HK HSA hszA HBA HLKW hlw; obtain ⟨j, vals, hj, rfl, rfl, HN, HK, HSD, hszy, HBY⟩ := hrel; have HGE : Hid (gput G0 f1 (G0 f1 ++ NM j) f1 = G0 f1 ++ NM j) := Lib.hid (gput_same _ _ _); have HGG : Hid (∀ l, gput (gput G0 f1 (G0 f1 ++ NM j)) f1 l = gput G0 f1 l) := Lib.hid (fun l => gput_gput _ _ _ _); have hgb : (gput G0 f1 (G0 f1 ++ NM j) f1).length ≤ 9200 := by
              rw [gput_same, List.length_append]; have := HGL2.out; have := HMLN.out j; have := HM.out; omega
            generalize gput G0 f1 (G0 f1 ++ NM j) = GN at *
            by_cases h2 : j < LW
            · have h2' : (j : Int) < (LW : Int) := by omega
              have hjl : j < WL.length := by rw [HLW.out]; exact h2
              have hgx : WL[j]? = some WL[j] := List.getElem?_eq_getElem hjl; obtain ⟨rb, ro, hre, cR, hrb⟩ := Rd.at (HRV.out.below HBY.out (by omega)) (i := j) (v := .int .i64 WL[j]) (by simp [ins, hgx]); subst hre; have HMJ := Lib.hid (HMS.out j _ hgx); have q0 := HK.out.cell 0 rfl; generalize WL[j] = x at *; clear hgx hjl
              by_cases h3 : x = (f1 : Int)
              · have HMJ2 : Hid (NM (j + 1) = NM j) := Lib.hid (by rw [HMJ.out, if_pos h3, List.append_nil]); have HN2 : Hid (NRows wy OB w3.heap.size N vals (gput G0 f1 (G0 f1 ++ NM (j + 1))) 3) := Lib.hid (by rw [HMJ2.out, ← HGE.out, ← HGG.out, gput_self]; exact HN.out); have h3' : (x != (f1 : Int)) = false := by simp [h3]
                clear h3; go_wp2; exact ⟨⟨j + 1, vals, by omega, by go_num, by rw [HMJ2.out], HN2, HK, HSD, hszy, HBY⟩, by simp [intOf]; omega⟩
              · have HMJ2 : Hid (NM (j + 1) = NM j ++ [x]) := Lib.hid (by rw [HMJ.out, if_neg h3]); have hdf : decide (NM (j + 1) = []) = false := by rw [HMJ2.out]; simp
                have h3' : (x != (f1 : Int)) = true := by simp [h3]
                clear h3 HMJ; go_wp2; obtain ⟨v, hv⟩ : ∃ v, vals[f1]? = some v := ⟨_, List.getElem?_eq_getElem (by rw [HN.out.1]; omega)⟩; obtain ⟨SW, hSW⟩ : ∃ n, wy.heap.size = n := ⟨_, rfl⟩; have hv0 : wy.drew.ownsRow w3.heap.size 3 1 v (GN f1).length (ins (GN f1)) := by
                  have := HN.out.2.2.own f1 v hv; rw [iCells] at this; exact this
                have HNd : Hid (NRows wy.drew OB w3.heap.size N vals (GN) 3) := Lib.hid (HN.out.keep (Below.refl _ _).drew); have HKd : Hid (TBlk 82 wy.drew S0 [.int .i64 f1, .int .i64 r1, .int .i64 x1, .int .i64 y1, .int .i64 x2, .int .i64 y2]) := HK; have HSDd : Hid (Rd wy.drew (some ⟨b, off, none⟩) (sds S)) := HSD; have HBd : Hid (Below OB wm wy.drew) := Lib.hid HBY.out.drew; have hszd : w3.heap.size ≤ wy.drew.heap.size := hszy; have hS0d : S0 < wy.drew.heap.size := HKd.out.lt; have hOBd : OB < wy.drew.heap.size := by omega
                refine wp_region_lit_txtZ (some 12) [0, 1, 2, 3, 4, 5, 6, 7, 8, 11] (fun W => TBlk 82 W S0 [.int .i64 f1, .int .i64 r1, .int .i64 x1, .int .i64 y1, .int .i64 x2, .int .i64 y2] ∧ Blk W OB vals) (by kernel_rfl) (by kernel_rfl) (by kernel_rfl) (by kernel_rfl) ⟨HKd.out, HNd.out.2.1⟩ ?_; generalize wy.drew = W0 at *; clear HN HK HSD HBY hSW hszy; refine txt_light ?_ rfl rfl ?_ ?_
                rotate_left
                · intro w' hS; have cf := hS.1.cell 0 rfl; clear hS; go_simp
                  try with_reducible rfl
                try simp only [Act.put, List.getElem_toArray, List.getElem_cons_succ, List.getElem_cons_zero, List.setIfInBounds_toArray, List.set_cons_zero, List.set_cons_succ]
                refine txt_light ?_ rfl rfl ?_ ?_
                rotate_left
                · intro w' hS; have cf := hS.1.cell 0 rfl; clear hS; go_simp
                  try with_reducible rfl
                try simp only [Act.put, List.getElem_toArray, List.getElem_cons_succ, List.getElem_cons_zero, List.setIfInBounds_toArray, List.set_cons_zero, List.set_cons_succ]
                refine txt_light ?_ rfl rfl ?_ ?_
                rotate_left
                · intro w' hS; have cf := hS.1.cell 0 rfl; clear hS; go_simp
                  try with_reducible rfl
                try simp only [Act.put, List.getElem_toArray, List.getElem_cons_succ, List.getElem_cons_zero, List.setIfInBounds_toArray, List.set_cons_zero, List.set_cons_succ]
                refine txt_light ?_ rfl rfl ?_ ?_
                rotate_left
                · intro w' hS; have cf := hS.1.cell 0 rfl; clear hS; go_simp
                  try with_reducible rfl
                try simp only [Act.put, List.getElem_toArray, List.getElem_cons_succ, List.getElem_cons_zero, List.setIfInBounds_toArray, List.set_cons_zero, List.set_cons_succ]
                refine txt_light ?_ rfl rfl ?_ ?_
                rotate_left
                · intro w' hS; have cf := hS.1.cell 0 rfl; clear hS; go_simp
                  try with_reducible rfl
                try simp only [Act.put, List.getElem_toArray, List.getElem_cons_succ, List.getElem_cons_zero, List.setIfInBounds_toArray, List.set_cons_zero, List.set_cons_succ]
                refine txt_light ?_ rfl rfl ?_ ?_
                rotate_left
                · intro w' hS; have cf := hS.1.cell 0 rfl; clear hS; go_simp
                  try with_reducible rfl
                try simp only [Act.put, List.getElem_toArray, List.getElem_cons_succ, List.getElem_cons_zero, List.setIfInBounds_toArray, List.set_cons_zero, List.set_cons_succ]
                refine txt_light ?_ rfl rfl ?_ ?_
                rotate_left
                · intro w' hS; have cf := hS.1.cell 0 rfl; clear hS; go_simp
                  try with_reducible rfl
                try simp only [Act.put, List.getElem_toArray, List.getElem_cons_succ, List.getElem_cons_zero, List.setIfInBounds_toArray, List.set_cons_zero, List.set_cons_succ]
                refine txt_light v rfl rfl ?_ ?_
                · intro w' hS; have cv := hS.2.cell f1 hv; clear hS; go_simp
                try simp only [Act.put, List.getElem_toArray, List.getElem_cons_succ, List.getElem_cons_zero, List.setIfInBounds_toArray, List.set_cons_zero, List.set_cons_succ]
                refine txt_light ?_ rfl rfl ?_ ?_
                rotate_left
                · intro w' hS; have cf := hS.1.cell 0 rfl; clear hS; go_simp
                  try with_reducible rfl
                try simp only [Act.put, List.getElem_toArray, List.getElem_cons_succ, List.getElem_cons_zero, List.setIfInBounds_toArray, List.set_cons_zero, List.set_cons_succ]
                refine txt_heavy rfl rfl (fun K hK => ?_); go_step; have hgA := World.grownBy_alloc W0 (.cells #[.int .i64 x] 3) v.ownBlock; have hvn : ∀ r, v.ownBlock = some r → w3.heap.size ≤ r ∧ r < W0.heap.size := fun r hr => hv0.lt r hr; have hk1 : TBlk 82 (W0.alloc (.cells #[.int .i64 x] 3)) S0 [.int .i64 f1, .int .i64 r1, .int .i64 x1, .int .i64 y1, .int .i64 x2, .int .i64 y2] := (HKd.out).keep (Below.new W0 _); have hk2 := HNd.out.2.1.keep (Below.new W0 (.cells #[.int .i64 x] 3)); have hv1 := hv0.below (Below.new W0 (.cells #[.int .i64 x] 3)); have hrl := Rd.lit W0 W0.heap.size [.int .i64 x] 3 rfl; refine hK.out _ _ ⟨hk1, hk2⟩ ?_; clear hK K
                try simp only [Act.put, List.getElem_toArray, List.getElem_cons_succ, List.getElem_cons_zero, List.setIfInBounds_toArray, List.set_cons_zero, List.set_cons_succ]
                have hszA : W0.heap.size ≤ (W0.alloc (.cells #[.int .i64 x] 3)).heap.size := by simp
                have hBA := HBd.out.grown (World.grownBy_alloc W0 (.cells #[.int .i64 x] 3) none) (by omega) (fun k e => by cases e); have hSDA := HSDd.out.keep (Below.new W0 (.cells #[.int .i64 x] 3)); have HNA := Lib.hid (HNd.out); generalize hWA : W0.alloc (.cells #[.int .i64 x] 3) = WA at *; refine txt_heavy rfl rfl (fun K hK => ?_); refine wp_app_at (.tmp 70) (.tmp 72) 43 rfl w3.heap.size 3 _ 1 8 Try.underlying43 Try.infoIz rfl (by decide) v _ _ rfl hv1 ⟨W0.heap.size, 0, none⟩ 1 1 [.int .i64 x] rfl hrl rfl (ins_one [x]) (by omega) (by decide) (by omega) ?_; intro v' WC hownC hgC hatC; have tSI : (82 : TypeId) ≠ 3 := by decide
                have nS0 := ownsRow_ty hv1 hk1 tSI; have hkC : TBlk 82 WC S0 [.int .i64 f1, .int .i64 r1, .int .i64 x1, .int .i64 y1, .int .i64 x2, .int .i64 y2] := hk1.grown hgC (fun e => nS0 e.symm); have hkO : Blk WC OB vals := hk2.grown hgC (fun e => by have := (hvn OB e.symm).1; omega); have hSDC := hSDA.grown hgC (fun b' hb' e => by have := (hvn b' e.symm).1; have := (HBN.out b' hb').2; omega); have hBC := hBA.grown hgC (by omega) (fun k e => by have := (hvn k e).1; omega); have hszC := hgC.size; refine hK.out _ _ ⟨hkC, hkO⟩ ?_; clear hK K
                try simp only [Act.put, List.getElem_toArray, List.getElem_cons_succ, List.getElem_cons_zero, List.setIfInBounds_toArray, List.set_cons_zero, List.set_cons_succ]
                refine txt_light ?_ rfl rfl ?_ ?_
                rotate_left
                · intro w' hS; have cf := hS.1.cell 0 rfl; clear hS; go_simp
                  try with_reducible rfl
                try simp only [Act.put, List.getElem_toArray, List.getElem_cons_succ, List.getElem_cons_zero, List.setIfInBounds_toArray, List.set_cons_zero, List.set_cons_succ]
                obtain ⟨za, zc, hze, -, -, -, -, -⟩ := hownC.form; refine txt_last rfl rfl rfl (fun K hK => ?_); have cv := hkO.cell f1 hv; have cz := hkO.free f1; have hl2 : (GN f1).length + 1 = (GN f1 ++ [x]).length := by simp
                have hc2 : ins (GN f1) ++ [.int .i64 x] = (GN f1 ++ [x]).flatMap iCell := by rw [iCells]; simp [ins]
                rw [hl2, hc2] at hownC; have hgs := grownBy_setAt WC OB f1 v'; have hNE : NRows (WC.setCell ⟨OB, f1, none⟩ v') OB w3.heap.size N (vals.set f1 v') (gput (GN) f1 (GN f1 ++ [x])) 3 := by
                  refine HNA.out.step (by omega) f1 (by omega) hv (hgA.trans hgC) hownC (hatC.imp id (fun e => ⟨_, e, by omega⟩)) hgs (hkO.set f1 v')
                have hkE : TBlk 82 (WC.setCell ⟨OB, f1, none⟩ v') S0 [.int .i64 f1, .int .i64 r1, .int .i64 x1, .int .i64 y1, .int .i64 x2, .int .i64 y2] := hkC.grown hgs (fun e => by cases e; omega); have hSDE := hSDC.grown hgs (fun b' hb' e => by cases e; have := (HBN.out OB hb').1; omega); have hBE := hBC.grown hgs (by omega) (fun k e => by cases e; exact Nat.le_refl _); have hszE := hgs.size; subst hze; have HNE := Lib.hid hNE; have HKE := Lib.hid hkE; have HSE := Lib.hid hSDE; have HBE := Lib.hid hBE; have hszz : w3.heap.size ≤ (WC.setCell ⟨OB, f1, none⟩ (.slice za ((GN f1).length + 1) zc)).heap.size := by omega
                clear hl2 hc2 hNE hkE hSDE hBE hgs hownC hszE hWA hgA hgC hatC hkC hSDC hBC hkO; go_step; refine hK.out _ _ ?_; refine txt_nil ?_; clear hK K cv cz nS0 hk1 hk2 hv1 hrl hSDA hBA HNA HNd HKd HSDd HBd hv0 hvn; go_wp2; exact ⟨⟨j + 1, _, by omega, by go_num, by rw [hdf], by rw [HMJ2.out, ← List.append_assoc, ← HGE.out, ← HGG.out]; exact HNE, HKE, HSE, hszz, HBE⟩, by simp [intOf]; omega⟩
            · have h2' : ¬ (j : Int) < (LW : Int) := by omega
              obtain rfl : j = LW := by omega
              have q0 := HK.out.cell 0 rfl
              by_cases h3 : NM j = []
              · have hdf : decide (NM j = []) = true := by simp [h3]
                have HGE2 : Hid (GN f1 = G0 f1) := Lib.hid (by rw [HGE.out, h3, List.append_nil]); rw [if_pos h3] at HME; rw [hdf]; clear h3 hdf HMS; go_wp2; obtain ⟨v, hv⟩ : ∃ v, vals[f1]? = some v := ⟨_, List.getElem?_eq_getElem (by rw [HN.out.1]; omega)⟩; obtain ⟨SW, hSW⟩ : ∃ n, wy.heap.size = n := ⟨_, rfl⟩; have hv0 : wy.drew.ownsRow w3.heap.size 3 1 v (GN f1).length (ins (GN f1)) := by
                  have := HN.out.2.2.own f1 v hv; rw [iCells] at this; exact this
                have HNd : Hid (NRows wy.drew OB w3.heap.size N vals (GN) 3) := Lib.hid (HN.out.keep (Below.refl _ _).drew); have HKd : Hid (TBlk 82 wy.drew S0 [.int .i64 f1, .int .i64 r1, .int .i64 x1, .int .i64 y1, .int .i64 x2, .int .i64 y2]) := HK; have HSDd : Hid (Rd wy.drew (some ⟨b, off, none⟩) (sds S)) := HSD; have HBd : Hid (Below OB wm wy.drew) := Lib.hid HBY.out.drew; have hszd : w3.heap.size ≤ wy.drew.heap.size := hszy; have hS0d : S0 < wy.drew.heap.size := HKd.out.lt; have hOBd : OB < wy.drew.heap.size := by omega
                refine wp_region_lit_txtZ (some 11) [0, 1, 2, 3, 4, 5, 6, 7, 10] (fun W => TBlk 82 W S0 [.int .i64 f1, .int .i64 r1, .int .i64 x1, .int .i64 y1, .int .i64 x2, .int .i64 y2] ∧ Blk W OB vals) (by kernel_rfl) (by kernel_rfl) (by kernel_rfl) (by kernel_rfl) ⟨HKd.out, HNd.out.2.1⟩ ?_; generalize wy.drew = W0 at *; clear HN HK HSD HBY hSW hszy; refine txt_light ?_ rfl rfl ?_ ?_
                rotate_left
                · intro w' hS; have cf := hS.1.cell 0 rfl; clear hS; go_simp
                  try with_reducible rfl
                try simp only [Act.put, List.getElem_toArray, List.getElem_cons_succ, List.getElem_cons_zero, List.setIfInBounds_toArray, List.set_cons_zero, List.set_cons_succ]
                refine txt_light ?_ rfl rfl ?_ ?_
                rotate_left
                · intro w' hS; have cf := hS.1.cell 0 rfl; clear hS; go_simp
                  try with_reducible rfl
                try simp only [Act.put, List.getElem_toArray, List.getElem_cons_succ, List.getElem_cons_zero, List.setIfInBounds_toArray, List.set_cons_zero, List.set_cons_succ]
                refine txt_light ?_ rfl rfl ?_ ?_
                rotate_left
                · intro w' hS; have cf := hS.1.cell 0 rfl; clear hS; go_simp
                  try with_reducible rfl
                try simp only [Act.put, List.getElem_toArray, List.getElem_cons_succ, List.getElem_cons_zero, List.setIfInBounds_toArray, List.set_cons_zero, List.set_cons_succ]
                refine txt_light ?_ rfl rfl ?_ ?_
                rotate_left
                · intro w' hS; have cf := hS.1.cell 0 rfl; clear hS; go_simp
                  try with_reducible rfl
                try simp only [Act.put, List.getElem_toArray, List.getElem_cons_succ, List.getElem_cons_zero, List.setIfInBounds_toArray, List.set_cons_zero, List.set_cons_succ]
                refine txt_light ?_ rfl rfl ?_ ?_
                rotate_left
                · intro w' hS; have cf := hS.1.cell 0 rfl; clear hS; go_simp
                  try with_reducible rfl
                try simp only [Act.put, List.getElem_toArray, List.getElem_cons_succ, List.getElem_cons_zero, List.setIfInBounds_toArray, List.set_cons_zero, List.set_cons_succ]
                refine txt_light ?_ rfl rfl ?_ ?_
                rotate_left
                · intro w' hS; have cf := hS.1.cell 0 rfl; clear hS; go_simp
                  try with_reducible rfl
                try simp only [Act.put, List.getElem_toArray, List.getElem_cons_succ, List.getElem_cons_zero, List.setIfInBounds_toArray, List.set_cons_zero, List.set_cons_succ]
                refine txt_light ?_ rfl rfl ?_ ?_
                rotate_left
                · intro w' hS; have cf := hS.1.cell 0 rfl; clear hS; go_simp
                  try with_reducible rfl
                try simp only [Act.put, List.getElem_toArray, List.getElem_cons_succ, List.getElem_cons_zero, List.setIfInBounds_toArray, List.set_cons_zero, List.set_cons_succ]
                refine txt_light v rfl rfl ?_ ?_
                · intro w' hS; have cv := hS.2.cell f1 hv; clear hS; go_simp
                try simp only [Act.put, List.getElem_toArray, List.getElem_cons_succ, List.getElem_cons_zero, List.setIfInBounds_toArray, List.set_cons_zero, List.set_cons_succ]
                refine txt_heavy rfl rfl (fun K hK => ?_); go_step; have hgA := World.grownBy_alloc W0 (.cells #[.int .i64 (-1)] 3) v.ownBlock; have hvn : ∀ r, v.ownBlock = some r → w3.heap.size ≤ r ∧ r < W0.heap.size := fun r hr => hv0.lt r hr; have hk1 : TBlk 82 (W0.alloc (.cells #[.int .i64 (-1)] 3)) S0 [.int .i64 f1, .int .i64 r1, .int .i64 x1, .int .i64 y1, .int .i64 x2, .int .i64 y2] := (HKd.out).keep (Below.new W0 _); have hk2 := HNd.out.2.1.keep (Below.new W0 (.cells #[.int .i64 (-1)] 3)); have hv1 := hv0.below (Below.new W0 (.cells #[.int .i64 (-1)] 3)); have hrl := Rd.lit W0 W0.heap.size [.int .i64 (-1)] 3 rfl; refine hK.out _ _ ⟨hk1, hk2⟩ ?_; clear hK K
                try simp only [Act.put, List.getElem_toArray, List.getElem_cons_succ, List.getElem_cons_zero, List.setIfInBounds_toArray, List.set_cons_zero, List.set_cons_succ]
                have hszA : W0.heap.size ≤ (W0.alloc (.cells #[.int .i64 (-1)] 3)).heap.size := by simp
                have hBA := HBd.out.grown (World.grownBy_alloc W0 (.cells #[.int .i64 (-1)] 3) none) (by omega) (fun k e => by cases e); have hSDA := HSDd.out.keep (Below.new W0 (.cells #[.int .i64 (-1)] 3)); have HNA := Lib.hid (HNd.out); generalize hWA : W0.alloc (.cells #[.int .i64 (-1)] 3) = WA at *; refine txt_heavy rfl rfl (fun K hK => ?_); refine wp_app_at (.tmp 84) (.tmp 85) 43 rfl w3.heap.size 3 _ 1 8 Try.underlying43 Try.infoIz rfl (by decide) v _ _ rfl hv1 ⟨W0.heap.size, 0, none⟩ 1 1 [.int .i64 (-1)] rfl hrl rfl (ins_one [(-1 : Int)]) (by omega) (by decide) (by omega) ?_; intro v' WC hownC hgC hatC; have tSI : (82 : TypeId) ≠ 3 := by decide
                have nS0 := ownsRow_ty hv1 hk1 tSI; have hkC : TBlk 82 WC S0 [.int .i64 f1, .int .i64 r1, .int .i64 x1, .int .i64 y1, .int .i64 x2, .int .i64 y2] := hk1.grown hgC (fun e => nS0 e.symm); have hkO : Blk WC OB vals := hk2.grown hgC (fun e => by have := (hvn OB e.symm).1; omega); have hSDC := hSDA.grown hgC (fun b' hb' e => by have := (hvn b' e.symm).1; have := (HBN.out b' hb').2; omega); have hBC := hBA.grown hgC (by omega) (fun k e => by have := (hvn k e).1; omega); have hszC := hgC.size; refine hK.out _ _ ⟨hkC, hkO⟩ ?_; clear hK K
                try simp only [Act.put, List.getElem_toArray, List.getElem_cons_succ, List.getElem_cons_zero, List.setIfInBounds_toArray, List.set_cons_zero, List.set_cons_succ]
                refine txt_light ?_ rfl rfl ?_ ?_
                rotate_left
                · intro w' hS; have cf := hS.1.cell 0 rfl; clear hS; go_simp
                  try with_reducible rfl
                try simp only [Act.put, List.getElem_toArray, List.getElem_cons_succ, List.getElem_cons_zero, List.setIfInBounds_toArray, List.set_cons_zero, List.set_cons_succ]
                obtain ⟨za, zc, hze, -, -, -, -, -⟩ := hownC.form; refine txt_last rfl rfl rfl (fun K hK => ?_); have cv := hkO.cell f1 hv; have cz := hkO.free f1; have hl2 : (GN f1).length + 1 = (GN f1 ++ [(-1 : Int)]).length := by simp
                have hc2 : ins (GN f1) ++ [.int .i64 (-1)] = (GN f1 ++ [(-1 : Int)]).flatMap iCell := by rw [iCells]; simp [ins]
                rw [hl2, hc2] at hownC; have hgs := grownBy_setAt WC OB f1 v'; have hNE : NRows (WC.setCell ⟨OB, f1, none⟩ v') OB w3.heap.size N (vals.set f1 v') (gput (GN) f1 (GN f1 ++ [(-1 : Int)])) 3 := by
                  refine HNA.out.step (by omega) f1 (by omega) hv (hgA.trans hgC) hownC (hatC.imp id (fun e => ⟨_, e, by omega⟩)) hgs (hkO.set f1 v')
                have hkE : TBlk 82 (WC.setCell ⟨OB, f1, none⟩ v') S0 [.int .i64 f1, .int .i64 r1, .int .i64 x1, .int .i64 y1, .int .i64 x2, .int .i64 y2] := hkC.grown hgs (fun e => by cases e; omega); have hSDE := hSDC.grown hgs (fun b' hb' e => by cases e; have := (HBN.out OB hb').1; omega); have hBE := hBC.grown hgs (by omega) (fun k e => by cases e; exact Nat.le_refl _); have hszE := hgs.size; subst hze; have HNE := Lib.hid hNE; have HKE := Lib.hid hkE; have HSE := Lib.hid hSDE; have HBE := Lib.hid hBE; have hszz : w3.heap.size ≤ (WC.setCell ⟨OB, f1, none⟩ (.slice za ((GN f1).length + 1) zc)).heap.size := by omega
                clear hl2 hc2 hNE hkE hSDE hBE hgs hownC hszE hWA hgA hgC hatC hkC hSDC hBC hkO; go_step; refine hK.out _ _ ?_; refine txt_nil ?_; clear hK K cv cz nS0 hk1 hk2 hv1 hrl hSDA hBA HNA HNd HKd HSDd HBd hv0 hvn; go_wp2; exact ⟨⟨t + 1, _, by omega, by go_num, by rw [HT.out, HME, ← HGE2.out, ← HGG.out]; exact HNE, HSE, hszz, HBE⟩, by simp [intOf]; omega⟩
              · have hdf : decide (NM j = []) = false := by simp [h3]
                rw [if_neg h3] at HME; have HN2 : Hid (NRows wy OB w3.heap.size N vals (nearG S (S.take (t + 1))) 3) := Lib.hid (by rw [HT.out, HME, ← HGE.out, ← HGG.out, gput_self]; exact HN.out); rw [hdf]; clear h3 hdf HMS; go_wp2; exact ⟨⟨t + 1, vals, by omega, by go_num, HN2, HSD, hszy, HBY⟩, by simp [intOf]; omega⟩
        · have h1' : ¬ (t : Int) < (k0 : Int) := by omega
          obtain rfl : t = k0 := by omega
          rw [List.take_of_length_le (by rw [HM.out]; exact Nat.le_refl _)] at HN; have HNT := Lib.hid (NearAt.start HN.out (by omega) (fun i => by
            have h := nearG_len S S i; have h3 := HM.out; rw [h3] at h; have h4 : t * (t + 1) ≤ 90 * 91 := Nat.mul_le_mul (by omega) (by omega); omega))
          have HBZ := HBW; clear HLK HRS HS3 HB3 HNR HBN HWF HSF HN h1; go_wp2
          go_loopw [91] (fun i wr => ∃ (k : Nat) (vals : List Value), k ≤ N ∧ i = .int .i64 k ∧ Hid (NearAt wr OB N vals (nearG S S) k) ∧ Hid (Below OB wm wr)) (fun i _ => N - (intOf i).toNat)
          case atStart => exact ⟨0, vals, by omega, rfl, HNT, HBZ⟩
          case round =>
            obtain ⟨k, vals, hk, rfl, HN, HBY⟩ := hrel
            by_cases h2 : k < N
            · have h2' : (k : Int) < (N : Int) := by omega
              obtain ⟨a1, C1, c1, hv, hrd, ha1, hC1, -, hCG⟩ := HN.out.2.2 k h2; have hcg := hCG (Nat.le_refl _); have cv := HN.out.2.1.cell k hv; have HU := Lib.hid (uuniq_any a1 c1 C1 hC1 wr hrd); rw [hcg] at HU hC1 cv; have HC1 := Lib.hid hC1; clear hcg hCG hrd ha1 hv hC1; generalize (nearG S S k).length = LC at *
              go_wp2_with fail
              refine HU.out.mono ?_; rintro e wu ⟨v, rfl, ⟨C, hp, hm, hl, hO⟩, hbu⟩; obtain ⟨ua, uc, rfl, -, -, -, hur, -⟩ := hO.form; have hul := hO.lt; have hOBl := HN.out.2.1.lt; have HN2 := HN.out.keep hbu; have cz := HN2.2.1.free k; obtain ⟨vk, hv2⟩ : ∃ u, vals[k]? = some u := ⟨_, List.getElem?_eq_getElem (by rw [HN2.1]; exact h2)⟩; have cy := HN2.2.1.cell k hv2; have HN3 := Lib.hid (HN2.step h2 (c := uc) hur (fun g hg => by
                have e : (Value.slice ua C.length uc).ownBlock = some g := by cases ua with
                  | none => cases hg
                  | some a => simpa [Value.ownBlock] using hg
                have := (hul g e).1; omega) hp hm (by have := HC1.out; omega))
              have HB3 := Lib.hid ((HBY.out.trans (hbu.mono (by omega))).setCell (p := ⟨OB, k, none⟩) (Nat.le_refl _) (.slice ua C.length uc)); clear hur hO hul hp hm hl HN2 hbu HU HC1 HN; generalize C.length = CL at *; go_wp2; exact ⟨⟨k + 1, _, by omega, by go_num, HN3, HB3⟩, by simp [intOf]; omega⟩
            · have h2' : ¬ (k : Int) < (N : Int) := by omega
              obtain rfl : k = N := by omega
              have hz := NearAt.done HN.out hOBw; have hbz := HBL.out.trans (HBY.out.mono hOBw); go_wp2; refine bodyPost_ret (v := .slice (some ⟨OB, 0, none⟩) k k) (by simp [results, Try.results19, go_sem]) rfl ⟨⟨_, rfl, hz⟩, hbz⟩
end Go.Proofs.Ytccamjnomjcchaa
