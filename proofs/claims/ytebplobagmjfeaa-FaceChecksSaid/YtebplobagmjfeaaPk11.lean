/-
  graticulelaw12.Few. graticulelaw12.Cut. The shoelace: plain.
-/
import Derived.Test.YtebplobagmjfeaaPk10
import Derived.Test.YtebplobagmjfeaaPk9
import Derived.Test.YtebplobagmjfeaaPk5
/- graticulelaw12.Few. -/
set_option linter.unusedVariables false
set_option linter.unusedSimpArgs false
set_option maxRecDepth 100000
namespace Go
open Go.RowKit
/-- What is told of a face. -/
structure Fp where
  rings : List (List Pt)
  ls : List At
def Fc.plain (f : Fc) : Fp := ⟨f.rings, f.ls⟩
def fewStep (most : Nat) (s : List (List Pt) × Nat) (r : List Pt) : List (List Pt) × Nat := (s.1 ++ [r.take (most - s.2)], s.2 + (r.take (most - s.2)).length)
def fewRs (most p : Nat) (l : List (List Pt)) : List (List Pt) × Nat := l.foldl (fewStep most) ([], p)
def fewStepF (most : Nat) (s : List Fp × Nat) (f : Fp) : List Fp × Nat := (s.1 ++ [⟨(fewRs most s.2 (f.rings.take 8)).1, (f.ls.take 10).map cutA⟩], (fewRs most s.2 (f.rings.take 8)).2)
def fewFs (most : Nat) (l : List Fp) : List Fp × Nat := l.foldl (fewStepF most) ([], 0)
/-- Few faces. -/
def fewF (most : Nat) (l : List Fp) : List Fp := (fewFs most (l.take 10)).1
theorem fewRs_snoc (most p : Nat) (l : List (List Pt)) (r : List Pt) : fewRs most p (l ++ [r]) = fewStep most (fewRs most p l) r := by simp [fewRs, List.foldl_append]
theorem fewFs_snoc (most : Nat) (l : List Fp) (f : Fp) : fewFs most (l ++ [f]) = fewStepF most (fewFs most l) f := by simp [fewFs, List.foldl_append]
theorem fewRs_le (most p : Nat) (hp : p ≤ most) (l : List (List Pt)) : (fewRs most p l).2 ≤ most := by
  have key : ∀ (l : List (List Pt)) (s : List (List Pt) × Nat), s.2 ≤ most → (l.foldl (fewStep most) s).2 ≤ most := by
    intro l
    induction l with
    | nil => intro s h; exact h
    | cons r l ih =>
      intro s h
      refine ih _ ?_
      simp only [fewStep, List.length_take]
      omega
  exact key l _ hp
theorem fewFs_le (most : Nat) (l : List Fp) : (fewFs most l).2 ≤ most := by
  have key : ∀ (l : List Fp) (s : List Fp × Nat), s.2 ≤ most → (l.foldl (fewStepF most) s).2 ≤ most := by
    intro l
    induction l with
    | nil => intro s h; exact h
    | cons r l ih =>
      intro s h
      exact ih _ (fewRs_le most _ h _)
  exact key l _ (Nat.zero_le _)
/-- A face as it comes in. -/
def Fc.In (W : World) (f : Fc) : Prop := f.Ok W ∧ ∀ x ∈ f.ls, AtOk x
end Go
namespace Go
open Go.RowKit
theorem ownsRow_box {W : World} {base : Nat} {e T : TypeId} {size n B : Nat} {v : Value} {xs : List Value} {cs : Array Value} (h : W.ownsRow base e size v n xs) (hk : W.heap[B]? = some (.cells cs T (0, 0))) (hT : T ≠ e) (i : Nat) (u : Value) : (W.setCell ⟨B, i, none⟩ u).ownsRow base e size v n xs := by
  refine h.kept (row := some B) ⟨rfl, rfl, rfl, by simp [World.setCell], fun k _ hk => Below.heap_setCell W ⟨B, i, none⟩ u k (fun e => hk (by rw [e]))⟩ ?_
  rcases h.2 with ⟨rfl, _⟩ | ⟨g, cap, cur, rfl, _, hgb, _⟩
  · exact .inl rfl
  · refine .inr fun e' => ?_
    obtain rfl : g = B := by simpa [Value.ownBlock] using e'
    rw [hk] at hgb
    cases hgb
    exact hT rfl
end Go
namespace Go.Proofs.Ytebplobagmjfeaa
open Go.RowKit

set_option maxHeartbeats 12800000 in
theorem few_any (a : Option Addr) (c : Nat) (l : List Fc) (hlc : l.length ≤ c) (hcm : c ≤ maxLen) (most : Nat) (hmo : most ≤ 1000000) (w : World) (hr : Rd w a (fcs l)) (hok : ∀ f ∈ l, f.In w) :
    Calls Try.prog 16 #[.slice a l.length c, .int .i64 (most : Int)] w fun e w' => ∃ (fs : List Fc) (v : Value), e = .returned v ∧ w'.ownsRow w.heap.size 49 2 v fs.length (fcs fs) ∧ (∀ f ∈ fs, FcT w' f) ∧ fs.map Fc.plain = fewF most (l.map Fc.plain) ∧ Below w.heap.size w w' := by
  have HCUT := Lib.hid (fun (f : Fc) (hf : f ∈ l) (W : World) (h : Rd W f.aa (ats f.ls)) => cut11_any f.aa f.ac f.ls (hok f hf).1.2.2.2.1 (hok f hf).1.2.2.2.2.1 (hok f hf).2 W h)
  have HOK := Lib.hid hok
  have HR := Lib.hid hr
  unfold maxLen at hcm
  obtain ⟨N, hN⟩ : ∃ N, l.length = N := ⟨_, rfl⟩
  have HN := Lib.hid hN
  rw [hN] at hlc ⊢
  have HFE : Hid (fewF most (l.map Fc.plain) = (fewFs most ((l.take 10).map Fc.plain)).1) := Lib.hid (by unfold fewF; rw [List.map_take])
  generalize fewF most (l.map Fc.plain) = RES at *
  clear hr hN hok
  go_enter Try.func16, Try.ntmps16
  go_wp2
  go_loopw [5, 6, 7] (fun o p i wr => ∃ (k : Nat) (fs : List Fc) (pn : Nat), k ≤ N ∧ k ≤ 10 ∧ i = .int .i64 k ∧ p = .int .i64 pn ∧ fs.length = k ∧ Hid (fewFs most ((l.take k).map Fc.plain) = (fs.map Fc.plain, pn)) ∧ pn ≤ most ∧ wr.ownsRow w.heap.size 49 2 o k (fcs fs) ∧ Hid (∀ f ∈ fs, FcT wr f) ∧ Below w.heap.size w wr) (fun _ _ i _ => 10 - (intOf i).toNat)
  case atStart => exact ⟨0, [], 0, by omega, by omega, rfl, rfl, rfl, Lib.hid rfl, by omega, World.ownsRow_nil _ _ _ _, Lib.hid (by simp), Below.refl _ _⟩
  case round =>
    obtain ⟨i, fs, pn, hi, hi10, rfl, rfl, hfl, HST, hpm, ho, HFT, hbl⟩ := hrel
    by_cases hlt : i < N ∧ i < 10
    · obtain ⟨h1, h2⟩ := hlt
      have h1' : (i : Int) < (N : Int) := by omega
      have h2' : (i : Int) < 10 := by omega
      have hil : i < l.length := by rw [HN.out]; exact h1
      obtain ⟨b1, o1, rfl, hbb, c0, c1⟩ := (HR.out.keep hbl).fc i hil
      have HIN := Lib.hid (HOK.out l[i] (List.getElem_mem hil))
      have HCT := Lib.hid (fun (W : World) (h : Rd W (l[i]'hil).aa (ats (l[i]'hil).ls)) => HCUT.out (l[i]'hil) (List.getElem_mem hil) W h)
      have HSN : Hid (fewFs most ((l.take (i + 1)).map Fc.plain) = fewStepF most (fewFs most ((l.take i).map Fc.plain)) l[i].plain) := Lib.hid (by
        rw [List.take_succ_eq_append_getElem hil, List.map_append, List.map_singleton, fewFs_snoc])
      generalize l[i] = f at *
      obtain ⟨rs, ra, rc, ls, aa, ac⟩ := f
      dsimp only [Fc.rval, Fc.aval] at c0 c1 HCT
      go_wp2_with fail
      refine (HCT.out _ (HIN.out.1.2.2.1.keep hbl)).mono ?_
      rintro e wB ⟨va, rfl, hoa, hxB⟩
      try dsimp only at hoa
      have hcu : ∀ x ∈ (ls.take 10).map cutA, AtOk x := fun x hx => by
        obtain ⟨y, -, rfl⟩ := List.mem_map.1 hx
        exact cutA_ok y
      obtain ⟨AL, hAL⟩ : ∃ A, (ls.take 10).map cutA = A := ⟨_, rfl⟩
      have HAL := Lib.hid hAL
      rw [hAL] at hoa
      obtain ⟨AN, hAN⟩ : ∃ A, AL.length = A := ⟨_, rfl⟩
      have HAN := Lib.hid hAN
      rw [hAN] at hoa
      clear hAL hAN hcu HCT
      obtain ⟨aa2, ac2, rfl, hac1, hac2, hac3, har, -⟩ := hoa.form
      have hat := TypB.of_owns hoa
      have hsr := hbl.size
      have hsB := hxB.size
      have hoB := ho.below hxB
      have HFB : Hid (∀ f ∈ fs, FcT wB f) := Lib.hid (fun f hf => (HFT.out f hf).keep hxB)
      have hblB := hbl.trans (hxB.mono hsr)
      have kF : (wB.alloc (.cells #[.slice none 0 0, .slice aa2 AN ac2] 49)).heap[wB.heap.size]? = some (.cells #[.slice none 0 0, .slice aa2 AN ac2] 49 (0, 0)) := heap_alloc_new wB _
      have hbC := Below.new wB (.cells #[.slice none 0 0, .slice aa2 AN ac2] 49)
      have cB0 := (hxB.cell (p := ⟨b1, o1 + i * 2, none⟩) hbb).trans c0
      have hbB : b1 < wB.heap.size := by omega
      have hsB' : w.heap.size ≤ wB.heap.size := hblB.size
      clear ho HFT
      obtain ⟨RN, hRN⟩ : ∃ R, rs.length = R := ⟨_, rfl⟩
      have HRN := Lib.hid hRN
      have hrc := HIN.out.1.1.2
      dsimp only at hrc
      rw [hRN] at cB0 hrc
      clear hRN
      unfold maxLen at hrc
      go_wp2
      go_loopw [6, 9] (fun p k W => ∃ (j : Nat) (q : List PC) (pm : Nat) (v : Value), j ≤ RN ∧ j ≤ 8 ∧ k = .int .i64 j ∧ p = .int .i64 pm ∧ q.length = j ∧ Hid (fewRs most pn ((rs.take j).map PC.l) = (q.map PC.l, pm)) ∧ pm ≤ most ∧ Hid (W.heap[wB.heap.size]? = some (.cells #[v, .slice aa2 AN ac2] 49 (0, 0))) ∧ W.ownsRow wB.heap.size 65 1 v j (rcs q) ∧ Hid (∀ r ∈ q, PcT W r) ∧ Below wB.heap.size wB W) (fun _ k _ => 8 - (intOf k).toNat)
      case atStart => exact ⟨0, [], pn, .slice none 0 0, by omega, by omega, rfl, rfl, rfl, Lib.hid rfl, hpm, Lib.hid kF, World.ownsRow_nil _ _ _ _, Lib.hid (by simp), hbC⟩
      case round =>
        obtain ⟨j, q, pm, v, hj, hj8, rfl, rfl, hql, HSR, hpm2, HKF, hor, HPT, hbr⟩ := hrel
        have e0 := (hbr.cell (p := ⟨b1, o1 + i * 2, none⟩) hbB).trans cB0
        by_cases hlr : j < RN ∧ j < 8
        · obtain ⟨r1, r2⟩ := hlr
          have r1' : (j : Int) < (RN : Int) := by omega
          have r2' : (j : Int) < 8 := by omega
          have hjl : j < rs.length := by rw [HRN.out]; exact r1
          have hbw := hblB.trans (hbr.mono hsB')
          obtain ⟨b2, o2, rfl, hb2, d0⟩ := (HIN.out.1.1.1.keep hbw).rc j hjl
          have HRO := Lib.hid ((HIN.out.1.2.1 _ (List.getElem_mem hjl)).keep hbw)
          have HRS : Hid (fewRs most pn ((rs.take (j + 1)).map PC.l) = fewStep most (fewRs most pn ((rs.take j).map PC.l)) rs[j].l) := Lib.hid (by
            rw [List.take_succ_eq_append_getElem hjl, List.map_append, List.map_singleton, fewRs_snoc])
          generalize rs[j] = R at *
          obtain ⟨L, Rp, Rc⟩ := R
          obtain ⟨LN, hLN⟩ : ∃ R, L.length = R := ⟨_, rfl⟩
          have HLN := Lib.hid hLN
          have q1 := HRO.out.2.1
          have q2 := HRO.out.2.2.1
          dsimp only [PC.val] at d0 q1 q2
          rw [hLN] at d0 q1
          clear hLN
          unfold maxLen at q2
          obtain ⟨MN, hMN⟩ : ∃ z : Nat, min (most - pm) LN = z := ⟨_, rfl⟩
          have hz0 : (if ((most : Int) - (pm : Int)) < (LN : Int) then ((most : Int) - (pm : Int)) else (LN : Int)) = (MN : Int) := by split <;> omega
          have HMN := Lib.hid hMN
          have q3 : (MN : Int) ≤ LN := by omega
          have q4 : MN ≤ most - pm := by omega
          clear hMN
          go_wp2
          refine wp_region_lit_txtZ (some 8) [0, 1, 3, 7] (fun W => W.heap[wB.heap.size]? = some (.cells #[v, .slice aa2 AN ac2] 49 (0, 0)) ∧ Below wB.heap.size wB W) (by kernel_rfl) (by kernel_rfl) (by kernel_rfl) (by kernel_rfl) ⟨HKF.out, hbr.drew⟩ ?_
          (refine txt_light ?_ rfl rfl ?_ ?_; rotate_left; · (intro w' hS; (try dsimp only at hS); go_simp; with_reducible rfl)); try simp only [Act.put, List.getElem_toArray, List.getElem_cons_succ, List.getElem_cons_zero, List.setIfInBounds_toArray, List.set_cons_zero, List.set_cons_succ]
          refine txt_light (v) rfl rfl ?_ ?_
          · intro w' hS
            obtain ⟨hS1, hS2⟩ := hS
            have c7 : w'.cell? ⟨wB.heap.size, 0, none⟩ = some v := by simp [World.cell?, hS1]
            clear hS1
            go_simp
          try simp only [Act.put, List.getElem_toArray, List.getElem_cons_succ, List.getElem_cons_zero, List.setIfInBounds_toArray, List.set_cons_zero, List.set_cons_succ]
          have HK0 : Hid (wr.drew.heap[wB.heap.size]? = some (.cells #[v, .slice aa2 AN ac2] 49 (0, 0))) := HKF
          have hbd : Below wB.heap.size wB wr.drew := hbr.drew
          have hor0 : wr.drew.ownsRow wB.heap.size 65 1 v j (rcs q) := hor
          have HP0 : Hid (∀ r ∈ q, PcT wr.drew r) := HPT
          have hrL : Rd wr.drew Rp (pts (L.take MN)) := by
            have := HRO.out.1.take (MN * 2)
            rw [pts_take] at this
            exact this
          have hRN0 : Rp = none → Rc = 0 := HRO.out.2.2.2
          clear hor HKF HPT hbr e0 d0
          generalize wr.drew = W0 at *
          refine txt_heavy rfl rfl (fun K hK => ?_)
          go_step
          have hlW : wB.heap.size < W0.heap.size := (Array.getElem?_eq_some_iff.1 HK0.out).1
          have hb1 := hbd.alloc (by omega) (.cells #[] 37)
          have k1 : (W0.alloc (.cells #[] 37)).heap[wB.heap.size]? = some (.cells #[v, .slice aa2 AN ac2] 49 (0, 0)) := (Below.heap_alloc _ _ _ hlW).trans HK0.out
          have hr1 := hrL.keep (Below.new W0 (.cells #[] 37))
          have ho1 : (W0.alloc (.cells #[] 37)).ownsRow W0.heap.size 37 2 (.slice (some ⟨W0.heap.size, 0, none⟩) 0 0) 0 [] := World.ownsRow_lit W0 #[] 0 (Nat.le_refl _) (by decide) rfl
          have hlt : (L.take MN).length = MN := by rw [List.length_take, HLN.out]; omega
          refine hK.out _ _ ⟨k1, hb1⟩ ?_
          clear hK K
          try simp only [Act.put, List.getElem_toArray, List.getElem_cons_succ, List.getElem_cons_zero, List.setIfInBounds_toArray, List.set_cons_zero, List.set_cons_succ]
          (refine txt_light ?_ rfl rfl ?_ ?_; rotate_left; · (intro w' hS; (try dsimp only at hS); go_simp; with_reducible rfl)); try simp only [Act.put, List.getElem_toArray, List.getElem_cons_succ, List.getElem_cons_zero, List.setIfInBounds_toArray, List.set_cons_zero, List.set_cons_succ]
          refine txt_app W0 (Below.new W0 (.cells #[] 37)) rfl rfl (.tmp 60) (.tmp 61) 65 rfl 37 (.agg #[.int .i64 0, .int .i64 0]) 2 16 Try.underlying65 Try.infoPnt rfl (by decide) (.slice (some ⟨W0.heap.size, 0, none⟩) 0 0) 0 [] rfl ho1 Rp MN Rc (pts (L.take MN)) rfl hRN0 hr1 (by rw [pts_len, hlt]) (pts_one _) (by omega) (by decide) ?_
          intro v2 W2 ho2 hg2 hb2
          rw [Nat.zero_add, List.nil_append] at ho2
          have HK2 : Hid (W2.heap[wB.heap.size]? = some (.cells #[v, .slice aa2 AN ac2] 49 (0, 0))) := Lib.hid ((hb2.block _ hlW).trans HK0.out)
          have hbd2 := hbd.trans (hb2.mono hbd.size)
          refine ⟨⟨HK2.out, hbd2⟩, ?_⟩
          have hor2 := hor0.below hb2
          have HP2 : Hid (∀ r ∈ q, PcT W2 r) := Lib.hid (fun r hr => (HP0.out r hr).keep hb2)
          obtain ⟨p2, k2, rfl, f1, f2, f3, f4, -⟩ := ho2.form
          have HPN : Hid (PcT W2 ⟨L.take MN, p2, k2⟩) := Lib.hid ⟨⟨f4, by dsimp only; omega, f2, f3⟩, TypB.of_owns ho2⟩
          clear k1 hb1 hr1 ho1 hg2 hrL hor0 HK0 HP0
          try simp only [Act.put, List.getElem_toArray, List.getElem_cons_succ, List.getElem_cons_zero, List.setIfInBounds_toArray, List.set_cons_zero, List.set_cons_succ]
          refine txt_heavy rfl rfl (fun K hK => ?_)
          go_step
          have hlX : wB.heap.size < W2.heap.size := (Array.getElem?_eq_some_iff.1 HK2.out).1
          have hb3 := hbd2.alloc (by omega) (.cells #[.slice p2 MN k2] 65)
          have hx3 := Below.new W2 (.cells #[.slice p2 MN k2] 65)
          have k3 : (W2.alloc (.cells #[.slice p2 MN k2] 65)).heap[wB.heap.size]? = some (.cells #[v, .slice aa2 AN ac2] 49 (0, 0)) := (Below.heap_alloc _ _ _ hlX).trans HK2.out
          have rd := Rd.lit W2 W2.heap.size [.slice p2 MN k2] 65 rfl
          have hor3 := hor2.below hx3
          have HP3 : Hid (∀ r ∈ q, PcT (W2.alloc (.cells #[.slice p2 MN k2] 65)) r) := Lib.hid (fun r hr => (HP2.out r hr).keep hx3)
          have HPN3 := Lib.hid (HPN.out.keep hx3)
          have HK3 := Lib.hid k3
          refine hK.out _ _ ⟨k3, hb3⟩ ?_
          clear hK K k3 hx3 ho2 hor2 HP2 HPN HK2 hbd2 hb2 hlX
          generalize W2.alloc (.cells #[.slice p2 MN k2] 65) = W3 at *
          try simp only [Act.put, List.getElem_toArray, List.getElem_cons_succ, List.getElem_cons_zero, List.setIfInBounds_toArray, List.set_cons_zero, List.set_cons_succ]
          refine txt_app wB hb3 rfl rfl (.tmp 59) (.tmp 63) 46 rfl 65 (.slice none 0 0) 1 24 Try.underlying46 Try.infoRow rfl (by decide) v j (rcs q) rfl hor3 (some ⟨W2.heap.size, 0, none⟩) 1 1 [.slice p2 MN k2] rfl (fun h => by cases h) rd rfl (by simp [Value.oneCell']) (by omega) (by decide) ?_
          intro v3 W4 ho4 hg4 hb4
          have HK4 : Hid (W4.heap[wB.heap.size]? = some (.cells #[v, .slice aa2 AN ac2] 49 (0, 0))) := Lib.hid (((KeepS.of_row (S := fun T => T = 49) hor3 (by decide) hg4).2 _ _ _ _ HK3.out rfl).trans HK3.out)
          have HKS := Lib.hid (KeepS.of_row (S := fun T => T = 37) hor3 (by decide) hg4)
          have HP4 : Hid (∀ r ∈ q ++ [⟨L.take MN, p2, k2⟩], PcT W4 r) := Lib.hid (fun r hr => by
            rcases List.mem_append.1 hr with hr | hr
            · exact (HP3.out r hr).keepS (S := fun T => T = 37) rfl HKS.out
            · rw [List.mem_singleton.1 hr]; exact HPN3.out.keepS (S := fun T => T = 37) rfl HKS.out)
          have hqc : rcs q ++ [.slice p2 MN k2] = rcs (q ++ [⟨L.take MN, p2, k2⟩]) := by rw [rcs_snoc]; simp [PC.val, hlt]
          rw [hqc] at ho4
          obtain ⟨p3, k3, rfl, -⟩ := ho4.form
          refine ⟨⟨HK4.out, hb4⟩, ?_⟩
          clear hor3 HP3 HPN3 HK3 HKS hg4 rd hb3 hqc
          try simp only [Act.put, List.getElem_toArray, List.getElem_cons_succ, List.getElem_cons_zero, List.setIfInBounds_toArray, List.set_cons_zero, List.set_cons_succ]
          (refine txt_light ?_ rfl rfl ?_ ?_; rotate_left; · (intro w' hS; (try dsimp only at hS); go_simp; with_reducible rfl)); try simp only [Act.put, List.getElem_toArray, List.getElem_cons_succ, List.getElem_cons_zero, List.setIfInBounds_toArray, List.set_cons_zero, List.set_cons_succ]
          refine txt_last rfl rfl rfl (fun K hK => ?_)
          have c7 : W4.cell? ⟨wB.heap.size, 0, none⟩ = some v := by simp [World.cell?, HK4.out]
          have c8 : W4.frozen? ⟨wB.heap.size, 0, none⟩ = false := by simp [World.frozen?, HK4.out]
          go_step
          refine hK.out _ _ ?_
          refine txt_nil ?_
          have HK5 : Hid ((W4.setCell ⟨wB.heap.size, 0, none⟩ (.slice p3 (j + 1) k3)).heap[wB.heap.size]? = some (.cells #[.slice p3 (j + 1) k3, .slice aa2 AN ac2] 49 (0, 0))) := Lib.hid (blkT_set (vs := [v, .slice aa2 AN ac2]) HK4.out 0 _)
          have ho5 := ownsRow_box ho4 HK4.out (by decide) 0 (.slice p3 (j + 1) k3)
          have HP5 : Hid (∀ r ∈ q ++ [⟨L.take MN, p2, k2⟩], PcT (W4.setCell ⟨wB.heap.size, 0, none⟩ (.slice p3 (j + 1) k3)) r) := Lib.hid (fun r hr => (HP4.out r hr).keepS (S := fun T => T = 37) rfl (KeepS.store HK4.out (by decide) _))
          have hb5 := hb4.setCell (p := ⟨wB.heap.size, 0, none⟩) (Nat.le_refl _) (.slice p3 (j + 1) k3)
          have HSQ : Hid (fewRs most pn ((rs.take (j + 1)).map PC.l) = ((q ++ [(⟨L.take MN, p2, k2⟩ : PC)]).map PC.l, pm + MN)) := Lib.hid (by
            have ht : L.take (most - pm) = L.take MN := by
              rw [← HMN.out, ← HLN.out]
              by_cases h : most - pm ≤ L.length
              · rw [Nat.min_eq_left h]
              · rw [Nat.min_eq_right (by omega), List.take_length, List.take_of_length_le (by omega)]
            rw [HRS.out, HSR.out]
            simp [fewStep, ht, hlt])
          have hql5 : (q ++ [(⟨L.take MN, p2, k2⟩ : PC)]).length = j + 1 := by simp [hql]
          clear hK K c7 c8 ho4 HP4 hb4 HK4 HRS HSR HRO hlt HMN HLN hRN0 f1 f2 f3 f4 hz0 hbd
          generalize q ++ [(⟨L.take MN, p2, k2⟩ : PC)] = q5 at *
          generalize W4.setCell ⟨wB.heap.size, 0, none⟩ (.slice p3 (j + 1) k3) = W5 at *
          go_wp2
          exact ⟨⟨j + 1, q5, pm + MN, .slice p3 (j + 1) k3, by omega, by omega, by go_num, by go_num, hql5, HSQ, by omega, HK5, ho5, HP5, hb5⟩, by simp [intOf]; omega⟩
          trace_state
          done
        · obtain ⟨p3, k3, rfl, g1, g2, g3, g4, -⟩ := hor.form
          have e6 : wr.cell? ⟨wB.heap.size, 0, none⟩ = some (.slice p3 j k3) := by simp [World.cell?, HKF.out]
          have e7 : wr.cell? ⟨wB.heap.size, 0 + 1, none⟩ = some (.slice aa2 AN ac2) := by simp [World.cell?, HKF.out]
          have HTK : Hid (rs.take j = rs.take 8) := Lib.hid (by
            by_cases h8 : j = 8
            · rw [h8]
            · rw [List.take_of_length_le (by rw [HRN.out]; omega), List.take_of_length_le (by rw [HRN.out]; omega)])
          have hbw := hblB.trans (hbr.mono hsB')
          have hoX := hoB.below hbr
          have HFC : Hid (fcs fs ++ [.slice p3 j k3, .slice aa2 AN ac2] = fcs (fs ++ [⟨q, p3, k3, AL, aa2, ac2⟩])) := Lib.hid (by
            rw [fcs_snoc]
            simp [Fc.cells, Fc.rval, Fc.aval, hql, HAN.out])
          have HSX : Hid (fewFs most ((l.take (i + 1)).map Fc.plain) = ((fs ++ [(⟨q, p3, k3, AL, aa2, ac2⟩ : Fc)]).map Fc.plain, pm)) := Lib.hid (by
            have e : fewRs most pn ((rs.map PC.l).take 8) = (q.map PC.l, pm) := by rw [← List.map_take, ← HTK.out]; exact HSR.out
            rw [HSN.out, HST.out]
            simp only [fewStepF, Fc.plain, Fc.rings, e, HAL.out, List.map_append, List.map_cons, List.map_nil])
          have HFA : Hid (∀ f ∈ fs ++ [(⟨q, p3, k3, AL, aa2, ac2⟩ : Fc)], FcT wr f) := Lib.hid (fun f hf => by
            rcases List.mem_append.1 hf with hf | hf
            · exact (HFB.out f hf).keep hbr
            · rw [List.mem_singleton.1 hf]
              exact ⟨⟨⟨g4, by rw [hql]; exact g1, g2, g3⟩, fun r hr => (HPT.out r hr).1, ⟨har.keep hbr, by rw [HAN.out]; exact hac1, hac2, hac3⟩⟩, TypB.of_owns hor, HPT.out, hat.keepS (S := fun _ => True) trivial (KeepS.of_below hbr)⟩)
          clear hor HSR HKF HPT HTK g1 g2 g3 g4 hoB HFB
          by_cases r1 : j < RN
          · have r1' : (j : Int) < (RN : Int) := by omega
            have r2' : ¬ (j : Int) < 8 := by omega
            go_wp2_with (at_builtin; go_must (refine wpList_appLit' w hbw rfl (.tmp 70) (.tmp 72) 22 rfl 49 (.agg #[.slice none 0 0, .slice none 0 0]) 2 48 Try.underlying22 Try.infoFace rfl (by decide) (by decide) u5 i (fcs fs) rfl hoX 1 1 [.slice p3 j k3, .slice aa2 AN ac2] _ rfl rfl (by simp [Value.oneCell']) (by omega) ?_); intro v9 W9 ho9 hg9 hb9; have HKP := Lib.hid (KeepS.of_row hoX faceS_face hg9); clear hg9 hoX)
            rw [HFC.out] at ho9
            exact ⟨⟨i + 1, fs ++ [⟨q, p3, k3, AL, aa2, ac2⟩], pm, by omega, by omega, by go_num, rfl, by simp [hfl], HSX, hpm2, ho9, Lib.hid (fun f hf => (HFA.out f hf).keepS HKP.out), hb9⟩, by simp [intOf]; omega⟩
          · have r1' : ¬ (j : Int) < (RN : Int) := by omega
            go_wp2_with (at_builtin; go_must (refine wpList_appLit' w hbw rfl (.tmp 70) (.tmp 72) 22 rfl 49 (.agg #[.slice none 0 0, .slice none 0 0]) 2 48 Try.underlying22 Try.infoFace rfl (by decide) (by decide) u5 i (fcs fs) rfl hoX 1 1 [.slice p3 j k3, .slice aa2 AN ac2] _ rfl rfl (by simp [Value.oneCell']) (by omega) ?_); intro v9 W9 ho9 hg9 hb9; have HKP := Lib.hid (KeepS.of_row hoX faceS_face hg9); clear hg9 hoX)
            rw [HFC.out] at ho9
            exact ⟨⟨i + 1, fs ++ [⟨q, p3, k3, AL, aa2, ac2⟩], pm, by omega, by omega, by go_num, rfl, by simp [hfl], HSX, hpm2, ho9, Lib.hid (fun f hf => (HFA.out f hf).keepS HKP.out), hb9⟩, by simp [intOf]; omega⟩
    · have HTK : Hid (l.take i = l.take 10) := Lib.hid (by
        by_cases h10 : i = 10
        · rw [h10]
        · rw [List.take_of_length_le (by rw [HN.out]; omega), List.take_of_length_le (by rw [HN.out]; omega)])
      have HRE : Hid (fs.map Fc.plain = RES) := Lib.hid (by rw [HFE.out, ← HTK.out, HST.out])
      rw [← hfl] at ho
      by_cases h1 : i < N
      · have h1' : (i : Int) < (N : Int) := by omega
        have h2' : ¬ (i : Int) < 10 := by omega
        go_wp2
        go_ret
        exact ⟨fs, _, rfl, ho, HFT.out, HRE.out, hbl⟩
      · have h1' : ¬ (i : Int) < (N : Int) := by omega
        go_wp2
        go_ret
        exact ⟨fs, _, rfl, ho, HFT.out, HRE.out, hbl⟩
end Go.Proofs.Ytebplobagmjfeaa
/- graticulelaw12.Cut. -/
set_option linter.unusedVariables false
set_option linter.unusedSimpArgs false
set_option maxRecDepth 100000
namespace Go
open Go.RowKit
/-- Attributes that are left. -/
def AtsOk (l : List At) : Prop := l.length ≤ 10 ∧ ∀ x ∈ l, x.key.size ≤ 100 ∧ x.text.size ≤ 100
theorem cutS_le (s : ByteArray) : (cutS s).size ≤ 100 := by unfold cutS; simp; omega
theorem atsOk_cut (l : List At) : AtsOk ((l.take 10).map cutA) := by
  refine ⟨by simp; omega, fun x hx => ?_⟩
  obtain ⟨y, -, rfl⟩ := List.mem_map.1 hx
  exact ⟨cutS_le _, cutS_le _⟩
/-- How great faces are that Cut leaves. -/
def CutOk (fs : List Fc) : Prop := fs.length ≤ 40 ∧ cntR (fs.map Fc.rings) ≤ 70 ∧ cntP (fs.map Fc.rings) ≤ 600 ∧ ∀ f ∈ fs, AtsOk f.ls
end Go
namespace Go.Proofs.Ytebplobagmjfeaa
open Go.RowKit

set_option maxHeartbeats 12800000 in
theorem cut12_any (a : Option Addr) (c : Nat) (l : List Fc) (hlc : l.length ≤ c) (hcm : c ≤ maxLen) (w : World) (hr : Rd w a (fcs l)) (hok : ∀ f ∈ l, f.In w) :
    Calls Try.prog 6 #[.slice a l.length c] w fun e w' => ∃ (fs : List Fc) (v : Value), e = .returned v ∧ w'.ownsRow w.heap.size 49 2 v fs.length (fcs fs) ∧ (∀ f ∈ fs, FcT w' f) ∧ CutOk fs ∧ Below w.heap.size w w' := by
  have HCUT := Lib.hid (fun (f : Fc) (hf : f ∈ l) (W : World) (h : Rd W f.aa (ats f.ls)) => cut11_any f.aa f.ac f.ls (hok f hf).1.2.2.2.1 (hok f hf).1.2.2.2.2.1 (hok f hf).2 W h)
  have HOK := Lib.hid hok
  have HR := Lib.hid hr
  unfold maxLen at hcm
  obtain ⟨N, hN⟩ : ∃ N, l.length = N := ⟨_, rfl⟩
  have HN := Lib.hid hN
  rw [hN] at hlc ⊢
  clear hr hN hok
  go_enter Try.func6, Try.ntmps6
  go_wp2
  go_loopw [3, 4, 5, 6] (fun o ri p i wr => ∃ (k : Nat) (fs : List Fc) (rn pn : Nat), k ≤ N ∧ k ≤ 40 ∧ i = .int .i64 k ∧ ri = .int .i64 rn ∧ p = .int .i64 pn ∧ fs.length = k ∧ Hid ((cntR (fs.map Fc.rings) = rn ∧ cntP (fs.map Fc.rings) = pn) ∧ ∀ f ∈ fs, AtsOk f.ls) ∧ rn ≤ 70 ∧ pn ≤ 600 ∧ wr.ownsRow w.heap.size 49 2 o k (fcs fs) ∧ Hid (∀ f ∈ fs, FcT wr f) ∧ Below w.heap.size w wr) (fun _ _ _ i _ => 40 - (intOf i).toNat)
  case atStart => exact ⟨0, [], 0, 0, by omega, by omega, rfl, rfl, rfl, rfl, Lib.hid ⟨⟨rfl, rfl⟩, by simp⟩, by omega, by omega, World.ownsRow_nil _ _ _ _, Lib.hid (by simp), Below.refl _ _⟩
  case round =>
    obtain ⟨i, fs, rn, pn, hi, hi10, rfl, rfl, rfl, hfl, HST, hrm, hpm, ho, HFT, hbl⟩ := hrel
    by_cases hlt : i < N ∧ i < 40
    · obtain ⟨h1, h2⟩ := hlt
      have h1' : (i : Int) < (N : Int) := by omega
      have h2' : (i : Int) < 40 := by omega
      have hil : i < l.length := by rw [HN.out]; exact h1
      obtain ⟨b1, o1, rfl, hbb, c0, c1⟩ := (HR.out.keep hbl).fc i hil
      have HIN := Lib.hid (HOK.out l[i] (List.getElem_mem hil))
      have HCT := Lib.hid (fun (W : World) (h : Rd W (l[i]'hil).aa (ats (l[i]'hil).ls)) => HCUT.out (l[i]'hil) (List.getElem_mem hil) W h)
      generalize l[i] = f at *
      obtain ⟨rs, ra, rc, ls, aa, ac⟩ := f
      dsimp only [Fc.rval, Fc.aval] at c0 c1 HCT
      go_wp2_with fail
      refine (HCT.out _ (HIN.out.1.2.2.1.keep hbl)).mono ?_
      rintro e wB ⟨va, rfl, hoa, hxB⟩
      try dsimp only at hoa
      have hcu : ∀ x ∈ (ls.take 10).map cutA, AtOk x := fun x hx => by
        obtain ⟨y, -, rfl⟩ := List.mem_map.1 hx
        exact cutA_ok y
      have HATS : Hid (AtsOk ((ls.take 10).map cutA)) := Lib.hid (atsOk_cut ls)
      obtain ⟨AL, hAL⟩ : ∃ A, (ls.take 10).map cutA = A := ⟨_, rfl⟩
      rw [hAL] at HATS
      rw [hAL] at hoa
      obtain ⟨AN, hAN⟩ : ∃ A, AL.length = A := ⟨_, rfl⟩
      have HAN := Lib.hid hAN
      rw [hAN] at hoa
      clear hAL hAN hcu HCT
      obtain ⟨aa2, ac2, rfl, hac1, hac2, hac3, har, -⟩ := hoa.form
      have hat := TypB.of_owns hoa
      have hsr := hbl.size
      have hsB := hxB.size
      have hoB := ho.below hxB
      have HFB : Hid (∀ f ∈ fs, FcT wB f) := Lib.hid (fun f hf => (HFT.out f hf).keep hxB)
      have hblB := hbl.trans (hxB.mono hsr)
      have kF : (wB.alloc (.cells #[.slice none 0 0, .slice aa2 AN ac2] 49)).heap[wB.heap.size]? = some (.cells #[.slice none 0 0, .slice aa2 AN ac2] 49 (0, 0)) := heap_alloc_new wB _
      have hbC := Below.new wB (.cells #[.slice none 0 0, .slice aa2 AN ac2] 49)
      have cB0 := (hxB.cell (p := ⟨b1, o1 + i * 2, none⟩) hbb).trans c0
      have hbB : b1 < wB.heap.size := by omega
      have hsB' : w.heap.size ≤ wB.heap.size := hblB.size
      clear ho HFT
      obtain ⟨RN, hRN⟩ : ∃ R, rs.length = R := ⟨_, rfl⟩
      have HRN := Lib.hid hRN
      have hrc := HIN.out.1.1.2
      dsimp only at hrc
      rw [hRN] at cB0 hrc
      clear hRN
      unfold maxLen at hrc
      go_wp2
      go_loopw [4, 5, 8] (fun ri p k W => ∃ (j : Nat) (q : List PC) (rm pm : Nat) (v : Value), j ≤ RN ∧ Hid (rm = rn + j) ∧ k = .int .i64 j ∧ ri = .int .i64 rm ∧ p = .int .i64 pm ∧ q.length = j ∧ Hid (pm = pn + lenS (q.map PC.l)) ∧ rm ≤ 70 ∧ pm ≤ 600 ∧ Hid (W.heap[wB.heap.size]? = some (.cells #[v, .slice aa2 AN ac2] 49 (0, 0))) ∧ W.ownsRow wB.heap.size 65 1 v j (rcs q) ∧ Hid (∀ r ∈ q, PcT W r) ∧ Below wB.heap.size wB W) (fun _ _ k _ => RN - (intOf k).toNat)
      case atStart => exact ⟨0, [], rn, pn, .slice none 0 0, by omega, Lib.hid rfl, rfl, rfl, rfl, rfl, Lib.hid rfl, hrm, hpm, Lib.hid kF, World.ownsRow_nil _ _ _ _, Lib.hid (by simp), hbC⟩
      case round =>
        obtain ⟨j, q, rm, pm, v, hj, hrj, rfl, rfl, rfl, hql, HSR, hrm2, hpm2, HKF, hor, HPT, hbr⟩ := hrel
        have e0 := (hbr.cell (p := ⟨b1, o1 + i * 2, none⟩) hbB).trans cB0
        by_cases hlr : j < RN ∧ rm < 70
        · obtain ⟨r1, r2⟩ := hlr
          have r1' : (j : Int) < (RN : Int) := by omega
          have r2' : (rm : Int) < 70 := by omega
          have hj70 : j < 70 := by have := hrj.out; omega
          have hjl : j < rs.length := by rw [HRN.out]; exact r1
          have hbw := hblB.trans (hbr.mono hsB')
          obtain ⟨b2, o2, rfl, hb2, d0⟩ := (HIN.out.1.1.1.keep hbw).rc j hjl
          have HRO := Lib.hid ((HIN.out.1.2.1 _ (List.getElem_mem hjl)).keep hbw)
          generalize rs[j] = R at *
          obtain ⟨L, Rp, Rc⟩ := R
          obtain ⟨LN, hLN⟩ : ∃ R, L.length = R := ⟨_, rfl⟩
          have HLN := Lib.hid hLN
          have q1 := HRO.out.2.1
          have q2 := HRO.out.2.2.1
          dsimp only [PC.val] at d0 q1 q2
          rw [hLN] at d0 q1
          clear hLN
          unfold maxLen at q2
          obtain ⟨MN, hMN⟩ : ∃ z : Nat, min (600 - pm) LN = z := ⟨_, rfl⟩
          have hz0 : (if (600 - (pm : Int)) < (LN : Int) then (600 - (pm : Int)) else (LN : Int)) = (MN : Int) := by split <;> omega
          have HMN := Lib.hid hMN
          have q3 : (MN : Int) ≤ LN := by omega
          have q4 : MN ≤ 600 - pm := by omega
          clear hMN
          go_wp2
          refine wp_region_lit_txtZ (some 8) [0, 1, 3, 7] (fun W => W.heap[wB.heap.size]? = some (.cells #[v, .slice aa2 AN ac2] 49 (0, 0)) ∧ Below wB.heap.size wB W) (by kernel_rfl) (by kernel_rfl) (by kernel_rfl) (by kernel_rfl) ⟨HKF.out, hbr.drew⟩ ?_
          (refine txt_light ?_ rfl rfl ?_ ?_; rotate_left; · (intro w' hS; (try dsimp only at hS); go_simp; with_reducible rfl)); try simp only [Act.put, List.getElem_toArray, List.getElem_cons_succ, List.getElem_cons_zero, List.setIfInBounds_toArray, List.set_cons_zero, List.set_cons_succ]
          refine txt_light (v) rfl rfl ?_ ?_
          · intro w' hS
            obtain ⟨hS1, hS2⟩ := hS
            have c7 : w'.cell? ⟨wB.heap.size, 0, none⟩ = some v := by simp [World.cell?, hS1]
            clear hS1
            go_simp
          try simp only [Act.put, List.getElem_toArray, List.getElem_cons_succ, List.getElem_cons_zero, List.setIfInBounds_toArray, List.set_cons_zero, List.set_cons_succ]
          have HK0 : Hid (wr.drew.heap[wB.heap.size]? = some (.cells #[v, .slice aa2 AN ac2] 49 (0, 0))) := HKF
          have hbd : Below wB.heap.size wB wr.drew := hbr.drew
          have hor0 : wr.drew.ownsRow wB.heap.size 65 1 v j (rcs q) := hor
          have HP0 : Hid (∀ r ∈ q, PcT wr.drew r) := HPT
          have hrL : Rd wr.drew Rp (pts (L.take MN)) := by
            have := HRO.out.1.take (MN * 2)
            rw [pts_take] at this
            exact this
          have hRN0 : Rp = none → Rc = 0 := HRO.out.2.2.2
          clear hor HKF HPT hbr e0 d0
          generalize wr.drew = W0 at *
          refine txt_heavy rfl rfl (fun K hK => ?_)
          go_step
          have hlW : wB.heap.size < W0.heap.size := (Array.getElem?_eq_some_iff.1 HK0.out).1
          have hb1 := hbd.alloc (by omega) (.cells #[] 37)
          have k1 : (W0.alloc (.cells #[] 37)).heap[wB.heap.size]? = some (.cells #[v, .slice aa2 AN ac2] 49 (0, 0)) := (Below.heap_alloc _ _ _ hlW).trans HK0.out
          have hr1 := hrL.keep (Below.new W0 (.cells #[] 37))
          have ho1 : (W0.alloc (.cells #[] 37)).ownsRow W0.heap.size 37 2 (.slice (some ⟨W0.heap.size, 0, none⟩) 0 0) 0 [] := World.ownsRow_lit W0 #[] 0 (Nat.le_refl _) (by decide) rfl
          have hlt : (L.take MN).length = MN := by rw [List.length_take, HLN.out]; omega
          refine hK.out _ _ ⟨k1, hb1⟩ ?_
          clear hK K
          try simp only [Act.put, List.getElem_toArray, List.getElem_cons_succ, List.getElem_cons_zero, List.setIfInBounds_toArray, List.set_cons_zero, List.set_cons_succ]
          (refine txt_light ?_ rfl rfl ?_ ?_; rotate_left; · (intro w' hS; (try dsimp only at hS); go_simp; with_reducible rfl)); try simp only [Act.put, List.getElem_toArray, List.getElem_cons_succ, List.getElem_cons_zero, List.setIfInBounds_toArray, List.set_cons_zero, List.set_cons_succ]
          refine txt_app W0 (Below.new W0 (.cells #[] 37)) rfl rfl (.tmp 58) (.tmp 59) 65 rfl 37 (.agg #[.int .i64 0, .int .i64 0]) 2 16 Try.underlying65 Try.infoPnt rfl (by decide) (.slice (some ⟨W0.heap.size, 0, none⟩) 0 0) 0 [] rfl ho1 Rp MN Rc (pts (L.take MN)) rfl hRN0 hr1 (by rw [pts_len, hlt]) (pts_one _) (by omega) (by decide) ?_
          intro v2 W2 ho2 hg2 hb2
          rw [Nat.zero_add, List.nil_append] at ho2
          have HK2 : Hid (W2.heap[wB.heap.size]? = some (.cells #[v, .slice aa2 AN ac2] 49 (0, 0))) := Lib.hid ((hb2.block _ hlW).trans HK0.out)
          have hbd2 := hbd.trans (hb2.mono hbd.size)
          refine ⟨⟨HK2.out, hbd2⟩, ?_⟩
          have hor2 := hor0.below hb2
          have HP2 : Hid (∀ r ∈ q, PcT W2 r) := Lib.hid (fun r hr => (HP0.out r hr).keep hb2)
          obtain ⟨p2, k2, rfl, f1, f2, f3, f4, -⟩ := ho2.form
          have HPN : Hid (PcT W2 ⟨L.take MN, p2, k2⟩) := Lib.hid ⟨⟨f4, by dsimp only; omega, f2, f3⟩, TypB.of_owns ho2⟩
          clear k1 hb1 hr1 ho1 hg2 hrL hor0 HK0 HP0
          try simp only [Act.put, List.getElem_toArray, List.getElem_cons_succ, List.getElem_cons_zero, List.setIfInBounds_toArray, List.set_cons_zero, List.set_cons_succ]
          refine txt_heavy rfl rfl (fun K hK => ?_)
          go_step
          have hlX : wB.heap.size < W2.heap.size := (Array.getElem?_eq_some_iff.1 HK2.out).1
          have hb3 := hbd2.alloc (by omega) (.cells #[.slice p2 MN k2] 65)
          have hx3 := Below.new W2 (.cells #[.slice p2 MN k2] 65)
          have k3 : (W2.alloc (.cells #[.slice p2 MN k2] 65)).heap[wB.heap.size]? = some (.cells #[v, .slice aa2 AN ac2] 49 (0, 0)) := (Below.heap_alloc _ _ _ hlX).trans HK2.out
          have rd := Rd.lit W2 W2.heap.size [.slice p2 MN k2] 65 rfl
          have hor3 := hor2.below hx3
          have HP3 : Hid (∀ r ∈ q, PcT (W2.alloc (.cells #[.slice p2 MN k2] 65)) r) := Lib.hid (fun r hr => (HP2.out r hr).keep hx3)
          have HPN3 := Lib.hid (HPN.out.keep hx3)
          have HK3 := Lib.hid k3
          refine hK.out _ _ ⟨k3, hb3⟩ ?_
          clear hK K k3 hx3 ho2 hor2 HP2 HPN HK2 hbd2 hb2 hlX
          generalize W2.alloc (.cells #[.slice p2 MN k2] 65) = W3 at *
          try simp only [Act.put, List.getElem_toArray, List.getElem_cons_succ, List.getElem_cons_zero, List.setIfInBounds_toArray, List.set_cons_zero, List.set_cons_succ]
          refine txt_app wB hb3 rfl rfl (.tmp 57) (.tmp 61) 46 rfl 65 (.slice none 0 0) 1 24 Try.underlying46 Try.infoRow rfl (by decide) v j (rcs q) rfl hor3 (some ⟨W2.heap.size, 0, none⟩) 1 1 [.slice p2 MN k2] rfl (fun h => by cases h) rd rfl (by simp [Value.oneCell']) (by omega) (by decide) ?_
          intro v3 W4 ho4 hg4 hb4
          have HK4 : Hid (W4.heap[wB.heap.size]? = some (.cells #[v, .slice aa2 AN ac2] 49 (0, 0))) := Lib.hid (((KeepS.of_row (S := fun T => T = 49) hor3 (by decide) hg4).2 _ _ _ _ HK3.out rfl).trans HK3.out)
          have HKS := Lib.hid (KeepS.of_row (S := fun T => T = 37) hor3 (by decide) hg4)
          have HP4 : Hid (∀ r ∈ q ++ [⟨L.take MN, p2, k2⟩], PcT W4 r) := Lib.hid (fun r hr => by
            rcases List.mem_append.1 hr with hr | hr
            · exact (HP3.out r hr).keepS (S := fun T => T = 37) rfl HKS.out
            · rw [List.mem_singleton.1 hr]; exact HPN3.out.keepS (S := fun T => T = 37) rfl HKS.out)
          have hqc : rcs q ++ [.slice p2 MN k2] = rcs (q ++ [⟨L.take MN, p2, k2⟩]) := by rw [rcs_snoc]; simp [PC.val, hlt]
          rw [hqc] at ho4
          obtain ⟨p3, k3, rfl, -⟩ := ho4.form
          refine ⟨⟨HK4.out, hb4⟩, ?_⟩
          clear hor3 HP3 HPN3 HK3 HKS hg4 rd hb3 hqc
          try simp only [Act.put, List.getElem_toArray, List.getElem_cons_succ, List.getElem_cons_zero, List.setIfInBounds_toArray, List.set_cons_zero, List.set_cons_succ]
          (refine txt_light ?_ rfl rfl ?_ ?_; rotate_left; · (intro w' hS; (try dsimp only at hS); go_simp; with_reducible rfl)); try simp only [Act.put, List.getElem_toArray, List.getElem_cons_succ, List.getElem_cons_zero, List.setIfInBounds_toArray, List.set_cons_zero, List.set_cons_succ]
          refine txt_last rfl rfl rfl (fun K hK => ?_)
          have c7 : W4.cell? ⟨wB.heap.size, 0, none⟩ = some v := by simp [World.cell?, HK4.out]
          have c8 : W4.frozen? ⟨wB.heap.size, 0, none⟩ = false := by simp [World.frozen?, HK4.out]
          go_step
          refine hK.out _ _ ?_
          refine txt_nil ?_
          have HK5 : Hid ((W4.setCell ⟨wB.heap.size, 0, none⟩ (.slice p3 (j + 1) k3)).heap[wB.heap.size]? = some (.cells #[.slice p3 (j + 1) k3, .slice aa2 AN ac2] 49 (0, 0))) := Lib.hid (blkT_set (vs := [v, .slice aa2 AN ac2]) HK4.out 0 _)
          have ho5 := ownsRow_box ho4 HK4.out (by decide) 0 (.slice p3 (j + 1) k3)
          have HP5 : Hid (∀ r ∈ q ++ [⟨L.take MN, p2, k2⟩], PcT (W4.setCell ⟨wB.heap.size, 0, none⟩ (.slice p3 (j + 1) k3)) r) := Lib.hid (fun r hr => (HP4.out r hr).keepS (S := fun T => T = 37) rfl (KeepS.store HK4.out (by decide) _))
          have hb5 := hb4.setCell (p := ⟨wB.heap.size, 0, none⟩) (Nat.le_refl _) (.slice p3 (j + 1) k3)
          have HSQ : Hid (pm + MN = pn + lenS ((q ++ [(⟨L.take MN, p2, k2⟩ : PC)]).map PC.l)) := Lib.hid (by
            rw [List.map_append, lenS_append, HSR.out]
            simp only [List.map_cons, List.map_nil, lenS, hlt]
            omega)
          have hql5 : (q ++ [(⟨L.take MN, p2, k2⟩ : PC)]).length = j + 1 := by simp [hql]
          clear hK K c7 c8 ho4 HP4 hb4 HK4 HSR HRO hlt HMN HLN hRN0 f1 f2 f3 f4 hz0 hbd
          generalize q ++ [(⟨L.take MN, p2, k2⟩ : PC)] = q5 at *
          generalize W4.setCell ⟨wB.heap.size, 0, none⟩ (.slice p3 (j + 1) k3) = W5 at *
          go_wp2
          exact ⟨⟨j + 1, q5, rm + 1, pm + MN, .slice p3 (j + 1) k3, by omega, Lib.hid (by have := hrj.out; omega), by go_num, by go_num, by go_num, hql5, HSQ, by omega, by omega, HK5, ho5, HP5, hb5⟩, by simp [intOf]; omega⟩
        · obtain ⟨p3, k3, rfl, g1, g2, g3, g4, -⟩ := hor.form
          have e6 : wr.cell? ⟨wB.heap.size, 0, none⟩ = some (.slice p3 j k3) := by simp [World.cell?, HKF.out]
          have e7 : wr.cell? ⟨wB.heap.size, 0 + 1, none⟩ = some (.slice aa2 AN ac2) := by simp [World.cell?, HKF.out]
          have hbw := hblB.trans (hbr.mono hsB')
          have hoX := hoB.below hbr
          have HFC : Hid (fcs fs ++ [.slice p3 j k3, .slice aa2 AN ac2] = fcs (fs ++ [⟨q, p3, k3, AL, aa2, ac2⟩])) := Lib.hid (by
            rw [fcs_snoc]
            simp [Fc.cells, Fc.rval, Fc.aval, hql, HAN.out])
          have HSX : Hid ((cntR ((fs ++ [(⟨q, p3, k3, AL, aa2, ac2⟩ : Fc)]).map Fc.rings) = rm ∧ cntP ((fs ++ [(⟨q, p3, k3, AL, aa2, ac2⟩ : Fc)]).map Fc.rings) = pm) ∧ ∀ f ∈ fs ++ [(⟨q, p3, k3, AL, aa2, ac2⟩ : Fc)], AtsOk f.ls) := Lib.hid (by
            obtain ⟨⟨e1, e2⟩, e3⟩ := HST.out
            refine ⟨⟨?_, ?_⟩, ?_⟩
            · rw [List.map_append, cntR_append, e1]
              simp only [List.map_cons, List.map_nil, cntR, Fc.rings, List.length_map, hql]
              have := hrj.out
              omega
            · rw [List.map_append, cntP_append, e2, HSR.out]
              simp only [List.map_cons, List.map_nil, cntP, Fc.rings]
              omega
            · intro f hf
              rcases List.mem_append.1 hf with hf | hf
              · exact e3 f hf
              · rw [List.mem_singleton.1 hf]; exact HATS.out)
          have HFA : Hid (∀ f ∈ fs ++ [(⟨q, p3, k3, AL, aa2, ac2⟩ : Fc)], FcT wr f) := Lib.hid (fun f hf => by
            rcases List.mem_append.1 hf with hf | hf
            · exact (HFB.out f hf).keep hbr
            · rw [List.mem_singleton.1 hf]
              exact ⟨⟨⟨g4, by rw [hql]; exact g1, g2, g3⟩, fun r hr => (HPT.out r hr).1, ⟨har.keep hbr, by rw [HAN.out]; exact hac1, hac2, hac3⟩⟩, TypB.of_owns hor, HPT.out, hat.keepS (S := fun _ => True) trivial (KeepS.of_below hbr)⟩)
          clear hor HSR HKF HPT g1 g2 g3 g4 hoB HFB
          by_cases r1 : j < RN
          · have r1' : (j : Int) < (RN : Int) := by omega
            have r2' : ¬ (rm : Int) < 70 := by omega
            go_wp2_with (at_builtin; go_must (refine wpList_appLit' w hbw rfl (.tmp 70) (.tmp 72) 22 rfl 49 (.agg #[.slice none 0 0, .slice none 0 0]) 2 48 Try.underlying22 Try.infoFace rfl (by decide) (by decide) u3 i (fcs fs) rfl hoX 1 1 [.slice p3 j k3, .slice aa2 AN ac2] _ rfl rfl (by simp [Value.oneCell']) (by omega) ?_); intro v9 W9 ho9 hg9 hb9; have HKP := Lib.hid (KeepS.of_row hoX faceS_face hg9); clear hg9 hoX)
            rw [HFC.out] at ho9
            exact ⟨⟨i + 1, fs ++ [⟨q, p3, k3, AL, aa2, ac2⟩], rm, pm, by omega, by omega, by go_num, rfl, rfl, by simp [hfl], HSX, hrm2, hpm2, ho9, Lib.hid (fun f hf => (HFA.out f hf).keepS HKP.out), hb9⟩, by simp [intOf]; omega⟩
          · have r1' : ¬ (j : Int) < (RN : Int) := by omega
            go_wp2_with (at_builtin; go_must (refine wpList_appLit' w hbw rfl (.tmp 70) (.tmp 72) 22 rfl 49 (.agg #[.slice none 0 0, .slice none 0 0]) 2 48 Try.underlying22 Try.infoFace rfl (by decide) (by decide) u3 i (fcs fs) rfl hoX 1 1 [.slice p3 j k3, .slice aa2 AN ac2] _ rfl rfl (by simp [Value.oneCell']) (by omega) ?_); intro v9 W9 ho9 hg9 hb9; have HKP := Lib.hid (KeepS.of_row hoX faceS_face hg9); clear hg9 hoX)
            rw [HFC.out] at ho9
            exact ⟨⟨i + 1, fs ++ [⟨q, p3, k3, AL, aa2, ac2⟩], rm, pm, by omega, by omega, by go_num, rfl, rfl, by simp [hfl], HSX, hrm2, hpm2, ho9, Lib.hid (fun f hf => (HFA.out f hf).keepS HKP.out), hb9⟩, by simp [intOf]; omega⟩
    · have HRE : Hid (CutOk fs) := Lib.hid (by
        obtain ⟨⟨e1, e2⟩, e3⟩ := HST.out
        exact ⟨by omega, by omega, by omega, e3⟩)
      rw [← hfl] at ho
      by_cases h1 : i < N
      · have h1' : (i : Int) < (N : Int) := by omega
        have h2' : ¬ (i : Int) < 40 := by omega
        go_wp2
        go_ret
        exact ⟨fs, _, rfl, ho, HFT.out, HRE.out, hbl⟩
      · have h1' : ¬ (i : Int) < (N : Int) := by omega
        go_wp2
        go_ret
        exact ⟨fs, _, rfl, ho, HFT.out, HRE.out, hbl⟩
end Go.Proofs.Ytebplobagmjfeaa
/- The shoelace: plain. -/
set_option linter.unusedVariables false
set_option linter.unusedSimpArgs false
namespace Go

def sumTo (f : Nat → Int) : Nat → Int
  | 0 => 0
  | n + 1 => sumTo f n + f n

/-- What the document adds for an edge. -/
def shoT (l : List Pt) (i : Nat) : Int := l[i]!.x * l[(i + 1) % l.length]!.y - l[(i + 1) % l.length]!.x * l[i]!.y
def sho (l : List Pt) : Int := sumTo (shoT l) l.length

theorem fan_range (l : List Pt) (e : Nat → Pt × Pt) (n : Nat) : fan l ((List.range n).map e) = sumTo (fun i => crs l[0]! (e i).1 (e i).2) n := by
  induction n with
  | zero => rfl
  | succ n ih => rw [List.range_succ, List.map_append, List.map_cons, List.map_nil, fan_snoc, ih]; rfl

theorem crs_split (p a b : Pt) : crs p a b = (a.x * b.y - b.x * a.y) - (p.x * b.y - p.x * a.y) + (p.y * b.x - p.y * a.x) := by
  unfold crs
  simp only [Int.sub_mul, Int.mul_sub]
  have h1 : a.y * b.x = b.x * a.y := Int.mul_comm _ _
  have h2 : a.x * p.y = p.y * a.x := Int.mul_comm _ _
  have h3 : a.y * p.x = p.x * a.y := Int.mul_comm _ _
  have h4 : p.x * p.y = p.y * p.x := Int.mul_comm _ _
  omega

theorem fan_part (l : List Pt) (n : Nat) (hn : n ≤ l.length) : sumTo (fun i => crs l[0]! l[i]! l[(i + 1) % l.length]!) n =
    sumTo (shoT l) n - (l[0]!.x * l[n % l.length]!.y - l[0]!.x * l[0]!.y) + (l[0]!.y * l[n % l.length]!.x - l[0]!.y * l[0]!.x) := by
  induction n with
  | zero => simp [sumTo]
  | succ n ih =>
    have e : n % l.length = n := Nat.mod_eq_of_lt (by omega)
    rw [sumTo, ih (by omega), sumTo, crs_split, e]
    unfold shoT
    omega

theorem fan_sho (l : List Pt) : fan l (edges l) = sho l := by
  unfold edges
  rw [fan_range, fan_part l l.length (Nat.le_refl _), Nat.mod_self]
  unfold sho
  omega

theorem shoT_bd (l : List Pt) (h : l.all okPt = true) (i : Nat) (hi : i < l.length) : -562949953421312 ≤ shoT l i ∧ shoT l i ≤ 562949953421312 := by
  have h1 := ok_get l h i hi
  have h2 := ok_get l h ((i + 1) % l.length) (Nat.mod_lt _ (by omega))
  rw [okPt_iff] at h1 h2
  unfold shoT
  have a := mul_bd l[i]!.x l[(i + 1) % l.length]!.y 16777216 16777216 (by omega) (by omega) (by omega) (by omega)
  have b := mul_bd l[(i + 1) % l.length]!.x l[i]!.y 16777216 16777216 (by omega) (by omega) (by omega) (by omega)
  omega

theorem sho_bd (l : List Pt) (h : l.all okPt = true) (n : Nat) (hn : n ≤ l.length) : -(562949953421312 * n) ≤ sumTo (shoT l) n ∧ sumTo (shoT l) n ≤ 562949953421312 * n := by
  induction n with
  | zero => simp [sumTo]
  | succ n ih =>
    have h1 := shoT_bd l h n (by omega)
    have h2 := ih (by omega)
    rw [sumTo]
    omega
end Go
