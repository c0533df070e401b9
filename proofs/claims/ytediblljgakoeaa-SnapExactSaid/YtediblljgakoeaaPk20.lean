/-
  graticulelaw12.Few. How great few faces are. Plain: of exact faces nothing moves: the sides. graticuleref04.Compare, graticulelaw04.Ints of rows that are the same. The chapter's examples hold: graticulelaw16.known answers true. Opening a law's arguments: faces.
-/
import Derived.Test.YtediblljgakoeaaPk19
import Derived.Test.YtediblljgakoeaaPk2
import Derived.Test.YtediblljgakoeaaPk4
import Derived.Test.YtediblljgakoeaaPk1
import Derived.Test.YtediblljgakoeaaProg
import Derived.Test.YtediblljgakoeaaPk13
import Derived.Test.YtediblljgakoeaaPk3
/- graticulelaw12.Few. -/
set_option linter.unusedVariables false
set_option linter.unusedSimpArgs false
set_option maxRecDepth 100000
namespace Go
open Go.RowKit
/-- What is told of a face. -/
structure Fp where
  rings : List (List Pt)
  ls : List At
def Fc.plain (f : Fc) : Fp := ⟨f.rings, f.ls⟩
def fewStep (most : Nat) (s : List (List Pt) × Nat) (r : List Pt) : List (List Pt) × Nat := (s.1 ++ [r.take (most - s.2)], s.2 + (r.take (most - s.2)).length)
def fewRs (most p : Nat) (l : List (List Pt)) : List (List Pt) × Nat := l.foldl (fewStep most) ([], p)
def fewStepF (most : Nat) (s : List Fp × Nat) (f : Fp) : List Fp × Nat := (s.1 ++ [⟨(fewRs most s.2 (f.rings.take 8)).1, (f.ls.take 10).map cutA⟩], (fewRs most s.2 (f.rings.take 8)).2)
def fewFs (most : Nat) (l : List Fp) : List Fp × Nat := l.foldl (fewStepF most) ([], 0)
/-- Few faces. -/
def fewF (most : Nat) (l : List Fp) : List Fp := (fewFs most (l.take 10)).1
theorem fewRs_snoc (most p : Nat) (l : List (List Pt)) (r : List Pt) : fewRs most p (l ++ [r]) = fewStep most (fewRs most p l) r := by simp [fewRs, List.foldl_append]
theorem fewFs_snoc (most : Nat) (l : List Fp) (f : Fp) : fewFs most (l ++ [f]) = fewStepF most (fewFs most l) f := by simp [fewFs, List.foldl_append]
theorem fewRs_le (most p : Nat) (hp : p ≤ most) (l : List (List Pt)) : (fewRs most p l).2 ≤ most := by
  have key : ∀ (l : List (List Pt)) (s : List (List Pt) × Nat), s.2 ≤ most → (l.foldl (fewStep most) s).2 ≤ most := by
    intro l
    induction l with
    | nil => intro s h; exact h
    | cons r l ih =>
      intro s h
      refine ih _ ?_
      simp only [fewStep, List.length_take]
      omega
  exact key l _ hp
theorem fewFs_le (most : Nat) (l : List Fp) : (fewFs most l).2 ≤ most := by
  have key : ∀ (l : List Fp) (s : List Fp × Nat), s.2 ≤ most → (l.foldl (fewStepF most) s).2 ≤ most := by
    intro l
    induction l with
    | nil => intro s h; exact h
    | cons r l ih =>
      intro s h
      exact ih _ (fewRs_le most _ h _)
  exact key l _ (Nat.zero_le _)
/-- A face as it comes in. -/
def Fc.In (W : World) (f : Fc) : Prop := f.Ok W ∧ ∀ x ∈ f.ls, AtOk x
end Go
namespace Go
open Go.RowKit
theorem ownsRow_box {W : World} {base : Nat} {e T : TypeId} {size n B : Nat} {v : Value} {xs : List Value} {cs : Array Value} (h : W.ownsRow base e size v n xs) (hk : W.heap[B]? = some (.cells cs T (0, 0))) (hT : T ≠ e) (i : Nat) (u : Value) : (W.setCell ⟨B, i, none⟩ u).ownsRow base e size v n xs := by
  refine h.kept (row := some B) ⟨rfl, rfl, rfl, by simp [World.setCell], fun k _ hk => Below.heap_setCell W ⟨B, i, none⟩ u k (fun e => hk (by rw [e]))⟩ ?_
  rcases h.2 with ⟨rfl, _⟩ | ⟨g, cap, cur, rfl, _, hgb, _⟩
  · exact .inl rfl
  · refine .inr fun e' => ?_
    obtain rfl : g = B := by simpa [Value.ownBlock] using e'
    rw [hk] at hgb
    cases hgb
    exact hT rfl
end Go
namespace Go.Proofs.Ytediblljgakoeaa
open Go.RowKit

set_option maxHeartbeats 12800000 in
theorem few_any (a : Option Addr) (c : Nat) (l : List Fc) (hlc : l.length ≤ c) (hcm : c ≤ maxLen) (most : Nat) (hmo : most ≤ 1000000) (w : World) (hr : Rd w a (fcs l)) (hok : ∀ f ∈ l, f.In w) :
    Calls Try.prog 4 #[.slice a l.length c, .int .i64 (most : Int)] w fun e w' => ∃ (fs : List Fc) (v : Value), e = .returned v ∧ w'.ownsRow w.heap.size 41 2 v fs.length (fcs fs) ∧ (∀ f ∈ fs, FcT w' f) ∧ fs.map Fc.plain = fewF most (l.map Fc.plain) ∧ Below w.heap.size w w' := by
  have HCUT := Lib.hid (fun (f : Fc) (hf : f ∈ l) (W : World) (h : Rd W f.aa (ats f.ls)) => cut11_any f.aa f.ac f.ls (hok f hf).1.2.2.2.1 (hok f hf).1.2.2.2.2.1 (hok f hf).2 W h)
  have HOK := Lib.hid hok
  have HR := Lib.hid hr
  unfold maxLen at hcm
  obtain ⟨N, hN⟩ : ∃ N, l.length = N := ⟨_, rfl⟩
  have HN := Lib.hid hN
  rw [hN] at hlc ⊢
  have HFE : Hid (fewF most (l.map Fc.plain) = (fewFs most ((l.take 10).map Fc.plain)).1) := Lib.hid (by unfold fewF; rw [List.map_take])
  generalize fewF most (l.map Fc.plain) = RES at *
  clear hr hN hok
  go_enter Try.func4, Try.ntmps4
  go_wp2
  go_loopw [5, 6, 7] (fun o p i wr => ∃ (k : Nat) (fs : List Fc) (pn : Nat), k ≤ N ∧ k ≤ 10 ∧ i = .int .i64 k ∧ p = .int .i64 pn ∧ fs.length = k ∧ Hid (fewFs most ((l.take k).map Fc.plain) = (fs.map Fc.plain, pn)) ∧ pn ≤ most ∧ wr.ownsRow w.heap.size 41 2 o k (fcs fs) ∧ Hid (∀ f ∈ fs, FcT wr f) ∧ Below w.heap.size w wr) (fun _ _ i _ => 10 - (intOf i).toNat)
  case atStart => exact ⟨0, [], 0, by omega, by omega, rfl, rfl, rfl, Lib.hid rfl, by omega, World.ownsRow_nil _ _ _ _, Lib.hid (by simp), Below.refl _ _⟩
  case round =>
    obtain ⟨i, fs, pn, hi, hi10, rfl, rfl, hfl, HST, hpm, ho, HFT, hbl⟩ := hrel
    by_cases hlt : i < N ∧ i < 10
    · obtain ⟨h1, h2⟩ := hlt
      have h1' : (i : Int) < (N : Int) := by omega
      have h2' : (i : Int) < 10 := by omega
      have hil : i < l.length := by rw [HN.out]; exact h1
      obtain ⟨b1, o1, rfl, hbb, c0, c1⟩ := (HR.out.keep hbl).fc i hil
      have HIN := Lib.hid (HOK.out l[i] (List.getElem_mem hil))
      have HCT := Lib.hid (fun (W : World) (h : Rd W (l[i]'hil).aa (ats (l[i]'hil).ls)) => HCUT.out (l[i]'hil) (List.getElem_mem hil) W h)
      have HSN : Hid (fewFs most ((l.take (i + 1)).map Fc.plain) = fewStepF most (fewFs most ((l.take i).map Fc.plain)) l[i].plain) := Lib.hid (by
        rw [List.take_succ_eq_append_getElem hil, List.map_append, List.map_singleton, fewFs_snoc])
      generalize l[i] = f at *
      obtain ⟨rs, ra, rc, ls, aa, ac⟩ := f
      dsimp only [Fc.rval, Fc.aval] at c0 c1 HCT
      go_wp2_with fail
      refine (HCT.out _ (HIN.out.1.2.2.1.keep hbl)).mono ?_
      rintro e wB ⟨va, rfl, hoa, hxB⟩
      try dsimp only at hoa
      have hcu : ∀ x ∈ (ls.take 10).map cutA, AtOk x := fun x hx => by
        obtain ⟨y, -, rfl⟩ := List.mem_map.1 hx
        exact cutA_ok y
      obtain ⟨AL, hAL⟩ : ∃ A, (ls.take 10).map cutA = A := ⟨_, rfl⟩
      have HAL := Lib.hid hAL
      rw [hAL] at hoa
      obtain ⟨AN, hAN⟩ : ∃ A, AL.length = A := ⟨_, rfl⟩
      have HAN := Lib.hid hAN
      rw [hAN] at hoa
      clear hAL hAN hcu HCT
      obtain ⟨aa2, ac2, rfl, hac1, hac2, hac3, har, -⟩ := hoa.form
      have hat := TypB.of_owns hoa
      have hsr := hbl.size
      have hsB := hxB.size
      have hoB := ho.below hxB
      have HFB : Hid (∀ f ∈ fs, FcT wB f) := Lib.hid (fun f hf => (HFT.out f hf).keep hxB)
      have hblB := hbl.trans (hxB.mono hsr)
      have kF : (wB.alloc (.cells #[.slice none 0 0, .slice aa2 AN ac2] 41)).heap[wB.heap.size]? = some (.cells #[.slice none 0 0, .slice aa2 AN ac2] 41 (0, 0)) := heap_alloc_new wB _
      have hbC := Below.new wB (.cells #[.slice none 0 0, .slice aa2 AN ac2] 41)
      have cB0 := (hxB.cell (p := ⟨b1, o1 + i * 2, none⟩) hbb).trans c0
      have hbB : b1 < wB.heap.size := by omega
      have hsB' : w.heap.size ≤ wB.heap.size := hblB.size
      clear ho HFT
      obtain ⟨RN, hRN⟩ : ∃ R, rs.length = R := ⟨_, rfl⟩
      have HRN := Lib.hid hRN
      have hrc := HIN.out.1.1.2
      dsimp only at hrc
      rw [hRN] at cB0 hrc
      clear hRN
      unfold maxLen at hrc
      go_wp2
      go_loopw [6, 9] (fun p k W => ∃ (j : Nat) (q : List PC) (pm : Nat) (v : Value), j ≤ RN ∧ j ≤ 8 ∧ k = .int .i64 j ∧ p = .int .i64 pm ∧ q.length = j ∧ Hid (fewRs most pn ((rs.take j).map PC.l) = (q.map PC.l, pm)) ∧ pm ≤ most ∧ Hid (W.heap[wB.heap.size]? = some (.cells #[v, .slice aa2 AN ac2] 41 (0, 0))) ∧ W.ownsRow wB.heap.size 42 1 v j (rcs q) ∧ Hid (∀ r ∈ q, PcT W r) ∧ Below wB.heap.size wB W) (fun _ k _ => 8 - (intOf k).toNat)
      case atStart => exact ⟨0, [], pn, .slice none 0 0, by omega, by omega, rfl, rfl, rfl, Lib.hid rfl, hpm, Lib.hid kF, World.ownsRow_nil _ _ _ _, Lib.hid (by simp), hbC⟩
      case round =>
        obtain ⟨j, q, pm, v, hj, hj8, rfl, rfl, hql, HSR, hpm2, HKF, hor, HPT, hbr⟩ := hrel
        have e0 := (hbr.cell (p := ⟨b1, o1 + i * 2, none⟩) hbB).trans cB0
        by_cases hlr : j < RN ∧ j < 8
        · obtain ⟨r1, r2⟩ := hlr
          have r1' : (j : Int) < (RN : Int) := by omega
          have r2' : (j : Int) < 8 := by omega
          have hjl : j < rs.length := by rw [HRN.out]; exact r1
          have hbw := hblB.trans (hbr.mono hsB')
          obtain ⟨b2, o2, rfl, hb2, d0⟩ := (HIN.out.1.1.1.keep hbw).rc j hjl
          have HRO := Lib.hid ((HIN.out.1.2.1 _ (List.getElem_mem hjl)).keep hbw)
          have HRS : Hid (fewRs most pn ((rs.take (j + 1)).map PC.l) = fewStep most (fewRs most pn ((rs.take j).map PC.l)) rs[j].l) := Lib.hid (by
            rw [List.take_succ_eq_append_getElem hjl, List.map_append, List.map_singleton, fewRs_snoc])
          generalize rs[j] = R at *
          obtain ⟨L, Rp, Rc⟩ := R
          obtain ⟨LN, hLN⟩ : ∃ R, L.length = R := ⟨_, rfl⟩
          have HLN := Lib.hid hLN
          have q1 := HRO.out.2.1
          have q2 := HRO.out.2.2.1
          dsimp only [PC.val] at d0 q1 q2
          rw [hLN] at d0 q1
          clear hLN
          unfold maxLen at q2
          obtain ⟨MN, hMN⟩ : ∃ z : Nat, min (most - pm) LN = z := ⟨_, rfl⟩
          have hz0 : (if ((most : Int) - (pm : Int)) < (LN : Int) then ((most : Int) - (pm : Int)) else (LN : Int)) = (MN : Int) := by split <;> omega
          have hzm : min (LN : Int) ((most : Int) - (pm : Int)) = (MN : Int) := by omega
          have HMN := Lib.hid hMN
          have q3 : (MN : Int) ≤ LN := by omega
          have q4 : MN ≤ most - pm := by omega
          clear hMN
          go_wp2
          refine wp_region_lit_txtZ (some 8) [0, 1, 3, 7] (fun W => W.heap[wB.heap.size]? = some (.cells #[v, .slice aa2 AN ac2] 41 (0, 0)) ∧ Below wB.heap.size wB W) (by kernel_rfl) (by kernel_rfl) (by kernel_rfl) (by kernel_rfl) ⟨HKF.out, hbr.drew⟩ ?_
          (refine txt_light ?_ rfl rfl ?_ ?_; rotate_left; · (intro w' hS; (try dsimp only at hS); go_simp; with_reducible rfl)); try simp only [Act.put, List.getElem_toArray, List.getElem_cons_succ, List.getElem_cons_zero, List.setIfInBounds_toArray, List.set_cons_zero, List.set_cons_succ]
          refine txt_light (v) rfl rfl ?_ ?_
          · intro w' hS
            obtain ⟨hS1, hS2⟩ := hS
            have c7 : w'.cell? ⟨wB.heap.size, 0, none⟩ = some v := by simp [World.cell?, hS1]
            clear hS1
            go_simp
          try simp only [Act.put, List.getElem_toArray, List.getElem_cons_succ, List.getElem_cons_zero, List.setIfInBounds_toArray, List.set_cons_zero, List.set_cons_succ]
          have HK0 : Hid (wr.drew.heap[wB.heap.size]? = some (.cells #[v, .slice aa2 AN ac2] 41 (0, 0))) := HKF
          have hbd : Below wB.heap.size wB wr.drew := hbr.drew
          have hor0 : wr.drew.ownsRow wB.heap.size 42 1 v j (rcs q) := hor
          have HP0 : Hid (∀ r ∈ q, PcT wr.drew r) := HPT
          have hrL : Rd wr.drew Rp (pts (L.take MN)) := by
            have := HRO.out.1.take (MN * 2)
            rw [pts_take] at this
            exact this
          have hRN0 : Rp = none → Rc = 0 := HRO.out.2.2.2
          clear hor HKF HPT hbr e0 d0
          generalize wr.drew = W0 at *
          refine txt_heavy rfl rfl (fun K hK => ?_)
          go_step
          have hlW : wB.heap.size < W0.heap.size := (Array.getElem?_eq_some_iff.1 HK0.out).1
          have hb1 := hbd.alloc (by omega) (.cells #[] 32)
          have k1 : (W0.alloc (.cells #[] 32)).heap[wB.heap.size]? = some (.cells #[v, .slice aa2 AN ac2] 41 (0, 0)) := (Below.heap_alloc _ _ _ hlW).trans HK0.out
          have hr1 := hrL.keep (Below.new W0 (.cells #[] 32))
          have ho1 : (W0.alloc (.cells #[] 32)).ownsRow W0.heap.size 32 2 (.slice (some ⟨W0.heap.size, 0, none⟩) 0 0) 0 [] := World.ownsRow_lit W0 #[] 0 (Nat.le_refl _) (by decide) rfl
          have hlt : (L.take MN).length = MN := by rw [List.length_take, HLN.out]; omega
          refine hK.out _ _ ⟨k1, hb1⟩ ?_
          clear hK K
          try simp only [Act.put, List.getElem_toArray, List.getElem_cons_succ, List.getElem_cons_zero, List.setIfInBounds_toArray, List.set_cons_zero, List.set_cons_succ]
          (refine txt_light ?_ rfl rfl ?_ ?_; rotate_left; · (intro w' hS; (try dsimp only at hS); go_simp; with_reducible rfl)); try simp only [Act.put, List.getElem_toArray, List.getElem_cons_succ, List.getElem_cons_zero, List.setIfInBounds_toArray, List.set_cons_zero, List.set_cons_succ]
          refine txt_app W0 (Below.new W0 (.cells #[] 32)) rfl rfl (.tmp 60) (.tmp 61) 42 rfl 32 (.agg #[.int .i64 0, .int .i64 0]) 2 16 Try.underlying42 Try.infoPnt rfl (by decide) (.slice (some ⟨W0.heap.size, 0, none⟩) 0 0) 0 [] rfl ho1 Rp MN Rc (pts (L.take MN)) rfl hRN0 hr1 (by rw [pts_len, hlt]) (pts_one _) (by omega) (by decide) ?_
          intro v2 W2 ho2 hg2 hb2
          rw [Nat.zero_add, List.nil_append] at ho2
          have HK2 : Hid (W2.heap[wB.heap.size]? = some (.cells #[v, .slice aa2 AN ac2] 41 (0, 0))) := Lib.hid ((hb2.block _ hlW).trans HK0.out)
          have hbd2 := hbd.trans (hb2.mono hbd.size)
          refine ⟨⟨HK2.out, hbd2⟩, ?_⟩
          have hor2 := hor0.below hb2
          have HP2 : Hid (∀ r ∈ q, PcT W2 r) := Lib.hid (fun r hr => (HP0.out r hr).keep hb2)
          obtain ⟨p2, k2, rfl, f1, f2, f3, f4, -⟩ := ho2.form
          have HPN : Hid (PcT W2 ⟨L.take MN, p2, k2⟩) := Lib.hid ⟨⟨f4, by dsimp only; omega, f2, f3⟩, TypB.of_owns ho2⟩
          clear k1 hb1 hr1 ho1 hg2 hrL hor0 HK0 HP0
          try simp only [Act.put, List.getElem_toArray, List.getElem_cons_succ, List.getElem_cons_zero, List.setIfInBounds_toArray, List.set_cons_zero, List.set_cons_succ]
          refine txt_heavy rfl rfl (fun K hK => ?_)
          go_step
          have hlX : wB.heap.size < W2.heap.size := (Array.getElem?_eq_some_iff.1 HK2.out).1
          have hb3 := hbd2.alloc (by omega) (.cells #[.slice p2 MN k2] 42)
          have hx3 := Below.new W2 (.cells #[.slice p2 MN k2] 42)
          have k3 : (W2.alloc (.cells #[.slice p2 MN k2] 42)).heap[wB.heap.size]? = some (.cells #[v, .slice aa2 AN ac2] 41 (0, 0)) := (Below.heap_alloc _ _ _ hlX).trans HK2.out
          have rd := Rd.lit W2 W2.heap.size [.slice p2 MN k2] 42 rfl
          have hor3 := hor2.below hx3
          have HP3 : Hid (∀ r ∈ q, PcT (W2.alloc (.cells #[.slice p2 MN k2] 42)) r) := Lib.hid (fun r hr => (HP2.out r hr).keep hx3)
          have HPN3 := Lib.hid (HPN.out.keep hx3)
          have HK3 := Lib.hid k3
          refine hK.out _ _ ⟨k3, hb3⟩ ?_
          clear hK K k3 hx3 ho2 hor2 HP2 HPN HK2 hbd2 hb2 hlX
          generalize W2.alloc (.cells #[.slice p2 MN k2] 42) = W3 at *
          try simp only [Act.put, List.getElem_toArray, List.getElem_cons_succ, List.getElem_cons_zero, List.setIfInBounds_toArray, List.set_cons_zero, List.set_cons_succ]
          refine txt_app wB hb3 rfl rfl (.tmp 59) (.tmp 63) 39 rfl 42 (.slice none 0 0) 1 24 Try.underlying39 Try.infoRow rfl (by decide) v j (rcs q) rfl hor3 (some ⟨W2.heap.size, 0, none⟩) 1 1 [.slice p2 MN k2] rfl (fun h => by cases h) rd rfl (by simp [Value.oneCell']) (by omega) (by decide) ?_
          intro v3 W4 ho4 hg4 hb4
          have HK4 : Hid (W4.heap[wB.heap.size]? = some (.cells #[v, .slice aa2 AN ac2] 41 (0, 0))) := Lib.hid (((KeepS.of_row (S := fun T => T = 41) hor3 (by decide) hg4).2 _ _ _ _ HK3.out rfl).trans HK3.out)
          have HKS := Lib.hid (KeepS.of_row (S := fun T => T = 32) hor3 (by decide) hg4)
          have HP4 : Hid (∀ r ∈ q ++ [⟨L.take MN, p2, k2⟩], PcT W4 r) := Lib.hid (fun r hr => by
            rcases List.mem_append.1 hr with hr | hr
            · exact (HP3.out r hr).keepS (S := fun T => T = 32) rfl HKS.out
            · rw [List.mem_singleton.1 hr]; exact HPN3.out.keepS (S := fun T => T = 32) rfl HKS.out)
          have hqc : rcs q ++ [.slice p2 MN k2] = rcs (q ++ [⟨L.take MN, p2, k2⟩]) := by rw [rcs_snoc]; simp [PC.val, hlt]
          rw [hqc] at ho4
          obtain ⟨p3, k3, rfl, -⟩ := ho4.form
          refine ⟨⟨HK4.out, hb4⟩, ?_⟩
          clear hor3 HP3 HPN3 HK3 HKS hg4 rd hb3 hqc
          try simp only [Act.put, List.getElem_toArray, List.getElem_cons_succ, List.getElem_cons_zero, List.setIfInBounds_toArray, List.set_cons_zero, List.set_cons_succ]
          (refine txt_light ?_ rfl rfl ?_ ?_; rotate_left; · (intro w' hS; (try dsimp only at hS); go_simp; with_reducible rfl)); try simp only [Act.put, List.getElem_toArray, List.getElem_cons_succ, List.getElem_cons_zero, List.setIfInBounds_toArray, List.set_cons_zero, List.set_cons_succ]
          refine txt_last rfl rfl rfl (fun K hK => ?_)
          have c7 : W4.cell? ⟨wB.heap.size, 0, none⟩ = some v := by simp [World.cell?, HK4.out]
          have c8 : W4.frozen? ⟨wB.heap.size, 0, none⟩ = false := by simp [World.frozen?, HK4.out]
          go_step
          refine hK.out _ _ ?_
          refine txt_nil ?_
          have HK5 : Hid ((W4.setCell ⟨wB.heap.size, 0, none⟩ (.slice p3 (j + 1) k3)).heap[wB.heap.size]? = some (.cells #[.slice p3 (j + 1) k3, .slice aa2 AN ac2] 41 (0, 0))) := Lib.hid (blkT_set (vs := [v, .slice aa2 AN ac2]) HK4.out 0 _)
          have ho5 := ownsRow_box ho4 HK4.out (by decide) 0 (.slice p3 (j + 1) k3)
          have HP5 : Hid (∀ r ∈ q ++ [⟨L.take MN, p2, k2⟩], PcT (W4.setCell ⟨wB.heap.size, 0, none⟩ (.slice p3 (j + 1) k3)) r) := Lib.hid (fun r hr => (HP4.out r hr).keepS (S := fun T => T = 32) rfl (KeepS.store HK4.out (by decide) _))
          have hb5 := hb4.setCell (p := ⟨wB.heap.size, 0, none⟩) (Nat.le_refl _) (.slice p3 (j + 1) k3)
          have HSQ : Hid (fewRs most pn ((rs.take (j + 1)).map PC.l) = ((q ++ [(⟨L.take MN, p2, k2⟩ : PC)]).map PC.l, pm + MN)) := Lib.hid (by
            have ht : L.take (most - pm) = L.take MN := by
              rw [← HMN.out, ← HLN.out]
              by_cases h : most - pm ≤ L.length
              · rw [Nat.min_eq_left h]
              · rw [Nat.min_eq_right (by omega), List.take_length, List.take_of_length_le (by omega)]
            rw [HRS.out, HSR.out]
            simp [fewStep, ht, hlt])
          have hql5 : (q ++ [(⟨L.take MN, p2, k2⟩ : PC)]).length = j + 1 := by simp [hql]
          clear hK K c7 c8 ho4 HP4 hb4 HK4 HRS HSR HRO hlt HMN HLN hRN0 f1 f2 f3 f4 hz0 hbd
          generalize q ++ [(⟨L.take MN, p2, k2⟩ : PC)] = q5 at *
          generalize W4.setCell ⟨wB.heap.size, 0, none⟩ (.slice p3 (j + 1) k3) = W5 at *
          go_wp2
          exact ⟨⟨j + 1, q5, pm + MN, .slice p3 (j + 1) k3, by omega, by omega, by go_num, by go_num, hql5, HSQ, by omega, HK5, ho5, HP5, hb5⟩, by simp [intOf]; omega⟩
          trace_state
          done
        · obtain ⟨p3, k3, rfl, g1, g2, g3, g4, -⟩ := hor.form
          have e6 : wr.cell? ⟨wB.heap.size, 0, none⟩ = some (.slice p3 j k3) := by simp [World.cell?, HKF.out]
          have e7 : wr.cell? ⟨wB.heap.size, 0 + 1, none⟩ = some (.slice aa2 AN ac2) := by simp [World.cell?, HKF.out]
          have HTK : Hid (rs.take j = rs.take 8) := Lib.hid (by
            by_cases h8 : j = 8
            · rw [h8]
            · rw [List.take_of_length_le (by rw [HRN.out]; omega), List.take_of_length_le (by rw [HRN.out]; omega)])
          have hbw := hblB.trans (hbr.mono hsB')
          have hoX := hoB.below hbr
          have HFC : Hid (fcs fs ++ [.slice p3 j k3, .slice aa2 AN ac2] = fcs (fs ++ [⟨q, p3, k3, AL, aa2, ac2⟩])) := Lib.hid (by
            rw [fcs_snoc]
            simp [Fc.cells, Fc.rval, Fc.aval, hql, HAN.out])
          have HSX : Hid (fewFs most ((l.take (i + 1)).map Fc.plain) = ((fs ++ [(⟨q, p3, k3, AL, aa2, ac2⟩ : Fc)]).map Fc.plain, pm)) := Lib.hid (by
            have e : fewRs most pn ((rs.map PC.l).take 8) = (q.map PC.l, pm) := by rw [← List.map_take, ← HTK.out]; exact HSR.out
            rw [HSN.out, HST.out]
            simp only [fewStepF, Fc.plain, Fc.rings, e, HAL.out, List.map_append, List.map_cons, List.map_nil])
          have HFA : Hid (∀ f ∈ fs ++ [(⟨q, p3, k3, AL, aa2, ac2⟩ : Fc)], FcT wr f) := Lib.hid (fun f hf => by
            rcases List.mem_append.1 hf with hf | hf
            · exact (HFB.out f hf).keep hbr
            · rw [List.mem_singleton.1 hf]
              exact ⟨⟨⟨g4, by rw [hql]; exact g1, g2, g3⟩, fun r hr => (HPT.out r hr).1, ⟨har.keep hbr, by rw [HAN.out]; exact hac1, hac2, hac3⟩⟩, TypB.of_owns hor, HPT.out, hat.keepS (S := fun _ => True) trivial (KeepS.of_below hbr)⟩)
          clear hor HSR HKF HPT HTK g1 g2 g3 g4 hoB HFB
          by_cases r1 : j < RN
          · have r1' : (j : Int) < (RN : Int) := by omega
            have r2' : ¬ (j : Int) < 8 := by omega
            go_wp2_with (at_builtin; go_must (refine wpList_appLit' w hbw rfl (.tmp 70) (.tmp 72) 22 rfl 41 (.agg #[.slice none 0 0, .slice none 0 0]) 2 48 Try.underlying22 Try.infoFace rfl (by decide) (by decide) u5 i (fcs fs) rfl hoX 1 1 [.slice p3 j k3, .slice aa2 AN ac2] _ rfl rfl (by simp [Value.oneCell']) (by omega) ?_); intro v9 W9 ho9 hg9 hb9; have HKP := Lib.hid (KeepS.of_row hoX faceS_face hg9); clear hg9 hoX)
            rw [HFC.out] at ho9
            exact ⟨⟨i + 1, fs ++ [⟨q, p3, k3, AL, aa2, ac2⟩], pm, by omega, by omega, by go_num, rfl, by simp [hfl], HSX, hpm2, ho9, Lib.hid (fun f hf => (HFA.out f hf).keepS HKP.out), hb9⟩, by simp [intOf]; omega⟩
          · have r1' : ¬ (j : Int) < (RN : Int) := by omega
            go_wp2_with (at_builtin; go_must (refine wpList_appLit' w hbw rfl (.tmp 70) (.tmp 72) 22 rfl 41 (.agg #[.slice none 0 0, .slice none 0 0]) 2 48 Try.underlying22 Try.infoFace rfl (by decide) (by decide) u5 i (fcs fs) rfl hoX 1 1 [.slice p3 j k3, .slice aa2 AN ac2] _ rfl rfl (by simp [Value.oneCell']) (by omega) ?_); intro v9 W9 ho9 hg9 hb9; have HKP := Lib.hid (KeepS.of_row hoX faceS_face hg9); clear hg9 hoX)
            rw [HFC.out] at ho9
            exact ⟨⟨i + 1, fs ++ [⟨q, p3, k3, AL, aa2, ac2⟩], pm, by omega, by omega, by go_num, rfl, by simp [hfl], HSX, hpm2, ho9, Lib.hid (fun f hf => (HFA.out f hf).keepS HKP.out), hb9⟩, by simp [intOf]; omega⟩
    · have HTK : Hid (l.take i = l.take 10) := Lib.hid (by
        by_cases h10 : i = 10
        · rw [h10]
        · rw [List.take_of_length_le (by rw [HN.out]; omega), List.take_of_length_le (by rw [HN.out]; omega)])
      have HRE : Hid (fs.map Fc.plain = RES) := Lib.hid (by rw [HFE.out, ← HTK.out, HST.out])
      rw [← hfl] at ho
      by_cases h1 : i < N
      · have h1' : (i : Int) < (N : Int) := by omega
        have h2' : ¬ (i : Int) < 10 := by omega
        go_wp2
        go_ret
        exact ⟨fs, _, rfl, ho, HFT.out, HRE.out, hbl⟩
      · have h1' : ¬ (i : Int) < (N : Int) := by omega
        go_wp2
        go_ret
        exact ⟨fs, _, rfl, ho, HFT.out, HRE.out, hbl⟩
end Go.Proofs.Ytediblljgakoeaa
/- How great few faces are. -/
set_option linter.unusedVariables false
set_option linter.unusedSimpArgs false
namespace Go
open Go.RowKit
theorem fewFs_ls (most : Nat) (l : List Fp) : (∀ f ∈ (fewFs most l).1, f.rings.length ≤ 8 ∧ f.ls.length ≤ 10 ∧ ∀ r ∈ f.rings, r.length ≤ most) ∧ (fewFs most l).1.length = l.length := by
  have kr : ∀ (l : List (List Pt)) (s : List (List Pt) × Nat), (∀ r ∈ s.1, r.length ≤ most) → (l.foldl (fewStep most) s).1.length = s.1.length + l.length ∧ ∀ r ∈ (l.foldl (fewStep most) s).1, r.length ≤ most := by
    intro l
    induction l with
    | nil => intro s h; exact ⟨rfl, h⟩
    | cons r l ih =>
      intro s h
      have h2 : ∀ r' ∈ (fewStep most s r).1, r'.length ≤ most := by
        intro r' hr
        simp only [fewStep, List.mem_append, List.mem_singleton] at hr
        rcases hr with hr | hr
        · exact h r' hr
        · rw [hr, List.length_take]; omega
      obtain ⟨k1, k2⟩ := ih _ h2
      refine ⟨?_, k2⟩
      simp only [List.foldl_cons]
      rw [k1]
      simp [fewStep]; omega
  have key : ∀ (l : List Fp) (s : List Fp × Nat), (∀ f ∈ s.1, f.rings.length ≤ 8 ∧ f.ls.length ≤ 10 ∧ ∀ r ∈ f.rings, r.length ≤ most) → (∀ f ∈ (l.foldl (fewStepF most) s).1, f.rings.length ≤ 8 ∧ f.ls.length ≤ 10 ∧ ∀ r ∈ f.rings, r.length ≤ most) ∧ (l.foldl (fewStepF most) s).1.length = s.1.length + l.length := by
    intro l
    induction l with
    | nil => intro s h; exact ⟨h, rfl⟩
    | cons f l ih =>
      intro s h
      have h2 : ∀ g ∈ (fewStepF most s f).1, g.rings.length ≤ 8 ∧ g.ls.length ≤ 10 ∧ ∀ r ∈ g.rings, r.length ≤ most := by
        intro g hg
        simp only [fewStepF, List.mem_append, List.mem_singleton] at hg
        rcases hg with hg | hg
        · exact h g hg
        · obtain ⟨k1, k2⟩ := kr (f.rings.take 8) ([], s.2) (by simp)
          rw [hg]
          refine ⟨?_, by simp; omega, fun r hr => k2 r hr⟩
          show (fewRs most s.2 (f.rings.take 8)).1.length ≤ 8
          unfold fewRs
          rw [k1]
          simp; omega
      obtain ⟨k1, k2⟩ := ih _ h2
      refine ⟨k1, ?_⟩
      simp only [List.foldl_cons]
      rw [k2]
      simp [fewStepF]; omega
  obtain ⟨k1, k2⟩ := key l ([], 0) (by simp)
  exact ⟨k1, by unfold fewFs; rw [k2]; simp⟩
theorem few_one {fs : List Fc} {most : Nat} {x : Fp} (h : fs.map Fc.plain = fewF most [x]) : ∃ g, fs = [g] ∧ g.rs.length ≤ 8 ∧ g.ls.length ≤ 10 ∧ ∀ r ∈ g.rs, r.l.length ≤ most := by
  have h0 : fewF most [x] = (fewFs most [x]).1 := rfl
  obtain ⟨k1, k2⟩ := fewFs_ls most [x]
  rw [← h0, ← h] at k1 k2
  rw [List.length_map] at k2
  match fs, k2 with
  | [g], _ =>
    have := k1 g.plain (by simp)
    refine ⟨g, rfl, by simpa [Fc.plain, Fc.rings] using this.1, this.2.1, fun r hr => this.2.2 r.l ?_⟩
    exact List.mem_map_of_mem hr
theorem few_bd {fs : List Fc} {most : Nat} {l : List Fp} (h : fs.map Fc.plain = fewF most l) : fs.length ≤ 10 ∧ ∀ f ∈ fs, f.rs.length ≤ 8 ∧ f.ls.length ≤ 10 ∧ ∀ r ∈ f.rs, r.l.length ≤ most := by
  obtain ⟨k1, k2⟩ := fewFs_ls most (l.take 10)
  have h0 : fewF most l = (fewFs most (l.take 10)).1 := rfl
  rw [← h0, ← h] at k1 k2
  rw [List.length_map, List.length_take] at k2
  refine ⟨by omega, fun f hf => ?_⟩
  have := k1 f.plain (List.mem_map_of_mem hf)
  refine ⟨by simpa [Fc.plain, Fc.rings] using this.1, this.2.1, fun r hr => this.2.2 r.l ?_⟩
  exact List.mem_map_of_mem hr
end Go
/- Plain: of exact faces nothing moves: the sides. -/
set_option linter.unusedVariables false
set_option linter.unusedSimpArgs false
namespace Go
open Go.RowKit
theorem mem_allSd {L : List (List (List Pt))} {s : Sd} : s ∈ allSd L ↔ ∃ (i k : Nat) (f : List (List Pt)) (r : List Pt) (e : Pt × Pt), L[i]? = some f ∧ f[k]? = some r ∧ e ∈ edges r ∧ s = ⟨i, k, e.1, e.2⟩ := by
  unfold allSd someSd faceSd ringSd
  simp only [List.mem_flatMap, List.mem_range, List.mem_map]
  constructor
  · rintro ⟨i, hi, k, hk, e, he, rfl⟩
    rw [getElem!_pos L i hi] at hk he
    rw [getElem!_pos L[i] k hk] at he
    exact ⟨i, k, L[i], L[i][k], e, List.getElem?_eq_getElem hi, List.getElem?_eq_getElem hk, he, rfl⟩
  · rintro ⟨i, k, f, r, e, hi, hk, he, rfl⟩
    obtain ⟨hi1, hi2⟩ := List.getElem?_eq_some_iff.1 hi
    obtain ⟨hk1, hk2⟩ := List.getElem?_eq_some_iff.1 hk
    refine ⟨i, hi1, k, ?_, e, ?_, rfl⟩
    · rw [getElem!_pos L i hi1, hi2]; exact hk1
    · rw [getElem!_pos L i hi1, hi2, getElem!_pos f k hk1, hk2]; exact he
theorem edges_next {l : List Pt} {p q : Pt} (h : (p, q) ∈ edges l) : ∃ r, (q, r) ∈ edges l := by
  unfold edges at h ⊢
  simp only [List.mem_map, List.mem_range] at h ⊢
  obtain ⟨i, hi, he⟩ := h
  have hm := Nat.mod_lt (i + 1) (show 0 < l.length by omega)
  exact ⟨l[((i + 1) % l.length + 1) % l.length]!, (i + 1) % l.length, hm, by have := congrArg Prod.snd he; dsimp only at this; rw [this]⟩
theorem ex_side {z : Int} {L : List (List (List Pt))} (hex : exactF z L = true) {s : Sd} (hs : s ∈ allSd L) : Ex45 (powD z) s.a s.b (snapP s.a z) (snapP s.b z) := by
  unfold exactF at hex
  rw [Bool.and_eq_true, List.all_eq_true] at hex
  obtain ⟨hz, hall⟩ := hex
  obtain ⟨i, k, f, r, e, hi, hk, he, rfl⟩ := mem_allSd.1 hs
  obtain ⟨p, q⟩ := e
  obtain ⟨q', hq'⟩ := edges_next he
  have h1 := hall _ hs
  have h2 := hall _ (mem_allSd.2 ⟨i, k, f, r, (q, q'), hi, hk, hq', rfl⟩)
  have h3 := h2
  unfold exS at h3
  simp only [Bool.and_eq_true, decide_eq_true_eq] at h3
  exact exS_45 hz h1 h3.1.1 h3.1.2
theorem ex_okPt {d : Int} {p q a b : Pt} (h : Ex45 d p q a b) : okPt p = true ∧ okPt q = true := by
  have := h.w1
  have := h.w2
  rw [okPt_iff, okPt_iff]
  omega
theorem exact_found {z b : Int} {L : List (List (List Pt))} (hex : exactF z L = true) (hok : facesOk z b L = true) {t : Sd} (ht : t ∈ allSd (L.map (fun f => f.map (ringF z b)))) :
    (∃ s ∈ allSd L, s.f = t.f ∧ s.r = t.r ∧ onX s.a s.b ⟨powD z * t.a.x, powD z * t.a.y⟩ = true ∧ onX s.a s.b ⟨powD z * t.b.x, powD z * t.b.y⟩ = true) ∧
    ((0 ≤ powD z * t.a.x ∧ powD z * t.a.x ≤ 65536) ∧ 0 ≤ powD z * t.a.y ∧ powD z * t.a.y ≤ 65536) ∧ (0 ≤ powD z * t.b.x ∧ powD z * t.b.x ≤ 65536) ∧ 0 ≤ powD z * t.b.y ∧ powD z * t.b.y ≤ 65536 := by
  have hz : levelB z = true := by unfold exactF at hex; rw [Bool.and_eq_true] at hex; exact hex.1
  obtain ⟨hd, -⟩ := powD_pos hz
  obtain ⟨i, k, f, r, e, hi, hk, he, rfl⟩ := mem_allSd.1 ht
  obtain ⟨u, v⟩ := e
  rw [List.getElem?_map] at hi
  obtain ⟨g, hg, rfl⟩ := Option.map_eq_some_iff.1 hi
  rw [List.getElem?_map] at hk
  obtain ⟨x, hx, rfl⟩ := Option.map_eq_some_iff.1 hk
  have hro : ringOk z b x = true := by
    unfold facesOk at hok
    rw [Bool.and_eq_true, List.all_eq_true] at hok
    exact List.all_eq_true.1 (hok.2 g (List.mem_of_getElem? hg)) x (List.mem_of_getElem? hx)
  have hrf : ringF z b x = ringM (linesF z b) (x.map (snapP · z)) := by unfold ringF; rw [if_pos hro]; rfl
  rw [hrf] at he
  obtain ⟨a, c, hac, hu, hv⟩ := ring_along he
  rw [edges_map] at hac
  obtain ⟨⟨p, q⟩, hpq, hpe⟩ := List.mem_map.1 hac
  cases hpe
  have hs : (⟨i, k, p, q⟩ : Sd) ∈ allSd L := mem_allSd.2 ⟨i, k, g, x, (p, q), hg, hx, hpq, rfl⟩
  have h45 := ex_side hex hs
  have k1 := cut_onX hd h45 hu
  have k2 := cut_onX hd h45 hv
  exact ⟨⟨_, hs, rfl, rfl, k1.1, k2.1⟩, k1.2, k2.2⟩
theorem sides_len (L : List (List (List Pt))) (M : Nat) (h1 : L.length ≤ 10) (h2 : ∀ f ∈ L, f.length ≤ 8 ∧ ∀ r ∈ f, r.length ≤ M) : (allSd L).length ≤ 80 * M := by
  have kf : ∀ (i : Nat) (f : List (List Pt)), (∀ r ∈ f, r.length ≤ M) → ∀ m, m ≤ f.length → (faceSd i f m).length ≤ m * M := by
    intro i f hf m
    induction m with
    | zero => intro _; simp [faceSd]
    | succ m ih =>
      intro hm
      have := ih (by omega)
      rw [faceSd_succ, List.length_append, getElem!_pos f m (by omega)]
      have h3 := hf f[m] (List.getElem_mem _)
      have : (ringSd i m f[m]).length = f[m].length := by simp [ringSd, edges]
      rw [Nat.succ_mul]; omega
  have ks : ∀ m, m ≤ L.length → (someSd L m).length ≤ m * (8 * M) := by
    intro m
    induction m with
    | zero => intro _; simp [someSd]
    | succ m ih =>
      intro hm
      have := ih (by omega)
      rw [someSd_succ, List.length_append, getElem!_pos L m (by omega)]
      have h3 := h2 L[m] (List.getElem_mem _)
      have h4 := kf m L[m] h3.2 _ (Nat.le_refl _)
      have h5 : L[m].length * M ≤ 8 * M := Nat.mul_le_mul_right _ h3.1
      rw [Nat.succ_mul]; omega
  have := ks L.length (Nat.le_refl _)
  have h6 : L.length * (8 * M) ≤ 10 * (8 * M) := Nat.mul_le_mul_right _ h1
  unfold allSd
  omega
theorem ringF_len (z b : Int) (l : List Pt) (h : l.length ≤ 30) : (ringF z b l).length ≤ 1950 := by
  unfold ringF
  split
  · unfold ringL
    have h1 := edgeF_flat (linesF z b) (linesF_len z b) (edges (thinR (l.map (snapP · z))))
    have h2 := thinR_len (l.map (snapP · z))
    have h3 : (edges (thinR (l.map (snapP · z)))).length = (thinR (l.map (snapP · z))).length := by simp [edges]
    rw [List.length_map] at h2
    rw [h3] at h1
    omega
  · simp
end Go
/- graticuleref04.Compare, graticulelaw04.Ints of rows that are the same. -/
set_option linter.unusedVariables false
set_option linter.unusedSimpArgs false
set_option maxRecDepth 100000
namespace Go.Proofs.Ytediblljgakoeaa
open Go.RowKit
theorem rsign_zero (w : World) :
    Calls Try.prog 46 #[.int .i64 0] w fun e w' => e = .returned (.int .i64 0) ∧ w' = w := by
  go_enter Try.func46, Try.ntmps46
  go_wp2
  go_ret
  exact ⟨rfl, rfl⟩

set_option maxHeartbeats 3200000 in
theorem rcompare_same (a b : Option Addr) (c d : Nat) (l : List Int) (hl : l.length ≤ 1000000) (w : World) (ha : Rd w a (ins l)) (hb : Rd w b (ins l)) :
    Calls Try.prog 28 #[.slice a l.length c, .slice b l.length d] w fun e w' => e = .returned (.int .i64 0) ∧ ∃ q, w' = w.drewN q := by
  have HS := Lib.hid rsign_zero
  obtain ⟨m, hm⟩ : ∃ m, l.length = m := ⟨_, rfl⟩
  have HM := Lib.hid hm
  rw [hm] at hl ⊢
  clear hm
  have HA := Lib.hid ha
  have HB := Lib.hid hb
  clear ha hb
  go_enter Try.func28, Try.ntmps28
  go_wp2
  go_loopw [5] (fun o wr => ∃ (k : Nat), k ≤ m ∧ o = .int .i64 k ∧ ∃ q, wr = w.drewN q) (fun o _ => m - (intOf o).toNat)
  case atStart => exact ⟨0, by omega, rfl, 0, rfl⟩
  case round =>
    obtain ⟨k, hk, rfl, q, rfl⟩ := hrel
    by_cases hlt : k < m
    · have hlt2 : (k : Int) < (m : Int) := by omega
      have hkl : k < l.length := by rw [HM.out]; exact hlt
      obtain ⟨b1, o1, rfl, hc, -⟩ := HA.out.at (i := k) (v := .int .i64 l[k]!) (by simp [ins, hkl])
      obtain ⟨b2, o2, rfl, hd, -⟩ := HB.out.at (i := k) (v := .int .i64 l[k]!) (by simp [ins, hkl])
      generalize l[k]! = x at *
      go_wp2
      go_quiet (fail)
      go_wp2
      go_quiet (fail)
      go_wp2
      exact ⟨⟨k + 1, by omega, val_int (by omega), _, rfl⟩, by simp [intOf]; omega⟩
    · have hk3 : k = m := by omega
      subst hk3
      go_wp2_with fail
      refine (HS.out _).mono ?_
      rintro e w1 ⟨rfl, rfl⟩
      go_wp2
      go_ret
      exact ⟨rfl, q, rfl⟩

set_option maxHeartbeats 800000 in
theorem ints_same (a b : Option Addr) (c d : Nat) (l : List Int) (hl : l.length ≤ 1000000) (w : World) (ha : Rd w a (ins l)) (hb : Rd w b (ins l)) :
    Calls Try.prog 16 #[.slice a l.length c, .slice b l.length d] w fun e w' => e = .returned (.bool true) ∧ ∃ q, w' = w.drewN q := by
  have h := rcompare_same a b c d l hl w ha hb
  generalize l.length = m at *
  clear ha hb
  go_enter Try.func16, Try.ntmps16
  go_wp2_with fail
  refine h.mono ?_
  rintro e w1 ⟨rfl, q, rfl⟩
  go_wp2
  go_ret
  exact ⟨rfl, q, rfl⟩
end Go.Proofs.Ytediblljgakoeaa
/- The chapter's examples hold: graticulelaw16.known answers true. -/
set_option linter.unusedVariables false
set_option linter.unusedSimpArgs false
set_option maxRecDepth 100000
namespace Go.Proofs.Ytediblljgakoeaa
open Go.RowKit Go.Srt
theorem kn_lines : linesF 1 100 = [3996, 4196] := by kernel_rfl
theorem kn_ring : ringF 1 0 [⟨0, 0⟩, ⟨65536, 0⟩, ⟨0, 65536⟩] = [⟨0, 0⟩, ⟨4096, 0⟩, ⟨8192, 0⟩, ⟨4096, 4096⟩, ⟨0, 8192⟩, ⟨0, 4096⟩] := by kernel_rfl
theorem kn_ok : ringOk 1 0 [⟨0, 0⟩, ⟨65536, 0⟩, ⟨0, 65536⟩] = true := by kernel_rfl
theorem kn_lok : linesB 1 100 = true := by kernel_rfl
theorem kn_pt : (if (levelB 0 && worldB ⟨24, 8⟩) = true then snapP ⟨24, 8⟩ 0 else ⟨0, 0⟩) = ⟨2, 1⟩ := by kernel_rfl
theorem kn_pok : (levelB 0 && worldB ⟨24, 8⟩) = true := by kernel_rfl

set_option maxHeartbeats 1600000 in
theorem zknown_any (w : World) :
    Calls Try.prog 7 #[] w fun e w' => e = .returned (.bool true) ∧ Below w.heap.size w w' := by
  have c1 := fun w => lines_any 1 100 w
  rw [kn_lines, kn_lok] at c1
  have c2 := fun w => point_any ⟨24, 8⟩ 0 (by decide) w
  rw [kn_pt, kn_pok] at c2
  have c3 := fun a w h => ring_any a 3 [⟨0, 0⟩, ⟨65536, 0⟩, ⟨0, 65536⟩] 1 0 (by decide) (by decide) w h
  rw [kn_ring, kn_ok] at c3
  simp only [if_true] at c3
  dsimp only [Pt.val] at c2
  have C1 := Lib.hid c1
  have C2 := Lib.hid c2
  have C3 := Lib.hid c3
  clear c1 c2 c3
  go_enter Try.func7, Try.ntmps7
  go_wp2_with fail
  refine (C1.out _).mono ?_
  rintro e w1 ⟨v1, rfl, ho1, hb1⟩
  have hs1 := hb1.size
  obtain ⟨a1, c1, rfl, -, -, -, hr1, -⟩ := ho1.form
  go_wp2_with fail
  refine (C2.out _).mono ?_
  rintro e w2 ⟨rfl, hb2⟩
  have hs2 := hb2.size
  have hr2 := hr1.keep hb2
  have hb3 := hb1.trans (hb2.mono hs1)
  clear hb1 hb2 ho1 hr1 C1 C2
  have hp1 := (Blk.lit w2 w2.heap.size [.int .i64 2, .int .i64 1] 32 rfl).alloc (.cells #[.int .i64 0, .int .i64 0, .int .i64 65536, .int .i64 0, .int .i64 0, .int .i64 65536] 32)
  have hb4 := (hb3.alloc (by omega) (.cells #[.int .i64 2, .int .i64 1] 32)).alloc (by simp; omega) (.cells #[.int .i64 0, .int .i64 0, .int .i64 65536, .int .i64 0, .int .i64 0, .int .i64 65536] 32)
  have hr4 := (hr2.alloc (.cells #[.int .i64 2, .int .i64 1] 32)).alloc (.cells #[.int .i64 0, .int .i64 0, .int .i64 65536, .int .i64 0, .int .i64 0, .int .i64 65536] 32)
  go_wp2_with fail
  refine (C3.out _ _ (Rd.lit _ _ [.int .i64 0, .int .i64 0, .int .i64 65536, .int .i64 0, .int .i64 0, .int .i64 65536] 32 (by simp))).mono ?_
  rintro e w5 ⟨v5, rfl, ho5, hb5⟩
  have hr5 := hr4.keep hb5
  have hp5 := hp1.keep hb5
  have hb6 := hb4.trans (hb5.mono hb4.size)
  clear hb4 hb5 hr4 hp1 hr2 hb3 C3 hs2
  obtain ⟨a5, c5, rfl, -, -, -, hrd5, -⟩ := ho5.form
  obtain ⟨b, off, rfl, q0, hbb⟩ := hrd5.at (i := 6) (v := .int .i64 4096) rfl
  obtain ⟨_, _, e1, q1, -⟩ := hrd5.at (i := 7) (v := .int .i64 4096) rfl
  cases e1
  have p0 := hp5.cell 0 rfl
  have p1 := hp5.cell 1 rfl
  have hs6 := hb6.size
  have hlt := hp5.lt
  clear hrd5 ho5
  simp only [List.length_cons, List.length_nil, Nat.reduceAdd]
  have hin := ints_same a1 (some ⟨w5.heap.size, 0, none⟩) c1 2 [3996, 4196] (by decide) (w5.alloc (.cells #[.int .i64 3996, .int .i64 4196] 3)) (hr5.alloc _) (Rd.new w5 [.int .i64 3996, .int .i64 4196] 3)
  have HIN := Lib.hid hin
  clear hin hr5
  go_wp2_with fail
  refine HIN.out.mono ?_
  rintro e w7 ⟨rfl, n, rfl⟩
  go_wp2
  go_ret
  exact ⟨rfl, below_drewN (hb6.alloc hs6 _) n⟩
end Go.Proofs.Ytediblljgakoeaa
/- Opening a law's arguments: faces. -/
set_option linter.unusedVariables false
set_option linter.unusedSimpArgs false
set_option maxRecDepth 100000
namespace Go
open Go.RowKit
/-- An attribute that came in. -/
def AtIn (a : At) : Prop := AtOk a ∧ (Lit.int .i64 a.kind).wf = true ∧ (Lit.int .i64 a.n).wf = true
/-- A face that came in, its attributes' numbers too. -/
def FcIn (W : World) (f : Fc) : Prop := f.Ok W ∧ ∀ x ∈ f.ls, AtIn x
theorem FcIn.in {W : World} {f : Fc} (h : FcIn W f) : f.In W := ⟨h.1, fun x hx => (h.2 x hx).1⟩
end Go
namespace Go.Proofs.Ytediblljgakoeaa
open Go.RowKit Go.ChangeShapes Go.WideShapes Go.ChangeAt
theorem one_attr {H : Type} {enc : TypeId × Value → H} {W : World} {base : Nat} {spare : Nat → Bool} {held : Bool} (n : Nat) (cs : List Value) (z : DataW H × List MemPlace) (hcl : cs.length = 4)
    (ht : DataW.trod enc Try.prog W base spare held n 62 cs = some z) : ∃ y : At, cs = y.cells ∧ AtIn y := by
  have c3 : Try.prog.cellsOf 3 = 1 := by kernel_rfl
  have c1 : Try.prog.cellsOf 9 = 1 := by kernel_rfl
  have cv : Try.prog.cellsOf 60 = 3 := by kernel_rfl
  obtain ⟨ys, k, hk, hxy, _, hxl, hf⟩ := DataW.trod_struct Try.underlying62 ht
  match ys, hxl, cs, hcl with
  | [y0, y1], _, [v0, v1, v2, v3], _ =>
    have g0 := hf 0 _ rfl
    have g1 := hf 1 _ rfl
    simp [c1, cv] at g0 g1
    obtain ⟨s0, e0, -, w0⟩ := DataW.trod_string Try.underlying9 g0
    simp at e0
    subst e0
    obtain ⟨zs, k2, hk2, hxy2, _, hzl, hf2⟩ := DataW.trod_struct Try.underlying60 g1
    match zs, hzl with
    | [u0, u1, u2], _ =>
      have g2 := hf2 0 _ rfl
      have g3 := hf2 1 _ rfl
      have g4 := hf2 2 _ rfl
      simp [c1, c3] at g2 g3 g4
      obtain ⟨n1, e1, -, w1⟩ := DataW.trod_int Try.underlying3 g2
      obtain ⟨s2, e2, -, w2⟩ := DataW.trod_string Try.underlying9 g3
      obtain ⟨n3, e3, -, w3⟩ := DataW.trod_int Try.underlying3 g4
      simp at e1 e2 e3
      subst e1 e2 e3
      exact ⟨⟨s0, n1, s2, n3⟩, rfl, ⟨w0, w2⟩, w1, w3⟩

theorem one_slice {cs : List Value} {H : Type} {enc : TypeId × Value → H} {W : World} {base : Nat} {spare : Nat → Bool} {held : Bool} {n : Nat} {v : Value} {z : DataW H × List MemPlace} {t e : TypeId} (ht : Try.prog.underlying t = some (.slice e))
    (h : DataW.trod enc Try.prog W base spare held n t [v] = some z) : ∃ a l c, v = .slice a l c := by
  rcases DataW.trod_slice ht h with ⟨hc, _⟩ | ⟨a, l, c, _, _, _, _, hc, _⟩
  · simp at hc; exact ⟨_, _, _, hc⟩
  · simp at hc; exact ⟨_, _, _, hc⟩

theorem one_face {H : Type} {enc : TypeId × Value → H} {W : World} {base : Nat} {spare : Nat → Bool} {held : Bool} (hsp : ∀ b, spare b = true) (n : Nat) (cs' : List Value) (z : DataW H × List MemPlace) (hl : cs'.length = 2)
    (h : DataW.trod enc Try.prog W base spare held n 41 cs' = some z) : ∃ y : Fc, cs' = y.cells ∧ FcIn W y := by
  have c1 : Try.prog.cellsOf 39 = 1 := by kernel_rfl
  have c2 : Try.prog.cellsOf 37 = 1 := by kernel_rfl
  obtain ⟨ys, k, hk, hxy, _, hxl, hf⟩ := DataW.trod_struct Try.underlying41 h
  match ys, hxl, cs', hl with
  | [y0, y1], _, [v0, v1], _ =>
    have g0 := hf 0 _ rfl
    have g1 := hf 1 _ rfl
    simp [c1, c2] at g0 g1
    obtain ⟨a, l, c, rfl⟩ := one_slice (cs := []) Try.underlying39 g0
    obtain ⟨b, m, d, rfl⟩ := one_slice (cs := []) Try.underlying37 g1
    obtain ⟨xs, rfl, h1, h2, h3, h4, h5⟩ := open_flat 1 (by decide) PC.cells (PC.Ok W) (fun _ => rfl) Try.underlying39 (by kernel_rfl) (fun n cs' z hl hz => one_ring hsp n cs' z hl hz) g0
    obtain ⟨ys, rfl, k1, k2, k3, k4, k5⟩ := open_flat 4 (by decide) At.cells AtIn (fun _ => rfl) Try.underlying37 (by kernel_rfl) (fun n cs' z hl hz => one_attr n cs' z hl hz) g1
    exact ⟨⟨xs, a, c, ys, b, d⟩, rfl, ⟨⟨h4, h1, h2, h3⟩, h5, ⟨k4, k1, k2, k3⟩⟩, k5⟩

theorem open_faces {H : Type} {enc : TypeId × Value → H} {W : World} {base : Nat} {spare : Nat → Bool} {fuel : Nat} {a : Option Addr} {len cap : Nat} {x : DataW H × List MemPlace} {held : Bool} (hsp : ∀ b, spare b = true)
    (h : DataW.trod enc Try.prog W base spare held fuel 22 [.slice a len cap] = some x) :
    ∃ xs : List Fc, len = xs.length ∧ len ≤ cap ∧ cap ≤ maxLen ∧ (a = none → cap = 0) ∧ Rd W a (fcs xs) ∧ ∀ y ∈ xs, FcIn W y :=
  open_flat 2 (by decide) Fc.cells (FcIn W) (fun _ => rfl) Try.underlying22 (by kernel_rfl) (fun n cs' z hl hz => one_face hsp n cs' z hl hz) h
/-- One face as an argument. -/
theorem open_face {H : Type} {enc : TypeId × Value → H} {W : World} {base b0 : Nat} {spare : Nat → Bool} {held : Bool} {r : Reach} {v : Value} {d : DataW H} {ps : List MemPlace} (hv : Value.okWide Try.prog W r b0 41 v) (hsp : ∀ b, spare b = true)
    (hd : DataW.Trod enc Try.prog W base spare held 41 v d ps) : ∃ f : Fc, v = f.val ∧ FcIn W f := by
  obtain ⟨cs, rfl, hsz⟩ := okWide_struct Try.underlying41 hv
  obtain ⟨n, hd⟩ := hd
  have hc : (Value.agg cs).cells.toList = cs.toList := by simp [Value.cells]
  rw [hc] at hd
  have c2 : Try.prog.cellsOf 41 = 2 := by kernel_rfl
  rw [c2] at hsz
  obtain ⟨l⟩ := cs
  obtain ⟨f, e, hf⟩ := one_face hsp n l _ hsz hd
  exact ⟨f, by subst e; rfl, hf⟩
end Go.Proofs.Ytediblljgakoeaa
