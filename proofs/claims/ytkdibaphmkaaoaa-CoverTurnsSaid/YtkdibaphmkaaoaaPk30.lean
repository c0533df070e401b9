/-
  CoverTurns: the walk.
-/
import Derived.Test.YtkdibaphmkaaoaaPk27
import Derived.Test.YtkdibaphmkaaoaaPk28
import Derived.Test.YtkdibaphmkaaoaaPk29
/- CoverTurns: the walk. -/
set_option linter.unusedVariables false
set_option linter.unusedSimpArgs false
set_option maxRecDepth 100000
namespace Go
open Go.RowKit
/-- A face that is not too great. -/
def FewF (f : Fc) : Prop := (f.rs.length ≤ 8 ∧ f.ls.length ≤ 10 ∧ ∀ r ∈ f.rs, r.l.length ≤ 40) ∧ ∀ r ∈ f.rs, ∀ x ∈ r.l, x.Wf
def FoundT (fd : Bool) (y : Int) (l : List Int) : Prop := fd = true ↔ y ∈ l
def rotAt (F : List (List (List Pt))) (K n j : Nat) : List (List Pt) := F[(j + K) % n]!
theorem cntR_80 {fs : List Fc} (h : ∀ f ∈ fs, FewF f) (hl : fs.length ≤ 10) : cntR (fs.map Fc.rings) ≤ 80 := by
  have hc : ∀ fs : List Fc, (∀ f ∈ fs, FewF f) → cntR (fs.map Fc.rings) ≤ fs.length * 8 := by
    intro fs
    induction fs with
    | nil => intro _; simp [cntR]
    | cons f fs ih =>
      intro hh
      have h1 := ih (fun g hg => hh g (List.mem_cons_of_mem _ hg))
      have h2 := (hh f List.mem_cons_self).1.1
      have h3 : f.rings.length = f.rs.length := by simp [Fc.rings]
      simp only [List.map_cons, cntR, List.length_cons, h3]
      omega
  have := hc fs h
  omega
end Go
namespace Go.Proofs.Ytkdibaphmkaaoaa
open Go.RowKit
theorem valid_fewF (a : Option Addr) (c : Nat) (fs : List Fc) (h10 : fs.length ≤ 10) (hF : ∀ f ∈ fs, FewF f) (hp : cntP (fs.map Fc.rings) ≤ 40) (w : World) (hr : Rd w a (fcs fs)) (hok : ∀ f ∈ fs, f.Ok w) :
    Calls Try.prog 12 #[.slice a fs.length c] w fun e w' => e = .returned (.int .i64 (validB (fs.map Fc.rings))) ∧ Below w.heap.size w w' := by
  have h80 := cntR_80 hF h10
  refine (valid_any a c fs (by omega) (by omega) (by rw [allEd_len]; omega) (by omega) (fun f hf r hr => by have := (hF f hf).1.2.2 r hr; omega) (fun f hf => by have := (hF f hf).1.1; omega) (fun f hf => (hF f hf).2) w hr hok).mono ?_
  rintro e w' ⟨⟨x, rfl, hx⟩, hb⟩
  rw [(validIs_iff _ _).1 hx]
  exact ⟨rfl, hb⟩
theorem near_fewF (a : Option Addr) (c : Nat) (fs : List Fc) (h10 : fs.length ≤ 10) (hF : ∀ f ∈ fs, FewF f) (hp : cntP (fs.map Fc.rings) ≤ 40) (w : World) (hr : Rd w a (fcs fs)) (hok : ∀ f ∈ fs, f.Ok w) :
    Calls Try.prog 20 #[.slice a fs.length c] w fun e w' => (∃ v, e = .returned v ∧ NearIs w' w.heap.size v fs.length (nearG (allSd (fs.map Fc.rings)) (allSd (fs.map Fc.rings)))) ∧ Below w.heap.size w w' := by
  refine near_any a c fs (by omega) (fun f hf => by have := (hF f hf).1.1; omega) (by rw [cntP_sides]; omega) (fun f hf r hr => by have := (hF f hf).1.2.2 r hr; omega) (fun s hs => ?_) (fun s hs => ?_) w hr hok
  · rw [← allEd_sd] at hs
    obtain ⟨e, he, rfl⟩ := List.mem_map.1 hs
    obtain ⟨f, hf, r, hrr, ha, hb, -⟩ := ed_in he
    obtain ⟨g, hg, rfl⟩ := List.mem_map.1 hf
    obtain ⟨q, hq, rfl⟩ := List.mem_map.1 hrr
    exact ⟨(hF g hg).2 q hq _ ha, (hF g hg).2 q hq _ hb⟩
  · rw [← allEd_sd] at hs
    obtain ⟨e, he, rfl⟩ := List.mem_map.1 hs
    obtain ⟨f, hf, r, hrr, ha, hb, hn, hm, hff⟩ := ed_in he
    rw [List.length_map] at hff
    exact hff
set_option maxHeartbeats 6400000 in
theorem cturns_walk (a : Option Addr) (c : Nat) (X : List Fc) (hl : X.length ≤ c) (hm : c ≤ maxLen) (z : Int) (hz : (Lit.int .i64 z).wf = true) (w : World) (hr : Rd w a (fcs X)) (hx : ∀ y ∈ X, FcIn w y) :
    Calls Try.prog 6 #[.slice a X.length c, .int .i64 z] w fun e w' => e = .returned (.bool true) ∧ Below w.heap.size w w' := by
  have HFW := Lib.hid (few_any a c X hl hm 40 (by decide) w hr (fun f hf => (hx f hf).in))
  have HWF := Lib.hid (fun f hf => (hx f hf).2.2)
  generalize X.length = N0 at *
  clear hr hl hm
  go_enter Try.func6, Try.ntmps6
  go_wp2_with fail
  refine HFW.out.mono ?_
  rintro e w1 ⟨fs, v, rfl, hO, hT, hP, hb1⟩
  obtain ⟨s1, s2, s3, s4, s5⟩ := few_13 hP Pt.Wf (fun f hf => HWF.out f hf)
  obtain ⟨a1, c1, rfl, hc1, hc2, hc3, hR1, -⟩ := hO.form
  have HR1 := Lib.hid hR1
  have HT := Lib.hid hT
  have HFF : Hid (∀ f ∈ fs, FewF f) := Lib.hid (fun f hf => ⟨s2 f hf, s5 f hf⟩)
  have HV := Lib.hid (fun W (hW : Below w1.heap.size w1 W) => valid_fewF a1 c1 fs s1 HFF.out s3 W (hR1.keep hW) (fun f hf => (hT f hf).1.keep hW))
  have HNR := Lib.hid (fun W (hW : Below w1.heap.size w1 W) => near_fewF a1 c1 fs s1 HFF.out s3 W (hR1.keep hW) (fun f hf => (hT f hf).1.keep hW))
  obtain ⟨n, hn⟩ : ∃ n, fs.length = n := ⟨_, rfl⟩
  have HN := Lib.hid hn
  rw [hn] at hc1 s1 HV HNR ⊢
  have HV2 : Hid (∀ W, Below w1.heap.size w1 W → Calls Try.prog 12 #[.slice a1 n c1] W fun e w' => e = .returned (.int .i64 (validB (fs.map Fc.rings))) ∧ Below W.heap.size W w') := HV
  have HN2 : Hid (∀ W, Below w1.heap.size w1 W → Calls Try.prog 20 #[.slice a1 n c1] W fun e w' => (∃ v, e = .returned v ∧ NearIs w' W.heap.size v n (nearG (allSd (fs.map Fc.rings)) (allSd (fs.map Fc.rings)))) ∧ Below W.heap.size W w') := HNR
  have HS3 := Lib.hid s3
  clear hO hT hP hR1 s2 s3 s4 s5 HFW HWF hn HV HNR hx
  by_cases h0 : n = 0
  · subst h0
    clear HV2 HN2
    go_wp2_with fail
    refine (known13 w1).mono ?_
    rintro e w2 ⟨rfl, hb2⟩
    have hb3 := hb1.trans (hb2.mono hb1.size)
    have hv0 := valid_fewF none 0 [] (by simp) (by simp) (by simp [cntP]) w2 (Rd.nil _ _) (by simp)
    rw [show validB (([] : List Fc).map Fc.rings) = 0 from (by decide +kernel : validB [] = 0)] at hv0
    have HV0 := Lib.hid hv0
    clear hv0
    go_wp2_with fail
    refine HV0.out.mono ?_
    rintro e w4 ⟨rfl, hb4⟩
    have hb5 := hb3.trans (hb4.mono hb3.size)
    go_wp2
    go_ret
    exact ⟨rfl, hb5⟩
  · have h0' : (n : Int) ≠ 0 := by omega
    have h0'' : ((n : Int) == 0) = false := by simp [h0]
    obtain ⟨K, hK, hKn⟩ : ∃ K : Nat, (IntKind.u64.wrap z).tmod (n : Int) = (K : Int) ∧ K < n := by
      have h1 := u64_in z
      have h2 := Int.tmod_eq_emod_of_nonneg (b := (n : Int)) h1.1
      have h3 := Int.emod_nonneg (IntKind.u64.wrap z) h0'
      have h4 := Int.emod_lt_of_pos (IntKind.u64.wrap z) (show (0 : Int) < n by omega)
      exact ⟨((IntKind.u64.wrap z).tmod (n : Int)).toNat, by omega, by omega⟩
    obtain ⟨b, o, rfl, -, -, -⟩ := HR1.out.fc 0 (by rw [HN.out]; omega)
    unfold maxLen at hc2
    clear h0
    go_wp2
    clear hK
    go_loopw [7, 8] (fun m i wr => ∃ (k : Nat), k ≤ n ∧ i = .int .i64 k ∧ Hid (∃ gs : List Fc, gs.length = k ∧ Hid (All2 RotF ((List.range k).map (rotAt (fs.map Fc.rings) K n)) (gs.map Fc.rings)) ∧ wr.ownsRow w1.heap.size 39 2 m k (fcs gs) ∧ Hid (∀ f ∈ gs, FcT wr f) ∧ Hid (∀ f ∈ gs, FewF f) ∧ Below w1.heap.size w1 wr)) (fun _ i _ => n - (intOf i).toNat)
    case atStart => exact ⟨0, by omega, rfl, Lib.hid ⟨[], rfl, Lib.hid trivial, World.ownsRow_nil _ _ _ _, Lib.hid (by simp), Lib.hid (by simp), Below.refl _ _⟩⟩
    case round =>
      obtain ⟨wO, rfl⟩ : ∃ x, x = wr := ⟨_, rfl⟩
      obtain ⟨i, hi, rfl, ⟨gs, hgl, HROT, ho, HGT, HGF, hbl⟩⟩ := hrel
      by_cases hlt : i < n
      · as_aux_lemma =>
        have hlt' : (i : Int) < (n : Int) := by omega
        have hn0 : ¬ n = 0 := by omega
        obtain ⟨Q, hQ⟩ : ∃ Q, (i + K) % n = Q := ⟨_, rfl⟩
        have hQn : Q < n := by rw [← hQ]; exact Nat.mod_lt _ (by omega)
        have hQI : (Q : Int) < (n : Int) := by omega
        have hQt : ((i : Int) + (K : Int)).tmod (n : Int) = (Q : Int) := by rw [← hQ, Int.tmod_eq_emod_of_nonneg (by omega)]; simp
        have hQw : IntKind.i64.wrap ((i : Int) + (K : Int)) = (i : Int) + (K : Int) := IntWalk.i64_in _ (by omega)
        have hQl : Q < fs.length := by rw [HN.out]; exact hQn
        obtain ⟨ba, oa, hba0, hba, f0, f1⟩ := HR1.out.fc Q hQl
        cases hba0
        have HFT := Lib.hid (HT.out _ (List.getElem_mem hQl))
        have HFQ := Lib.hid (HFF.out _ (List.getElem_mem hQl))
        have HRQ : Hid (rotAt (fs.map Fc.rings) K n i = fs[Q].rings) := Lib.hid (by
          unfold rotAt
          rw [hQ, getElem!_pos (fs.map Fc.rings) Q (by rw [List.length_map]; exact hQl), List.getElem_map])
        generalize fs[Q] = f at *
        obtain ⟨rs, ra, rc, ls, aa, ac⟩ := f
        dsimp only [Fc.rval, Fc.aval] at f0 f1
        obtain ⟨RN, hRN⟩ : ∃ R, rs.length = R := ⟨_, rfl⟩
        have HRN := Lib.hid hRN
        obtain ⟨AN, hAN⟩ : ∃ R, ls.length = R := ⟨_, rfl⟩
        have HAN := Lib.hid hAN
        have hR8 : RN ≤ 8 := by rw [← hRN]; exact HFQ.out.1.1
        rw [hRN] at f0
        rw [hAN] at f1
        clear hRN hAN hQ hQl
        have hsr := hbl.size
        have hba' : b < wO.heap.size := by omega
        have hbB := Below.new wO (.cells #[.slice none 0 0, .slice aa AN ac] 39)
        have kF : (wO.alloc (.cells #[.slice none 0 0, .slice aa AN ac] 39)).heap[wO.heap.size]? = some (.cells #[.slice none 0 0, .slice aa AN ac] 39 (0, 0)) := heap_alloc_new wO _
        have e0 := (hbl.cell (p := ⟨b, o + Q * 2, none⟩) hba).trans f0
        have e1 := (hbl.cell (p := ⟨b, o + Q * 2 + 1, none⟩) hba).trans f1
        go_wp2
        go_loopw [10] (fun k W => ∃ (j : Nat), j ≤ RN ∧ k = .int .i64 j ∧ Hid (∃ (q : List PC) (v : Value), q.length = j ∧ Hid (RotF ((rs.take j).map PC.l) (q.map PC.l)) ∧ Hid (W.heap[wO.heap.size]? = some (.cells #[v, .slice aa AN ac] 39 (0, 0))) ∧ W.ownsRow wO.heap.size 40 1 v j (rcs q) ∧ Hid (∀ r ∈ q, PcT W r) ∧ Below wO.heap.size wO W)) (fun k _ => RN - (intOf k).toNat)
        case atStart => exact ⟨0, by omega, rfl, Lib.hid ⟨[], .slice none 0 0, rfl, Lib.hid trivial, Lib.hid kF, World.ownsRow_nil _ _ _ _, Lib.hid (by simp), hbB⟩⟩
        case round =>
          obtain ⟨j, hj, rfl, ⟨q, v, hql, HQ, HKF, hor, HPT, hbr⟩⟩ := hrel
          have d0 := (hbr.cell (p := ⟨b, o + Q * 2, none⟩) hba').trans e0
          by_cases hlr : j < RN
          · have r1' : (j : Int) < (RN : Int) := by omega
            have hjl : j < rs.length := by rw [HRN.out]; exact hlr
            have hbw := hbl.trans (hbr.mono hsr)
            obtain ⟨b2, o2, hra, hb2, g0⟩ := (HFT.out.1.1.1).rc j hjl
            subst hra
            have HRO := Lib.hid (HFT.out.1.2.1 _ (List.getElem_mem hjl))
            have hRL := HFQ.out.1.2.2 _ (List.getElem_mem hjl)
            have HRS : Hid ((rs.take (j + 1)).map PC.l = (rs.take j).map PC.l ++ [rs[j].l]) := Lib.hid (by
              rw [List.take_succ_eq_append_getElem hjl, List.map_append, List.map_singleton])
            generalize rs[j] = R at *
            obtain ⟨L, Rp, Rc⟩ := R
            have HTU := Lib.hid (fun W (h : Below w1.heap.size w1 W) => first_any Rp Rc L (by dsimp only at hRL; omega) HRO.out.2.1 HRO.out.2.2.1 HRO.out.2.2.2 W (HRO.out.1.keep h))
            obtain ⟨LN, hLN⟩ : ∃ R, L.length = R := ⟨_, rfl⟩
            have HLN := Lib.hid hLN
            have q1 := HRO.out.2.1
            have q2 := HRO.out.2.2.1
            dsimp only [PC.val] at g0 q1 q2 hRL
            rw [hLN] at g0 q1 hRL HTU
            clear hLN
            unfold maxLen at q2
            go_wp2_with fail
            refine wp_region_lit_txtZ (some 18) [0, 1, 2, 3, 4, 5, 6, 7, 8, 9, 10, 11, 12, 13, 17] (fun W => W.heap[wO.heap.size]? = some (.cells #[v, .slice aa AN ac] 39 (0, 0)) ∧ Below wO.heap.size wO W) (by kernel_rfl) (by kernel_rfl) (by kernel_rfl) (by kernel_rfl) ⟨HKF.out, hbr.drew⟩ ?_
            (refine txt_light ?_ rfl rfl ?_ ?_; rotate_left; · (intro w' hS; (try dsimp only at hS); go_simp; with_reducible rfl)); try simp only [Act.put, List.getElem_toArray, List.getElem_cons_succ, List.getElem_cons_zero, List.setIfInBounds_toArray, List.set_cons_zero, List.set_cons_succ]
            refine txt_light (v) rfl rfl ?_ ?_
            · intro w' hS
              obtain ⟨hS1, hS2⟩ := hS
              have c7 : w'.cell? ⟨wO.heap.size, 0, none⟩ = some v := by simp [World.cell?, hS1]
              clear hS1 hS2
              go_simp
            try simp only [Act.put, List.getElem_toArray, List.getElem_cons_succ, List.getElem_cons_zero, List.setIfInBounds_toArray, List.set_cons_zero, List.set_cons_succ]
            (refine txt_light ?_ rfl rfl ?_ ?_; rotate_left; · (intro w' hS; (try dsimp only at hS); go_simp; with_reducible rfl)); try simp only [Act.put, List.getElem_toArray, List.getElem_cons_succ, List.getElem_cons_zero, List.setIfInBounds_toArray, List.set_cons_zero, List.set_cons_succ]
            (refine txt_light ?_ rfl rfl ?_ ?_; rotate_left; · (intro w' hS; (try dsimp only at hS); go_simp; with_reducible rfl)); try simp only [Act.put, List.getElem_toArray, List.getElem_cons_succ, List.getElem_cons_zero, List.setIfInBounds_toArray, List.set_cons_zero, List.set_cons_succ]
            (refine txt_light ?_ rfl rfl ?_ ?_; rotate_left; · (intro w' hS; (try dsimp only at hS); go_simp; with_reducible rfl)); try simp only [Act.put, List.getElem_toArray, List.getElem_cons_succ, List.getElem_cons_zero, List.setIfInBounds_toArray, List.set_cons_zero, List.set_cons_succ]
            refine txt_light (.int .i64 ((i : Int) + (K : Int))) rfl rfl ?_ ?_
            · intro w' hS
              obtain ⟨hS1, hS2⟩ := hS
              clear hS1 hS2
              go_simp
            try simp only [Act.put, List.getElem_toArray, List.getElem_cons_succ, List.getElem_cons_zero, List.setIfInBounds_toArray, List.set_cons_zero, List.set_cons_succ]
            (refine txt_light ?_ rfl rfl ?_ ?_; rotate_left; · (intro w' hS; (try dsimp only at hS); go_simp; with_reducible rfl)); try simp only [Act.put, List.getElem_toArray, List.getElem_cons_succ, List.getElem_cons_zero, List.setIfInBounds_toArray, List.set_cons_zero, List.set_cons_succ]
            refine txt_light (.int .i64 (Q : Int)) rfl rfl ?_ ?_
            · intro w' hS
              obtain ⟨hS1, hS2⟩ := hS
              clear hS1 hS2
              go_simp
            try simp only [Act.put, List.getElem_toArray, List.getElem_cons_succ, List.getElem_cons_zero, List.setIfInBounds_toArray, List.set_cons_zero, List.set_cons_succ]
            (refine txt_light ?_ rfl rfl ?_ ?_; rotate_left; · (intro w' hS; (try dsimp only at hS); go_simp; with_reducible rfl)); try simp only [Act.put, List.getElem_toArray, List.getElem_cons_succ, List.getElem_cons_zero, List.setIfInBounds_toArray, List.set_cons_zero, List.set_cons_succ]
            (refine txt_light ?_ rfl rfl ?_ ?_; rotate_left; · (intro w' hS; (try dsimp only at hS); go_simp; with_reducible rfl)); try simp only [Act.put, List.getElem_toArray, List.getElem_cons_succ, List.getElem_cons_zero, List.setIfInBounds_toArray, List.set_cons_zero, List.set_cons_succ]
            refine txt_light (.slice (some ⟨b2, o2, none⟩) RN rc) rfl rfl ?_ ?_
            · intro w' hS
              obtain ⟨hS1, hS2⟩ := hS
              have c7 := (hS2.cell (p := ⟨b, o + Q * 2, none⟩) hba').trans e0
              clear hS1 hS2
              go_simp
            try simp only [Act.put, List.getElem_toArray, List.getElem_cons_succ, List.getElem_cons_zero, List.setIfInBounds_toArray, List.set_cons_zero, List.set_cons_succ]
            (refine txt_light ?_ rfl rfl ?_ ?_; rotate_left; · (intro w' hS; (try dsimp only at hS); go_simp; with_reducible rfl)); try simp only [Act.put, List.getElem_toArray, List.getElem_cons_succ, List.getElem_cons_zero, List.setIfInBounds_toArray, List.set_cons_zero, List.set_cons_succ]
            (refine txt_light ?_ rfl rfl ?_ ?_; rotate_left; · (intro w' hS; (try dsimp only at hS); go_simp; with_reducible rfl)); try simp only [Act.put, List.getElem_toArray, List.getElem_cons_succ, List.getElem_cons_zero, List.setIfInBounds_toArray, List.set_cons_zero, List.set_cons_succ]
            refine txt_light (.slice Rp LN Rc) rfl rfl ?_ ?_
            · intro w' hS
              obtain ⟨hS1, hS2⟩ := hS
              have c7 := ((hbl.trans (hS2.mono hsr)).cell (p := ⟨b2, o2 + j, none⟩) hb2).trans g0
              clear hS1 hS2
              go_simp
            try simp only [Act.put, List.getElem_toArray, List.getElem_cons_succ, List.getElem_cons_zero, List.setIfInBounds_toArray, List.set_cons_zero, List.set_cons_succ]
            have HK0 : Hid (wr.drew.heap[wO.heap.size]? = some (.cells #[v, .slice aa AN ac] 39 (0, 0))) := HKF
            have hbd : Below wO.heap.size wO wr.drew := hbr.drew
            have hor0 : wr.drew.ownsRow wO.heap.size 40 1 v j (rcs q) := hor
            have HP0 : Hid (∀ r ∈ q, PcT wr.drew r) := HPT
            have hbwd : Below w1.heap.size w1 wr.drew := hbw.drew
            clear hor HKF HPT hbr d0 hbw
            generalize wr.drew = W0 at *
            refine txt_heavy rfl rfl (fun K hK => ?_)
            go_step
            refine (HTU.out W0 hbwd).mono ?_
            rintro e W2 ⟨⟨v2, s2, rfl, ho2⟩, hb2t⟩
            have hlW : wO.heap.size < W0.heap.size := (Array.getElem?_eq_some_iff.1 HK0.out).1
            have HK2 : Hid (W2.heap[wO.heap.size]? = some (.cells #[v, .slice aa AN ac] 39 (0, 0))) := Lib.hid ((hb2t.block _ hlW).trans HK0.out)
            have hbd2 := hbd.trans (hb2t.mono hbd.size)
            have hor2 := hor0.below hb2t
            have HP2 : Hid (∀ r ∈ q, PcT W2 r) := Lib.hid (fun r hr => (HP0.out r hr).keep hb2t)
            obtain ⟨p2, k2, rfl, f1', f2', f3', f4', -⟩ := ho2.form
            have hlt2 : (rotR s2 L).length = LN := by rw [rot_len, HLN.out]
            have HPN : Hid (PcT W2 ⟨rotR s2 L, p2, k2⟩) := Lib.hid ⟨⟨f4', by dsimp only; omega, f2', f3'⟩, TypB.of_owns ho2⟩
            rw [hlt2]
            dsimp only
            refine hK.out _ _ ⟨HK2.out, hbd2⟩ ?_
            clear hK K ho2 hb2t hor0 HK0 HP0 hlW f1' f2' f3' f4' hbwd hbd
            try simp only [Act.put, List.getElem_toArray, List.getElem_cons_succ, List.getElem_cons_zero, List.setIfInBounds_toArray, List.set_cons_zero, List.set_cons_succ]
            refine txt_heavy rfl rfl (fun K hK => ?_)
            go_step
            have hlX : wO.heap.size < W2.heap.size := (Array.getElem?_eq_some_iff.1 HK2.out).1
            have hb3 := hbd2.alloc (by omega) (.cells #[.slice p2 LN k2] 40)
            have hx3 := Below.new W2 (.cells #[.slice p2 LN k2] 40)
            have k3 : (W2.alloc (.cells #[.slice p2 LN k2] 40)).heap[wO.heap.size]? = some (.cells #[v, .slice aa AN ac] 39 (0, 0)) := (Below.heap_alloc _ _ _ hlX).trans HK2.out
            have rd := Rd.lit W2 W2.heap.size [.slice p2 LN k2] 40 rfl
            have hor3 := hor2.below hx3
            have HP3 : Hid (∀ r ∈ q, PcT (W2.alloc (.cells #[.slice p2 LN k2] 40)) r) := Lib.hid (fun r hr => (HP2.out r hr).keep hx3)
            have HPN3 := Lib.hid (HPN.out.keep hx3)
            have HK3 := Lib.hid k3
            refine hK.out _ _ ⟨k3, hb3⟩ ?_
            clear hK K k3 hx3 hor2 HP2 HPN HK2 hbd2 hlX
            generalize W2.alloc (.cells #[.slice p2 LN k2] 40) = W3 at *
            try simp only [Act.put, List.getElem_toArray, List.getElem_cons_succ, List.getElem_cons_zero, List.setIfInBounds_toArray, List.set_cons_zero, List.set_cons_succ]
            refine txt_app wO hb3 rfl rfl (.tmp 67) (.tmp 81) 36 rfl 40 (.slice none 0 0) 1 24 Try.underlying36 Try.infoRow rfl (by decide) v j (rcs q) rfl hor3 (some ⟨W2.heap.size, 0, none⟩) 1 1 [.slice p2 LN k2] rfl (fun h => by cases h) rd rfl (by simp [Value.oneCell']) (by omega) (by decide) ?_
            intro v3 W4 ho4 hg4 hb4
            have HK4 : Hid (W4.heap[wO.heap.size]? = some (.cells #[v, .slice aa AN ac] 39 (0, 0))) := Lib.hid (((KeepS.of_row (S := fun T => T = 39) hor3 (by decide) hg4).2 _ _ _ _ HK3.out rfl).trans HK3.out)
            have HKS := Lib.hid (KeepS.of_row (S := fun T => T = 46) hor3 (by decide) hg4)
            have HP4 : Hid (∀ r ∈ q ++ [⟨rotR s2 L, p2, k2⟩], PcT W4 r) := Lib.hid (fun r hr => by
              rcases List.mem_append.1 hr with hr | hr
              · exact (HP3.out r hr).keepS (S := fun T => T = 46) rfl HKS.out
              · rw [List.mem_singleton.1 hr]; exact HPN3.out.keepS (S := fun T => T = 46) rfl HKS.out)
            have hqc : rcs q ++ [.slice p2 LN k2] = rcs (q ++ [⟨rotR s2 L, p2, k2⟩]) := by rw [rcs_snoc]; simp [PC.val, hlt2]
            rw [hqc] at ho4
            obtain ⟨p3, k3, rfl, -⟩ := ho4.form
            refine ⟨⟨HK4.out, hb4⟩, ?_⟩
            clear hor3 HP3 HPN3 HK3 HKS hg4 rd hb3 hqc
            try simp only [Act.put, List.getElem_toArray, List.getElem_cons_succ, List.getElem_cons_zero, List.setIfInBounds_toArray, List.set_cons_zero, List.set_cons_succ]
            (refine txt_light ?_ rfl rfl ?_ ?_; rotate_left; · (intro w' hS; (try dsimp only at hS); go_simp; with_reducible rfl)); try simp only [Act.put, List.getElem_toArray, List.getElem_cons_succ, List.getElem_cons_zero, List.setIfInBounds_toArray, List.set_cons_zero, List.set_cons_succ]
            refine txt_last rfl rfl rfl (fun K hK => ?_)
            have c7 : W4.cell? ⟨wO.heap.size, 0, none⟩ = some v := by simp [World.cell?, HK4.out]
            have c8 : W4.frozen? ⟨wO.heap.size, 0, none⟩ = false := by simp [World.frozen?, HK4.out]
            go_step
            refine hK.out _ _ ?_
            refine txt_nil ?_
            have HK5 : Hid ((W4.setCell ⟨wO.heap.size, 0, none⟩ (.slice p3 (j + 1) k3)).heap[wO.heap.size]? = some (.cells #[.slice p3 (j + 1) k3, .slice aa AN ac] 39 (0, 0))) := Lib.hid (blkT_set (vs := [v, .slice aa AN ac]) HK4.out 0 _)
            have ho5 := ownsRow_box ho4 HK4.out (by decide) 0 (.slice p3 (j + 1) k3)
            have HP5 : Hid (∀ r ∈ q ++ [⟨rotR s2 L, p2, k2⟩], PcT (W4.setCell ⟨wO.heap.size, 0, none⟩ (.slice p3 (j + 1) k3)) r) := Lib.hid (fun r hr => (HP4.out r hr).keepS (S := fun T => T = 46) rfl (KeepS.store HK4.out (by decide) _))
            have hb5 := hb4.setCell (p := ⟨wO.heap.size, 0, none⟩) (Nat.le_refl _) (.slice p3 (j + 1) k3)
            have HSQ : Hid (RotF ((rs.take (j + 1)).map PC.l) ((q ++ [(⟨rotR s2 L, p2, k2⟩ : PC)]).map PC.l)) := Lib.hid (by
              rw [HRS.out, List.map_append, List.map_singleton]
              exact All2.snoc HQ.out ⟨s2, rfl⟩)
            have hql5 : (q ++ [(⟨rotR s2 L, p2, k2⟩ : PC)]).length = j + 1 := by simp [hql]
            clear hK K c7 c8 ho4 HP4 hb4 HK4 HRS HQ HRO hlt2 HLN
            generalize q ++ [(⟨rotR s2 L, p2, k2⟩ : PC)] = q5 at *
            generalize W4.setCell ⟨wO.heap.size, 0, none⟩ (.slice p3 (j + 1) k3) = W5 at *
            go_wp2
            go_roundw
            case rel => exact ⟨j + 1, by omega, by go_num, Lib.hid ⟨q5, .slice p3 (j + 1) k3, hql5, HSQ, HK5, ho5, HP5, hb5⟩⟩
            case measure => simp [intOf]; omega
          · have hjn : j = RN := by omega
            subst hjn
            have hlr' : ¬ (j : Int) < (j : Int) := by omega
            obtain ⟨p3, k3, rfl, g1, g2, g3, g4, -⟩ := hor.form
            have e6 : wr.cell? ⟨wO.heap.size, 0, none⟩ = some (.slice p3 j k3) := by simp [World.cell?, HKF.out]
            have e7 : wr.cell? ⟨wO.heap.size, 0 + 1, none⟩ = some (.slice aa AN ac) := by simp [World.cell?, HKF.out]
            have hbw := hbl.trans (hbr.mono hsr)
            have hoX := ho.below hbr
            have HFC : Hid (fcs gs ++ [.slice p3 j k3, .slice aa AN ac] = fcs (gs ++ [⟨q, p3, k3, ls, aa, ac⟩])) := Lib.hid (by
              rw [fcs_snoc]
              simp [Fc.cells, Fc.rval, Fc.aval, hql, HAN.out])
            have HRX : Hid (All2 RotF ((List.range (i + 1)).map (rotAt (fs.map Fc.rings) K n)) ((gs ++ [(⟨q, p3, k3, ls, aa, ac⟩ : Fc)]).map Fc.rings)) := Lib.hid (by
              rw [List.range_succ, List.map_append, List.map_singleton, List.map_append, List.map_singleton]
              refine All2.snoc HROT.out ?_
              rw [HRQ.out]
              have := HQ.out
              rw [List.take_of_length_le (by rw [HRN.out]; exact Nat.le_refl _)] at this
              exact this)
            have HFA : Hid (∀ f ∈ gs ++ [(⟨q, p3, k3, ls, aa, ac⟩ : Fc)], FcT wr f) := Lib.hid (fun f hf => by
              rcases List.mem_append.1 hf with hf | hf
              · exact (HGT.out f hf).keep hbr
              · rw [List.mem_singleton.1 hf]
                have hat := HFT.out.keep hbw
                exact ⟨⟨⟨g4, by rw [hql]; exact g1, g2, g3⟩, fun r hr => (HPT.out r hr).1, hat.1.2.2⟩, TypB.of_owns hor, HPT.out, hat.2.2.2⟩)
            have HFF2 : Hid (∀ f ∈ gs ++ [(⟨q, p3, k3, ls, aa, ac⟩ : Fc)], FewF f) := Lib.hid (fun f hf => by
              rcases List.mem_append.1 hf with hf | hf
              · exact HGF.out f hf
              · rw [List.mem_singleton.1 hf]
                have hk := HQ.out
                rw [List.take_of_length_le (by rw [HRN.out]; exact Nat.le_refl _)] at hk
                have hpt : ∀ r ∈ q, ∃ x ∈ rs, ∃ s, r.l = rotR s x.l := fun r hr => by
                  obtain ⟨m, hm, rfl⟩ := List.getElem_of_mem hr
                  have hl2 := All2.len hk
                  rw [List.length_map, List.length_map] at hl2
                  obtain ⟨s, hs⟩ := All2.get hk m (by rw [List.length_map]; omega)
                  rw [getElem!_pos (q.map PC.l) m (by rw [List.length_map]; exact hm), getElem!_pos (rs.map PC.l) m (by rw [List.length_map]; omega), List.getElem_map, List.getElem_map] at hs
                  exact ⟨_, List.getElem_mem _, s, hs⟩
                obtain ⟨⟨u1, u2, u3⟩, u4⟩ := HFQ.out
                dsimp only at u1 u2 u3 u4
                refine ⟨⟨by dsimp only; omega, u2, fun r hr => ?_⟩, fun r hr x hx => ?_⟩
                · obtain ⟨y, hy, s, hs⟩ := hpt r hr
                  rw [hs, rot_len]; exact u3 y hy
                · obtain ⟨y, hy, s, hs⟩ := hpt r hr
                  rw [hs] at hx
                  exact u4 y hy x (rot_mem hx))
            clear hor HKF HPT g1 g2 g3 g4 HGT HGF HROT HQ ho
            go_wp2_with (at_builtin; go_must (refine wpList_appLit' w1 hbw rfl (.tmp 84) (.tmp 86) 22 rfl 39 (.agg #[.slice none 0 0, .slice none 0 0]) 2 48 Try.underlying22 Try.infoFace rfl (by decide) (by decide) u7 i (fcs gs) rfl hoX 1 1 [.slice p3 j k3, .slice aa AN ac] _ rfl rfl (by simp [Value.oneCell']) (by omega) ?_); intro v9 W9 ho9 hg9 hb9; have HKP := Lib.hid (KeepS.of_row hoX faceS_face hg9); clear hg9 hoX)
            rw [HFC.out] at ho9
            go_roundw
            case rel => exact ⟨i + 1, by omega, by go_num, Lib.hid ⟨gs ++ [⟨q, p3, k3, ls, aa, ac⟩], by simp [hgl], HRX, ho9, Lib.hid (fun f hf => (HFA.out f hf).keepS HKP.out), HFF2, hb9⟩⟩
            case measure => simp [intOf]; omega
      · obtain rfl : n = i := by omega
        obtain ⟨pm, cm, rfl, -, -, -, hRM, -⟩ := ho.form
        have HGN := Lib.hid hgl
        obtain ⟨hval, hperm⟩ := rot_all (F := fs.map Fc.rings) (G := gs.map Fc.rings) (K := K) (by rw [List.length_map, HN.out]; exact hKn) (by
          have := HROT.out
          rw [List.length_map, HN.out]
          exact this)
        rw [List.length_map, HN.out] at hperm
        have HPM := Lib.hid hperm
        have hcg : cntP (gs.map Fc.rings) ≤ 40 := by
          rw [← cntP_sides, hperm.length_eq, List.length_map, cntP_sides]
          exact HS3.out
        have HVG : Hid (∀ W, Below wO.heap.size wO W → Calls Try.prog 12 #[.slice pm n cm] W fun e w' => e = .returned (.int .i64 (validB (fs.map Fc.rings))) ∧ Below W.heap.size W w') := Lib.hid (fun W hW => by
          have := valid_fewF pm cm gs (by omega) HGF.out hcg W (hRM.keep hW) (fun f hf => (HGT.out f hf).1.keep hW)
          rw [hval, hgl] at this
          exact this)
        have HNG : Hid (∀ W, Below wO.heap.size wO W → Calls Try.prog 20 #[.slice pm n cm] W fun e w' => (∃ v, e = .returned v ∧ NearIs w' W.heap.size v n (nearG (allSd (gs.map Fc.rings)) (allSd (gs.map Fc.rings)))) ∧ Below W.heap.size W w') := Lib.hid (fun W hW => by
          have := near_fewF pm cm gs (by omega) HGF.out hcg W (hRM.keep hW) (fun f hf => (HGT.out f hf).1.keep hW)
          rw [hgl] at this
          exact this)
        have HSF : Hid (∀ s ∈ allSd (fs.map Fc.rings), s.f < n) := Lib.hid (fun s hs => by
          rw [allSd_gs] at hs
          have := sgs_f _ _ s hs
          rw [List.length_map, HN.out] at this
          omega)
        have hmN : (n : Int) - (n : Int) = 0 := by omega
        obtain ⟨V, hV⟩ : ∃ V, validB (fs.map Fc.rings) = V := ⟨_, rfl⟩
        rw [hV] at HV2 HVG
        have HBL := Lib.hid (hb1.trans (hbl.mono hb1.size))
        have HB1 := Lib.hid hbl
        have hlt' : ¬ (n : Int) < (n : Int) := by omega
        clear hRM hgl hval hperm hcg HROT ho HGT HGF hV HT HFF HS3 HGN hmN hlt hi
        go_wp2_with fail
        refine (HN2.out wO HB1.out).mono ?_
        rintro e w3 ⟨⟨v3, rfl, hA⟩, hb3⟩
        have hAv := hA
        obtain ⟨OA, valsA, rfl, -⟩ := hAv
        go_wp2_with fail
        refine (HNG.out w3 hb3).mono ?_
        rintro e w4 ⟨⟨v4, rfl, hB⟩, hb4⟩
        have hBv := hB
        obtain ⟨OB, valsB, rfl, -⟩ := hBv
        have hb5 := hb3.trans (hb4.mono hb3.size)
        have hA4 := hA.keep hb4
        go_wp2_with fail
        refine (HV2.out w4 (HB1.out.trans (hb5.mono HB1.out.size))).mono ?_
        rintro e w5 ⟨rfl, hb6⟩
        have hb7 := hb5.trans (hb6.mono hb5.size)
        have hA5 := hA4.keep hb6
        have hB5 := hB.keep hb6
        go_wp2_with fail
        refine (HVG.out w5 hb7).mono ?_
        rintro e w6 ⟨rfl, hb8⟩
        have HB6 := Lib.hid (HBL.out.trans ((hb7.trans (hb8.mono hb7.size)).mono HBL.out.size))
        have HNA := Lib.hid (hA5.keep hb8)
        have HNB := Lib.hid (hB5.keep hb8)
        have hVV : (V != V) = false := by simp
        have hnn : ((n : Int) != (n : Int)) = false := by simp
        clear hA hB hb3 hb4 hb5 hA4 hb6 hb7 hA5 hB5 hb8 HN2 HNG HV2 HVG HB1 HBL
        go_wp2
        go_loopw [13] (fun i wr => ∃ (k : Nat), k ≤ n ∧ i = .int .i64 k ∧ Hid (Below w6.heap.size w6 wr)) (fun i _ => n - (intOf i).toNat)
        case atStart => exact ⟨0, by omega, rfl, Lib.hid (Below.refl _ _)⟩
        case round =>
          obtain ⟨k, hk, rfl, HBK⟩ := hrel
          obtain ⟨wk, rfl⟩ : ∃ x, x = wr := ⟨_, rfl⟩
          by_cases hkn : k < n
          · as_aux_lemma =>
            have hkn' : (k : Int) < (n : Int) := by omega
            obtain ⟨Q, hQ⟩ : ∃ Q, (k + K) % n = Q := ⟨_, rfl⟩
            have hQn : Q < n := by rw [← hQ]; exact Nat.mod_lt _ (by omega)
            have hQI : (Q : Int) < (n : Int) := by omega
            have hQt : ((k : Int) + (K : Int)).tmod (n : Int) = (Q : Int) := by rw [← hQ, Int.tmod_eq_emod_of_nonneg (by omega)]; simp
            have hQw : IntKind.i64.wrap ((k : Int) + (K : Int)) = (k : Int) + (K : Int) := IntWalk.i64_in _ (by omega)
            have HFA : Hid (∃ (a2 : Option Addr) (CA : List Int) (cA : Nat) (a3 : Option Addr) (CB : List Int) (cB : Nat), (∀ W, Below w6.heap.size w6 W → W.cell? ⟨OA, Q, none⟩ = some (.slice a2 CA.length cA) ∧ W.cell? ⟨OB, k, none⟩ = some (.slice a3 CB.length cB) ∧ Rd W a2 (ins CA) ∧ Rd W a3 (ins CB)) ∧ CB.length = CA.length ∧ CB.length ≤ 10000 ∧ (∀ x ∈ CB, sigN K n x ∈ CA) ∧ ∀ x ∈ CB, -1 ≤ x ∧ x < n) := Lib.hid (by
              obtain ⟨OA', vA, e1, -, -, kA, fA⟩ := HNA.out
              cases e1
              obtain ⟨OB', vB, e2, -, -, kB, fB⟩ := HNB.out
              cases e2
              obtain ⟨a2, CA, cA, h1, h2, -, h3, h4, h5⟩ := fA Q hQn
              obtain ⟨a3, CB, cB, g1, g2, -, g3, g4, g5⟩ := fB k hkn
              have hAm : ∀ x, x ∈ CA ↔ nearP (allSd (fs.map Fc.rings)) ((k + K) % n) x := fun x => by rw [h4, mem_nearG, hQ]
              have hBm : ∀ x, x ∈ CB ↔ nearP (allSd (gs.map Fc.rings)) k x := fun x => by rw [g4, mem_nearG]
              obtain ⟨t1, t2⟩ := turn_near hKn hkn HSF.out HPM.out h3 g3 hAm hBm
              refine ⟨a2, CA, cA, a3, CB, cB, fun W hW => ⟨(kA.keep hW).cell Q h1, (kB.keep hW).cell k g1, h2.keep hW, g2.keep hW⟩, t1, g5, t2, fun x hx => ?_⟩
              refine near_bd (S := allSd (gs.map Fc.rings)) (fun s hs => ?_) ((hBm x).1 hx)
              obtain ⟨u, hu, rfl⟩ := List.mem_map.1 (HPM.out.subset hs)
              have := HSF.out u hu
              show turnN K (n - K) u.f < n
              unfold turnN
              split <;> omega)
            obtain ⟨a2, CA, cA, a3, CB, cB, hfa, hll, hl4, hsg, hbd⟩ := HFA.out
            have HFC := Lib.hid hfa
            have HSG := Lib.hid hsg
            have HBD := Lib.hid hbd
            obtain ⟨LB, hLB⟩ : ∃ l, CB.length = l := ⟨_, rfl⟩
            have HLB := Lib.hid hLB
            have HLA : Hid (CA.length = LB) := Lib.hid (by rw [← hll, hLB])
            have HFD : Hid (∀ W, Below w6.heap.size w6 W → W.cell? ⟨OA, Q, none⟩ = some (.slice a2 LB cA) ∧ W.cell? ⟨OB, k, none⟩ = some (.slice a3 LB cB) ∧ Rd W a2 (ins CA) ∧ Rd W a3 (ins CB)) := Lib.hid (fun W hW => by
              have := HFC.out W hW
              rw [HLA.out, HLB.out] at this
              exact this)
            rw [hLB] at hl4
            clear hfa hll hsg hbd hLB HFA HFC hQ
            go_wp2
            go_loopw [14, 15, 16] (fun s j x W => ∃ (t : Nat), t ≤ LB ∧ j = .int .i64 t ∧ Hid (W.ownsRow w6.heap.size 3 1 s t (ins ((CB.take t).map (sigN K n)))) ∧ Hid (Below w6.heap.size w6 W)) (fun _ j _ _ => LB - (intOf j).toNat)
            case atStart => exact ⟨0, by omega, rfl, Lib.hid (World.ownsRow_nil _ _ _ _), HBK⟩
            case round =>
              obtain ⟨t, ht, rfl, HO, HBT⟩ := hrel
              obtain ⟨wt, rfl⟩ : ∃ x, x = wr := ⟨_, rfl⟩
              obtain ⟨d0, d1, d2, d3⟩ := HFD.out wt HBT.out
              by_cases htl : t < LB
              · as_aux_lemma =>
                have htl' : (t : Int) < (LB : Int) := by omega
                have htc : t < CB.length := by rw [HLB.out]; exact htl
                obtain ⟨b3, o3, ha3, d4, -⟩ := Rd.at d3 (i := t) (v := .int .i64 CB[t]) (by simp [ins, List.getElem?_eq_getElem htc])
                subst ha3
                have hbx := HBD.out _ (List.getElem_mem htc)
                have HTK : Hid ((CB.take (t + 1)).map (sigN K n) = (CB.take t).map (sigN K n) ++ [sigN K n CB[t]]) := Lib.hid (by rw [List.take_succ_eq_append_getElem htc, List.map_append]; rfl)
                generalize CB[t] = x at *
                obtain ⟨Y, hY⟩ : ∃ y, sigN K n x = y := ⟨_, rfl⟩
                rw [hY] at HTK
                have hown := HO.out
                obtain ⟨po, co, rfl, -, -, -, -, -⟩ := hown.form
                have hszw := HBT.out.size
                clear d2 d3 htc
                have fin : ∀ (v' : Value) (w4 : World), w4.ownsRow w6.heap.size 3 1 v' (t + 1) (ins ((CB.take t).map (sigN K n)) ++ [.int .i64 Y]) → Hid (w4.ownsRow w6.heap.size 3 1 v' (t + 1) (ins ((CB.take (t + 1)).map (sigN K n)))) := fun v' w4 h => Lib.hid (by
                  rw [HTK.out]; simpa [ins] using h)
                have HFIN := Lib.hid fin
                clear fin
                by_cases hx0 : 0 ≤ x
                · obtain ⟨f, rfl⟩ : ∃ f : Nat, x = f := ⟨x.toNat, by omega⟩
                  have hYt : ((f : Int) + (K : Int)).tmod (n : Int) = Y := by rw [← hY]; unfold sigN; rw [if_pos hx0, Int.tmod_eq_emod_of_nonneg (by omega)]
                  clear hY
                  go_wp2_with (first | (at_builtin; (refine wpList_appLitG w6.heap.size (by omega) rfl _ _ 44 rfl 3 _ 1 8 Try.underlying44 Try.infoIz rfl (by decide) (by decide) (.slice po t co) _ _ rfl hown 1 1 _ rfl [.int .i64 Y] 3 rfl rfl (ins_one [Y]) (by omega) ?_; intro v' w4 hown4 hg4 hat4)) | fail)
                  have HO4 := HFIN.out v' w4 hown4
                  have hb4 := Lib.hid (HBT.out.grown hg4 hszw (fun j hj => (hown.lt j hj).1))
                  go_roundw
                  case rel => exact ⟨t + 1, by omega, by go_num, HO4, hb4⟩
                  case measure => simp [intOf]; omega
                · have hYx : Y = x := by rw [← hY]; unfold sigN; rw [if_neg hx0]
                  subst hYx
                  clear hY
                  go_wp2_with (first | (at_builtin; (refine wpList_appLitG w6.heap.size (by omega) rfl _ _ 44 rfl 3 _ 1 8 Try.underlying44 Try.infoIz rfl (by decide) (by decide) (.slice po t co) _ _ rfl hown 1 1 _ rfl [.int .i64 Y] 3 rfl rfl (ins_one [Y]) (by omega) ?_; intro v' w4 hown4 hg4 hat4)) | fail)
                  have HO4 := HFIN.out v' w4 hown4
                  have hb4 := Lib.hid (HBT.out.grown hg4 hszw (fun j hj => (hown.lt j hj).1))
                  go_roundw
                  case rel => exact ⟨t + 1, by omega, by go_num, HO4, hb4⟩
                  case measure => simp [intOf]; omega
              · obtain rfl : LB = t := by omega
                have htl' : ¬ (LB : Int) < (LB : Int) := by omega
                have hown := HO.out
                rw [List.take_of_length_le (by rw [HLB.out]; exact Nat.le_refl _)] at hown
                obtain ⟨ps, cs, rfl, -, -, -, hrs, -⟩ := hown.form
                have HRS := Lib.hid hrs
                have HBT2 := HBT
                have hLL : ((LB : Int) != (LB : Int)) = false := by simp
                clear hown hrs HO d3 htl ht
                go_wp2
                go_loopw [17, 18, 19] (fun j fl q W => ∃ (t : Nat), t ≤ LB ∧ j = .int .i64 t ∧ Hid (Below wt.heap.size wt W)) (fun j _ _ _ => LB - (intOf j).toNat)
                case atStart => exact ⟨0, by omega, rfl, Lib.hid (Below.refl _ _)⟩
                case round =>
                  obtain ⟨t, ht, rfl, HBC⟩ := hrel
                  obtain ⟨wc, rfl⟩ : ∃ x, x = wr := ⟨_, rfl⟩
                  by_cases htl : t < LB
                  · as_aux_lemma =>
                    have htl' : (t : Int) < (LB : Int) := by omega
                    have htc : t < CB.length := by rw [HLB.out]; exact htl
                    have HYA := Lib.hid (HSG.out _ (List.getElem_mem htc))
                    have HYS : Hid ((ins (CB.map (sigN K n)))[t]? = some (.int .i64 (sigN K n CB[t]))) := Lib.hid (by simp [ins, List.getElem?_eq_getElem htc])
                    generalize sigN K n CB[t] = Y at *
                    clear htc
                    go_wp2
                    go_loopw [18, 19] (fun fl q W => ∃ (u : Nat) (fd : Bool), u ≤ LB ∧ q = .int .i64 u ∧ fl = .bool fd ∧ Hid (FoundT fd Y (CA.take u)) ∧ Hid (Below wt.heap.size wt W)) (fun _ q _ => LB - (intOf q).toNat)
                    case atStart => exact ⟨0, false, by omega, rfl, rfl, Lib.hid (by unfold FoundT; simp), HBC⟩
                    case round =>
                      obtain ⟨u, fd, hu, rfl, rfl, HFND, HBU⟩ := hrel
                      by_cases hul : u < LB
                      · have hul' : (u : Int) < (LB : Int) := by omega
                        have huc : u < CA.length := by rw [HLA.out]; exact hul
                        have hbw := HBT2.out.trans (HBU.out.mono HBT2.out.size)
                        obtain ⟨d0, -, d2, -⟩ := HFD.out wr hbw
                        obtain ⟨b2, o2, ha2, d4, -⟩ := Rd.at d2 (i := u) (v := .int .i64 CA[u]) (by simp [ins, List.getElem?_eq_getElem huc])
                        subst ha2
                        obtain ⟨b5, o5, ha5, d5, -⟩ := Rd.at (HRS.out.keep HBU.out) HYS.out
                        subst ha5
                        have HT1 : Hid (CA.take (u + 1) = CA.take u ++ [CA[u]]) := Lib.hid (List.take_succ_eq_append_getElem huc)
                        generalize CA[u] = X at *
                        clear d2 huc
                        cases fd with
                        | true =>
                          have HF2 : Hid (FoundT true Y (CA.take (u + 1))) := Lib.hid (Iff.intro (fun _ => (by rw [HT1.out]; exact List.mem_append_left _ (HFND.out.1 rfl))) (fun _ => rfl))
                          go_wp2
                          go_quiet (fail)
                          go_wp2
                          go_roundw
                          case rel => exact ⟨u + 1, true, by omega, by go_num, rfl, HF2, Lib.hid (below_drewN HBU.out _)⟩
                          case measure => simp [intOf]; omega
                        | false =>
                          have hnot : ¬ Y ∈ CA.take u := fun h => (by have := HFND.out.2 h; cases this)
                          by_cases hxy : X = Y
                          · subst hxy
                            have HF2 : Hid (FoundT true X (CA.take (u + 1))) := Lib.hid (Iff.intro (fun _ => (by rw [HT1.out]; exact List.mem_append_right _ (List.mem_singleton.2 rfl))) (fun _ => rfl))
                            clear hnot
                            go_wp2
                            go_quiet (fail)
                            go_wp2
                            go_roundw
                            case rel => exact ⟨u + 1, true, by omega, by go_num, rfl, HF2, Lib.hid (below_drewN HBU.out _)⟩
                            case measure => simp [intOf]; omega
                          · have hxy' : (X == Y) = false := by simp [hxy]
                            have HF2 : Hid (FoundT false Y (CA.take (u + 1))) := Lib.hid (Iff.intro (fun h => (by cases h)) (fun h => (by
                              rw [HT1.out] at h
                              rcases List.mem_append.1 h with h | h
                              · exact absurd h hnot
                              · exact absurd (List.mem_singleton.1 h).symm hxy)))
                            clear hnot hxy
                            go_wp2
                            go_quiet (fail)
                            go_wp2
                            go_roundw
                            case rel => exact ⟨u + 1, false, by omega, by go_num, rfl, HF2, Lib.hid (below_drewN HBU.out _)⟩
                            case measure => simp [intOf]; omega
                      · obtain rfl : LB = u := by omega
                        have hul' : ¬ (LB : Int) < (LB : Int) := by omega
                        have hfd : fd = true := HFND.out.2 (by rw [List.take_of_length_le (by rw [HLA.out]; exact Nat.le_refl _)]; exact HYA.out)
                        subst hfd
                        clear hul hu
                        go_wp2
                        go_roundw
                        case rel => exact ⟨t + 1, by omega, by go_num, HBU⟩
                        case measure => simp [intOf]; omega
                  · obtain rfl : LB = t := by omega
                    have htl' : ¬ (LB : Int) < (LB : Int) := by omega
                    have HBN := Lib.hid (HBT2.out.trans (HBC.out.mono HBT2.out.size))
                    clear htl ht
                    go_wp2
                    go_roundw
                    case rel => exact ⟨k + 1, by omega, by go_num, HBN⟩
                    case measure => simp [intOf]; omega
          · obtain rfl : n = k := by omega
            have hkn' : ¬ (n : Int) < (n : Int) := by omega
            have HBZ := Lib.hid (HB6.out.trans (HBK.out.mono HB6.out.size))
            clear hkn hk
            go_wp2_with fail
            refine (known13 wk).mono ?_
            rintro e w9 ⟨rfl, hb9⟩
            have hbz := HBZ.out.trans (hb9.mono HBZ.out.size)
            go_wp2
            refine bodyPost_ret (v := .bool true) (by simp [results, Try.results6, go_sem]) rfl ⟨rfl, hbz⟩
theorem cturns_law {w : World} (a : Option Addr) (c : Nat) (X : List Fc) (hl : X.length ≤ c) (hm : c ≤ maxLen) (hn : a = none → c = 0) (hr : Rd w a (fcs X)) (hx : ∀ y ∈ X, FcIn w y) (z : Int) (hz : (Lit.int .i64 z).wf = true) :
    Calls Try.prog 6 #[.slice a X.length c, .int .i64 z] w fun e w' => e = .returned (.bool true) ∧ Below w.heap.size w w' :=
  cturns_walk a c X hl hm z hz w hr hx
end Go.Proofs.Ytkdibaphmkaaoaa
