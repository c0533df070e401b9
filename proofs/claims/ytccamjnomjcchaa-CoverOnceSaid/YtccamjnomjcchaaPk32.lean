/-
  graticuleref13.matched. Sums over a ring's edges, the other way round (plain). What the point beside a segment is gone round by (plain).
-/
import Derived.Test.YtccamjnomjcchaaPk30
import Derived.Test.YtccamjnomjcchaaPk14
import Derived.Test.YtccamjnomjcchaaPk27
import Derived.Test.YtccamjnomjcchaaPk25
import Derived.Test.YtccamjnomjcchaaPk6
/- graticuleref13.matched. -/
set_option linter.unusedVariables false
set_option linter.unusedSimpArgs false
set_option maxRecDepth 100000
namespace Go
open Go.RowKit
def mOk (s t : Sd) : Prop := (s.f = t.f ∧ s.r = t.r) ∨ (rclsF s.a s.b t.a t.b = 0 ∨ rclsF s.a s.b t.a t.b = 1 ∨ rclsF s.a s.b t.a t.b = 5)
def matchP (S : List Sd) (i : Nat) : Prop := ∀ a, a < i → ∀ b, b < a → mOk S[a]! S[b]!
def MatchIs (S : List Sd) (e : Ending) : Prop := ∃ q : Bool, e = .returned (.bool q) ∧ (q = true ↔ matchP S S.length)
def sdIn (s : Sd) : Prop := okPt s.a = true ∧ okPt s.b = true ∧ s.a ≠ s.b
end Go
namespace Go.Proofs.Ytccamjnomjcchaa
open Go.RowKit
set_option maxHeartbeats 3200000 in
theorem rmatch_any (a : Option Addr) (c : Nat) (S : List Sd) (hlen : S.length ≤ 1000000) (hin : ∀ s ∈ S, sdIn s) (w : World) (hr : Rd w a (sds S)) :
    Calls Try.prog 38 #[.slice a S.length c] w fun e w' => MatchIs S e ∧ Below w.heap.size w w' := by
  have HR := Lib.hid hr; have HIN := Lib.hid hin; obtain ⟨N, hN⟩ : ∃ N, S.length = N := ⟨_, rfl⟩; have HN := Lib.hid hN; rw [hN] at hlen ⊢; clear hr hN hin
  go_enter Try.func38, Try.ntmps38
  go_wp2
  go_loopw [3] (fun i W => ∃ (k : Nat), k ≤ N ∧ i = .int .i64 k ∧ Hid (matchP S k) ∧ Hid (Below w.heap.size w W)) (fun i _ => N - (intOf i).toNat)
  case atStart => exact ⟨0, by omega, rfl, Lib.hid (fun a h => by omega), Lib.hid (Below.refl _ _)⟩
  case round =>
    obtain ⟨k, hk, rfl, HD, HBK⟩ := hrel
    by_cases hkn : k < N
    · as_aux_lemma =>
      have hkn' : (k : Int) < (N : Int) := by omega
      go_wp2
      go_loopw [4] (fun j W => ∃ (m : Nat), m ≤ k ∧ j = .int .i64 m ∧ Hid (∀ b, b < m → mOk S[k]! S[b]!) ∧ Hid (Below w.heap.size w W)) (fun j _ => k - (intOf j).toNat)
      case atStart => exact ⟨0, by omega, rfl, Lib.hid (fun b h => by omega), HBK⟩
      case round =>
        obtain ⟨m, hm, rfl, HE, HBM⟩ := hrel
        by_cases hmk : m < k
        · as_aux_lemma =>
          have hmk' : (m : Int) < (k : Int) := by omega
          have hmn' : (m : Int) < (N : Int) := by omega
          have hkl : k < S.length := by rw [HN.out]; exact hkn
          have hml : m < S.length := by rw [HN.out]; omega
          obtain ⟨i1, i2, i3⟩ := HIN.out _ (List.getElem_mem hkl); obtain ⟨j1, j2, j3⟩ := HIN.out _ (List.getElem_mem hml); have HCC := Lib.hid (fun W => rclass_any S[k].a S[k].b S[m].a S[m].b i1 i2 j1 j2 i3 j3 W); obtain ⟨b, o, rfl, hb, c0, c1, c2, c3, c4, c5⟩ := (HR.out.keep HBM.out).sd k hkl; obtain ⟨b', o', hbo, hb2, d0, d1, d2, d3, d4, d5⟩ := (HR.out.keep HBM.out).sd m hml
          cases hbo
          obtain ⟨b', o', hbo, hbw, x0, x1, x2, x3, x4, x5⟩ := HR.out.sd k hkl
          cases hbo
          obtain ⟨b', o', hbo, hbw2, y0, y1, y2, y3, y4, y5⟩ := HR.out.sd m hml
          cases hbo
          have HK1 : Hid (S[k]! = S[k]) := Lib.hid (getElem!_pos S k hkl); have HM1 : Hid (S[m]! = S[m]) := Lib.hid (getElem!_pos S m hml); have HMO : Hid (mOk S[k] S[m] → ∀ b, b < m + 1 → mOk S[k]! S[b]!) := Lib.hid (fun h b hb => by
            by_cases g : b = m
            · rw [g, HK1.out, HM1.out]; exact h
            · exact HE.out b (by omega))
          have HNO : Hid (¬ mOk S[k] S[m] → ¬ matchP S S.length) := Lib.hid (fun h g => h (by have := g k hkl m hmk; rwa [HK1.out, HM1.out] at this)); have HMD : Hid (mOk S[k] S[m] ↔ (S[k].f = S[m].f ∧ S[k].r = S[m].r) ∨ (rclsF S[k].a S[k].b S[m].a S[m].b = 0 ∨ rclsF S[k].a S[k].b S[m].a S[m].b = 1 ∨ rclsF S[k].a S[k].b S[m].a S[m].b = 5)) := Lib.hid Iff.rfl; obtain ⟨CV, hCV⟩ : ∃ x, rclsF S[k].a S[k].b S[m].a S[m].b = x := ⟨_, rfl⟩; rw [hCV] at HCC HMD; clear i1 i2 i3 j1 j2 j3 hCV HK1 HM1 HE HD; generalize mOk S[k] S[m] = MO at *; generalize S[k] = p at *; generalize S[m] = q at *; obtain ⟨f1, r1, ⟨ax, ay⟩, ⟨bx, bY⟩⟩ := p; obtain ⟨f2, r2, ⟨cx, cy⟩, ⟨dx, dy⟩⟩ := q; dsimp only [Pt.val] at c0 c1 c2 c3 c4 c5 d0 d1 d2 d3 d4 d5 x0 x1 x2 x3 x4 x5 y0 y1 y2 y3 y4 y5 HCC HMD
          by_cases hf : f1 = f2
          · subst hf
            by_cases hrr : r1 = r2
            · subst hrr; have HE2 := Lib.hid (HMO.out (HMD.out.2 (.inl ⟨rfl, rfl⟩))); go_wp2
              go_quiet (fail)
              go_wp2; exact ⟨⟨m + 1, by omega, by go_num, HE2, Lib.hid (below_drewN HBM.out _)⟩, by simp [intOf]; omega⟩
            · have hrr' : ((r1 : Int) == (r2 : Int)) = false := by simpa using (show ¬ (r1 : Int) = (r2 : Int) by omega)
              have HMD2 : Hid (MO ↔ CV = 0 ∨ CV = 1 ∨ CV = 5) := Lib.hid (by rw [HMD.out]; simp [hrr]); go_wp2
              go_quiet (fail)
              have hbm2 := below_drewN HBM.out nq
              go_wp2_with fail
              refine wp_region_lit_txt [0, 1, 2, 3, 4, 5, 6, 7, 8, 9, 10, 11, 12, 13, 14, 15, 16, 17, 18, 19, 21] (fun W => Below w.heap.size w W) (by kernel_rfl) (by kernel_rfl) (by kernel_rfl) hbm2.drew ?_; have hbd := hbm2.drew; generalize (wr.drewN nq).drew = W0 at *
              iterate 4 ((refine txt_light ?_ rfl rfl ?_ ?_; rotate_left; · (intro w' hS; (try dsimp only at hS); go_simp; with_reducible rfl)); try simp only [Act.put, List.getElem_toArray, List.getElem_cons_succ, List.getElem_cons_zero, List.setIfInBounds_toArray, List.set_cons_zero, List.set_cons_succ])
              refine txt_light (.agg #[.int .i64 ax, .int .i64 ay]) rfl rfl ?_ ?_
              · intro w' hS; have c7 := (hS.cell (p := ⟨b, o + k * 6 + 2, none⟩) hbw).trans x2; have c8 := (hS.cell (p := ⟨b, o + k * 6 + 3, none⟩) hbw).trans x3; clear hS; go_simp
              try simp only [Act.put, List.getElem_toArray, List.getElem_cons_succ, List.getElem_cons_zero, List.setIfInBounds_toArray, List.set_cons_zero, List.set_cons_succ]
              iterate 4 ((refine txt_light ?_ rfl rfl ?_ ?_; rotate_left; · (intro w' hS; (try dsimp only at hS); go_simp; with_reducible rfl)); try simp only [Act.put, List.getElem_toArray, List.getElem_cons_succ, List.getElem_cons_zero, List.setIfInBounds_toArray, List.set_cons_zero, List.set_cons_succ])
              refine txt_light (.agg #[.int .i64 bx, .int .i64 bY]) rfl rfl ?_ ?_
              · intro w' hS; have c7 := (hS.cell (p := ⟨b, o + k * 6 + 4, none⟩) hbw).trans x4; have c8 := (hS.cell (p := ⟨b, o + k * 6 + 5, none⟩) hbw).trans x5; clear hS; go_simp
              try simp only [Act.put, List.getElem_toArray, List.getElem_cons_succ, List.getElem_cons_zero, List.setIfInBounds_toArray, List.set_cons_zero, List.set_cons_succ]
              iterate 4 ((refine txt_light ?_ rfl rfl ?_ ?_; rotate_left; · (intro w' hS; (try dsimp only at hS); go_simp; with_reducible rfl)); try simp only [Act.put, List.getElem_toArray, List.getElem_cons_succ, List.getElem_cons_zero, List.setIfInBounds_toArray, List.set_cons_zero, List.set_cons_succ])
              refine txt_light (.agg #[.int .i64 cx, .int .i64 cy]) rfl rfl ?_ ?_
              · intro w' hS; have c7 := (hS.cell (p := ⟨b, o + m * 6 + 2, none⟩) hbw).trans y2; have c8 := (hS.cell (p := ⟨b, o + m * 6 + 3, none⟩) hbw).trans y3; clear hS; go_simp
              try simp only [Act.put, List.getElem_toArray, List.getElem_cons_succ, List.getElem_cons_zero, List.setIfInBounds_toArray, List.set_cons_zero, List.set_cons_succ]
              iterate 4 ((refine txt_light ?_ rfl rfl ?_ ?_; rotate_left; · (intro w' hS; (try dsimp only at hS); go_simp; with_reducible rfl)); try simp only [Act.put, List.getElem_toArray, List.getElem_cons_succ, List.getElem_cons_zero, List.setIfInBounds_toArray, List.set_cons_zero, List.set_cons_succ])
              refine txt_light (.agg #[.int .i64 dx, .int .i64 dy]) rfl rfl ?_ ?_
              · intro w' hS; have c7 := (hS.cell (p := ⟨b, o + m * 6 + 4, none⟩) hbw).trans y4; have c8 := (hS.cell (p := ⟨b, o + m * 6 + 5, none⟩) hbw).trans y5; clear hS; go_simp
              try simp only [Act.put, List.getElem_toArray, List.getElem_cons_succ, List.getElem_cons_zero, List.setIfInBounds_toArray, List.set_cons_zero, List.set_cons_succ]
              refine txt_heavy rfl rfl (fun K hK => ?_); go_step; refine (HCC.out W0).mono ?_; rintro e W1 ⟨rfl, hx1⟩; have hbe := hbd.trans (hx1.mono hbd.size); refine hK.out _ _ hbe ?_; clear hK K c0 c1 c2 c3 c4 c5 d0 d1 d2 d3 d4 d5 x0 x1 x2 x3 x4 x5 y0 y1 y2 y3 y4 y5
              try simp only [Act.put, List.getElem_toArray, List.getElem_cons_succ, List.getElem_cons_zero, List.setIfInBounds_toArray, List.set_cons_zero, List.set_cons_succ]
              (refine txt_light ?_ rfl rfl ?_ ?_; rotate_left; · (intro w' hS; (try dsimp only at hS); go_simp; with_reducible rfl)); try simp only [Act.put, List.getElem_toArray, List.getElem_cons_succ, List.getElem_cons_zero, List.setIfInBounds_toArray, List.set_cons_zero, List.set_cons_succ]
              refine txt_nil ?_
              by_cases v0 : CV = 0
              · have HE2 := Lib.hid (HMO.out (HMD2.out.2 (.inl v0))); subst v0; clear HMD HMD2; go_wp2; exact ⟨⟨m + 1, by omega, by go_num, HE2, Lib.hid hbe⟩, by simp [intOf]; omega⟩
              · by_cases v1 : CV = 1
                · have HE2 := Lib.hid (HMO.out (HMD2.out.2 (.inr (.inl v1)))); subst v1; clear HMD HMD2; go_wp2; exact ⟨⟨m + 1, by omega, by go_num, HE2, Lib.hid hbe⟩, by simp [intOf]; omega⟩
                · by_cases v5 : CV = 5
                  · have HE2 := Lib.hid (HMO.out (HMD2.out.2 (.inr (.inr v5)))); subst v5; clear HMD HMD2; go_wp2; exact ⟨⟨m + 1, by omega, by go_num, HE2, Lib.hid hbe⟩, by simp [intOf]; omega⟩
                  · have HNM := Lib.hid (HNO.out (fun h => by
                      rcases HMD2.out.1 h with h | h | h
                      · exact v0 h
                      · exact v1 h
                      · exact v5 h))
                    have v0' : (CV != 0) = true := by simpa using v0
                    have v1' : (CV != 1) = true := by simpa using v1
                    have v5' : (CV != 5) = true := by simpa using v5
                    clear HMD HMD2; go_wp2; go_ret; exact ⟨⟨false, rfl, by simp [HNM.out]⟩, hbe⟩
          · have hff' : ((f1 : Int) == (f2 : Int)) = false := by simpa using (show ¬ (f1 : Int) = (f2 : Int) by omega)
            have HMD2 : Hid (MO ↔ CV = 0 ∨ CV = 1 ∨ CV = 5) := Lib.hid (by rw [HMD.out]; simp [hf]); go_wp2
            go_quiet (fail)
            have hbm2 := below_drewN HBM.out nq
            go_wp2_with fail
            refine wp_region_lit_txt [0, 1, 2, 3, 4, 5, 6, 7, 8, 9, 10, 11, 12, 13, 14, 15, 16, 17, 18, 19, 21] (fun W => Below w.heap.size w W) (by kernel_rfl) (by kernel_rfl) (by kernel_rfl) hbm2.drew ?_; have hbd := hbm2.drew; generalize (wr.drewN nq).drew = W0 at *
            iterate 4 ((refine txt_light ?_ rfl rfl ?_ ?_; rotate_left; · (intro w' hS; (try dsimp only at hS); go_simp; with_reducible rfl)); try simp only [Act.put, List.getElem_toArray, List.getElem_cons_succ, List.getElem_cons_zero, List.setIfInBounds_toArray, List.set_cons_zero, List.set_cons_succ])
            refine txt_light (.agg #[.int .i64 ax, .int .i64 ay]) rfl rfl ?_ ?_
            · intro w' hS; have c7 := (hS.cell (p := ⟨b, o + k * 6 + 2, none⟩) hbw).trans x2; have c8 := (hS.cell (p := ⟨b, o + k * 6 + 3, none⟩) hbw).trans x3; clear hS; go_simp
            try simp only [Act.put, List.getElem_toArray, List.getElem_cons_succ, List.getElem_cons_zero, List.setIfInBounds_toArray, List.set_cons_zero, List.set_cons_succ]
            iterate 4 ((refine txt_light ?_ rfl rfl ?_ ?_; rotate_left; · (intro w' hS; (try dsimp only at hS); go_simp; with_reducible rfl)); try simp only [Act.put, List.getElem_toArray, List.getElem_cons_succ, List.getElem_cons_zero, List.setIfInBounds_toArray, List.set_cons_zero, List.set_cons_succ])
            refine txt_light (.agg #[.int .i64 bx, .int .i64 bY]) rfl rfl ?_ ?_
            · intro w' hS; have c7 := (hS.cell (p := ⟨b, o + k * 6 + 4, none⟩) hbw).trans x4; have c8 := (hS.cell (p := ⟨b, o + k * 6 + 5, none⟩) hbw).trans x5; clear hS; go_simp
            try simp only [Act.put, List.getElem_toArray, List.getElem_cons_succ, List.getElem_cons_zero, List.setIfInBounds_toArray, List.set_cons_zero, List.set_cons_succ]
            iterate 4 ((refine txt_light ?_ rfl rfl ?_ ?_; rotate_left; · (intro w' hS; (try dsimp only at hS); go_simp; with_reducible rfl)); try simp only [Act.put, List.getElem_toArray, List.getElem_cons_succ, List.getElem_cons_zero, List.setIfInBounds_toArray, List.set_cons_zero, List.set_cons_succ])
            refine txt_light (.agg #[.int .i64 cx, .int .i64 cy]) rfl rfl ?_ ?_
            · intro w' hS; have c7 := (hS.cell (p := ⟨b, o + m * 6 + 2, none⟩) hbw).trans y2; have c8 := (hS.cell (p := ⟨b, o + m * 6 + 3, none⟩) hbw).trans y3; clear hS; go_simp
            try simp only [Act.put, List.getElem_toArray, List.getElem_cons_succ, List.getElem_cons_zero, List.setIfInBounds_toArray, List.set_cons_zero, List.set_cons_succ]
            iterate 4 ((refine txt_light ?_ rfl rfl ?_ ?_; rotate_left; · (intro w' hS; (try dsimp only at hS); go_simp; with_reducible rfl)); try simp only [Act.put, List.getElem_toArray, List.getElem_cons_succ, List.getElem_cons_zero, List.setIfInBounds_toArray, List.set_cons_zero, List.set_cons_succ])
            refine txt_light (.agg #[.int .i64 dx, .int .i64 dy]) rfl rfl ?_ ?_
            · intro w' hS; have c7 := (hS.cell (p := ⟨b, o + m * 6 + 4, none⟩) hbw).trans y4; have c8 := (hS.cell (p := ⟨b, o + m * 6 + 5, none⟩) hbw).trans y5; clear hS; go_simp
            try simp only [Act.put, List.getElem_toArray, List.getElem_cons_succ, List.getElem_cons_zero, List.setIfInBounds_toArray, List.set_cons_zero, List.set_cons_succ]
            refine txt_heavy rfl rfl (fun K hK => ?_); go_step; refine (HCC.out W0).mono ?_; rintro e W1 ⟨rfl, hx1⟩; have hbe := hbd.trans (hx1.mono hbd.size); refine hK.out _ _ hbe ?_; clear hK K c0 c1 c2 c3 c4 c5 d0 d1 d2 d3 d4 d5 x0 x1 x2 x3 x4 x5 y0 y1 y2 y3 y4 y5
            try simp only [Act.put, List.getElem_toArray, List.getElem_cons_succ, List.getElem_cons_zero, List.setIfInBounds_toArray, List.set_cons_zero, List.set_cons_succ]
            (refine txt_light ?_ rfl rfl ?_ ?_; rotate_left; · (intro w' hS; (try dsimp only at hS); go_simp; with_reducible rfl)); try simp only [Act.put, List.getElem_toArray, List.getElem_cons_succ, List.getElem_cons_zero, List.setIfInBounds_toArray, List.set_cons_zero, List.set_cons_succ]
            refine txt_nil ?_
            by_cases v0 : CV = 0
            · have HE2 := Lib.hid (HMO.out (HMD2.out.2 (.inl v0))); subst v0; clear HMD HMD2; go_wp2; exact ⟨⟨m + 1, by omega, by go_num, HE2, Lib.hid hbe⟩, by simp [intOf]; omega⟩
            · by_cases v1 : CV = 1
              · have HE2 := Lib.hid (HMO.out (HMD2.out.2 (.inr (.inl v1)))); subst v1; clear HMD HMD2; go_wp2; exact ⟨⟨m + 1, by omega, by go_num, HE2, Lib.hid hbe⟩, by simp [intOf]; omega⟩
              · by_cases v5 : CV = 5
                · have HE2 := Lib.hid (HMO.out (HMD2.out.2 (.inr (.inr v5)))); subst v5; clear HMD HMD2; go_wp2; exact ⟨⟨m + 1, by omega, by go_num, HE2, Lib.hid hbe⟩, by simp [intOf]; omega⟩
                · have HNM := Lib.hid (HNO.out (fun h => by
                    rcases HMD2.out.1 h with h | h | h
                    · exact v0 h
                    · exact v1 h
                    · exact v5 h))
                  have v0' : (CV != 0) = true := by simpa using v0
                  have v1' : (CV != 1) = true := by simpa using v1
                  have v5' : (CV != 5) = true := by simpa using v5
                  clear HMD HMD2; go_wp2; go_ret; exact ⟨⟨false, rfl, by simp [HNM.out]⟩, hbe⟩
        · obtain rfl : k = m := by omega
          have hmk' : ¬ (k : Int) < (k : Int) := by omega
          have HD2 : Hid (matchP S (k + 1)) := Lib.hid (fun a ha b hb => by
            by_cases h : a = k
            · rw [h] at hb ⊢; exact HE.out b hb
            · exact HD.out a (by omega) b hb)
          go_wp2; exact ⟨⟨k + 1, by omega, by go_num, HD2, HBM⟩, by simp [intOf]; omega⟩
    · obtain rfl : N = k := by omega
      have hkn' : ¬ (N : Int) < (N : Int) := by omega
      have HYES : Hid (matchP S S.length) := Lib.hid (by rw [HN.out]; exact HD.out); go_wp2; refine bodyPost_ret (v := .bool true) (by simp [results, Try.results38, go_sem]) rfl ⟨⟨true, rfl, by simp [HYES.out]⟩, HBK.out⟩
end Go.Proofs.Ytccamjnomjcchaa
/- Sums over a ring's edges, the other way round (plain). -/
/- An edge the other way round (plain). -/
set_option linter.unusedVariables false
set_option linter.unusedSimpArgs false
namespace Go
theorem crs_anti (a b p : Pt) : crs b a p = -crs a b p := by
  unfold crs; have e1 : a.x - b.x = -(b.x - a.x) := by omega
  have e2 : a.y - b.y = -(b.y - a.y) := by omega
  have e3 : p.y - b.y = (p.y - a.y) - (b.y - a.y) := by omega
  have e4 : p.x - b.x = (p.x - a.x) - (b.x - a.x) := by omega
  rw [e1, e2, e3, e4]; generalize b.x - a.x = u; generalize b.y - a.y = v; generalize p.x - a.x = s; generalize p.y - a.y = t; rw [Int.neg_mul, Int.neg_mul, Int.mul_sub, Int.mul_sub, Int.mul_comm v u]; omega
theorem sg_minus (z : Int) : sg (-z) = -sg z := by
  unfold sg
  repeat' split
  all_goals omega
theorem windE_anti (p a b : Pt) : windE p (b, a) = -windE p (a, b) := by
  unfold windE; dsimp only; rw [crs_anti a b p]; rw [sg_minus]; generalize sg (crs a b p) = z
  by_cases c1 : a.y ≤ p.y ∧ p.y < b.y ∧ 0 < z
  · rw [if_pos c1, if_neg (by omega), if_pos ⟨c1.1, c1.2.1, by omega⟩]
  · rw [if_neg c1]
    by_cases c2 : b.y ≤ p.y ∧ p.y < a.y ∧ z < 0
    · rw [if_pos c2, if_pos ⟨c2.1, c2.2.1, by omega⟩]; rfl
    · rw [if_neg c2, if_neg (by omega), if_neg (by omega)]; rfl
theorem onX_symm (a b p : Pt) : onX b a p = onX a b p := by
  unfold onX boxB; rw [crs_anti a b p, Int.min_comm b.x, Int.min_comm b.y, Int.max_comm b.x, Int.max_comm b.y]
  congr 1
  simp only [decide_eq_decide]; omega
theorem offB_symm (a b p : Pt) : offB p (b, a) = offB p (a, b) := by
  unfold offB; rw [onX_symm]
end Go
set_option linter.unusedVariables false
set_option linter.unusedSimpArgs false
namespace Go
def pl (f : Pt → Pt → Int) : List Pt → Int
  | a :: b :: t => f a b + pl f (b :: t)
  | _ => 0
theorem pl_snoc (f : Pt → Pt → Int) (x y : Pt) : ∀ l : List Pt, pl f (l ++ [x, y]) = pl f (l ++ [x]) + f x y
  | [] => by simp [pl]
  | [a] => by simp [pl]
  | a :: b :: l => by
    have := pl_snoc f x y (b :: l); simp only [List.cons_append, pl] at this ⊢; rw [this]; omega
theorem pl_rev (f : Pt → Pt → Int) (hf : ∀ a b, f b a = -f a b) : ∀ l : List Pt, pl f l.reverse = -pl f l
  | [] => rfl
  | [a] => rfl
  | a :: b :: t => by
    have ih := pl_rev f hf (b :: t); rw [List.reverse_cons] at ih; rw [List.reverse_cons, List.reverse_cons, List.append_assoc, List.singleton_append, pl_snoc, ih, hf a b]; simp only [pl]; omega
theorem pl_sum (f : Pt → Pt → Int) : ∀ c : List Pt, pl f c = ((List.range (c.length - 1)).map fun i => f c[i]! c[i + 1]!).sum
  | [] => rfl
  | [a] => rfl
  | a :: b :: t => by
    have ih := pl_sum f (b :: t); simp only [pl, ih]; have e : (a :: b :: t).length - 1 = t.length + 1 := by simp
    rw [e, List.range_succ_eq_map, List.map_cons, List.sum_cons, List.map_map]
    congr 1
theorem edges_pl (f : Pt → Pt → Int) (p : Pt) (t : List Pt) : ((edges (p :: t)).map fun e => f e.1 e.2).sum = pl f (p :: t ++ [p]) := by
  rw [pl_sum]; unfold edges; rw [List.map_map]; have e : (p :: t ++ [p]).length - 1 = (p :: t).length := by simp
  rw [e]
  congr 1
  apply List.map_congr_left; intro i hi; rw [List.mem_range] at hi; have hi1 : i < (p :: t ++ [p]).length := by rw [List.length_append]; omega
  have hi2 : i + 1 < (p :: t ++ [p]).length := by rw [List.length_append]; simp at hi ⊢; omega
  have hm := Nat.mod_lt (i + 1) (show 0 < (p :: t).length by simp); have a1 : (p :: t)[i]! = (p :: t ++ [p])[i]! := by
    rw [getElem!_pos (p :: t) i hi, getElem!_pos (p :: t ++ [p]) i hi1, List.getElem_append_left hi]
  have a2 : (p :: t)[(i + 1) % (p :: t).length]! = (p :: t ++ [p])[i + 1]! := by
    rw [getElem!_pos (p :: t) _ hm, getElem!_pos (p :: t ++ [p]) _ hi2]
    by_cases h : i + 1 < (p :: t).length
    · rw [List.getElem_append_left h]
      congr 1
      exact Nat.mod_eq_of_lt h
    · have h' : i + 1 = (p :: t).length := by omega
      rw [List.getElem_append_right (by omega)]; simp [h']
  simp only [Function.comp, a1, a2]
theorem edges_turned (f : Pt → Pt → Int) (hf : ∀ a b, f b a = -f a b) (l : List Pt) : ((edges (turnedP l)).map fun e => f e.1 e.2).sum = -((edges l).map fun e => f e.1 e.2).sum := by
  cases l with
  | nil => rfl
  | cons p t =>
    show ((edges (p :: t.reverse)).map fun e => f e.1 e.2).sum = _; rw [edges_pl, edges_pl, ← pl_rev f hf]
    congr 1
    simp
theorem pl_rev_s (f : Pt → Pt → Int) (hf : ∀ a b, f b a = f a b) : ∀ l : List Pt, pl f l.reverse = pl f l
  | [] => rfl
  | [a] => rfl
  | a :: b :: t => by
    have ih := pl_rev_s f hf (b :: t); rw [List.reverse_cons] at ih; rw [List.reverse_cons, List.reverse_cons, List.append_assoc, List.singleton_append, pl_snoc, ih, hf a b]; simp only [pl]; omega
theorem edges_turned_s (f : Pt → Pt → Int) (hf : ∀ a b, f b a = f a b) (l : List Pt) : ((edges (turnedP l)).map fun e => f e.1 e.2).sum = ((edges l).map fun e => f e.1 e.2).sum := by
  cases l with
  | nil => rfl
  | cons p t =>
    show ((edges (p :: t.reverse)).map fun e => f e.1 e.2).sum = _; rw [edges_pl, edges_pl, ← pl_rev_s f hf]
    congr 1
    simp
theorem windS_sum (p : Pt) (l : List (Pt × Pt)) : windS p l = (l.map fun e => windE p (e.1, e.2)).sum := by
  induction l with
  | nil => rfl
  | cons e l ih => simp only [windS, List.map_cons, List.sum_cons, ih]
theorem windS_turned (p : Pt) (l : List Pt) : windS p (edges (turnedP l)) = -windS p (edges l) := by
  rw [windS_sum, windS_sum]; exact edges_turned (fun a b => windE p (a, b)) (fun a b => windE_anti p a b) l
theorem off_sum (p : Pt) (l : List (Pt × Pt)) : 0 ≤ (l.map fun e => if offB p (e.1, e.2) then (0 : Int) else 1).sum ∧ (l.all (offB p) = true ↔ (l.map fun e => if offB p (e.1, e.2) then (0 : Int) else 1).sum = 0) := by
  induction l with
  | nil => simp
  | cons e l ih =>
    obtain ⟨h1, h2⟩ := ih; simp only [List.map_cons, List.sum_cons, List.all_cons, Bool.and_eq_true, h2]; generalize (l.map fun e => if offB p (e.1, e.2) then (0 : Int) else 1).sum = z at *; have he : (e.1, e.2) = e := rfl; rw [he]
    cases offB p e <;> simp <;> omega
theorem off_turned (p : Pt) (l : List Pt) : (edges (turnedP l)).all (offB p) = (edges l).all (offB p) := by
  rw [Bool.eq_iff_iff, (off_sum p _).2, (off_sum p _).2, edges_turned_s (fun a b => if offB p (a, b) then (0 : Int) else 1) (fun a b => by simp only [offB_symm]) l]
theorem windOk_turned (p : Pt) (l : List Pt) : windOk (turnedP l) p = windOk l p := by
  unfold windOk; rw [off_turned, turnedP_all]
theorem windF_turned (p : Pt) (l : List Pt) : windF (turnedP l) p = -windF l p := by
  unfold windF; rw [windOk_turned, windS_turned]
  split <;> simp
end Go
/- What the point beside a segment is gone round by (plain). -/
set_option linter.unusedVariables false
set_option linter.unusedSimpArgs false
set_option maxRecDepth 100000
namespace Go
open Go.RowKit
def mwVal (m v : Pt) : Value := .agg #[.int .i64 m.x, .int .i64 m.y, .int .i64 v.x, .int .i64 v.y]
def besOver (m v : Pt) (y : Int) : Bool := if v.x < 0 then decide (m.y ≤ 2 * y) else decide (m.y < 2 * y)
def besN (m a b : Pt) : Int := (b.x - a.x) * (m.y - 2 * a.y) - (b.y - a.y) * (m.x - 2 * a.x)
def besSide (m v a b : Pt) : Int := if besN m a b = 0 then (b.x - a.x) * v.x + (b.y - a.y) * v.y else besN m a b
def besIn (n c d : Int) : Bool := decide (2 * min c d ≤ n) && decide (n ≤ 2 * max c d)
def besHas (m v a b : Pt) : Bool := !(decide ((b.x - a.x) * v.y = (b.y - a.y) * v.x) || !decide ((b.x - a.x) * (m.y - 2 * a.y) = (b.y - a.y) * (m.x - 2 * a.x))) && (besIn m.x a.x b.x && besIn m.y a.y b.y)
def mwOk (m v : Pt) : Prop := (-33554432 ≤ m.x ∧ m.x ≤ 33554432) ∧ (-33554432 ≤ m.y ∧ m.y ≤ 33554432) ∧ (-33554432 ≤ v.x ∧ v.x ≤ 33554432) ∧ (-33554432 ≤ v.y ∧ v.y ≤ 33554432)
end Go
namespace Go
open Go.RowKit
def besE (m v : Pt) (e : Pt × Pt) : Int :=
  if besOver m v e.1.y = false ∧ besOver m v e.2.y = true ∧ 0 < besSide m v e.1 e.2 then 1 else if besOver m v e.1.y = true ∧ besOver m v e.2.y = false ∧ besSide m v e.1 e.2 < 0 then -1 else 0
def besS (m v : Pt) : List (Pt × Pt) → Int
  | [] => 0
  | e :: l => besE m v e + besS m v l
theorem besS_append (m v : Pt) (l r : List (Pt × Pt)) : besS m v (l ++ r) = besS m v l + besS m v r := by
  induction l with
  | nil => simp [besS]
  | cons e l ih => simp only [List.cons_append, besS, ih]; omega
theorem besS_snoc (m v : Pt) (l : List (Pt × Pt)) (e : Pt × Pt) : besS m v (l ++ [e]) = besS m v l + besE m v e := by
  rw [besS_append]; simp [besS]
theorem besE_bd (m v : Pt) (e : Pt × Pt) : -1 ≤ besE m v e ∧ besE m v e ≤ 1 := by
  unfold besE; repeat' split
  all_goals omega
theorem besS_bd (m v : Pt) (l : List (Pt × Pt)) : -(l.length : Int) ≤ besS m v l ∧ besS m v l ≤ l.length := by
  induction l with
  | nil => simp [besS]
  | cons e l ih =>
    have := besE_bd m v e; simp only [besS, List.length_cons]; omega
def besM (a b : Pt) : Pt := ⟨a.x + b.x, a.y + b.y⟩
def besV (a b : Pt) : Pt := ⟨b.x - a.x, b.y - a.y⟩
def offM (m v : Pt) (e : Pt × Pt) : Bool := !besHas m v e.1 e.2
def besOk (l : List Pt) (a b : Pt) : Bool := !decide (a.x = b.x ∧ a.y = b.y) && ((okPt a && okPt b) && (l.all okPt && (edges l).all (offM (besM a b) (besV a b))))
def besF (l : List Pt) (a b : Pt) : Int := if besOk l a b then besS (besM a b) (besV a b) (edges l) else 0
theorem edges_okB (l : List Pt) (h : l.all okPt = true) : ∀ e ∈ edges l, okPt e.1 = true ∧ okPt e.2 = true := by
  intro e he; unfold edges at he; obtain ⟨i, hi, rfl⟩ := List.mem_map.1 he; rw [List.mem_range] at hi; rw [List.all_eq_true] at h; have hm := Nat.mod_lt (i + 1) (show 0 < l.length by omega); dsimp only; rw [getElem!_pos l i hi, getElem!_pos l _ hm]; exact ⟨h _ (List.getElem_mem hi), h _ (List.getElem_mem hm)⟩
def OffAllM (m v : Pt) (pre : List (Pt × Pt)) : Prop := pre.all (offM m v) = true
end Go
