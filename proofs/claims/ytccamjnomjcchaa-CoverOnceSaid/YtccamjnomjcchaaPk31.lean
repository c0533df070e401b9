/-
  graticuleref03.Simple.
-/
import Derived.Test.YtccamjnomjcchaaPk29
import Derived.Test.YtccamjnomjcchaaPk30
/- graticuleref03.Simple. -/
set_option linter.unusedVariables false
set_option linter.unusedSimpArgs false
set_option maxRecDepth 100000
namespace Go
open Go.RowKit
def wantS (n a b : Nat) : Int := if a - b = 1 ∨ a - b = n - 1 then 1 else 0
def distP (L : List Pt) (i : Nat) : Prop := ∀ a, a < i → ∀ b, b < a → L[a]! ≠ L[b]!
def clsOk (L : List Pt) (a b : Nat) : Prop := rclsF L[a]! L[(a + 1) % L.length]! L[b]! L[(b + 1) % L.length]! = wantS L.length a b
def clsP (L : List Pt) (i : Nat) : Prop := ∀ a, a < i → ∀ b, b < a → clsOk L a b
def simpP (L : List Pt) : Prop := 3 ≤ L.length ∧ L.all okPt = true ∧ distP L L.length ∧ clsP L L.length
def SimpIs (L : List Pt) (e : Ending) : Prop := ∃ q : Bool, e = .returned (.bool q) ∧ (q = true ↔ simpP L)
end Go
namespace Go.Proofs.Ytccamjnomjcchaa
open Go.RowKit
set_option maxHeartbeats 3200000 in
theorem rsimp_any (a : Option Addr) (c : Nat) (L : List Pt) (hlen : L.length ≤ 1000000) (w : World) (hr : Rd w a (pts L)) :
    Calls Try.prog 36 #[.slice a L.length c] w fun e w' => SimpIs L e ∧ Below w.heap.size w w' := by
  have HALL := Lib.hid (fun (W : World) (h : Rd W a (pts L)) => rall_any a c L (by omega) W h); have HR := Lib.hid hr; obtain ⟨N, hN⟩ : ∃ N, L.length = N := ⟨_, rfl⟩; have HN := Lib.hid hN; rw [hN] at HALL hlen ⊢; clear hr hN
  by_cases h3 : N < 3
  · have h3' : (N : Int) < 3 := by omega
    go_enter Try.func36, Try.ntmps36
    go_wp2; go_ret; exact ⟨⟨false, rfl, by unfold simpP; rw [HN.out]; simp; omega⟩, Below.refl _ _⟩
  · have h3' : ¬ (N : Int) < 3 := by omega
    go_enter Try.func36, Try.ntmps36
    go_wp2_with fail
    refine (HALL.out w HR.out).mono ?_; rintro e w1 ⟨rfl, hb1⟩; have HB1 := Lib.hid hb1; clear hb1 HALL
    by_cases hok : L.all okPt = true
    · obtain ⟨q, hq⟩ : ∃ q, L.all okPt = q := ⟨_, rfl⟩; obtain rfl : q = true := by rw [← hq]; exact hok
      have HOK := Lib.hid hok; rw [hq]; clear hok hq; go_wp2
      go_loopw [4] (fun i W => ∃ (k : Nat), k ≤ N ∧ i = .int .i64 k ∧ Hid (distP L k) ∧ Hid (Below w.heap.size w W)) (fun i _ => N - (intOf i).toNat)
      case atStart => exact ⟨0, by omega, rfl, Lib.hid (fun a h => by omega), HB1⟩
      case round =>
        obtain ⟨k, hk, rfl, HD, HBK⟩ := hrel
        by_cases hkn : k < N
        · as_aux_lemma =>
          have hkn' : (k : Int) < (N : Int) := by omega
          go_wp2
          go_loopw [5] (fun j W => ∃ (m : Nat), m ≤ k ∧ j = .int .i64 m ∧ Hid (∀ b, b < m → L[k]! ≠ L[b]!) ∧ Hid (Below w.heap.size w W)) (fun j _ => k - (intOf j).toNat)
          case atStart => exact ⟨0, by omega, rfl, Lib.hid (fun b h => by omega), HBK⟩
          case round =>
            obtain ⟨m, hm, rfl, HE, HBM⟩ := hrel
            by_cases hmk : m < k
            · as_aux_lemma =>
              have hmk' : (m : Int) < (k : Int) := by omega
              have hkl : k < L.length := by rw [HN.out]; exact hkn
              have hml : m < L.length := by rw [HN.out]; omega
              obtain ⟨b, o, rfl, hb, c0, c1⟩ := (HR.out.keep HBM.out).pt k hkl; obtain ⟨b', o', hbo, hb2, d0, d1⟩ := (HR.out.keep HBM.out).pt m hml
              cases hbo
              have HK1 : Hid (L[k]! = L[k]) := Lib.hid (getElem!_pos L k hkl); have HM1 : Hid (L[m]! = L[m]) := Lib.hid (getElem!_pos L m hml); generalize L[k] = p at *; generalize L[m] = q at *; obtain ⟨px, py⟩ := p; obtain ⟨qx, qy⟩ := q; dsimp only at c0 c1 d0 d1
              by_cases hx : px = qx
              · by_cases hy : py = qy
                · subst hx; subst hy; have HNO : Hid (¬ simpP L) := Lib.hid (fun h => h.2.2.1 k hkl m hmk (by rw [HK1.out, HM1.out])); go_wp2
                  go_quiet (fail)
                  go_wp2; go_ret; exact ⟨⟨false, rfl, by simp [HNO.out]⟩, below_drewN HBM.out _⟩
                · have HE2 : Hid (∀ b, b < m + 1 → L[k]! ≠ L[b]!) := Lib.hid (fun b hb => by
                    by_cases h : b = m
                    · rw [h, HK1.out, HM1.out]; intro e; cases e; exact hy rfl
                    · exact HE.out b (by omega))
                  go_wp2
                  go_quiet (fail)
                  go_wp2; exact ⟨⟨m + 1, by omega, by go_num, HE2, Lib.hid (below_drewN HBM.out _)⟩, by simp [intOf]; omega⟩
              · have HE2 : Hid (∀ b, b < m + 1 → L[k]! ≠ L[b]!) := Lib.hid (fun b hb => by
                  by_cases h : b = m
                  · rw [h, HK1.out, HM1.out]; intro e; cases e; exact hx rfl
                  · exact HE.out b (by omega))
                go_wp2
                go_quiet (fail)
                go_wp2; exact ⟨⟨m + 1, by omega, by go_num, HE2, Lib.hid (below_drewN HBM.out _)⟩, by simp [intOf]; omega⟩
            · obtain rfl : k = m := by omega
              have hmk' : ¬ (k : Int) < (k : Int) := by omega
              have HD2 : Hid (distP L (k + 1)) := Lib.hid (fun a ha b hb => by
                by_cases h : a = k
                · rw [h] at hb ⊢; exact HE.out b hb
                · exact HD.out a (by omega) b hb)
              go_wp2; exact ⟨⟨k + 1, by omega, by go_num, HD2, HBM⟩, by simp [intOf]; omega⟩
        · obtain rfl : N = k := by omega
          have hkn' : ¬ (N : Int) < (N : Int) := by omega
          go_wp2; have HDI : Hid (distP L L.length) := Lib.hid (by rw [HN.out]; exact HD.out); have HBW := HBK; clear hkn hk HD HBK
          go_loopw [6] (fun i W => ∃ (k : Nat), k ≤ N ∧ i = .int .i64 k ∧ Hid (clsP L k) ∧ Hid (Below w.heap.size w W)) (fun i _ => N - (intOf i).toNat)
          case atStart => exact ⟨0, by omega, rfl, Lib.hid (fun a h => by omega), HBW⟩
          case round =>
            obtain ⟨k, hk, rfl, HD, HBK⟩ := hrel
            by_cases hkn : k < N
            · as_aux_lemma =>
              have hkn' : (k : Int) < (N : Int) := by omega
              go_wp2
              go_loopw [7] (fun j W => ∃ (m : Nat), m ≤ k ∧ j = .int .i64 m ∧ Hid (∀ b, b < m → clsOk L k b) ∧ Hid (Below w.heap.size w W)) (fun j _ => k - (intOf j).toNat)
              case atStart => exact ⟨0, by omega, rfl, Lib.hid (fun b h => by omega), HBK⟩
              case round =>
                obtain ⟨m, hm, rfl, HE, HBM⟩ := hrel
                by_cases hmk : m < k
                · as_aux_lemma =>
                  have hmk' : (m : Int) < (k : Int) := by omega
                  have hKw : IntKind.i64.wrap ((k : Int) + 1) = (k : Int) + 1 := IntWalk.i64_in _ (by omega); have hMw : IntKind.i64.wrap ((m : Int) + 1) = (m : Int) + 1 := IntWalk.i64_in _ (by omega); have hN0 : ¬ N = 0 := by omega
                  obtain ⟨K1, hK1⟩ : ∃ x, (k + 1) % N = x := ⟨_, rfl⟩; obtain ⟨M1, hM1⟩ : ∃ x, (m + 1) % N = x := ⟨_, rfl⟩; have hK1N : K1 < N := by rw [← hK1]; exact Nat.mod_lt _ (by omega)
                  have hM1N : M1 < N := by rw [← hM1]; exact Nat.mod_lt _ (by omega)
                  have hKI : (K1 : Int) < (N : Int) := by omega
                  have hMI : (M1 : Int) < (N : Int) := by omega
                  have hKt : ((k : Int) + 1).tmod (N : Int) = (K1 : Int) := by rw [← hK1, Int.tmod_eq_emod_of_nonneg (by omega)]; simp
                  have hMt : ((m : Int) + 1).tmod (N : Int) = (M1 : Int) := by rw [← hM1, Int.tmod_eq_emod_of_nonneg (by omega)]; simp
                  have hmN : (m : Int) < (N : Int) := by omega
                  have hkl : k < L.length := by rw [HN.out]; exact hkn
                  have hml : m < L.length := by rw [HN.out]; omega
                  have hKl : K1 < L.length := by rw [HN.out]; exact hK1N
                  have hMl : M1 < L.length := by rw [HN.out]; exact hM1N
                  have HCL : Hid (clsOk L k m ↔ rclsF L[k] L[K1] L[m] L[M1] = wantS N k m) := Lib.hid (by
                    unfold clsOk; rw [HN.out, hK1, hM1, getElem!_pos L k hkl, getElem!_pos L m hml, getElem!_pos L K1 hKl, getElem!_pos L M1 hMl])
                  have hne : L[k] ≠ L[K1] := fun e => by
                    by_cases h : k + 1 < N
                    · rw [Nat.mod_eq_of_lt h] at hK1; have := HDI.out K1 hKl k (by omega); rw [getElem!_pos L k hkl, getElem!_pos L K1 hKl] at this; exact this e.symm
                    · have h2 : K1 = 0 := by rw [← hK1, show k + 1 = N by omega, Nat.mod_self]
                      have := HDI.out k hkl K1 (by omega); rw [getElem!_pos L k hkl, getElem!_pos L K1 hKl] at this; exact this e
                  have hne2 : L[m] ≠ L[M1] := fun e => by
                    rw [Nat.mod_eq_of_lt (show m + 1 < N by omega)] at hM1; have := HDI.out M1 hMl m (by omega); rw [getElem!_pos L m hml, getElem!_pos L M1 hMl] at this; exact this e.symm
                  have hall := List.all_eq_true.1 HOK.out; have HCC := Lib.hid (fun W => rclass_any L[k] L[K1] L[m] L[M1] (hall _ (List.getElem_mem hkl)) (hall _ (List.getElem_mem hKl)) (hall _ (List.getElem_mem hml)) (hall _ (List.getElem_mem hMl)) hne hne2 W); clear hne hne2 hall; obtain ⟨b, o, rfl, hb, c0, c1⟩ := HR.out.pt k hkl; obtain ⟨b1, o1, hbo, hb1, d0, d1⟩ := HR.out.pt K1 hKl
                  cases hbo
                  obtain ⟨b2, o2, hbo, hb2, e0, e1⟩ := HR.out.pt m hml
                  cases hbo
                  obtain ⟨b3, o3, hbo, hb3, f0, f1⟩ := HR.out.pt M1 hMl
                  cases hbo
                  generalize L[k] = p at *; generalize L[K1] = q at *; generalize L[m] = r at *; generalize L[M1] = s at *; obtain ⟨px, py⟩ := p; obtain ⟨qx, qy⟩ := q; obtain ⟨rx, ry⟩ := r; obtain ⟨sx, sy⟩ := s; dsimp only [Pt.val] at c0 c1 d0 d1 e0 e1 f0 f1 HCC; obtain ⟨CV, hCV⟩ : ∃ x, rclsF ⟨px, py⟩ ⟨qx, qy⟩ ⟨rx, ry⟩ ⟨sx, sy⟩ = x := ⟨_, rfl⟩; rw [hCV] at HCC HCL; clear hCV hK1 hM1
                  go_wp2_with fail
                  refine wp_region_lit_txtZ none [0, 1, 2, 3, 4, 5, 6, 7, 8, 9, 10, 11, 12, 13, 14, 15, 16, 17, 18, 19, 20, 21, 23] (fun W => Below w.heap.size w W) (by kernel_rfl) (by kernel_rfl) (by kernel_rfl) (by kernel_rfl) HBM.out.drew ?_; have hbd := HBM.out.drew; generalize wr.drew = W0 at *
                  iterate 3 ((refine txt_light ?_ rfl rfl ?_ ?_; rotate_left; · (intro w' hS; (try dsimp only at hS); go_simp; with_reducible rfl)); try simp only [Act.put, List.getElem_toArray, List.getElem_cons_succ, List.getElem_cons_zero, List.setIfInBounds_toArray, List.set_cons_zero, List.set_cons_succ])
                  refine txt_light (.agg #[.int .i64 px, .int .i64 py]) rfl rfl ?_ ?_
                  · intro w' hS; have c7 := (hS.cell (p := ⟨b, o + k * 2, none⟩) hb).trans c0; have c8 := (hS.cell (p := ⟨b, o + k * 2 + 1, none⟩) hb).trans c1; clear hS; go_simp
                  try simp only [Act.put, List.getElem_toArray, List.getElem_cons_succ, List.getElem_cons_zero, List.setIfInBounds_toArray, List.set_cons_zero, List.set_cons_succ]
                  iterate 2 ((refine txt_light ?_ rfl rfl ?_ ?_; rotate_left; · (intro w' hS; (try dsimp only at hS); go_simp; with_reducible rfl)); try simp only [Act.put, List.getElem_toArray, List.getElem_cons_succ, List.getElem_cons_zero, List.setIfInBounds_toArray, List.set_cons_zero, List.set_cons_succ])
                  refine txt_light (.int .i64 ((k : Int) + 1)) rfl rfl ?_ ?_
                  · intro w' hS
                    skip
                    clear hS; go_simp
                  try simp only [Act.put, List.getElem_toArray, List.getElem_cons_succ, List.getElem_cons_zero, List.setIfInBounds_toArray, List.set_cons_zero, List.set_cons_succ]
                  (refine txt_light ?_ rfl rfl ?_ ?_; rotate_left; · (intro w' hS; (try dsimp only at hS); go_simp; with_reducible rfl)); try simp only [Act.put, List.getElem_toArray, List.getElem_cons_succ, List.getElem_cons_zero, List.setIfInBounds_toArray, List.set_cons_zero, List.set_cons_succ]
                  refine txt_light (.int .i64 (K1 : Int)) rfl rfl ?_ ?_
                  · intro w' hS
                    skip
                    clear hS; go_simp
                  try simp only [Act.put, List.getElem_toArray, List.getElem_cons_succ, List.getElem_cons_zero, List.setIfInBounds_toArray, List.set_cons_zero, List.set_cons_succ]
                  (refine txt_light ?_ rfl rfl ?_ ?_; rotate_left; · (intro w' hS; (try dsimp only at hS); go_simp; with_reducible rfl)); try simp only [Act.put, List.getElem_toArray, List.getElem_cons_succ, List.getElem_cons_zero, List.setIfInBounds_toArray, List.set_cons_zero, List.set_cons_succ]
                  refine txt_light (.agg #[.int .i64 qx, .int .i64 qy]) rfl rfl ?_ ?_
                  · intro w' hS; have c7 := (hS.cell (p := ⟨b, o + K1 * 2, none⟩) hb).trans d0; have c8 := (hS.cell (p := ⟨b, o + K1 * 2 + 1, none⟩) hb).trans d1; clear hS; go_simp
                  try simp only [Act.put, List.getElem_toArray, List.getElem_cons_succ, List.getElem_cons_zero, List.setIfInBounds_toArray, List.set_cons_zero, List.set_cons_succ]
                  iterate 3 ((refine txt_light ?_ rfl rfl ?_ ?_; rotate_left; · (intro w' hS; (try dsimp only at hS); go_simp; with_reducible rfl)); try simp only [Act.put, List.getElem_toArray, List.getElem_cons_succ, List.getElem_cons_zero, List.setIfInBounds_toArray, List.set_cons_zero, List.set_cons_succ])
                  refine txt_light (.agg #[.int .i64 rx, .int .i64 ry]) rfl rfl ?_ ?_
                  · intro w' hS; have c7 := (hS.cell (p := ⟨b, o + m * 2, none⟩) hb).trans e0; have c8 := (hS.cell (p := ⟨b, o + m * 2 + 1, none⟩) hb).trans e1; clear hS; go_simp
                  try simp only [Act.put, List.getElem_toArray, List.getElem_cons_succ, List.getElem_cons_zero, List.setIfInBounds_toArray, List.set_cons_zero, List.set_cons_succ]
                  iterate 2 ((refine txt_light ?_ rfl rfl ?_ ?_; rotate_left; · (intro w' hS; (try dsimp only at hS); go_simp; with_reducible rfl)); try simp only [Act.put, List.getElem_toArray, List.getElem_cons_succ, List.getElem_cons_zero, List.setIfInBounds_toArray, List.set_cons_zero, List.set_cons_succ])
                  refine txt_light (.int .i64 ((m : Int) + 1)) rfl rfl ?_ ?_
                  · intro w' hS
                    skip
                    clear hS; go_simp
                  try simp only [Act.put, List.getElem_toArray, List.getElem_cons_succ, List.getElem_cons_zero, List.setIfInBounds_toArray, List.set_cons_zero, List.set_cons_succ]
                  (refine txt_light ?_ rfl rfl ?_ ?_; rotate_left; · (intro w' hS; (try dsimp only at hS); go_simp; with_reducible rfl)); try simp only [Act.put, List.getElem_toArray, List.getElem_cons_succ, List.getElem_cons_zero, List.setIfInBounds_toArray, List.set_cons_zero, List.set_cons_succ]
                  refine txt_light (.int .i64 (M1 : Int)) rfl rfl ?_ ?_
                  · intro w' hS
                    skip
                    clear hS; go_simp
                  try simp only [Act.put, List.getElem_toArray, List.getElem_cons_succ, List.getElem_cons_zero, List.setIfInBounds_toArray, List.set_cons_zero, List.set_cons_succ]
                  (refine txt_light ?_ rfl rfl ?_ ?_; rotate_left; · (intro w' hS; (try dsimp only at hS); go_simp; with_reducible rfl)); try simp only [Act.put, List.getElem_toArray, List.getElem_cons_succ, List.getElem_cons_zero, List.setIfInBounds_toArray, List.set_cons_zero, List.set_cons_succ]
                  refine txt_light (.agg #[.int .i64 sx, .int .i64 sy]) rfl rfl ?_ ?_
                  · intro w' hS; have c7 := (hS.cell (p := ⟨b, o + M1 * 2, none⟩) hb).trans f0; have c8 := (hS.cell (p := ⟨b, o + M1 * 2 + 1, none⟩) hb).trans f1; clear hS; go_simp
                  try simp only [Act.put, List.getElem_toArray, List.getElem_cons_succ, List.getElem_cons_zero, List.setIfInBounds_toArray, List.set_cons_zero, List.set_cons_succ]
                  refine txt_heavy rfl rfl (fun K hK => ?_); go_step; refine (HCC.out W0).mono ?_; rintro e W1 ⟨rfl, hx1⟩; have hbe := hbd.trans (hx1.mono hbd.size); refine hK.out _ _ hbe ?_; clear hK K
                  try simp only [Act.put, List.getElem_toArray, List.getElem_cons_succ, List.getElem_cons_zero, List.setIfInBounds_toArray, List.set_cons_zero, List.set_cons_succ]
                  (refine txt_light ?_ rfl rfl ?_ ?_; rotate_left; · (intro w' hS; (try dsimp only at hS); go_simp; with_reducible rfl)); try simp only [Act.put, List.getElem_toArray, List.getElem_cons_succ, List.getElem_cons_zero, List.setIfInBounds_toArray, List.set_cons_zero, List.set_cons_succ]
                  refine txt_nil ?_; have w1 : IntKind.i64.wrap ((k : Int) - (m : Int)) = ((k - m : Nat) : Int) := by rw [IntWalk.i64_in _ (by omega)]; omega
                  have w2 : IntKind.i64.wrap ((N : Int) - 1) = ((N - 1 : Nat) : Int) := by rw [IntWalk.i64_in _ (by omega)]; omega
                  obtain ⟨DV, hDV⟩ : ∃ d, k - m = d := ⟨_, rfl⟩; rw [hDV] at w1; obtain ⟨NV, hNV⟩ : ∃ d, N - 1 = d := ⟨_, rfl⟩; rw [hNV] at w2
                  by_cases hd1 : DV = 1
                  · have HWV : Hid (wantS N k m = 1) := Lib.hid (by unfold wantS; rw [if_pos (.inl (by omega))]); subst hd1
                    by_cases hcv : CV = 1
                    · subst hcv; have HE2 : Hid (∀ b, b < m + 1 → clsOk L k b) := Lib.hid (fun b hb => by
                        by_cases h : b = m
                        · rw [h]; exact HCL.out.2 HWV.out.symm
                        · exact HE.out b (by omega))
                      go_wp2; exact ⟨⟨m + 1, by omega, by go_num, HE2, Lib.hid hbe⟩, by simp [intOf]; omega⟩
                    · have HNO : Hid (¬ simpP L) := Lib.hid (fun h => hcv ((HCL.out.1 (h.2.2.2 k (by rw [HN.out]; exact hkn) m hmk)).trans HWV.out)); go_wp2; go_ret; exact ⟨⟨false, rfl, by simp [HNO.out]⟩, hbe⟩
                  · have hd1' : ((DV : Int) == 1) = false := by simpa using (show ¬ (DV : Int) = 1 by omega)
                    by_cases hd2 : DV = NV
                    · have HWV : Hid (wantS N k m = 1) := Lib.hid (by unfold wantS; rw [if_pos (.inr (by omega))]); subst hd2
                      by_cases hcv : CV = 1
                      · subst hcv; have HE2 : Hid (∀ b, b < m + 1 → clsOk L k b) := Lib.hid (fun b hb => by
                          by_cases h : b = m
                          · rw [h]; exact HCL.out.2 HWV.out.symm
                          · exact HE.out b (by omega))
                        go_wp2; exact ⟨⟨m + 1, by omega, by go_num, HE2, Lib.hid hbe⟩, by simp [intOf]; omega⟩
                      · have HNO : Hid (¬ simpP L) := Lib.hid (fun h => hcv ((HCL.out.1 (h.2.2.2 k (by rw [HN.out]; exact hkn) m hmk)).trans HWV.out)); go_wp2; go_ret; exact ⟨⟨false, rfl, by simp [HNO.out]⟩, hbe⟩
                    · have hd2' : ((DV : Int) == (NV : Int)) = false := by simpa using (show ¬ (DV : Int) = (NV : Int) by omega)
                      have HWV : Hid (wantS N k m = 0) := Lib.hid (by unfold wantS; rw [if_neg (by omega)])
                      by_cases hcv : CV = 0
                      · subst hcv; have HE2 : Hid (∀ b, b < m + 1 → clsOk L k b) := Lib.hid (fun b hb => by
                          by_cases h : b = m
                          · rw [h]; exact HCL.out.2 HWV.out.symm
                          · exact HE.out b (by omega))
                        go_wp2; exact ⟨⟨m + 1, by omega, by go_num, HE2, Lib.hid hbe⟩, by simp [intOf]; omega⟩
                      · have HNO : Hid (¬ simpP L) := Lib.hid (fun h => hcv ((HCL.out.1 (h.2.2.2 k (by rw [HN.out]; exact hkn) m hmk)).trans HWV.out)); go_wp2; go_ret; exact ⟨⟨false, rfl, by simp [HNO.out]⟩, hbe⟩
                · obtain rfl : k = m := by omega
                  have hmk' : ¬ (k : Int) < (k : Int) := by omega
                  have HD2 : Hid (clsP L (k + 1)) := Lib.hid (fun a ha b hb => by
                    by_cases h : a = k
                    · rw [h] at hb ⊢; exact HE.out b hb
                    · exact HD.out a (by omega) b hb)
                  go_wp2; exact ⟨⟨k + 1, by omega, by go_num, HD2, HBM⟩, by simp [intOf]; omega⟩
            · obtain rfl : N = k := by omega
              have hkn' : ¬ (N : Int) < (N : Int) := by omega
              have HYES : Hid (simpP L) := Lib.hid ⟨by rw [HN.out]; omega, HOK.out, HDI.out, by rw [HN.out]; exact HD.out⟩; go_wp2; refine bodyPost_ret (v := .bool true) (by simp [results, Try.results36, go_sem]) rfl ⟨⟨true, rfl, by simp [HYES.out]⟩, HBK.out⟩
    · have hok' : L.all okPt = false := by simpa using hok
      rw [hok']; go_wp2; go_ret; exact ⟨⟨false, rfl, by unfold simpP; rw [hok']; simp⟩, HB1.out⟩
end Go.Proofs.Ytccamjnomjcchaa
