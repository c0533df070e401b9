/-
  graticulelaw30.Same, of any items.
-/
import Derived.Test.YtkfgbjjelcigcaaGreatDoorPk20
import Derived.Test.YtkfgbjjelcigcaaGreatDoorPk8
/- graticulelaw30.Same, of any items. -/
set_option linter.unusedVariables false
set_option linter.unusedSimpArgs false
set_option maxRecDepth 100000
namespace Go.Proofs.YtkfgbjjelcigcaaGreatDoor
open Go.RowKit
set_option maxHeartbeats 12800000 in
theorem ismg_any (a b : Option Addr) (ca cb : Nat) (X Y : List It) (hl : X.length ≤ 100000) (hl2 : Y.length ≤ 100000) (hn : ∀ x ∈ X, x.n.length ≤ 1000000) (hn2 : ∀ x ∈ Y, x.n.length ≤ 1000000) (w : World) (hr : Rd w a (its X)) (hs : Rd w b (its Y)) (hX : ∀ x ∈ X, x.Ok w) (hY : ∀ y ∈ Y, y.Ok w) :
    Calls Tryz.prog 11 #[.slice a X.length ca, .slice b Y.length cb] w fun e w' => e = .returned (.bool (decide (X.map It.core = Y.map It.core))) ∧ Below w.heap.size w w' := by
  have HR := Lib.hid hr; have HS := Lib.hid hs; have HX := Lib.hid hX; have HY := Lib.hid hY; have HN1 := Lib.hid hn; have HN2 := Lib.hid hn2; obtain ⟨D, hD⟩ : ∃ D, decide (X.map It.core = Y.map It.core) = D := ⟨_, rfl⟩; rw [hD]; have HD := Lib.hid hD; have HNL : Hid (X.length ≠ Y.length → D = false) := Lib.hid (fun h => by
    rw [← hD]; exact decide_eq_false (fun e => h (by simpa using congrArg List.length e)))
  obtain ⟨N, hN⟩ : ∃ N, X.length = N := ⟨_, rfl⟩; obtain ⟨K, hK⟩ : ∃ N, Y.length = N := ⟨_, rfl⟩; have HN := Lib.hid hN; have HK := Lib.hid hK; rw [hN] at hl HNL ⊢; rw [hK] at hl2 HNL ⊢; clear hr hs hN hK hD hX hY hn hn2
  by_cases hNK : N = K
  · subst hNK
    go_enter Tryz.func11, Tryz.ntmps11
    go_wp2
    go_loopw [5] (fun i wr => ∃ k : Nat, k ≤ N ∧ i = .int .i64 k ∧ Hid ((X.take k).map It.core = (Y.take k).map It.core) ∧ Below w.heap.size w wr) (fun i _ => N - (intOf i).toNat)
    case atStart => exact ⟨0, by omega, rfl, Lib.hid rfl, Below.refl _ _⟩
    case round =>
      obtain ⟨i, hi, rfl, HT, hbl⟩ := hrel
      by_cases h1 : i < N
      · have h1' : (i : Int) < (N : Int) := by omega
        have hil : i < X.length := by rw [HN.out]; exact h1
        have hil2 : i < Y.length := by rw [HK.out]; exact h1
        obtain ⟨b1, o1, rfl, hbb, c0, c1, c2, c3, c4, c5⟩ := HR.out.it i hil; obtain ⟨b2, o2, rfl, hbb2, d0, d1, d2, d3, d4, d5⟩ := HS.out.it i hil2; have HNE := Lib.hid (@core_ne X Y i hil hil2); have HTM := Lib.hid (@core_more X Y i HT.out hil hil2); have hxo := HX.out X[i] (List.getElem_mem hil); have hyo := HY.out Y[i] (List.getElem_mem hil2); have hnl := HN1.out X[i] (List.getElem_mem hil); have hnl2 := HN2.out Y[i] (List.getElem_mem hil2); generalize X[i] = x at *; generalize Y[i] = y at *; obtain ⟨kd, n, key, ⟨v1, v2, v3⟩, np, nc⟩ := x; obtain ⟨kd', n', key', ⟨v1', v2', v3'⟩, mp, mc⟩ := y; have HI := Lib.hid (fun (W : World) (hW : Below w.heap.size w W) => ints_gen np mp nc mc n n' hnl hnl2 W (hxo.1.keep hW) (hyo.1.keep hW)); have HCE : Hid ((It.core ⟨kd, n, key, (v1, v2, v3), np, nc⟩ = It.core ⟨kd', n', key', (v1', v2', v3'), mp, mc⟩) ↔ (kd = kd' ∧ n = n' ∧ key = key' ∧ v1 = v1' ∧ v2 = v2' ∧ v3 = v3')) := Lib.hid (by simp [It.core]); have HDF : Hid (¬ (kd = kd' ∧ n = n' ∧ key = key' ∧ v1 = v1' ∧ v2 = v2' ∧ v3 = v3') → D = false) := Lib.hid (fun h => by
          rw [← HD.out]; exact decide_eq_false (HNE.out (fun e => h (HCE.out.1 e))))
        have HGO : Hid ((kd = kd' ∧ n = n' ∧ key = key' ∧ v1 = v1' ∧ v2 = v2' ∧ v3 = v3') → (X.take (i + 1)).map It.core = (Y.take (i + 1)).map It.core) := Lib.hid (fun h => HTM.out (HCE.out.2 h)); clear HNE HTM HCE; obtain ⟨E, hE⟩ : ∃ E, decide (n = n') = E := ⟨_, rfl⟩; rw [hE] at HI; have HE := Lib.hid hE; clear hE; dsimp only [It.nval] at c0 c1 c2 c3 c4 c5 d0 d1 d2 d3 d4 d5 HI; clear hxo hyo hnl hnl2; generalize n.length = NL at *; generalize n'.length = NL2 at *
        by_cases hk : kd = kd'
        · subst hk
          cases E with
          | false =>
            have hx : D = false := HDF.out (fun h => of_decide_eq_false HE.out h.2.1); subst hx; clear HDF HGO; go_wp2; refine wp_region_lit_txt [0, 1, 2, 3, 4, 5, 6, 7, 8, 9, 10, 11, 12, 13, 14, 15, 16, 17, 18, 19, 20, 21, 23, 24, 25, 26, 27, 28, 29, 30, 31, 32, 33, 34, 35, 36, 37, 38, 39, 40, 41, 42, 43, 44, 45, 46, 47, 48, 49, 50] (fun W => Below w.heap.size w W) (by kernel_rfl) (by kernel_rfl) (by kernel_rfl) (hbl.drew) ?_
            iterate 4 ((refine txt_light ?_ rfl rfl ?_ ?_; rotate_left; · (intro w' hS; (try dsimp only at hS); go_simp; with_reducible rfl)); try simp only [Act.put, List.getElem_toArray, List.getElem_cons_succ, List.getElem_cons_zero, List.setIfInBounds_toArray, List.set_cons_zero, List.set_cons_succ])
            refine txt_light (.int .i64 kd) rfl rfl ?_ ?_
            · intro w' hS; have e0 := (hS.cell (p := ⟨b1, o1 + i * 6, none⟩) hbb).trans c0; clear hS; go_simp
            try simp only [Act.put, List.getElem_toArray, List.getElem_cons_succ, List.getElem_cons_zero, List.setIfInBounds_toArray, List.set_cons_zero, List.set_cons_succ]
            iterate 4 ((refine txt_light ?_ rfl rfl ?_ ?_; rotate_left; · (intro w' hS; (try dsimp only at hS); go_simp; with_reducible rfl)); try simp only [Act.put, List.getElem_toArray, List.getElem_cons_succ, List.getElem_cons_zero, List.setIfInBounds_toArray, List.set_cons_zero, List.set_cons_succ])
            refine txt_light (.int .i64 kd) rfl rfl ?_ ?_
            · intro w' hS; have e0 := (hS.cell (p := ⟨b2, o2 + i * 6, none⟩) hbb2).trans d0; clear hS; go_simp
            try simp only [Act.put, List.getElem_toArray, List.getElem_cons_succ, List.getElem_cons_zero, List.setIfInBounds_toArray, List.set_cons_zero, List.set_cons_succ]
            refine txt_light (.bool false) rfl rfl ?_ ?_
            · intro w' hS; clear hS; go_simp
            try simp only [Act.put, List.getElem_toArray, List.getElem_cons_succ, List.getElem_cons_zero, List.setIfInBounds_toArray, List.set_cons_zero, List.set_cons_succ]
            iterate 5 ((refine txt_light ?_ rfl rfl ?_ ?_; rotate_left; · (intro w' hS; (try dsimp only at hS); go_simp; with_reducible rfl)); try simp only [Act.put, List.getElem_toArray, List.getElem_cons_succ, List.getElem_cons_zero, List.setIfInBounds_toArray, List.set_cons_zero, List.set_cons_succ])
            refine txt_light (.slice np NL nc) rfl rfl ?_ ?_
            · intro w' hS; have e0 := (hS.cell (p := ⟨b1, o1 + i * 6 + 1, none⟩) hbb).trans c1; clear hS; go_simp
            try simp only [Act.put, List.getElem_toArray, List.getElem_cons_succ, List.getElem_cons_zero, List.setIfInBounds_toArray, List.set_cons_zero, List.set_cons_succ]
            iterate 4 ((refine txt_light ?_ rfl rfl ?_ ?_; rotate_left; · (intro w' hS; (try dsimp only at hS); go_simp; with_reducible rfl)); try simp only [Act.put, List.getElem_toArray, List.getElem_cons_succ, List.getElem_cons_zero, List.setIfInBounds_toArray, List.set_cons_zero, List.set_cons_succ])
            refine txt_light (.slice mp NL2 mc) rfl rfl ?_ ?_
            · intro w' hS; have e0 := (hS.cell (p := ⟨b2, o2 + i * 6 + 1, none⟩) hbb2).trans d1; clear hS; go_simp
            try simp only [Act.put, List.getElem_toArray, List.getElem_cons_succ, List.getElem_cons_zero, List.setIfInBounds_toArray, List.set_cons_zero, List.set_cons_succ]
            have hb1 := hbl.drew; generalize wr.drew = W1 at *; refine txt_call [.slice np NL nc, .slice mp NL2 mc] Tryz.f23 rfl rfl Tryz.func23 (by kernel_rfl) (by kernel_rfl) rfl ((HI.out W1 hb1).mono ?_); rintro e wb ⟨rfl, hb4⟩; have hbc := hb1.trans (hb4.mono hb1.size); refine ⟨_, rfl, hbc, ?_⟩
            try simp only [Act.put, List.getElem_toArray, List.getElem_cons_succ, List.getElem_cons_zero, List.setIfInBounds_toArray, List.set_cons_zero, List.set_cons_succ]
            iterate 3 ((refine txt_light ?_ rfl rfl ?_ ?_; rotate_left; · (intro w' hS; (try dsimp only at hS); go_simp; with_reducible rfl)); try simp only [Act.put, List.getElem_toArray, List.getElem_cons_succ, List.getElem_cons_zero, List.setIfInBounds_toArray, List.set_cons_zero, List.set_cons_succ])
            refine txt_skip rfl ?_
            try simp only [Act.put, List.getElem_toArray, List.getElem_cons_succ, List.getElem_cons_zero, List.setIfInBounds_toArray, List.set_cons_zero, List.set_cons_succ]
            refine txt_skip rfl ?_
            try simp only [Act.put, List.getElem_toArray, List.getElem_cons_succ, List.getElem_cons_zero, List.setIfInBounds_toArray, List.set_cons_zero, List.set_cons_succ]
            refine txt_skip rfl ?_
            try simp only [Act.put, List.getElem_toArray, List.getElem_cons_succ, List.getElem_cons_zero, List.setIfInBounds_toArray, List.set_cons_zero, List.set_cons_succ]
            refine txt_skip rfl ?_
            try simp only [Act.put, List.getElem_toArray, List.getElem_cons_succ, List.getElem_cons_zero, List.setIfInBounds_toArray, List.set_cons_zero, List.set_cons_succ]
            refine txt_skip rfl ?_
            try simp only [Act.put, List.getElem_toArray, List.getElem_cons_succ, List.getElem_cons_zero, List.setIfInBounds_toArray, List.set_cons_zero, List.set_cons_succ]
            refine txt_skip rfl ?_
            try simp only [Act.put, List.getElem_toArray, List.getElem_cons_succ, List.getElem_cons_zero, List.setIfInBounds_toArray, List.set_cons_zero, List.set_cons_succ]
            refine txt_skip rfl ?_
            try simp only [Act.put, List.getElem_toArray, List.getElem_cons_succ, List.getElem_cons_zero, List.setIfInBounds_toArray, List.set_cons_zero, List.set_cons_succ]
            refine txt_skip rfl ?_
            try simp only [Act.put, List.getElem_toArray, List.getElem_cons_succ, List.getElem_cons_zero, List.setIfInBounds_toArray, List.set_cons_zero, List.set_cons_succ]
            refine txt_skip rfl ?_
            try simp only [Act.put, List.getElem_toArray, List.getElem_cons_succ, List.getElem_cons_zero, List.setIfInBounds_toArray, List.set_cons_zero, List.set_cons_succ]
            refine txt_skip rfl ?_
            try simp only [Act.put, List.getElem_toArray, List.getElem_cons_succ, List.getElem_cons_zero, List.setIfInBounds_toArray, List.set_cons_zero, List.set_cons_succ]
            refine txt_skip rfl ?_
            try simp only [Act.put, List.getElem_toArray, List.getElem_cons_succ, List.getElem_cons_zero, List.setIfInBounds_toArray, List.set_cons_zero, List.set_cons_succ]
            iterate 2 ((refine txt_light ?_ rfl rfl ?_ ?_; rotate_left; · (intro w' hS; (try dsimp only at hS); go_simp; with_reducible rfl)); try simp only [Act.put, List.getElem_toArray, List.getElem_cons_succ, List.getElem_cons_zero, List.setIfInBounds_toArray, List.set_cons_zero, List.set_cons_succ])
            refine txt_skip rfl ?_
            try simp only [Act.put, List.getElem_toArray, List.getElem_cons_succ, List.getElem_cons_zero, List.setIfInBounds_toArray, List.set_cons_zero, List.set_cons_succ]
            refine txt_skip rfl ?_
            try simp only [Act.put, List.getElem_toArray, List.getElem_cons_succ, List.getElem_cons_zero, List.setIfInBounds_toArray, List.set_cons_zero, List.set_cons_succ]
            refine txt_skip rfl ?_
            try simp only [Act.put, List.getElem_toArray, List.getElem_cons_succ, List.getElem_cons_zero, List.setIfInBounds_toArray, List.set_cons_zero, List.set_cons_succ]
            refine txt_skip rfl ?_
            try simp only [Act.put, List.getElem_toArray, List.getElem_cons_succ, List.getElem_cons_zero, List.setIfInBounds_toArray, List.set_cons_zero, List.set_cons_succ]
            refine txt_skip rfl ?_
            try simp only [Act.put, List.getElem_toArray, List.getElem_cons_succ, List.getElem_cons_zero, List.setIfInBounds_toArray, List.set_cons_zero, List.set_cons_succ]
            refine txt_skip rfl ?_
            try simp only [Act.put, List.getElem_toArray, List.getElem_cons_succ, List.getElem_cons_zero, List.setIfInBounds_toArray, List.set_cons_zero, List.set_cons_succ]
            refine txt_skip rfl ?_
            try simp only [Act.put, List.getElem_toArray, List.getElem_cons_succ, List.getElem_cons_zero, List.setIfInBounds_toArray, List.set_cons_zero, List.set_cons_succ]
            refine txt_skip rfl ?_
            try simp only [Act.put, List.getElem_toArray, List.getElem_cons_succ, List.getElem_cons_zero, List.setIfInBounds_toArray, List.set_cons_zero, List.set_cons_succ]
            refine txt_skip rfl ?_
            try simp only [Act.put, List.getElem_toArray, List.getElem_cons_succ, List.getElem_cons_zero, List.setIfInBounds_toArray, List.set_cons_zero, List.set_cons_succ]
            refine txt_skip rfl ?_
            try simp only [Act.put, List.getElem_toArray, List.getElem_cons_succ, List.getElem_cons_zero, List.setIfInBounds_toArray, List.set_cons_zero, List.set_cons_succ]
            refine txt_skip rfl ?_
            try simp only [Act.put, List.getElem_toArray, List.getElem_cons_succ, List.getElem_cons_zero, List.setIfInBounds_toArray, List.set_cons_zero, List.set_cons_succ]
            (refine txt_light ?_ rfl rfl ?_ ?_; rotate_left; · (intro w' hS; (try dsimp only at hS); go_simp; with_reducible rfl)); try simp only [Act.put, List.getElem_toArray, List.getElem_cons_succ, List.getElem_cons_zero, List.setIfInBounds_toArray, List.set_cons_zero, List.set_cons_succ]
            refine txt_nil ?_; go_wp2; go_ret; exact ⟨rfl, hbc⟩
          | true =>
            by_cases hky : key = key'
            · subst hky
              by_cases hv1 : v1 = v1'
              · subst hv1
                by_cases hv2 : v2 = v2'
                · subst hv2
                  by_cases hv3 : v3 = v3'
                  · subst hv3; have HT2 := Lib.hid (HGO.out ⟨rfl, of_decide_eq_true HE.out, rfl, rfl, rfl, rfl⟩); clear HDF HGO; go_wp2; refine wp_region_lit_txt [0, 1, 2, 3, 4, 5, 6, 7, 8, 9, 10, 11, 12, 13, 14, 15, 16, 17, 18, 19, 20, 21, 23, 24, 25, 26, 27, 28, 29, 30, 31, 32, 33, 34, 35, 36, 37, 38, 39, 40, 41, 42, 43, 44, 45, 46, 47, 48, 49, 50] (fun W => Below w.heap.size w W) (by kernel_rfl) (by kernel_rfl) (by kernel_rfl) (hbl.drew) ?_
                    iterate 4 ((refine txt_light ?_ rfl rfl ?_ ?_; rotate_left; · (intro w' hS; (try dsimp only at hS); go_simp; with_reducible rfl)); try simp only [Act.put, List.getElem_toArray, List.getElem_cons_succ, List.getElem_cons_zero, List.setIfInBounds_toArray, List.set_cons_zero, List.set_cons_succ])
                    refine txt_light (.int .i64 kd) rfl rfl ?_ ?_
                    · intro w' hS; have e0 := (hS.cell (p := ⟨b1, o1 + i * 6, none⟩) hbb).trans c0; clear hS; go_simp
                    try simp only [Act.put, List.getElem_toArray, List.getElem_cons_succ, List.getElem_cons_zero, List.setIfInBounds_toArray, List.set_cons_zero, List.set_cons_succ]
                    iterate 4 ((refine txt_light ?_ rfl rfl ?_ ?_; rotate_left; · (intro w' hS; (try dsimp only at hS); go_simp; with_reducible rfl)); try simp only [Act.put, List.getElem_toArray, List.getElem_cons_succ, List.getElem_cons_zero, List.setIfInBounds_toArray, List.set_cons_zero, List.set_cons_succ])
                    refine txt_light (.int .i64 kd) rfl rfl ?_ ?_
                    · intro w' hS; have e0 := (hS.cell (p := ⟨b2, o2 + i * 6, none⟩) hbb2).trans d0; clear hS; go_simp
                    try simp only [Act.put, List.getElem_toArray, List.getElem_cons_succ, List.getElem_cons_zero, List.setIfInBounds_toArray, List.set_cons_zero, List.set_cons_succ]
                    refine txt_light (.bool false) rfl rfl ?_ ?_
                    · intro w' hS; clear hS; go_simp
                    try simp only [Act.put, List.getElem_toArray, List.getElem_cons_succ, List.getElem_cons_zero, List.setIfInBounds_toArray, List.set_cons_zero, List.set_cons_succ]
                    iterate 5 ((refine txt_light ?_ rfl rfl ?_ ?_; rotate_left; · (intro w' hS; (try dsimp only at hS); go_simp; with_reducible rfl)); try simp only [Act.put, List.getElem_toArray, List.getElem_cons_succ, List.getElem_cons_zero, List.setIfInBounds_toArray, List.set_cons_zero, List.set_cons_succ])
                    refine txt_light (.slice np NL nc) rfl rfl ?_ ?_
                    · intro w' hS; have e0 := (hS.cell (p := ⟨b1, o1 + i * 6 + 1, none⟩) hbb).trans c1; clear hS; go_simp
                    try simp only [Act.put, List.getElem_toArray, List.getElem_cons_succ, List.getElem_cons_zero, List.setIfInBounds_toArray, List.set_cons_zero, List.set_cons_succ]
                    iterate 4 ((refine txt_light ?_ rfl rfl ?_ ?_; rotate_left; · (intro w' hS; (try dsimp only at hS); go_simp; with_reducible rfl)); try simp only [Act.put, List.getElem_toArray, List.getElem_cons_succ, List.getElem_cons_zero, List.setIfInBounds_toArray, List.set_cons_zero, List.set_cons_succ])
                    refine txt_light (.slice mp NL2 mc) rfl rfl ?_ ?_
                    · intro w' hS; have e0 := (hS.cell (p := ⟨b2, o2 + i * 6 + 1, none⟩) hbb2).trans d1; clear hS; go_simp
                    try simp only [Act.put, List.getElem_toArray, List.getElem_cons_succ, List.getElem_cons_zero, List.setIfInBounds_toArray, List.set_cons_zero, List.set_cons_succ]
                    have hb1 := hbl.drew; generalize wr.drew = W1 at *; refine txt_call [.slice np NL nc, .slice mp NL2 mc] Tryz.f23 rfl rfl Tryz.func23 (by kernel_rfl) (by kernel_rfl) rfl ((HI.out W1 hb1).mono ?_); rintro e wb ⟨rfl, hb4⟩; have hbc := hb1.trans (hb4.mono hb1.size); refine ⟨_, rfl, hbc, ?_⟩
                    try simp only [Act.put, List.getElem_toArray, List.getElem_cons_succ, List.getElem_cons_zero, List.setIfInBounds_toArray, List.set_cons_zero, List.set_cons_succ]
                    iterate 7 ((refine txt_light ?_ rfl rfl ?_ ?_; rotate_left; · (intro w' hS; (try dsimp only at hS); go_simp; with_reducible rfl)); try simp only [Act.put, List.getElem_toArray, List.getElem_cons_succ, List.getElem_cons_zero, List.setIfInBounds_toArray, List.set_cons_zero, List.set_cons_succ])
                    refine txt_light (.string key) rfl rfl ?_ ?_
                    · intro w' hS; have e0 := (hS.cell (p := ⟨b1, o1 + i * 6 + 2, none⟩) hbb).trans c2; clear hS; go_simp
                    try simp only [Act.put, List.getElem_toArray, List.getElem_cons_succ, List.getElem_cons_zero, List.setIfInBounds_toArray, List.set_cons_zero, List.set_cons_succ]
                    iterate 4 ((refine txt_light ?_ rfl rfl ?_ ?_; rotate_left; · (intro w' hS; (try dsimp only at hS); go_simp; with_reducible rfl)); try simp only [Act.put, List.getElem_toArray, List.getElem_cons_succ, List.getElem_cons_zero, List.setIfInBounds_toArray, List.set_cons_zero, List.set_cons_succ])
                    refine txt_light (.string key) rfl rfl ?_ ?_
                    · intro w' hS; have e0 := (hS.cell (p := ⟨b2, o2 + i * 6 + 2, none⟩) hbb2).trans d2; clear hS; go_simp
                    try simp only [Act.put, List.getElem_toArray, List.getElem_cons_succ, List.getElem_cons_zero, List.setIfInBounds_toArray, List.set_cons_zero, List.set_cons_succ]
                    refine txt_light (.bool false) rfl rfl ?_ ?_
                    · intro w' hS; clear hS; go_simp
                    try simp only [Act.put, List.getElem_toArray, List.getElem_cons_succ, List.getElem_cons_zero, List.setIfInBounds_toArray, List.set_cons_zero, List.set_cons_succ]
                    iterate 6 ((refine txt_light ?_ rfl rfl ?_ ?_; rotate_left; · (intro w' hS; (try dsimp only at hS); go_simp; with_reducible rfl)); try simp only [Act.put, List.getElem_toArray, List.getElem_cons_succ, List.getElem_cons_zero, List.setIfInBounds_toArray, List.set_cons_zero, List.set_cons_succ])
                    refine txt_light (.agg #[.int .i64 v1, .string v2, .int .i64 v3]) rfl rfl ?_ ?_
                    · intro w' hS; have e3 := (hS.cell (p := ⟨b1, o1 + i * 6 + 3, none⟩) hbb).trans c3; have e4 := (hS.cell (p := ⟨b1, o1 + i * 6 + 4, none⟩) hbb).trans c4; have e5 := (hS.cell (p := ⟨b1, o1 + i * 6 + 5, none⟩) hbb).trans c5; clear hS; go_simp
                    try simp only [Act.put, List.getElem_toArray, List.getElem_cons_succ, List.getElem_cons_zero, List.setIfInBounds_toArray, List.set_cons_zero, List.set_cons_succ]
                    iterate 4 ((refine txt_light ?_ rfl rfl ?_ ?_; rotate_left; · (intro w' hS; (try dsimp only at hS); go_simp; with_reducible rfl)); try simp only [Act.put, List.getElem_toArray, List.getElem_cons_succ, List.getElem_cons_zero, List.setIfInBounds_toArray, List.set_cons_zero, List.set_cons_succ])
                    refine txt_light (.agg #[.int .i64 v1, .string v2, .int .i64 v3]) rfl rfl ?_ ?_
                    · intro w' hS; have e3 := (hS.cell (p := ⟨b2, o2 + i * 6 + 3, none⟩) hbb2).trans d3; have e4 := (hS.cell (p := ⟨b2, o2 + i * 6 + 4, none⟩) hbb2).trans d4; have e5 := (hS.cell (p := ⟨b2, o2 + i * 6 + 5, none⟩) hbb2).trans d5; clear hS; go_simp
                    try simp only [Act.put, List.getElem_toArray, List.getElem_cons_succ, List.getElem_cons_zero, List.setIfInBounds_toArray, List.set_cons_zero, List.set_cons_succ]
                    refine txt_light (.bool false) rfl rfl ?_ ?_
                    · intro w' hS; clear hS; go_simp
                    try simp only [Act.put, List.getElem_toArray, List.getElem_cons_succ, List.getElem_cons_zero, List.setIfInBounds_toArray, List.set_cons_zero, List.set_cons_succ]
                    (refine txt_light ?_ rfl rfl ?_ ?_; rotate_left; · (intro w' hS; (try dsimp only at hS); go_simp; with_reducible rfl)); try simp only [Act.put, List.getElem_toArray, List.getElem_cons_succ, List.getElem_cons_zero, List.setIfInBounds_toArray, List.set_cons_zero, List.set_cons_succ]
                    refine txt_nil ?_; go_wp2; go_roundw
                    case rel => exact ⟨i + 1, by omega, by go_num, HT2, hbc⟩
                    case measure => simp [intOf]; omega
                  · have hx : D = false := HDF.out (fun h => hv3 h.2.2.2.2.2); subst hx; clear HDF HGO; go_wp2; refine wp_region_lit_txt [0, 1, 2, 3, 4, 5, 6, 7, 8, 9, 10, 11, 12, 13, 14, 15, 16, 17, 18, 19, 20, 21, 23, 24, 25, 26, 27, 28, 29, 30, 31, 32, 33, 34, 35, 36, 37, 38, 39, 40, 41, 42, 43, 44, 45, 46, 47, 48, 49, 50] (fun W => Below w.heap.size w W) (by kernel_rfl) (by kernel_rfl) (by kernel_rfl) (hbl.drew) ?_
                    iterate 4 ((refine txt_light ?_ rfl rfl ?_ ?_; rotate_left; · (intro w' hS; (try dsimp only at hS); go_simp; with_reducible rfl)); try simp only [Act.put, List.getElem_toArray, List.getElem_cons_succ, List.getElem_cons_zero, List.setIfInBounds_toArray, List.set_cons_zero, List.set_cons_succ])
                    refine txt_light (.int .i64 kd) rfl rfl ?_ ?_
                    · intro w' hS; have e0 := (hS.cell (p := ⟨b1, o1 + i * 6, none⟩) hbb).trans c0; clear hS; go_simp
                    try simp only [Act.put, List.getElem_toArray, List.getElem_cons_succ, List.getElem_cons_zero, List.setIfInBounds_toArray, List.set_cons_zero, List.set_cons_succ]
                    iterate 4 ((refine txt_light ?_ rfl rfl ?_ ?_; rotate_left; · (intro w' hS; (try dsimp only at hS); go_simp; with_reducible rfl)); try simp only [Act.put, List.getElem_toArray, List.getElem_cons_succ, List.getElem_cons_zero, List.setIfInBounds_toArray, List.set_cons_zero, List.set_cons_succ])
                    refine txt_light (.int .i64 kd) rfl rfl ?_ ?_
                    · intro w' hS; have e0 := (hS.cell (p := ⟨b2, o2 + i * 6, none⟩) hbb2).trans d0; clear hS; go_simp
                    try simp only [Act.put, List.getElem_toArray, List.getElem_cons_succ, List.getElem_cons_zero, List.setIfInBounds_toArray, List.set_cons_zero, List.set_cons_succ]
                    refine txt_light (.bool false) rfl rfl ?_ ?_
                    · intro w' hS; clear hS; go_simp
                    try simp only [Act.put, List.getElem_toArray, List.getElem_cons_succ, List.getElem_cons_zero, List.setIfInBounds_toArray, List.set_cons_zero, List.set_cons_succ]
                    iterate 5 ((refine txt_light ?_ rfl rfl ?_ ?_; rotate_left; · (intro w' hS; (try dsimp only at hS); go_simp; with_reducible rfl)); try simp only [Act.put, List.getElem_toArray, List.getElem_cons_succ, List.getElem_cons_zero, List.setIfInBounds_toArray, List.set_cons_zero, List.set_cons_succ])
                    refine txt_light (.slice np NL nc) rfl rfl ?_ ?_
                    · intro w' hS; have e0 := (hS.cell (p := ⟨b1, o1 + i * 6 + 1, none⟩) hbb).trans c1; clear hS; go_simp
                    try simp only [Act.put, List.getElem_toArray, List.getElem_cons_succ, List.getElem_cons_zero, List.setIfInBounds_toArray, List.set_cons_zero, List.set_cons_succ]
                    iterate 4 ((refine txt_light ?_ rfl rfl ?_ ?_; rotate_left; · (intro w' hS; (try dsimp only at hS); go_simp; with_reducible rfl)); try simp only [Act.put, List.getElem_toArray, List.getElem_cons_succ, List.getElem_cons_zero, List.setIfInBounds_toArray, List.set_cons_zero, List.set_cons_succ])
                    refine txt_light (.slice mp NL2 mc) rfl rfl ?_ ?_
                    · intro w' hS; have e0 := (hS.cell (p := ⟨b2, o2 + i * 6 + 1, none⟩) hbb2).trans d1; clear hS; go_simp
                    try simp only [Act.put, List.getElem_toArray, List.getElem_cons_succ, List.getElem_cons_zero, List.setIfInBounds_toArray, List.set_cons_zero, List.set_cons_succ]
                    have hb1 := hbl.drew; generalize wr.drew = W1 at *; refine txt_call [.slice np NL nc, .slice mp NL2 mc] Tryz.f23 rfl rfl Tryz.func23 (by kernel_rfl) (by kernel_rfl) rfl ((HI.out W1 hb1).mono ?_); rintro e wb ⟨rfl, hb4⟩; have hbc := hb1.trans (hb4.mono hb1.size); refine ⟨_, rfl, hbc, ?_⟩
                    try simp only [Act.put, List.getElem_toArray, List.getElem_cons_succ, List.getElem_cons_zero, List.setIfInBounds_toArray, List.set_cons_zero, List.set_cons_succ]
                    iterate 7 ((refine txt_light ?_ rfl rfl ?_ ?_; rotate_left; · (intro w' hS; (try dsimp only at hS); go_simp; with_reducible rfl)); try simp only [Act.put, List.getElem_toArray, List.getElem_cons_succ, List.getElem_cons_zero, List.setIfInBounds_toArray, List.set_cons_zero, List.set_cons_succ])
                    refine txt_light (.string key) rfl rfl ?_ ?_
                    · intro w' hS; have e0 := (hS.cell (p := ⟨b1, o1 + i * 6 + 2, none⟩) hbb).trans c2; clear hS; go_simp
                    try simp only [Act.put, List.getElem_toArray, List.getElem_cons_succ, List.getElem_cons_zero, List.setIfInBounds_toArray, List.set_cons_zero, List.set_cons_succ]
                    iterate 4 ((refine txt_light ?_ rfl rfl ?_ ?_; rotate_left; · (intro w' hS; (try dsimp only at hS); go_simp; with_reducible rfl)); try simp only [Act.put, List.getElem_toArray, List.getElem_cons_succ, List.getElem_cons_zero, List.setIfInBounds_toArray, List.set_cons_zero, List.set_cons_succ])
                    refine txt_light (.string key) rfl rfl ?_ ?_
                    · intro w' hS; have e0 := (hS.cell (p := ⟨b2, o2 + i * 6 + 2, none⟩) hbb2).trans d2; clear hS; go_simp
                    try simp only [Act.put, List.getElem_toArray, List.getElem_cons_succ, List.getElem_cons_zero, List.setIfInBounds_toArray, List.set_cons_zero, List.set_cons_succ]
                    refine txt_light (.bool false) rfl rfl ?_ ?_
                    · intro w' hS; clear hS; go_simp
                    try simp only [Act.put, List.getElem_toArray, List.getElem_cons_succ, List.getElem_cons_zero, List.setIfInBounds_toArray, List.set_cons_zero, List.set_cons_succ]
                    iterate 6 ((refine txt_light ?_ rfl rfl ?_ ?_; rotate_left; · (intro w' hS; (try dsimp only at hS); go_simp; with_reducible rfl)); try simp only [Act.put, List.getElem_toArray, List.getElem_cons_succ, List.getElem_cons_zero, List.setIfInBounds_toArray, List.set_cons_zero, List.set_cons_succ])
                    refine txt_light (.agg #[.int .i64 v1, .string v2, .int .i64 v3]) rfl rfl ?_ ?_
                    · intro w' hS; have e3 := (hS.cell (p := ⟨b1, o1 + i * 6 + 3, none⟩) hbb).trans c3; have e4 := (hS.cell (p := ⟨b1, o1 + i * 6 + 4, none⟩) hbb).trans c4; have e5 := (hS.cell (p := ⟨b1, o1 + i * 6 + 5, none⟩) hbb).trans c5; clear hS; go_simp
                    try simp only [Act.put, List.getElem_toArray, List.getElem_cons_succ, List.getElem_cons_zero, List.setIfInBounds_toArray, List.set_cons_zero, List.set_cons_succ]
                    iterate 4 ((refine txt_light ?_ rfl rfl ?_ ?_; rotate_left; · (intro w' hS; (try dsimp only at hS); go_simp; with_reducible rfl)); try simp only [Act.put, List.getElem_toArray, List.getElem_cons_succ, List.getElem_cons_zero, List.setIfInBounds_toArray, List.set_cons_zero, List.set_cons_succ])
                    refine txt_light (.agg #[.int .i64 v1, .string v2, .int .i64 v3']) rfl rfl ?_ ?_
                    · intro w' hS; have e3 := (hS.cell (p := ⟨b2, o2 + i * 6 + 3, none⟩) hbb2).trans d3; have e4 := (hS.cell (p := ⟨b2, o2 + i * 6 + 4, none⟩) hbb2).trans d4; have e5 := (hS.cell (p := ⟨b2, o2 + i * 6 + 5, none⟩) hbb2).trans d5; clear hS; go_simp
                    try simp only [Act.put, List.getElem_toArray, List.getElem_cons_succ, List.getElem_cons_zero, List.setIfInBounds_toArray, List.set_cons_zero, List.set_cons_succ]
                    refine txt_light (.bool true) rfl rfl ?_ ?_
                    · intro w' hS; clear hS; go_simp
                    try simp only [Act.put, List.getElem_toArray, List.getElem_cons_succ, List.getElem_cons_zero, List.setIfInBounds_toArray, List.set_cons_zero, List.set_cons_succ]
                    (refine txt_light ?_ rfl rfl ?_ ?_; rotate_left; · (intro w' hS; (try dsimp only at hS); go_simp; with_reducible rfl)); try simp only [Act.put, List.getElem_toArray, List.getElem_cons_succ, List.getElem_cons_zero, List.setIfInBounds_toArray, List.set_cons_zero, List.set_cons_succ]
                    refine txt_nil ?_; go_wp2; go_ret; exact ⟨rfl, hbc⟩
                · have hv2t : ¬ v2.toList = v2'.toList := fun h => hv2 ((ba_inj _ _).2 h); have hx : D = false := HDF.out (fun h => hv2 h.2.2.2.2.1); subst hx; clear HDF HGO; go_wp2; refine wp_region_lit_txt [0, 1, 2, 3, 4, 5, 6, 7, 8, 9, 10, 11, 12, 13, 14, 15, 16, 17, 18, 19, 20, 21, 23, 24, 25, 26, 27, 28, 29, 30, 31, 32, 33, 34, 35, 36, 37, 38, 39, 40, 41, 42, 43, 44, 45, 46, 47, 48, 49, 50] (fun W => Below w.heap.size w W) (by kernel_rfl) (by kernel_rfl) (by kernel_rfl) (hbl.drew) ?_
                  iterate 4 ((refine txt_light ?_ rfl rfl ?_ ?_; rotate_left; · (intro w' hS; (try dsimp only at hS); go_simp; with_reducible rfl)); try simp only [Act.put, List.getElem_toArray, List.getElem_cons_succ, List.getElem_cons_zero, List.setIfInBounds_toArray, List.set_cons_zero, List.set_cons_succ])
                  refine txt_light (.int .i64 kd) rfl rfl ?_ ?_
                  · intro w' hS; have e0 := (hS.cell (p := ⟨b1, o1 + i * 6, none⟩) hbb).trans c0; clear hS; go_simp
                  try simp only [Act.put, List.getElem_toArray, List.getElem_cons_succ, List.getElem_cons_zero, List.setIfInBounds_toArray, List.set_cons_zero, List.set_cons_succ]
                  iterate 4 ((refine txt_light ?_ rfl rfl ?_ ?_; rotate_left; · (intro w' hS; (try dsimp only at hS); go_simp; with_reducible rfl)); try simp only [Act.put, List.getElem_toArray, List.getElem_cons_succ, List.getElem_cons_zero, List.setIfInBounds_toArray, List.set_cons_zero, List.set_cons_succ])
                  refine txt_light (.int .i64 kd) rfl rfl ?_ ?_
                  · intro w' hS; have e0 := (hS.cell (p := ⟨b2, o2 + i * 6, none⟩) hbb2).trans d0; clear hS; go_simp
                  try simp only [Act.put, List.getElem_toArray, List.getElem_cons_succ, List.getElem_cons_zero, List.setIfInBounds_toArray, List.set_cons_zero, List.set_cons_succ]
                  refine txt_light (.bool false) rfl rfl ?_ ?_
                  · intro w' hS; clear hS; go_simp
                  try simp only [Act.put, List.getElem_toArray, List.getElem_cons_succ, List.getElem_cons_zero, List.setIfInBounds_toArray, List.set_cons_zero, List.set_cons_succ]
                  iterate 5 ((refine txt_light ?_ rfl rfl ?_ ?_; rotate_left; · (intro w' hS; (try dsimp only at hS); go_simp; with_reducible rfl)); try simp only [Act.put, List.getElem_toArray, List.getElem_cons_succ, List.getElem_cons_zero, List.setIfInBounds_toArray, List.set_cons_zero, List.set_cons_succ])
                  refine txt_light (.slice np NL nc) rfl rfl ?_ ?_
                  · intro w' hS; have e0 := (hS.cell (p := ⟨b1, o1 + i * 6 + 1, none⟩) hbb).trans c1; clear hS; go_simp
                  try simp only [Act.put, List.getElem_toArray, List.getElem_cons_succ, List.getElem_cons_zero, List.setIfInBounds_toArray, List.set_cons_zero, List.set_cons_succ]
                  iterate 4 ((refine txt_light ?_ rfl rfl ?_ ?_; rotate_left; · (intro w' hS; (try dsimp only at hS); go_simp; with_reducible rfl)); try simp only [Act.put, List.getElem_toArray, List.getElem_cons_succ, List.getElem_cons_zero, List.setIfInBounds_toArray, List.set_cons_zero, List.set_cons_succ])
                  refine txt_light (.slice mp NL2 mc) rfl rfl ?_ ?_
                  · intro w' hS; have e0 := (hS.cell (p := ⟨b2, o2 + i * 6 + 1, none⟩) hbb2).trans d1; clear hS; go_simp
                  try simp only [Act.put, List.getElem_toArray, List.getElem_cons_succ, List.getElem_cons_zero, List.setIfInBounds_toArray, List.set_cons_zero, List.set_cons_succ]
                  have hb1 := hbl.drew; generalize wr.drew = W1 at *; refine txt_call [.slice np NL nc, .slice mp NL2 mc] Tryz.f23 rfl rfl Tryz.func23 (by kernel_rfl) (by kernel_rfl) rfl ((HI.out W1 hb1).mono ?_); rintro e wb ⟨rfl, hb4⟩; have hbc := hb1.trans (hb4.mono hb1.size); refine ⟨_, rfl, hbc, ?_⟩
                  try simp only [Act.put, List.getElem_toArray, List.getElem_cons_succ, List.getElem_cons_zero, List.setIfInBounds_toArray, List.set_cons_zero, List.set_cons_succ]
                  iterate 7 ((refine txt_light ?_ rfl rfl ?_ ?_; rotate_left; · (intro w' hS; (try dsimp only at hS); go_simp; with_reducible rfl)); try simp only [Act.put, List.getElem_toArray, List.getElem_cons_succ, List.getElem_cons_zero, List.setIfInBounds_toArray, List.set_cons_zero, List.set_cons_succ])
                  refine txt_light (.string key) rfl rfl ?_ ?_
                  · intro w' hS; have e0 := (hS.cell (p := ⟨b1, o1 + i * 6 + 2, none⟩) hbb).trans c2; clear hS; go_simp
                  try simp only [Act.put, List.getElem_toArray, List.getElem_cons_succ, List.getElem_cons_zero, List.setIfInBounds_toArray, List.set_cons_zero, List.set_cons_succ]
                  iterate 4 ((refine txt_light ?_ rfl rfl ?_ ?_; rotate_left; · (intro w' hS; (try dsimp only at hS); go_simp; with_reducible rfl)); try simp only [Act.put, List.getElem_toArray, List.getElem_cons_succ, List.getElem_cons_zero, List.setIfInBounds_toArray, List.set_cons_zero, List.set_cons_succ])
                  refine txt_light (.string key) rfl rfl ?_ ?_
                  · intro w' hS; have e0 := (hS.cell (p := ⟨b2, o2 + i * 6 + 2, none⟩) hbb2).trans d2; clear hS; go_simp
                  try simp only [Act.put, List.getElem_toArray, List.getElem_cons_succ, List.getElem_cons_zero, List.setIfInBounds_toArray, List.set_cons_zero, List.set_cons_succ]
                  refine txt_light (.bool false) rfl rfl ?_ ?_
                  · intro w' hS; clear hS; go_simp
                  try simp only [Act.put, List.getElem_toArray, List.getElem_cons_succ, List.getElem_cons_zero, List.setIfInBounds_toArray, List.set_cons_zero, List.set_cons_succ]
                  iterate 6 ((refine txt_light ?_ rfl rfl ?_ ?_; rotate_left; · (intro w' hS; (try dsimp only at hS); go_simp; with_reducible rfl)); try simp only [Act.put, List.getElem_toArray, List.getElem_cons_succ, List.getElem_cons_zero, List.setIfInBounds_toArray, List.set_cons_zero, List.set_cons_succ])
                  refine txt_light (.agg #[.int .i64 v1, .string v2, .int .i64 v3]) rfl rfl ?_ ?_
                  · intro w' hS; have e3 := (hS.cell (p := ⟨b1, o1 + i * 6 + 3, none⟩) hbb).trans c3; have e4 := (hS.cell (p := ⟨b1, o1 + i * 6 + 4, none⟩) hbb).trans c4; have e5 := (hS.cell (p := ⟨b1, o1 + i * 6 + 5, none⟩) hbb).trans c5; clear hS; go_simp
                  try simp only [Act.put, List.getElem_toArray, List.getElem_cons_succ, List.getElem_cons_zero, List.setIfInBounds_toArray, List.set_cons_zero, List.set_cons_succ]
                  iterate 4 ((refine txt_light ?_ rfl rfl ?_ ?_; rotate_left; · (intro w' hS; (try dsimp only at hS); go_simp; with_reducible rfl)); try simp only [Act.put, List.getElem_toArray, List.getElem_cons_succ, List.getElem_cons_zero, List.setIfInBounds_toArray, List.set_cons_zero, List.set_cons_succ])
                  refine txt_light (.agg #[.int .i64 v1, .string v2', .int .i64 v3']) rfl rfl ?_ ?_
                  · intro w' hS; have e3 := (hS.cell (p := ⟨b2, o2 + i * 6 + 3, none⟩) hbb2).trans d3; have e4 := (hS.cell (p := ⟨b2, o2 + i * 6 + 4, none⟩) hbb2).trans d4; have e5 := (hS.cell (p := ⟨b2, o2 + i * 6 + 5, none⟩) hbb2).trans d5; clear hS; go_simp
                  try simp only [Act.put, List.getElem_toArray, List.getElem_cons_succ, List.getElem_cons_zero, List.setIfInBounds_toArray, List.set_cons_zero, List.set_cons_succ]
                  refine txt_light (.bool true) rfl rfl ?_ ?_
                  · intro w' hS; clear hS; go_simp
                  try simp only [Act.put, List.getElem_toArray, List.getElem_cons_succ, List.getElem_cons_zero, List.setIfInBounds_toArray, List.set_cons_zero, List.set_cons_succ]
                  (refine txt_light ?_ rfl rfl ?_ ?_; rotate_left; · (intro w' hS; (try dsimp only at hS); go_simp; with_reducible rfl)); try simp only [Act.put, List.getElem_toArray, List.getElem_cons_succ, List.getElem_cons_zero, List.setIfInBounds_toArray, List.set_cons_zero, List.set_cons_succ]
                  refine txt_nil ?_; go_wp2; go_ret; exact ⟨rfl, hbc⟩
              · have hx : D = false := HDF.out (fun h => hv1 h.2.2.2.1); subst hx; clear HDF HGO; go_wp2; refine wp_region_lit_txt [0, 1, 2, 3, 4, 5, 6, 7, 8, 9, 10, 11, 12, 13, 14, 15, 16, 17, 18, 19, 20, 21, 23, 24, 25, 26, 27, 28, 29, 30, 31, 32, 33, 34, 35, 36, 37, 38, 39, 40, 41, 42, 43, 44, 45, 46, 47, 48, 49, 50] (fun W => Below w.heap.size w W) (by kernel_rfl) (by kernel_rfl) (by kernel_rfl) (hbl.drew) ?_
                iterate 4 ((refine txt_light ?_ rfl rfl ?_ ?_; rotate_left; · (intro w' hS; (try dsimp only at hS); go_simp; with_reducible rfl)); try simp only [Act.put, List.getElem_toArray, List.getElem_cons_succ, List.getElem_cons_zero, List.setIfInBounds_toArray, List.set_cons_zero, List.set_cons_succ])
                refine txt_light (.int .i64 kd) rfl rfl ?_ ?_
                · intro w' hS; have e0 := (hS.cell (p := ⟨b1, o1 + i * 6, none⟩) hbb).trans c0; clear hS; go_simp
                try simp only [Act.put, List.getElem_toArray, List.getElem_cons_succ, List.getElem_cons_zero, List.setIfInBounds_toArray, List.set_cons_zero, List.set_cons_succ]
                iterate 4 ((refine txt_light ?_ rfl rfl ?_ ?_; rotate_left; · (intro w' hS; (try dsimp only at hS); go_simp; with_reducible rfl)); try simp only [Act.put, List.getElem_toArray, List.getElem_cons_succ, List.getElem_cons_zero, List.setIfInBounds_toArray, List.set_cons_zero, List.set_cons_succ])
                refine txt_light (.int .i64 kd) rfl rfl ?_ ?_
                · intro w' hS; have e0 := (hS.cell (p := ⟨b2, o2 + i * 6, none⟩) hbb2).trans d0; clear hS; go_simp
                try simp only [Act.put, List.getElem_toArray, List.getElem_cons_succ, List.getElem_cons_zero, List.setIfInBounds_toArray, List.set_cons_zero, List.set_cons_succ]
                refine txt_light (.bool false) rfl rfl ?_ ?_
                · intro w' hS; clear hS; go_simp
                try simp only [Act.put, List.getElem_toArray, List.getElem_cons_succ, List.getElem_cons_zero, List.setIfInBounds_toArray, List.set_cons_zero, List.set_cons_succ]
                iterate 5 ((refine txt_light ?_ rfl rfl ?_ ?_; rotate_left; · (intro w' hS; (try dsimp only at hS); go_simp; with_reducible rfl)); try simp only [Act.put, List.getElem_toArray, List.getElem_cons_succ, List.getElem_cons_zero, List.setIfInBounds_toArray, List.set_cons_zero, List.set_cons_succ])
                refine txt_light (.slice np NL nc) rfl rfl ?_ ?_
                · intro w' hS; have e0 := (hS.cell (p := ⟨b1, o1 + i * 6 + 1, none⟩) hbb).trans c1; clear hS; go_simp
                try simp only [Act.put, List.getElem_toArray, List.getElem_cons_succ, List.getElem_cons_zero, List.setIfInBounds_toArray, List.set_cons_zero, List.set_cons_succ]
                iterate 4 ((refine txt_light ?_ rfl rfl ?_ ?_; rotate_left; · (intro w' hS; (try dsimp only at hS); go_simp; with_reducible rfl)); try simp only [Act.put, List.getElem_toArray, List.getElem_cons_succ, List.getElem_cons_zero, List.setIfInBounds_toArray, List.set_cons_zero, List.set_cons_succ])
                refine txt_light (.slice mp NL2 mc) rfl rfl ?_ ?_
                · intro w' hS; have e0 := (hS.cell (p := ⟨b2, o2 + i * 6 + 1, none⟩) hbb2).trans d1; clear hS; go_simp
                try simp only [Act.put, List.getElem_toArray, List.getElem_cons_succ, List.getElem_cons_zero, List.setIfInBounds_toArray, List.set_cons_zero, List.set_cons_succ]
                have hb1 := hbl.drew; generalize wr.drew = W1 at *; refine txt_call [.slice np NL nc, .slice mp NL2 mc] Tryz.f23 rfl rfl Tryz.func23 (by kernel_rfl) (by kernel_rfl) rfl ((HI.out W1 hb1).mono ?_); rintro e wb ⟨rfl, hb4⟩; have hbc := hb1.trans (hb4.mono hb1.size); refine ⟨_, rfl, hbc, ?_⟩
                try simp only [Act.put, List.getElem_toArray, List.getElem_cons_succ, List.getElem_cons_zero, List.setIfInBounds_toArray, List.set_cons_zero, List.set_cons_succ]
                iterate 7 ((refine txt_light ?_ rfl rfl ?_ ?_; rotate_left; · (intro w' hS; (try dsimp only at hS); go_simp; with_reducible rfl)); try simp only [Act.put, List.getElem_toArray, List.getElem_cons_succ, List.getElem_cons_zero, List.setIfInBounds_toArray, List.set_cons_zero, List.set_cons_succ])
                refine txt_light (.string key) rfl rfl ?_ ?_
                · intro w' hS; have e0 := (hS.cell (p := ⟨b1, o1 + i * 6 + 2, none⟩) hbb).trans c2; clear hS; go_simp
                try simp only [Act.put, List.getElem_toArray, List.getElem_cons_succ, List.getElem_cons_zero, List.setIfInBounds_toArray, List.set_cons_zero, List.set_cons_succ]
                iterate 4 ((refine txt_light ?_ rfl rfl ?_ ?_; rotate_left; · (intro w' hS; (try dsimp only at hS); go_simp; with_reducible rfl)); try simp only [Act.put, List.getElem_toArray, List.getElem_cons_succ, List.getElem_cons_zero, List.setIfInBounds_toArray, List.set_cons_zero, List.set_cons_succ])
                refine txt_light (.string key) rfl rfl ?_ ?_
                · intro w' hS; have e0 := (hS.cell (p := ⟨b2, o2 + i * 6 + 2, none⟩) hbb2).trans d2; clear hS; go_simp
                try simp only [Act.put, List.getElem_toArray, List.getElem_cons_succ, List.getElem_cons_zero, List.setIfInBounds_toArray, List.set_cons_zero, List.set_cons_succ]
                refine txt_light (.bool false) rfl rfl ?_ ?_
                · intro w' hS; clear hS; go_simp
                try simp only [Act.put, List.getElem_toArray, List.getElem_cons_succ, List.getElem_cons_zero, List.setIfInBounds_toArray, List.set_cons_zero, List.set_cons_succ]
                iterate 6 ((refine txt_light ?_ rfl rfl ?_ ?_; rotate_left; · (intro w' hS; (try dsimp only at hS); go_simp; with_reducible rfl)); try simp only [Act.put, List.getElem_toArray, List.getElem_cons_succ, List.getElem_cons_zero, List.setIfInBounds_toArray, List.set_cons_zero, List.set_cons_succ])
                refine txt_light (.agg #[.int .i64 v1, .string v2, .int .i64 v3]) rfl rfl ?_ ?_
                · intro w' hS; have e3 := (hS.cell (p := ⟨b1, o1 + i * 6 + 3, none⟩) hbb).trans c3; have e4 := (hS.cell (p := ⟨b1, o1 + i * 6 + 4, none⟩) hbb).trans c4; have e5 := (hS.cell (p := ⟨b1, o1 + i * 6 + 5, none⟩) hbb).trans c5; clear hS; go_simp
                try simp only [Act.put, List.getElem_toArray, List.getElem_cons_succ, List.getElem_cons_zero, List.setIfInBounds_toArray, List.set_cons_zero, List.set_cons_succ]
                iterate 4 ((refine txt_light ?_ rfl rfl ?_ ?_; rotate_left; · (intro w' hS; (try dsimp only at hS); go_simp; with_reducible rfl)); try simp only [Act.put, List.getElem_toArray, List.getElem_cons_succ, List.getElem_cons_zero, List.setIfInBounds_toArray, List.set_cons_zero, List.set_cons_succ])
                refine txt_light (.agg #[.int .i64 v1', .string v2', .int .i64 v3']) rfl rfl ?_ ?_
                · intro w' hS; have e3 := (hS.cell (p := ⟨b2, o2 + i * 6 + 3, none⟩) hbb2).trans d3; have e4 := (hS.cell (p := ⟨b2, o2 + i * 6 + 4, none⟩) hbb2).trans d4; have e5 := (hS.cell (p := ⟨b2, o2 + i * 6 + 5, none⟩) hbb2).trans d5; clear hS; go_simp
                try simp only [Act.put, List.getElem_toArray, List.getElem_cons_succ, List.getElem_cons_zero, List.setIfInBounds_toArray, List.set_cons_zero, List.set_cons_succ]
                refine txt_light (.bool true) rfl rfl ?_ ?_
                · intro w' hS; clear hS; go_simp
                try simp only [Act.put, List.getElem_toArray, List.getElem_cons_succ, List.getElem_cons_zero, List.setIfInBounds_toArray, List.set_cons_zero, List.set_cons_succ]
                (refine txt_light ?_ rfl rfl ?_ ?_; rotate_left; · (intro w' hS; (try dsimp only at hS); go_simp; with_reducible rfl)); try simp only [Act.put, List.getElem_toArray, List.getElem_cons_succ, List.getElem_cons_zero, List.setIfInBounds_toArray, List.set_cons_zero, List.set_cons_succ]
                refine txt_nil ?_; go_wp2; go_ret; exact ⟨rfl, hbc⟩
            · have hkyt : ¬ key.toList = key'.toList := fun h => hky ((ba_inj _ _).2 h); have hx : D = false := HDF.out (fun h => hky h.2.2.1); subst hx; clear HDF HGO; go_wp2; refine wp_region_lit_txt [0, 1, 2, 3, 4, 5, 6, 7, 8, 9, 10, 11, 12, 13, 14, 15, 16, 17, 18, 19, 20, 21, 23, 24, 25, 26, 27, 28, 29, 30, 31, 32, 33, 34, 35, 36, 37, 38, 39, 40, 41, 42, 43, 44, 45, 46, 47, 48, 49, 50] (fun W => Below w.heap.size w W) (by kernel_rfl) (by kernel_rfl) (by kernel_rfl) (hbl.drew) ?_
              iterate 4 ((refine txt_light ?_ rfl rfl ?_ ?_; rotate_left; · (intro w' hS; (try dsimp only at hS); go_simp; with_reducible rfl)); try simp only [Act.put, List.getElem_toArray, List.getElem_cons_succ, List.getElem_cons_zero, List.setIfInBounds_toArray, List.set_cons_zero, List.set_cons_succ])
              refine txt_light (.int .i64 kd) rfl rfl ?_ ?_
              · intro w' hS; have e0 := (hS.cell (p := ⟨b1, o1 + i * 6, none⟩) hbb).trans c0; clear hS; go_simp
              try simp only [Act.put, List.getElem_toArray, List.getElem_cons_succ, List.getElem_cons_zero, List.setIfInBounds_toArray, List.set_cons_zero, List.set_cons_succ]
              iterate 4 ((refine txt_light ?_ rfl rfl ?_ ?_; rotate_left; · (intro w' hS; (try dsimp only at hS); go_simp; with_reducible rfl)); try simp only [Act.put, List.getElem_toArray, List.getElem_cons_succ, List.getElem_cons_zero, List.setIfInBounds_toArray, List.set_cons_zero, List.set_cons_succ])
              refine txt_light (.int .i64 kd) rfl rfl ?_ ?_
              · intro w' hS; have e0 := (hS.cell (p := ⟨b2, o2 + i * 6, none⟩) hbb2).trans d0; clear hS; go_simp
              try simp only [Act.put, List.getElem_toArray, List.getElem_cons_succ, List.getElem_cons_zero, List.setIfInBounds_toArray, List.set_cons_zero, List.set_cons_succ]
              refine txt_light (.bool false) rfl rfl ?_ ?_
              · intro w' hS; clear hS; go_simp
              try simp only [Act.put, List.getElem_toArray, List.getElem_cons_succ, List.getElem_cons_zero, List.setIfInBounds_toArray, List.set_cons_zero, List.set_cons_succ]
              iterate 5 ((refine txt_light ?_ rfl rfl ?_ ?_; rotate_left; · (intro w' hS; (try dsimp only at hS); go_simp; with_reducible rfl)); try simp only [Act.put, List.getElem_toArray, List.getElem_cons_succ, List.getElem_cons_zero, List.setIfInBounds_toArray, List.set_cons_zero, List.set_cons_succ])
              refine txt_light (.slice np NL nc) rfl rfl ?_ ?_
              · intro w' hS; have e0 := (hS.cell (p := ⟨b1, o1 + i * 6 + 1, none⟩) hbb).trans c1; clear hS; go_simp
              try simp only [Act.put, List.getElem_toArray, List.getElem_cons_succ, List.getElem_cons_zero, List.setIfInBounds_toArray, List.set_cons_zero, List.set_cons_succ]
              iterate 4 ((refine txt_light ?_ rfl rfl ?_ ?_; rotate_left; · (intro w' hS; (try dsimp only at hS); go_simp; with_reducible rfl)); try simp only [Act.put, List.getElem_toArray, List.getElem_cons_succ, List.getElem_cons_zero, List.setIfInBounds_toArray, List.set_cons_zero, List.set_cons_succ])
              refine txt_light (.slice mp NL2 mc) rfl rfl ?_ ?_
              · intro w' hS; have e0 := (hS.cell (p := ⟨b2, o2 + i * 6 + 1, none⟩) hbb2).trans d1; clear hS; go_simp
              try simp only [Act.put, List.getElem_toArray, List.getElem_cons_succ, List.getElem_cons_zero, List.setIfInBounds_toArray, List.set_cons_zero, List.set_cons_succ]
              have hb1 := hbl.drew; generalize wr.drew = W1 at *; refine txt_call [.slice np NL nc, .slice mp NL2 mc] Tryz.f23 rfl rfl Tryz.func23 (by kernel_rfl) (by kernel_rfl) rfl ((HI.out W1 hb1).mono ?_); rintro e wb ⟨rfl, hb4⟩; have hbc := hb1.trans (hb4.mono hb1.size); refine ⟨_, rfl, hbc, ?_⟩
              try simp only [Act.put, List.getElem_toArray, List.getElem_cons_succ, List.getElem_cons_zero, List.setIfInBounds_toArray, List.set_cons_zero, List.set_cons_succ]
              iterate 7 ((refine txt_light ?_ rfl rfl ?_ ?_; rotate_left; · (intro w' hS; (try dsimp only at hS); go_simp; with_reducible rfl)); try simp only [Act.put, List.getElem_toArray, List.getElem_cons_succ, List.getElem_cons_zero, List.setIfInBounds_toArray, List.set_cons_zero, List.set_cons_succ])
              refine txt_light (.string key) rfl rfl ?_ ?_
              · intro w' hS; have e0 := (hS.cell (p := ⟨b1, o1 + i * 6 + 2, none⟩) hbb).trans c2; clear hS; go_simp
              try simp only [Act.put, List.getElem_toArray, List.getElem_cons_succ, List.getElem_cons_zero, List.setIfInBounds_toArray, List.set_cons_zero, List.set_cons_succ]
              iterate 4 ((refine txt_light ?_ rfl rfl ?_ ?_; rotate_left; · (intro w' hS; (try dsimp only at hS); go_simp; with_reducible rfl)); try simp only [Act.put, List.getElem_toArray, List.getElem_cons_succ, List.getElem_cons_zero, List.setIfInBounds_toArray, List.set_cons_zero, List.set_cons_succ])
              refine txt_light (.string key') rfl rfl ?_ ?_
              · intro w' hS; have e0 := (hS.cell (p := ⟨b2, o2 + i * 6 + 2, none⟩) hbb2).trans d2; clear hS; go_simp
              try simp only [Act.put, List.getElem_toArray, List.getElem_cons_succ, List.getElem_cons_zero, List.setIfInBounds_toArray, List.set_cons_zero, List.set_cons_succ]
              refine txt_light (.bool true) rfl rfl ?_ ?_
              · intro w' hS; clear hS; go_simp
              try simp only [Act.put, List.getElem_toArray, List.getElem_cons_succ, List.getElem_cons_zero, List.setIfInBounds_toArray, List.set_cons_zero, List.set_cons_succ]
              iterate 2 ((refine txt_light ?_ rfl rfl ?_ ?_; rotate_left; · (intro w' hS; (try dsimp only at hS); go_simp; with_reducible rfl)); try simp only [Act.put, List.getElem_toArray, List.getElem_cons_succ, List.getElem_cons_zero, List.setIfInBounds_toArray, List.set_cons_zero, List.set_cons_succ])
              refine txt_skip rfl ?_
              try simp only [Act.put, List.getElem_toArray, List.getElem_cons_succ, List.getElem_cons_zero, List.setIfInBounds_toArray, List.set_cons_zero, List.set_cons_succ]
              refine txt_skip rfl ?_
              try simp only [Act.put, List.getElem_toArray, List.getElem_cons_succ, List.getElem_cons_zero, List.setIfInBounds_toArray, List.set_cons_zero, List.set_cons_succ]
              refine txt_skip rfl ?_
              try simp only [Act.put, List.getElem_toArray, List.getElem_cons_succ, List.getElem_cons_zero, List.setIfInBounds_toArray, List.set_cons_zero, List.set_cons_succ]
              refine txt_skip rfl ?_
              try simp only [Act.put, List.getElem_toArray, List.getElem_cons_succ, List.getElem_cons_zero, List.setIfInBounds_toArray, List.set_cons_zero, List.set_cons_succ]
              refine txt_skip rfl ?_
              try simp only [Act.put, List.getElem_toArray, List.getElem_cons_succ, List.getElem_cons_zero, List.setIfInBounds_toArray, List.set_cons_zero, List.set_cons_succ]
              refine txt_skip rfl ?_
              try simp only [Act.put, List.getElem_toArray, List.getElem_cons_succ, List.getElem_cons_zero, List.setIfInBounds_toArray, List.set_cons_zero, List.set_cons_succ]
              refine txt_skip rfl ?_
              try simp only [Act.put, List.getElem_toArray, List.getElem_cons_succ, List.getElem_cons_zero, List.setIfInBounds_toArray, List.set_cons_zero, List.set_cons_succ]
              refine txt_skip rfl ?_
              try simp only [Act.put, List.getElem_toArray, List.getElem_cons_succ, List.getElem_cons_zero, List.setIfInBounds_toArray, List.set_cons_zero, List.set_cons_succ]
              refine txt_skip rfl ?_
              try simp only [Act.put, List.getElem_toArray, List.getElem_cons_succ, List.getElem_cons_zero, List.setIfInBounds_toArray, List.set_cons_zero, List.set_cons_succ]
              refine txt_skip rfl ?_
              try simp only [Act.put, List.getElem_toArray, List.getElem_cons_succ, List.getElem_cons_zero, List.setIfInBounds_toArray, List.set_cons_zero, List.set_cons_succ]
              refine txt_skip rfl ?_
              try simp only [Act.put, List.getElem_toArray, List.getElem_cons_succ, List.getElem_cons_zero, List.setIfInBounds_toArray, List.set_cons_zero, List.set_cons_succ]
              (refine txt_light ?_ rfl rfl ?_ ?_; rotate_left; · (intro w' hS; (try dsimp only at hS); go_simp; with_reducible rfl)); try simp only [Act.put, List.getElem_toArray, List.getElem_cons_succ, List.getElem_cons_zero, List.setIfInBounds_toArray, List.set_cons_zero, List.set_cons_succ]
              refine txt_nil ?_; go_wp2; go_ret; exact ⟨rfl, hbc⟩
        · have hx : D = false := HDF.out (fun h => hk h.1); subst hx; clear HDF HGO; go_wp2; refine wp_region_lit_txt [0, 1, 2, 3, 4, 5, 6, 7, 8, 9, 10, 11, 12, 13, 14, 15, 16, 17, 18, 19, 20, 21, 23, 24, 25, 26, 27, 28, 29, 30, 31, 32, 33, 34, 35, 36, 37, 38, 39, 40, 41, 42, 43, 44, 45, 46, 47, 48, 49, 50] (fun W => Below w.heap.size w W) (by kernel_rfl) (by kernel_rfl) (by kernel_rfl) (hbl.drew) ?_
          iterate 4 ((refine txt_light ?_ rfl rfl ?_ ?_; rotate_left; · (intro w' hS; (try dsimp only at hS); go_simp; with_reducible rfl)); try simp only [Act.put, List.getElem_toArray, List.getElem_cons_succ, List.getElem_cons_zero, List.setIfInBounds_toArray, List.set_cons_zero, List.set_cons_succ])
          refine txt_light (.int .i64 kd) rfl rfl ?_ ?_
          · intro w' hS; have e0 := (hS.cell (p := ⟨b1, o1 + i * 6, none⟩) hbb).trans c0; clear hS; go_simp
          try simp only [Act.put, List.getElem_toArray, List.getElem_cons_succ, List.getElem_cons_zero, List.setIfInBounds_toArray, List.set_cons_zero, List.set_cons_succ]
          iterate 4 ((refine txt_light ?_ rfl rfl ?_ ?_; rotate_left; · (intro w' hS; (try dsimp only at hS); go_simp; with_reducible rfl)); try simp only [Act.put, List.getElem_toArray, List.getElem_cons_succ, List.getElem_cons_zero, List.setIfInBounds_toArray, List.set_cons_zero, List.set_cons_succ])
          refine txt_light (.int .i64 kd') rfl rfl ?_ ?_
          · intro w' hS; have e0 := (hS.cell (p := ⟨b2, o2 + i * 6, none⟩) hbb2).trans d0; clear hS; go_simp
          try simp only [Act.put, List.getElem_toArray, List.getElem_cons_succ, List.getElem_cons_zero, List.setIfInBounds_toArray, List.set_cons_zero, List.set_cons_succ]
          refine txt_light (.bool true) rfl rfl ?_ ?_
          · intro w' hS; clear hS; go_simp
          try simp only [Act.put, List.getElem_toArray, List.getElem_cons_succ, List.getElem_cons_zero, List.setIfInBounds_toArray, List.set_cons_zero, List.set_cons_succ]
          (refine txt_light ?_ rfl rfl ?_ ?_; rotate_left; · (intro w' hS; (try dsimp only at hS); go_simp; with_reducible rfl)); try simp only [Act.put, List.getElem_toArray, List.getElem_cons_succ, List.getElem_cons_zero, List.setIfInBounds_toArray, List.set_cons_zero, List.set_cons_succ]
          refine txt_skip rfl ?_
          try simp only [Act.put, List.getElem_toArray, List.getElem_cons_succ, List.getElem_cons_zero, List.setIfInBounds_toArray, List.set_cons_zero, List.set_cons_succ]
          refine txt_skip rfl ?_
          try simp only [Act.put, List.getElem_toArray, List.getElem_cons_succ, List.getElem_cons_zero, List.setIfInBounds_toArray, List.set_cons_zero, List.set_cons_succ]
          refine txt_skip rfl ?_
          try simp only [Act.put, List.getElem_toArray, List.getElem_cons_succ, List.getElem_cons_zero, List.setIfInBounds_toArray, List.set_cons_zero, List.set_cons_succ]
          refine txt_skip rfl ?_
          try simp only [Act.put, List.getElem_toArray, List.getElem_cons_succ, List.getElem_cons_zero, List.setIfInBounds_toArray, List.set_cons_zero, List.set_cons_succ]
          refine txt_skip rfl ?_
          try simp only [Act.put, List.getElem_toArray, List.getElem_cons_succ, List.getElem_cons_zero, List.setIfInBounds_toArray, List.set_cons_zero, List.set_cons_succ]
          refine txt_skip rfl ?_
          try simp only [Act.put, List.getElem_toArray, List.getElem_cons_succ, List.getElem_cons_zero, List.setIfInBounds_toArray, List.set_cons_zero, List.set_cons_succ]
          refine txt_skip rfl ?_
          try simp only [Act.put, List.getElem_toArray, List.getElem_cons_succ, List.getElem_cons_zero, List.setIfInBounds_toArray, List.set_cons_zero, List.set_cons_succ]
          refine txt_skip rfl ?_
          try simp only [Act.put, List.getElem_toArray, List.getElem_cons_succ, List.getElem_cons_zero, List.setIfInBounds_toArray, List.set_cons_zero, List.set_cons_succ]
          refine txt_skip rfl ?_
          try simp only [Act.put, List.getElem_toArray, List.getElem_cons_succ, List.getElem_cons_zero, List.setIfInBounds_toArray, List.set_cons_zero, List.set_cons_succ]
          refine txt_skip rfl ?_
          try simp only [Act.put, List.getElem_toArray, List.getElem_cons_succ, List.getElem_cons_zero, List.setIfInBounds_toArray, List.set_cons_zero, List.set_cons_succ]
          refine txt_skip rfl ?_
          try simp only [Act.put, List.getElem_toArray, List.getElem_cons_succ, List.getElem_cons_zero, List.setIfInBounds_toArray, List.set_cons_zero, List.set_cons_succ]
          refine txt_skip rfl ?_
          try simp only [Act.put, List.getElem_toArray, List.getElem_cons_succ, List.getElem_cons_zero, List.setIfInBounds_toArray, List.set_cons_zero, List.set_cons_succ]
          iterate 2 ((refine txt_light ?_ rfl rfl ?_ ?_; rotate_left; · (intro w' hS; (try dsimp only at hS); go_simp; with_reducible rfl)); try simp only [Act.put, List.getElem_toArray, List.getElem_cons_succ, List.getElem_cons_zero, List.setIfInBounds_toArray, List.set_cons_zero, List.set_cons_succ])
          refine txt_skip rfl ?_
          try simp only [Act.put, List.getElem_toArray, List.getElem_cons_succ, List.getElem_cons_zero, List.setIfInBounds_toArray, List.set_cons_zero, List.set_cons_succ]
          refine txt_skip rfl ?_
          try simp only [Act.put, List.getElem_toArray, List.getElem_cons_succ, List.getElem_cons_zero, List.setIfInBounds_toArray, List.set_cons_zero, List.set_cons_succ]
          refine txt_skip rfl ?_
          try simp only [Act.put, List.getElem_toArray, List.getElem_cons_succ, List.getElem_cons_zero, List.setIfInBounds_toArray, List.set_cons_zero, List.set_cons_succ]
          refine txt_skip rfl ?_
          try simp only [Act.put, List.getElem_toArray, List.getElem_cons_succ, List.getElem_cons_zero, List.setIfInBounds_toArray, List.set_cons_zero, List.set_cons_succ]
          refine txt_skip rfl ?_
          try simp only [Act.put, List.getElem_toArray, List.getElem_cons_succ, List.getElem_cons_zero, List.setIfInBounds_toArray, List.set_cons_zero, List.set_cons_succ]
          refine txt_skip rfl ?_
          try simp only [Act.put, List.getElem_toArray, List.getElem_cons_succ, List.getElem_cons_zero, List.setIfInBounds_toArray, List.set_cons_zero, List.set_cons_succ]
          refine txt_skip rfl ?_
          try simp only [Act.put, List.getElem_toArray, List.getElem_cons_succ, List.getElem_cons_zero, List.setIfInBounds_toArray, List.set_cons_zero, List.set_cons_succ]
          refine txt_skip rfl ?_
          try simp only [Act.put, List.getElem_toArray, List.getElem_cons_succ, List.getElem_cons_zero, List.setIfInBounds_toArray, List.set_cons_zero, List.set_cons_succ]
          refine txt_skip rfl ?_
          try simp only [Act.put, List.getElem_toArray, List.getElem_cons_succ, List.getElem_cons_zero, List.setIfInBounds_toArray, List.set_cons_zero, List.set_cons_succ]
          refine txt_skip rfl ?_
          try simp only [Act.put, List.getElem_toArray, List.getElem_cons_succ, List.getElem_cons_zero, List.setIfInBounds_toArray, List.set_cons_zero, List.set_cons_succ]
          refine txt_skip rfl ?_
          try simp only [Act.put, List.getElem_toArray, List.getElem_cons_succ, List.getElem_cons_zero, List.setIfInBounds_toArray, List.set_cons_zero, List.set_cons_succ]
          iterate 2 ((refine txt_light ?_ rfl rfl ?_ ?_; rotate_left; · (intro w' hS; (try dsimp only at hS); go_simp; with_reducible rfl)); try simp only [Act.put, List.getElem_toArray, List.getElem_cons_succ, List.getElem_cons_zero, List.setIfInBounds_toArray, List.set_cons_zero, List.set_cons_succ])
          refine txt_skip rfl ?_
          try simp only [Act.put, List.getElem_toArray, List.getElem_cons_succ, List.getElem_cons_zero, List.setIfInBounds_toArray, List.set_cons_zero, List.set_cons_succ]
          refine txt_skip rfl ?_
          try simp only [Act.put, List.getElem_toArray, List.getElem_cons_succ, List.getElem_cons_zero, List.setIfInBounds_toArray, List.set_cons_zero, List.set_cons_succ]
          refine txt_skip rfl ?_
          try simp only [Act.put, List.getElem_toArray, List.getElem_cons_succ, List.getElem_cons_zero, List.setIfInBounds_toArray, List.set_cons_zero, List.set_cons_succ]
          refine txt_skip rfl ?_
          try simp only [Act.put, List.getElem_toArray, List.getElem_cons_succ, List.getElem_cons_zero, List.setIfInBounds_toArray, List.set_cons_zero, List.set_cons_succ]
          refine txt_skip rfl ?_
          try simp only [Act.put, List.getElem_toArray, List.getElem_cons_succ, List.getElem_cons_zero, List.setIfInBounds_toArray, List.set_cons_zero, List.set_cons_succ]
          refine txt_skip rfl ?_
          try simp only [Act.put, List.getElem_toArray, List.getElem_cons_succ, List.getElem_cons_zero, List.setIfInBounds_toArray, List.set_cons_zero, List.set_cons_succ]
          refine txt_skip rfl ?_
          try simp only [Act.put, List.getElem_toArray, List.getElem_cons_succ, List.getElem_cons_zero, List.setIfInBounds_toArray, List.set_cons_zero, List.set_cons_succ]
          refine txt_skip rfl ?_
          try simp only [Act.put, List.getElem_toArray, List.getElem_cons_succ, List.getElem_cons_zero, List.setIfInBounds_toArray, List.set_cons_zero, List.set_cons_succ]
          refine txt_skip rfl ?_
          try simp only [Act.put, List.getElem_toArray, List.getElem_cons_succ, List.getElem_cons_zero, List.setIfInBounds_toArray, List.set_cons_zero, List.set_cons_succ]
          refine txt_skip rfl ?_
          try simp only [Act.put, List.getElem_toArray, List.getElem_cons_succ, List.getElem_cons_zero, List.setIfInBounds_toArray, List.set_cons_zero, List.set_cons_succ]
          refine txt_skip rfl ?_
          try simp only [Act.put, List.getElem_toArray, List.getElem_cons_succ, List.getElem_cons_zero, List.setIfInBounds_toArray, List.set_cons_zero, List.set_cons_succ]
          (refine txt_light ?_ rfl rfl ?_ ?_; rotate_left; · (intro w' hS; (try dsimp only at hS); go_simp; with_reducible rfl)); try simp only [Act.put, List.getElem_toArray, List.getElem_cons_succ, List.getElem_cons_zero, List.setIfInBounds_toArray, List.set_cons_zero, List.set_cons_succ]
          refine txt_nil ?_; go_wp2; go_ret; exact ⟨rfl, hbl.drew⟩
      · have h1' : ¬ (i : Int) < (N : Int) := by omega
        obtain rfl : i = N := by omega
        have hx : D = true := by rw [← HD.out]; exact decide_eq_true (core_end HT.out HN.out HK.out)
        subst hx; go_wp2; go_ret; exact ⟨rfl, hbl⟩
  · have hx : D = false := HNL.out hNK; subst hx; have h1 : ((N : Int) = (K : Int)) = False := by simp; omega
    go_enter Tryz.func11, Tryz.ntmps11
    go_wp2; go_ret; exact ⟨rfl, Below.refl _ _⟩
end Go.Proofs.YtkfgbjjelcigcaaGreatDoor
