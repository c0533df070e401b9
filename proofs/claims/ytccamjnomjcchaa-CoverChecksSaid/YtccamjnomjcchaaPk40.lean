/-
  graticuleref13.Valid.
-/
import Derived.Test.YtccamjnomjcchaaPk39
import Derived.Test.YtccamjnomjcchaaPk29
/- graticuleref13.Valid. -/
set_option linter.unusedVariables false
set_option linter.unusedSimpArgs false
set_option maxRecDepth 100000
namespace Go.Proofs.Ytccamjnomjcchaa
open Go.RowKit
set_option maxHeartbeats 6400000 in
theorem rvalid_any (a : Option Addr) (c : Nat) (L : List Fc) (hlen : L.length ≤ 1000) (hl : ∀ f ∈ L, f.rs.length ≤ 1000 ∧ ∀ r ∈ f.rs, r.l.length ≤ 1000) (h1 : cntR (L.map Fc.rings) ≤ 60000) (h2 : cntP (L.map Fc.rings) ≤ 60000) (hs : (allSd (L.map Fc.rings)).length ≤ 60000) (w : World) (hr : Rd w a (fcs L)) (hok : ∀ f ∈ L, f.Ok w) :
    Calls Try.prog 12 #[.slice a L.length c] w fun e w' => GoodV (L.map Fc.rings) (allSd (L.map Fc.rings)) e ∧ Below w.heap.size w w' := by
  have HCO := Lib.hid (rcount_any a c L (by omega) (by omega) (by omega) w hr hok)
  have HSI := Lib.hid (fun W (h : Below w.heap.size w W) => rsides_any a c L (by omega) (fun f hf => by have := hl f hf; omega) (fun f hf r hr => by have := (hl f hf).2 r hr; omega) (by omega) W (hr.keep h) (fun f hf => (hok f hf).keep h))
  have HRL : Hid (∀ k, (h : k < L.length) → (L.map Fc.rings)[k]! = L[k].rings) := Lib.hid (fun k h => by rw [getElem!_pos _ k (by simpa using h)]; simp)
  have HIN := Lib.hid (fun (h : smpR (L.map Fc.rings)) => sd_in h)
  have HRLN : Hid ((L.map Fc.rings).length = L.length) := Lib.hid (by simp)
  have HSIM : Hid (∀ f ∈ L, ∀ r ∈ f.rs, ∀ W, Rd W r.p (pts r.l) → Calls Try.prog 36 #[r.val] W fun e w' => SimpIs r.l e ∧ Below W.heap.size W w') := Lib.hid (fun f hf r hr W hW => rsimp_any r.p r.c r.l (by have := (hl f hf).2 r hr; omega) W hW)
  have HRND : Hid (smpR (L.map Fc.rings) → ∀ f ∈ L, ∀ u v, okPt u = true → okPt v = true → ∀ W, Below w.heap.size w W → Calls Try.prog 39 #[f.val, u.val, v.val] W fun e w' => e = .returned (.tuple #[.int .i64 (roundN f.rings u v), .bool (roundOk f.rings u v)]) ∧ Below W.heap.size W w') := Lib.hid (fun h f hf u v hu hv W hW => rround_any f (hl f hf).1 (fun r hr => ⟨(hl f hf).2 r hr, (h _ (List.mem_map_of_mem hf) _ (List.mem_map_of_mem hr)).2.1⟩) u v hu hv W ((hok f hf).keep hW))
  have HSM : Hid ((∀ i, i < L.length → ∀ k, k < ((L.map Fc.rings)[i]!).length → simpP ((L.map Fc.rings)[i]!)[k]!) → smpR (L.map Fc.rings)) := Lib.hid (fun h f hf r hr => by
    obtain ⟨i, hi, rfl⟩ := List.mem_iff_getElem.1 hf
    have hi2 : i < L.length := by simpa using hi
    have e1 : (L.map Fc.rings)[i]! = (L.map Fc.rings)[i] := getElem!_pos _ i hi
    obtain ⟨k, hk, rfl⟩ := List.mem_iff_getElem.1 hr
    have := h i hi2 k (by rw [e1]; exact hk)
    rw [e1, getElem!_pos _ k hk] at this
    exact this)
  have HSN : Hid (∀ i, i < L.length → ∀ k, k < ((L.map Fc.rings)[i]!).length → ¬ simpP ((L.map Fc.rings)[i]!)[k]! → ¬ smpR (L.map Fc.rings)) := Lib.hid (fun i hi k hk h g => h (g _ (mem_getE (by simpa using hi)) _ (mem_getE hk)))
  have HRR : Hid (∀ k, (h : k < L.length) → (L.map Fc.rings)[k]! = L[k].rs.map PC.l) := Lib.hid (fun k h => by rw [getElem!_pos _ k (by simpa using h)]; simp [Fc.rings])
  have HLB : Hid (∀ f ∈ L, f.rs.length ≤ 1000) := Lib.hid (fun f hf => (hl f hf).1)
  have HR := Lib.hid hr
  have HOK := Lib.hid hok
  obtain ⟨RL, hRL⟩ : ∃ R, L.map Fc.rings = R := ⟨_, rfl⟩
  rw [hRL] at HCO HSI HRL HIN HRLN HRND HSM HSN HRR h1 h2 hs ⊢
  obtain ⟨S, hS⟩ : ∃ R, allSd RL = R := ⟨_, rfl⟩
  rw [hS] at HSI HIN hs ⊢
  obtain ⟨N, hN⟩ : ∃ N, L.length = N := ⟨_, rfl⟩
  have HN := Lib.hid hN
  obtain ⟨NS, hNS⟩ : ∃ N, S.length = N := ⟨_, rfl⟩
  have HNS := Lib.hid hNS
  rw [hN] at HCO HSI hlen HRLN HSM HSN ⊢
  rw [hNS] at HSI hs
  clear hr hok hRL hS hN hNS hl
  obtain ⟨CP, hPC⟩ : ∃ N, cntP RL = N := ⟨_, rfl⟩
  rw [hPC] at HCO h2
  clear hPC h1
  have hpc : ¬ (65536 : Int) < (CP : Int) := by omega
  go_enter Try.func12, Try.ntmps12
  go_wp2_with fail
  refine HCO.out.mono ?_
  rintro e w1 ⟨rfl, rfl⟩
  clear HCO
  go_wp2
  clear hpc
  go_loopw [5] (fun i W => ∃ (k : Nat), k ≤ N ∧ i = .int .i64 k ∧ Hid (∀ i, i < k → ∀ k, k < (RL[i]!).length → simpP (RL[i]!)[k]!) ∧ Hid (Below w.heap.size w W)) (fun i _ => N - (intOf i).toNat)
  case atStart => exact ⟨0, by omega, rfl, Lib.hid (fun a h => by omega), Lib.hid (Below.refl _ _)⟩
  case round =>
    obtain ⟨i, hi, rfl, HD, HBK⟩ := hrel
    by_cases hkn : i < N
    · as_aux_lemma =>
      have hkn' : (i : Int) < (N : Int) := by omega
      have hil : i < L.length := by rw [HN.out]; exact hkn
      obtain ⟨b, o, rfl, hb, c0, c1⟩ := HR.out.fc i hil
      have HFO := Lib.hid (HOK.out _ (List.getElem_mem hil))
      have HSF := Lib.hid (HSIM.out _ (List.getElem_mem hil))
      have HRI := Lib.hid (HRR.out i hil)
      have HSN2 := Lib.hid (HSN.out i hkn)
      have hpb := HLB.out _ (List.getElem_mem hil)
      clear HSIM HOK HRL HRR HSI HRND HIN HRLN HSM HSN
      generalize L[i] = P at *
      obtain ⟨prs, pra, prc, pls, paa, pac⟩ := P
      have hprc := HFO.out.1.2
      dsimp only [Fc.rval, Fc.aval] at c0 c1 HSF HRI hprc hpb
      have HRLI : Hid ((RL[i]!).length = prs.length) := Lib.hid (by rw [HRI.out]; simp)
      obtain ⟨PN, hPN⟩ : ∃ n, prs.length = n := ⟨_, rfl⟩
      have HPN := Lib.hid hPN
      rw [hPN] at c0 hprc hpb
      clear hPN
      go_wp2
      go_loopw [6] (fun j W => ∃ (k : Nat), k ≤ PN ∧ j = .int .i64 k ∧ Hid (∀ m, m < k → simpP (RL[i]!)[m]!) ∧ Hid (Below w.heap.size w W)) (fun j _ => PN - (intOf j).toNat)
      case atStart => exact ⟨0, by omega, rfl, Lib.hid (fun a h => by omega), HBK⟩
      case round =>
        obtain ⟨k, hk, rfl, HE, HBM⟩ := hrel
        have x0 := (HBM.out.cell (p := ⟨b, o + i * 2, none⟩) hb).trans c0
        by_cases hkp : k < PN
        · as_aux_lemma =>
          have hkp' : (k : Int) < (PN : Int) := by omega
          have hkl : k < prs.length := by rw [HPN.out]; exact hkp
          obtain ⟨b2, o2, rfl, hb2, d0⟩ := HFO.out.1.1.rc k hkl
          have HPO := Lib.hid (HFO.out.2.1 _ (List.getElem_mem hkl))
          have HSP := Lib.hid (HSF.out _ (List.getElem_mem hkl))
          have HRK : Hid ((RL[i]!)[k]! = prs[k].l) := Lib.hid (by rw [HRI.out, getElem!_pos _ k (by simpa using hkl)]; simp)
          generalize prs[k] = Q at *
          obtain ⟨QL, Qp, Qc⟩ := Q
          dsimp only [PC.val] at d0 HSP HRK
          obtain ⟨QN, hQN⟩ : ∃ n, QL.length = n := ⟨_, rfl⟩
          rw [hQN] at d0 HSP
          clear hQN
          have d0w := (HBM.out.cell (p := ⟨b2, o2 + k, none⟩) hb2).trans d0
          go_wp2_with fail
          refine (HSP.out _ (HPO.out.1.keep HBM.out)).mono ?_
          rintro e W1 ⟨⟨q, rfl, hq2⟩, hx1⟩
          have hbe := HBM.out.trans (hx1.mono HBM.out.size)
          by_cases hq : simpP QL
          · obtain rfl := hq2.2 hq
            have HE2 : Hid (∀ m, m < k + 1 → simpP (RL[i]!)[m]!) := Lib.hid (fun m hm => by
              by_cases g : m = k
              · rw [g, HRK.out]; exact hq
              · exact HE.out m (by omega))
            clear hq2 hq
            go_wp2
            exact ⟨⟨k + 1, by omega, by go_num, HE2, Lib.hid hbe⟩, by simp [intOf]; omega⟩
          · obtain rfl : q = false := by
              cases q with
              | true => exact absurd (hq2.1 rfl) hq
              | false => rfl
            have HNV := Lib.hid (HSN2.out k (by rw [HRLI.out]; exact hkl) (by rw [HRK.out]; exact hq))
            clear hq2 hq
            go_wp2
            go_ret
            exact ⟨goodv9 HNV.out, hbe⟩
        · obtain rfl : PN = k := by omega
          have hkp' : ¬ (PN : Int) < (PN : Int) := by omega
          have HD2 : Hid (∀ a, a < i + 1 → ∀ k, k < (RL[a]!).length → simpP (RL[a]!)[k]!) := Lib.hid (fun a ha m hm => by
            by_cases g : a = i
            · subst g; exact HE.out m (by rw [HRLI.out, HPN.out] at hm; exact hm)
            · exact HD.out a (by omega) m hm)
          go_wp2
          exact ⟨⟨i + 1, by omega, by go_num, HD2, HBM⟩, by simp [intOf]; omega⟩
    · obtain rfl : N = i := by omega
      have hkn' : ¬ (N : Int) < (N : Int) := by omega
      have HSMP := Lib.hid (HSM.out HD.out)
      clear HSM HSN HD hkn hi HSIM
      as_aux_lemma =>
      go_wp2_with fail
      refine (HSI.out _ HBK.out).mono ?_
      rintro e w2 ⟨v, rfl, ho, hb2⟩
      obtain ⟨a2, c2, rfl, u1, u2, u3, hr2, -⟩ := ho.form
      have hbw := HBK.out.trans (hb2.mono HBK.out.size)
      have HMA := Lib.hid (fun W (h : Below w2.heap.size w2 W) => rmatch_any a2 c2 S (by rw [HNS.out]; omega) (HIN.out HSMP.out) W (hr2.keep h))
      rw [HNS.out] at HMA
      have HR2 := Lib.hid hr2
      have HIS := Lib.hid (HIN.out HSMP.out)
      have HRO := Lib.hid (HRND.out HSMP.out)
      have HNN : Hid (matchP S S.length = matchP S NS ∧ twP S S.length = twP S NS ∧ sdsP RL S S.length = sdsP RL S NS) := Lib.hid (by rw [HNS.out]; exact ⟨rfl, rfl, rfl⟩)
      clear ho hr2 HSI HIN HRND hb2 HBK
      have HBW := Lib.hid hbw
      have hs0 := hbw.size
      clear hbw
      go_wp2_with fail
      refine (HMA.out _ (Below.refl _ _)).mono ?_
      rintro e w3 ⟨⟨q, rfl, hq⟩, hb3⟩
      have HB3 := Lib.hid hb3
      have HBW3 := Lib.hid (HBW.out.trans (hb3.mono hs0))
      clear HMA hb3
      by_cases hm : matchP S S.length
      · obtain rfl := hq.2 hm
        have HM := Lib.hid hm
        clear hm hq
        go_wp2
        go_loopw [8] (fun i W => ∃ (k : Nat), k ≤ NS ∧ i = .int .i64 k ∧ Hid (twP S k) ∧ Hid (Below w2.heap.size w2 W)) (fun i _ => NS - (intOf i).toNat)
        case atStart => exact ⟨0, by omega, rfl, Lib.hid (fun a h => by omega), HB3⟩
        case round =>
          obtain ⟨k, hk, rfl, HD, HBK⟩ := hrel
          by_cases hkn : k < NS
          · as_aux_lemma =>
            have hkn' : (k : Int) < (NS : Int) := by omega
            go_wp2
            go_loopw [9] (fun j W => ∃ (m : Nat), m ≤ k ∧ j = .int .i64 m ∧ Hid (∀ b, b < m → ¬ twAt S k b) ∧ Hid (Below w2.heap.size w2 W)) (fun j _ => k - (intOf j).toNat)
            case atStart => exact ⟨0, by omega, rfl, Lib.hid (fun b h => by omega), HBK⟩
            case round =>
              obtain ⟨m, hm, rfl, HE, HBM⟩ := hrel
              by_cases hmk : m < k
              · as_aux_lemma =>
                have hmk' : (m : Int) < (k : Int) := by omega
                have hmn' : (m : Int) < (NS : Int) := by omega
                have hkl : k < S.length := by rw [HNS.out]; exact hkn
                have hml : m < S.length := by rw [HNS.out]; omega
                obtain ⟨b, o, rfl, hb, c0, c1, c2', c3, c4, c5⟩ := (HR2.out.keep HBM.out).sd k hkl
                obtain ⟨b', o', hbo, hb2, d0, d1, d2, d3, d4, d5⟩ := (HR2.out.keep HBM.out).sd m hml
                cases hbo
                have HNO : Hid (¬ twAt S k m → ∀ b, b < m + 1 → ¬ twAt S k b) := Lib.hid (fun h b hb => by
                  by_cases g : b = m
                  · rw [g]; exact h
                  · exact HE.out b (by omega))
                have HTW : Hid (twAt S k m → ¬ twP S S.length) := Lib.hid (fun h g => g k hkl m hmk h)
                have HTA : Hid (twAt S k m ↔ S[k].a = S[m].a ∧ S[k].b = S[m].b) := Lib.hid (by unfold twAt; rw [getElem!_pos S k hkl, getElem!_pos S m hml])
                generalize twAt S k m = TW at *
                generalize S[k] = p at *
                generalize S[m] = q at *
                obtain ⟨f1, r1, ⟨ax, ay⟩, ⟨bx, bY⟩⟩ := p
                obtain ⟨f2, r2, ⟨cx, cy⟩, ⟨dx, dy⟩⟩ := q
                dsimp only at c2' c3 c4 c5 d2 d3 d4 d5 HTA
                clear HE HD HIS HRO HR2 c0 c1 d0 d1
                have HBN := Lib.hid (fun n => below_drewN HBM.out n)
                by_cases g1 : ax = cx
                · by_cases g2 : ay = cy
                  · by_cases g3 : bx = dx
                    · by_cases g4 : bY = dy
                      · subst g1 g2 g3 g4
                        have HNV := Lib.hid (HTW.out (HTA.out.2 ⟨rfl, rfl⟩))
                        clear HTA HTW HNO
                        go_wp2
                        go_quiet (fail)
                        go_wp2
                        go_ret
                        exact ⟨goodv8 HSMP.out HM.out HNV.out, HBW.out.trans ((HBN.out _).mono hs0)⟩
                      · have HNT := Lib.hid (HNO.out (fun h => by
                          have h2 := HTA.out.1 h
                          simp only [Pt.mk.injEq] at h2
                          omega))
                        clear HTA HTW HNO
                        go_wp2
                        go_quiet (fail)
                        go_wp2
                        exact ⟨⟨m + 1, by omega, by go_num, HNT, Lib.hid (HBN.out _)⟩, by simp [intOf]; omega⟩
                    · have HNT := Lib.hid (HNO.out (fun h => by
                        have h2 := HTA.out.1 h
                        simp only [Pt.mk.injEq] at h2
                        omega))
                      clear HTA HTW HNO
                      go_wp2
                      go_quiet (fail)
                      go_wp2
                      exact ⟨⟨m + 1, by omega, by go_num, HNT, Lib.hid (HBN.out _)⟩, by simp [intOf]; omega⟩
                  · have HNT := Lib.hid (HNO.out (fun h => by
                      have h2 := HTA.out.1 h
                      simp only [Pt.mk.injEq] at h2
                      omega))
                    clear HTA HTW HNO
                    go_wp2
                    go_quiet (fail)
                    go_wp2
                    exact ⟨⟨m + 1, by omega, by go_num, HNT, Lib.hid (HBN.out _)⟩, by simp [intOf]; omega⟩
                · have HNT := Lib.hid (HNO.out (fun h => by
                    have h2 := HTA.out.1 h
                    simp only [Pt.mk.injEq] at h2
                    omega))
                  clear HTA HTW HNO
                  go_wp2
                  go_quiet (fail)
                  go_wp2
                  exact ⟨⟨m + 1, by omega, by go_num, HNT, Lib.hid (HBN.out _)⟩, by simp [intOf]; omega⟩
              · obtain rfl : k = m := by omega
                have hmk' : ¬ (k : Int) < (k : Int) := by omega
                have HD2 : Hid (twP S (k + 1)) := Lib.hid (fun a ha b hb => by
                  by_cases h : a = k
                  · rw [h] at hb ⊢; exact HE.out b hb
                  · exact HD.out a (by omega) b hb)
                go_wp2
                exact ⟨⟨k + 1, by omega, by go_num, HD2, HBM⟩, by simp [intOf]; omega⟩
          · obtain rfl : NS = k := by omega
            have hkn' : ¬ (NS : Int) < (NS : Int) := by omega
            have HTWP : Hid (twP S S.length) := Lib.hid (by rw [HNN.out.2.1]; exact HD.out)
            clear HD hkn hk
            as_aux_lemma =>
            go_wp2
            go_loopw [10] (fun i W => ∃ (k : Nat), k ≤ NS ∧ i = .int .i64 k ∧ Hid (sdsP RL S k) ∧ Hid (Below w2.heap.size w2 W)) (fun i _ => NS - (intOf i).toNat)
            case atStart => exact ⟨0, by omega, rfl, Lib.hid (fun a h => by omega), HBK⟩
            case round =>
              obtain ⟨k, hk, rfl, HD, HBK⟩ := hrel
              by_cases hkn : k < NS
              · as_aux_lemma =>
                have hkn' : (k : Int) < (NS : Int) := by omega
                have hkl : k < S.length := by rw [HNS.out]; exact hkn
                obtain ⟨b2, o2, rfl, hb2, y0, y1, y2, y3, y4, y5⟩ := HR2.out.sd k hkl
                obtain ⟨i1, i2, -⟩ := HIS.out _ (List.getElem_mem hkl)
                have HRO2 := Lib.hid (fun f hf W (h : Below w2.heap.size w2 W) => HRO.out f hf S[k].a S[k].b i1 i2 W (HBW.out.trans (h.mono hs0)))
                have HRO3 := Lib.hid (fun f hf W (h : Below w2.heap.size w2 W) => HRO.out f hf S[k].b S[k].a i2 i1 W (HBW.out.trans (h.mono hs0)))
                have HK1 : Hid (S[k]! = S[k]) := Lib.hid (getElem!_pos S k hkl)
                have HNVK : Hid (∀ m, m < N → ¬ sdAt RL S[k]! m → ¬ sdsP RL S S.length) := Lib.hid (fun m hm h g => h (g k hkl m (by rw [HRLN.out]; exact hm)))
                have HOKK : Hid ((∀ m, m < N → sdAt RL S[k]! m) → sdsP RL S (k + 1)) := Lib.hid (fun h a ha => by
                  by_cases g : a = k
                  · subst g; intro m hm; exact h m (by rw [HRLN.out] at hm; exact hm)
                  · exact HD.out a (by omega))
                have HATK : Hid (∀ m, sdAt RL S[k]! m ↔ roundOk RL[m]! S[k].a S[k].b = true ∧ roundOk RL[m]! S[k].b S[k].a = true ∧ roundN RL[m]! S[k].a S[k].b = (if m = S[k].f then 1 else 0) ∧ (m = S[k].f → roundN RL[m]! S[k].b S[k].a = 0)) := Lib.hid (fun m => by rw [HK1.out]; exact Iff.rfl)
                clear i1 i2 HRO HIS HD HK1
                generalize S[k]! = SK at *
                generalize S[k] = p at *
                obtain ⟨f1, r1, ⟨ax, ay⟩, ⟨bx, bY⟩⟩ := p
                dsimp only [Pt.val] at y0 y1 y2 y3 y4 y5 HRO2 HRO3 HATK
                go_wp2
                go_loopw [11] (fun j W => ∃ (m : Nat), m ≤ N ∧ j = .int .i64 m ∧ Hid (∀ b, b < m → sdAt RL SK b) ∧ Hid (Below w2.heap.size w2 W)) (fun j _ => N - (intOf j).toNat)
                case atStart => exact ⟨0, by omega, rfl, Lib.hid (fun b h => by omega), HBK⟩
                case round =>
                  obtain ⟨m, hm, rfl, HE, HBM⟩ := hrel
                  by_cases hmk : m < N
                  · as_aux_lemma =>
                    have hmk' : (m : Int) < (N : Int) := by omega
                    have hml : m < L.length := by rw [HN.out]; exact hmk
                    obtain ⟨b, o, rfl, hb, x0, x1⟩ := HR.out.fc m hml
                    have x0 := (HBW.out.cell (p := ⟨b, o + m * 2, none⟩) hb).trans x0
                    have x1 := (HBW.out.cell (p := ⟨b, o + m * 2 + 1, none⟩) hb).trans x1
                    have hb := Nat.lt_of_lt_of_le hb hs0
                    have HC1 := Lib.hid (HRO2.out _ (List.getElem_mem hml))
                    have HC2 := Lib.hid (HRO3.out _ (List.getElem_mem hml))
                    have HAT := Lib.hid (HATK.out m)
                    rw [HRL.out m hml] at HAT
                    have HNV := Lib.hid (HNVK.out m hmk)
                    have HYE : Hid (sdAt RL SK m → ∀ b, b < m + 1 → sdAt RL SK b) := Lib.hid (fun h b hb => by
                      by_cases g : b = m
                      · rw [g]; exact h
                      · exact HE.out b (by omega))
                    clear HRO2 HRO3 HATK HNVK HOKK HE HRL HOK HR2 HRR
                    generalize sdAt RL SK m = SA at *
                    generalize L[m] = P at *
                    obtain ⟨prs, pra, prc, pls, paa, pac⟩ := P
                    dsimp only [Fc.val, Fc.rval, Fc.aval] at x0 x1 HC1 HC2
                    generalize (⟨prs, pra, prc, pls, paa, pac⟩ : Fc).rings = PR at *
                    generalize prs.length = PN at *
                    generalize pls.length = PL at *
                    obtain ⟨OB1, hob1⟩ : ∃ q, roundOk PR ⟨ax, ay⟩ ⟨bx, bY⟩ = q := ⟨_, rfl⟩
                    obtain ⟨OB2, hob2⟩ : ∃ q, roundOk PR ⟨bx, bY⟩ ⟨ax, ay⟩ = q := ⟨_, rfl⟩
                    obtain ⟨N1, hn1⟩ : ∃ q, roundN PR ⟨ax, ay⟩ ⟨bx, bY⟩ = q := ⟨_, rfl⟩
                    obtain ⟨N2, hn2⟩ : ∃ q, roundN PR ⟨bx, bY⟩ ⟨ax, ay⟩ = q := ⟨_, rfl⟩
                    rw [hob1, hn1] at HC1 HAT
                    rw [hob2, hn2] at HC2 HAT
                    clear hob1 hob2 hn1 hn2
                    go_wp2_with fail
                    refine wp_region_lit_txt [0, 1, 2, 3, 4, 5, 6, 7, 8, 9, 10, 11, 12, 13, 15, 16, 17, 18, 19] (fun W => Below w2.heap.size w2 W) (by kernel_rfl) (by kernel_rfl) (by kernel_rfl) HBM.out.drew ?_
                    have hbd := HBM.out.drew
                    generalize wr.drew = W0 at *
                    iterate 3 ((refine txt_light ?_ rfl rfl ?_ ?_; rotate_left; · (intro w' hS; (try dsimp only at hS); go_simp; with_reducible rfl)); try simp only [Act.put, List.getElem_toArray, List.getElem_cons_succ, List.getElem_cons_zero, List.setIfInBounds_toArray, List.set_cons_zero, List.set_cons_succ])
                    refine txt_light (.agg #[.slice pra PN prc, .slice paa PL pac]) rfl rfl ?_ ?_
                    · intro w' hS
                      have c7 := (hS.cell (p := ⟨b, o + m * 2, none⟩) hb).trans x0
                      have c8 := (hS.cell (p := ⟨b, o + m * 2 + 1, none⟩) hb).trans x1
                      clear hS
                      go_simp
                    try simp only [Act.put, List.getElem_toArray, List.getElem_cons_succ, List.getElem_cons_zero, List.setIfInBounds_toArray, List.set_cons_zero, List.set_cons_succ]
                    iterate 4 ((refine txt_light ?_ rfl rfl ?_ ?_; rotate_left; · (intro w' hS; (try dsimp only at hS); go_simp; with_reducible rfl)); try simp only [Act.put, List.getElem_toArray, List.getElem_cons_succ, List.getElem_cons_zero, List.setIfInBounds_toArray, List.set_cons_zero, List.set_cons_succ])
                    refine txt_light (.agg #[.int .i64 ax, .int .i64 ay]) rfl rfl ?_ ?_
                    · intro w' hS
                      have c7 := (hS.cell (p := ⟨b2, o2 + k * 6 + 2, none⟩) hb2).trans y2
                      have c8 := (hS.cell (p := ⟨b2, o2 + k * 6 + 3, none⟩) hb2).trans y3
                      clear hS
                      go_simp
                    try simp only [Act.put, List.getElem_toArray, List.getElem_cons_succ, List.getElem_cons_zero, List.setIfInBounds_toArray, List.set_cons_zero, List.set_cons_succ]
                    iterate 4 ((refine txt_light ?_ rfl rfl ?_ ?_; rotate_left; · (intro w' hS; (try dsimp only at hS); go_simp; with_reducible rfl)); try simp only [Act.put, List.getElem_toArray, List.getElem_cons_succ, List.getElem_cons_zero, List.setIfInBounds_toArray, List.set_cons_zero, List.set_cons_succ])
                    refine txt_light (.agg #[.int .i64 bx, .int .i64 bY]) rfl rfl ?_ ?_
                    · intro w' hS
                      have c7 := (hS.cell (p := ⟨b2, o2 + k * 6 + 4, none⟩) hb2).trans y4
                      have c8 := (hS.cell (p := ⟨b2, o2 + k * 6 + 5, none⟩) hb2).trans y5
                      clear hS
                      go_simp
                    try simp only [Act.put, List.getElem_toArray, List.getElem_cons_succ, List.getElem_cons_zero, List.setIfInBounds_toArray, List.set_cons_zero, List.set_cons_succ]
                    refine txt_heavy rfl rfl (fun K hK => ?_)
                    go_step
                    refine (HC1.out W0 hbd).mono ?_
                    rintro e W3 ⟨rfl, hx1⟩
                    have hbe := hbd.trans (hx1.mono hbd.size)
                    refine hK.out _ _ hbe ?_
                    clear hK K hx1 hbd
                    clear W0
                    try simp only [Act.put, List.getElem_toArray, List.getElem_cons_succ, List.getElem_cons_zero, List.setIfInBounds_toArray, List.set_cons_zero, List.set_cons_succ]
                    iterate 5 ((refine txt_light ?_ rfl rfl ?_ ?_; rotate_left; · (intro w' hS; (try dsimp only at hS); go_simp; with_reducible rfl)); try simp only [Act.put, List.getElem_toArray, List.getElem_cons_succ, List.getElem_cons_zero, List.setIfInBounds_toArray, List.set_cons_zero, List.set_cons_succ])
                    refine txt_nil ?_
                    go_wp2_with fail
                    refine wp_region_lit_txt [0, 1, 2, 3, 4, 5, 6, 7, 8, 9, 10, 11, 12, 13, 15, 16, 17, 18, 19] (fun W => Below w2.heap.size w2 W) (by kernel_rfl) (by kernel_rfl) (by kernel_rfl) hbe.drew ?_
                    have hbd := hbe.drew
                    generalize W3.drew = W0 at *
                    iterate 3 ((refine txt_light ?_ rfl rfl ?_ ?_; rotate_left; · (intro w' hS; (try dsimp only at hS); go_simp; with_reducible rfl)); try simp only [Act.put, List.getElem_toArray, List.getElem_cons_succ, List.getElem_cons_zero, List.setIfInBounds_toArray, List.set_cons_zero, List.set_cons_succ])
                    refine txt_light (.agg #[.slice pra PN prc, .slice paa PL pac]) rfl rfl ?_ ?_
                    · intro w' hS
                      have c7 := (hS.cell (p := ⟨b, o + m * 2, none⟩) hb).trans x0
                      have c8 := (hS.cell (p := ⟨b, o + m * 2 + 1, none⟩) hb).trans x1
                      clear hS
                      go_simp
                    try simp only [Act.put, List.getElem_toArray, List.getElem_cons_succ, List.getElem_cons_zero, List.setIfInBounds_toArray, List.set_cons_zero, List.set_cons_succ]
                    iterate 4 ((refine txt_light ?_ rfl rfl ?_ ?_; rotate_left; · (intro w' hS; (try dsimp only at hS); go_simp; with_reducible rfl)); try simp only [Act.put, List.getElem_toArray, List.getElem_cons_succ, List.getElem_cons_zero, List.setIfInBounds_toArray, List.set_cons_zero, List.set_cons_succ])
                    refine txt_light (.agg #[.int .i64 bx, .int .i64 bY]) rfl rfl ?_ ?_
                    · intro w' hS
                      have c7 := (hS.cell (p := ⟨b2, o2 + k * 6 + 4, none⟩) hb2).trans y4
                      have c8 := (hS.cell (p := ⟨b2, o2 + k * 6 + 5, none⟩) hb2).trans y5
                      clear hS
                      go_simp
                    try simp only [Act.put, List.getElem_toArray, List.getElem_cons_succ, List.getElem_cons_zero, List.setIfInBounds_toArray, List.set_cons_zero, List.set_cons_succ]
                    iterate 4 ((refine txt_light ?_ rfl rfl ?_ ?_; rotate_left; · (intro w' hS; (try dsimp only at hS); go_simp; with_reducible rfl)); try simp only [Act.put, List.getElem_toArray, List.getElem_cons_succ, List.getElem_cons_zero, List.setIfInBounds_toArray, List.set_cons_zero, List.set_cons_succ])
                    refine txt_light (.agg #[.int .i64 ax, .int .i64 ay]) rfl rfl ?_ ?_
                    · intro w' hS
                      have c7 := (hS.cell (p := ⟨b2, o2 + k * 6 + 2, none⟩) hb2).trans y2
                      have c8 := (hS.cell (p := ⟨b2, o2 + k * 6 + 3, none⟩) hb2).trans y3
                      clear hS
                      go_simp
                    try simp only [Act.put, List.getElem_toArray, List.getElem_cons_succ, List.getElem_cons_zero, List.setIfInBounds_toArray, List.set_cons_zero, List.set_cons_succ]
                    refine txt_heavy rfl rfl (fun K hK => ?_)
                    go_step
                    refine (HC2.out W0 hbd).mono ?_
                    rintro e W4 ⟨rfl, hx1⟩
                    have hbe2 := hbd.trans (hx1.mono hbd.size)
                    refine hK.out _ _ hbe2 ?_
                    clear hK K hx1 hbd
                    clear W0
                    try simp only [Act.put, List.getElem_toArray, List.getElem_cons_succ, List.getElem_cons_zero, List.setIfInBounds_toArray, List.set_cons_zero, List.set_cons_succ]
                    iterate 5 ((refine txt_light ?_ rfl rfl ?_ ?_; rotate_left; · (intro w' hS; (try dsimp only at hS); go_simp; with_reducible rfl)); try simp only [Act.put, List.getElem_toArray, List.getElem_cons_succ, List.getElem_cons_zero, List.setIfInBounds_toArray, List.set_cons_zero, List.set_cons_succ])
                    refine txt_nil ?_
                    have z0 := (hbe2.cell (p := ⟨b2, o2 + k * 6, none⟩) hb2).trans y0
                    clear x0 x1 y0 y1 y2 y3 y4 y5 hbe HC1 HC2
                    by_cases hmf : m = f1
                    · subst hmf
                      cases OB1 with
                      | false =>
                        have HX := Lib.hid (HNV.out (fun h => by have := (HAT.out.1 h).1; cases this))
                        clear HNV HYE HAT
                        go_wp2
                        go_ret
                        exact ⟨goodv11 HSMP.out HM.out HTWP.out HX.out, HBW.out.trans (hbe2.mono hs0)⟩
                      | true =>
                        cases OB2 with
                        | false =>
                          have HX := Lib.hid (HNV.out (fun h => by have := (HAT.out.1 h).2.1; cases this))
                          clear HNV HYE HAT
                          go_wp2
                          go_ret
                          exact ⟨goodv11 HSMP.out HM.out HTWP.out HX.out, HBW.out.trans (hbe2.mono hs0)⟩
                        | true =>
                          by_cases hn : N1 = 1
                          · subst hn
                            by_cases h2 : N2 = 0
                            · subst h2
                              have HX := Lib.hid (HYE.out (HAT.out.2 ⟨rfl, rfl, by rw [if_pos rfl], fun _ => rfl⟩))
                              clear HNV HYE HAT
                              go_wp2
                              exact ⟨⟨m + 1, by omega, by go_num, HX, Lib.hid hbe2⟩, by simp [intOf]; omega⟩
                            · have h2' : (N2 != 0) = true := by simpa using h2
                              have HX := Lib.hid (HNV.out (fun h => h2 ((HAT.out.1 h).2.2.2 rfl)))
                              clear HNV HYE HAT
                              go_wp2
                              go_ret
                              exact ⟨goodv11 HSMP.out HM.out HTWP.out HX.out, HBW.out.trans (hbe2.mono hs0)⟩
                          · have hn' : (N1 != 1) = true := by simpa using hn
                            have HX := Lib.hid (HNV.out (fun h => by have := (HAT.out.1 h).2.2.1; rw [if_pos rfl] at this; exact hn this))
                            clear HNV HYE HAT
                            go_wp2
                            go_ret
                            exact ⟨goodv11 HSMP.out HM.out HTWP.out HX.out, HBW.out.trans (hbe2.mono hs0)⟩
                    · have hmf' : ((m : Int) == (f1 : Int)) = false := by simpa using (show ¬ (m : Int) = (f1 : Int) by omega)
                      cases OB1 with
                      | false =>
                        have HX := Lib.hid (HNV.out (fun h => by have := (HAT.out.1 h).1; cases this))
                        clear HNV HYE HAT
                        go_wp2
                        go_ret
                        exact ⟨goodv11 HSMP.out HM.out HTWP.out HX.out, HBW.out.trans (hbe2.mono hs0)⟩
                      | true =>
                        cases OB2 with
                        | false =>
                          have HX := Lib.hid (HNV.out (fun h => by have := (HAT.out.1 h).2.1; cases this))
                          clear HNV HYE HAT
                          go_wp2
                          go_ret
                          exact ⟨goodv11 HSMP.out HM.out HTWP.out HX.out, HBW.out.trans (hbe2.mono hs0)⟩
                        | true =>
                          by_cases hn : N1 = 0
                          · subst hn
                            have HX := Lib.hid (HYE.out (HAT.out.2 ⟨rfl, rfl, by rw [if_neg hmf], fun h => absurd h hmf⟩))
                            clear HNV HYE HAT
                            go_wp2
                            exact ⟨⟨m + 1, by omega, by go_num, HX, Lib.hid hbe2⟩, by simp [intOf]; omega⟩
                          · have hn' : (N1 != 0) = true := by simpa using hn
                            have HX := Lib.hid (HNV.out (fun h => by have := (HAT.out.1 h).2.2.1; rw [if_neg hmf] at this; exact hn this))
                            clear HNV HYE HAT
                            go_wp2
                            go_ret
                            exact ⟨goodv11 HSMP.out HM.out HTWP.out HX.out, HBW.out.trans (hbe2.mono hs0)⟩
                  · obtain rfl : N = m := by omega
                    have hmk' : ¬ (N : Int) < (N : Int) := by omega
                    have HD2 := Lib.hid (HOKK.out HE.out)
                    go_wp2
                    exact ⟨⟨k + 1, by omega, by go_num, HD2, HBM⟩, by simp [intOf]; omega⟩
              · obtain rfl : NS = k := by omega
                have hkn' : ¬ (NS : Int) < (NS : Int) := by omega
                have HFIN : Hid (sdsP RL S S.length) := Lib.hid (by rw [HNN.out.2.2]; exact HD.out)
                go_wp2
                refine bodyPost_ret (v := .int .i64 0) (by simp [results, Try.results12, go_sem]) rfl ⟨goodv0 HSMP.out HM.out HTWP.out HFIN.out, HBW.out.trans (HBK.out.mono hs0)⟩
      · obtain rfl : q = false := by
          cases q with
          | true => exact absurd (hq.1 rfl) hm
          | false => rfl
        have HM := Lib.hid hm
        clear hm hq
        go_wp2
        go_ret
        exact ⟨goodv10 HSMP.out HM.out, HBW3.out⟩
end Go.Proofs.Ytccamjnomjcchaa
