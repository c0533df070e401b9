/-
  cover.Locate. graticulelaw01.Of. graticuleref01.May. graticuleref01.All. graticuleref01.Cross. graticuleref01.Cross, Sign, On.
-/
import Derived.Test.YtccamjnomjcchaaPk28
import Derived.Test.YtccamjnomjcchaaPk13
import Derived.Test.YtccamjnomjcchaaPk1
import Derived.Test.YtccamjnomjcchaaProg
import Derived.BigRegion
import Derived.RegionTactic
import Derived.Maps.AppendAt
import Derived.Test.YtccamjnomjcchaaPk6
import Derived.Test.YtccamjnomjcchaaPk9
/- cover.Locate. -/
set_option linter.unusedVariables false
set_option linter.unusedSimpArgs false
set_option maxRecDepth 100000
namespace Go
open Go.RowKit
def firstAt (p : Pt) (F : List (List (List Pt))) (n : Nat) (x : Int) : Prop := (∃ i : Nat, i < n ∧ x = (i : Int) ∧ 0 < fwF p F[i]! ∧ ∀ k, k < i → ¬ 0 < fwF p F[k]!) ∨ (x = -1 ∧ ∀ k, k < n → ¬ 0 < fwF p F[k]!)
def LocIs (p : Pt) (F : List (List (List Pt))) (x : Int) : Prop := ((∃ f ∈ F, fwOk p f = false) → x = -1 ∨ x = -2) ∧ ((∀ f ∈ F, fwOk p f = true) → firstAt p F F.length x)
def LocE (p : Pt) (F : List (List (List Pt))) (e : Ending) : Prop := ∃ x : Int, e = .returned (.int .i64 x) ∧ LocIs p F x
theorem loc_bad {p : Pt} {F : List (List (List Pt))} {f : List (List Pt)} (hf : f ∈ F) (h : fwOk p f = false) {x : Int} (hx : x = -1 ∨ x = -2) : LocE p F (.returned (.int .i64 x)) :=
  ⟨x, rfl, fun _ => hx, fun g => by rw [g f hf] at h; cases h⟩
theorem loc_good {p : Pt} {F : List (List (List Pt))} {n : Nat} (hn : F.length = n) (h : ∀ k, k < n → fwOk p F[k]! = true) {x : Int} (hx : firstAt p F n x) : LocE p F (.returned (.int .i64 x)) := by
  subst hn; refine ⟨x, rfl, fun ⟨f, hf, g⟩ => ?_, fun _ => hx⟩; obtain ⟨i, hi, rfl⟩ := List.mem_iff_getElem.1 hf; have := h i hi; rw [getElem!_pos F i hi, g] at this
  cases this
theorem ok_bad {p : Pt} {f : List (List Pt)} {r : List Pt} (hr : r ∈ f) (h : windOk r p = false) : fwOk p f = false := by
  unfold fwOk; rw [List.all_eq_false]; exact ⟨r, hr, by rw [h]; simp⟩
theorem wind_bad {p : Pt} {r : List Pt} (h : r.all okPt = false ∨ okPt p = false) : windOk r p = false := by
  unfold windOk
  rcases h with h | h <;> rw [h] <;> simp
theorem first_next {p : Pt} {F : List (List (List Pt))} {k : Nat} {x : Int} (h : firstAt p F k x) : (0 < fwF p F[k]! → x = -1 → firstAt p F (k + 1) k) ∧ (¬ (0 < fwF p F[k]! ∧ x = -1) → firstAt p F (k + 1) x) := by
  constructor
  · rintro h0 rfl
    rcases h with ⟨i, hi, e, -⟩ | ⟨-, h⟩
    · omega
    · exact .inl ⟨k, by omega, rfl, h0, h⟩
  · intro hn
    rcases h with ⟨i, hi, e, h1, h2⟩ | ⟨e, h⟩
    · exact .inl ⟨i, by omega, e, h1, h2⟩
    · refine .inr ⟨e, fun a ha => ?_⟩
      by_cases g : a = k
      · rw [g]; exact fun z => hn ⟨z, e⟩
      · exact h a (by omega)
end Go
namespace Go.Proofs.Ytccamjnomjcchaa
open Go.RowKit
set_option maxHeartbeats 6400000 in
theorem locate_any (p : Pt) (a : Option Addr) (c : Nat) (L : List Fc) (hlen : L.length ≤ 1000) (hl : ∀ f ∈ L, f.rs.length ≤ 1000 ∧ ∀ r ∈ f.rs, r.l.length ≤ 1000) (w : World) (hr : Rd w a (fcs L)) (hok : ∀ f ∈ L, f.Ok w) :
    Calls Try.prog 24 #[p.val, .slice a L.length c] w fun e w' => LocE p (L.map Fc.rings) e ∧ Below w.heap.size w w' := by
  have HXR : Hid (∀ f ∈ L, ∀ r ∈ f.rs, ∀ W, Rd W r.p (pts r.l) → Calls Try.prog 51 #[r.val] W fun e w' => e = .returned (.bool (r.l.all okPt)) ∧ Below W.heap.size W w') := Lib.hid (fun f hf r hr W hW => xright_any r.p r.c r.l (by have := (hl f hf).2 r hr; unfold maxLen; omega) W hW); have HXP := Lib.hid (fun (b : Nat) W h => xright_any (some ⟨b, 0, none⟩) 1 [p] (by simp [maxLen]) W h); have HWN : Hid (∀ f ∈ L, ∀ r ∈ f.rs, ∀ W, Rd W r.p (pts r.l) → Calls Try.prog 50 #[r.val, p.val] W fun e w' => e = .returned (.tuple #[.int .i64 (windF r.l p), .bool (windOk r.l p)]) ∧ Below W.heap.size W w') := Lib.hid (fun f hf r hr W hW => wind_any r.p r.c r.l ((hl f hf).2 r hr) p W hW); have HRR : Hid (∀ k, (h : k < L.length) → (L.map Fc.rings)[k]! = L[k].rs.map PC.l ∧ L[k].rs.map PC.l ∈ L.map Fc.rings) := Lib.hid (fun k h => ⟨by rw [getElem!_pos _ k (by simpa using h)]; simp [Fc.rings], List.mem_map_of_mem (f := Fc.rings) (List.getElem_mem h)⟩); have HLB : Hid (∀ f ∈ L, f.rs.length ≤ 1000 ∧ ∀ r ∈ f.rs, r.l.length ≤ 1000) := Lib.hid hl; have HRLN : Hid ((L.map Fc.rings).length = L.length) := Lib.hid (by simp); have HR := Lib.hid hr; have HOK := Lib.hid hok; obtain ⟨RL, hRL⟩ : ∃ R, L.map Fc.rings = R := ⟨_, rfl⟩; rw [hRL] at HRR HRLN ⊢; obtain ⟨N, hN⟩ : ∃ N, L.length = N := ⟨_, rfl⟩; have HN := Lib.hid hN; rw [hN] at HRLN hlen ⊢; clear hr hok hl hRL hN; have HOP : Hid (∀ q : Bool, okPt p = q → [p].all okPt = q) := Lib.hid (fun q h => by simp [h]); obtain ⟨px, py⟩ := p; dsimp only [Pt.val] at HWN ⊢; obtain ⟨B, hB⟩ : ∃ B, w.heap.size = B := ⟨_, rfl⟩
  have HBQ := Lib.hid hB
  go_enter Try.func24, Try.ntmps24
  go_wp2; have kP := Blk.lit w w.heap.size [.int .i64 px, .int .i64 py] 46 rfl; have hHS := Below.new w (.cells #[.int .i64 px, .int .i64 py] 46); generalize w.alloc (.cells #[.int .i64 px, .int .i64 py] 46) = wS at *; have hs0 : w.heap.size ≤ wS.heap.size := hHS.size; rw [hB] at kP; clear hB
  go_loopw [19] (fun i W => ∃ (k : Nat), k ≤ N ∧ i = .int .i64 k ∧ Hid (Below wS.heap.size wS W)) (fun i _ => N - (intOf i).toNat)
  case atStart => exact ⟨0, by omega, rfl, Lib.hid (Below.refl _ _)⟩
  case round =>
    obtain ⟨i, hi, rfl, HBK⟩ := hrel
    by_cases hkn : i < N
    · as_aux_lemma =>
      have hkn' : (i : Int) < (N : Int) := by omega
      have hil : i < L.length := by rw [HN.out]; exact hkn
      have hbw := hHS.trans (HBK.out.mono hs0); obtain ⟨b, o, rfl, hb, c0, c1⟩ := (HR.out.keep hbw).fc i hil; have HFO := Lib.hid ((HOK.out _ (List.getElem_mem hil)).keep hbw); have HXF := Lib.hid (HXR.out _ (List.getElem_mem hil)); obtain ⟨hri, hrm⟩ := HRR.out i hil; have hpb := (HLB.out _ (List.getElem_mem hil)).1; have HBD := Lib.hid (fun (r : PC) (hr : r ∈ L[i].rs) (h : r.l.all okPt = false ∨ okPt ⟨px, py⟩ = false) => loc_bad (x := -1) hrm (ok_bad (List.mem_map_of_mem hr) (wind_bad h)) (.inl rfl)); clear HXR HOK HRR HLB HRLN HWN hri hrm hbw; generalize L[i] = P at *; obtain ⟨prs, pra, prc, pls, paa, pac⟩ := P; have hprc := HFO.out.1.2; dsimp only [Fc.rval, Fc.aval] at c0 c1 HXF HBD hprc hpb; obtain ⟨PN, hPN⟩ : ∃ n, prs.length = n := ⟨_, rfl⟩; have HPN := Lib.hid hPN; rw [hPN] at c0 hprc hpb; clear hPN; have hbA := Below.new wr (.cells #[.slice pra PN prc, .slice paa pls.length pac] 38); have hA0 := HBK.out.trans (hbA.mono HBK.out.size); have kA := heap_alloc_new wr (.cells #[.slice pra PN prc, .slice paa pls.length pac] 38); have HA0 := Lib.hid hA0; have HA1 := Lib.hid hbA; clear hA0 hbA; go_wp2; clear c0 c1
      go_loopw [26] (fun j W => ∃ (k : Nat), k ≤ PN ∧ j = .int .i64 k ∧ Hid (Below wS.heap.size wS W) ∧ Hid (Below wr.heap.size wr W)) (fun j _ => PN - (intOf j).toNat)
      case atStart => exact ⟨0, by omega, rfl, HA0, HA1⟩
      case round =>
        obtain ⟨k, hk, rfl, HBM, HBN⟩ := hrel
        by_cases hkp : k < PN
        · as_aux_lemma =>
          have hkp' : (k : Int) < (PN : Int) := by omega
          have hkl : k < prs.length := by rw [HPN.out]; exact hkp
          have HFW := Lib.hid (HFO.out.keep HBN.out); obtain ⟨b2, o2, rfl, hb2, d0⟩ := HFW.out.1.1.rc k hkl; have HPO := Lib.hid (HFW.out.2.1 _ (List.getElem_mem hkl)); have HSP := Lib.hid (HXF.out _ (List.getElem_mem hkl)); have HBD2 := Lib.hid (HBD.out _ (List.getElem_mem hkl)); have p0 := (kP.keep HBM.out).cell 0 rfl; have p1 := (kP.keep HBM.out).cell 1 rfl; have hBlt := (kP.keep HBM.out).lt; generalize prs[k] = Q at *; obtain ⟨QL, Qp, Qc⟩ := Q; dsimp only [PC.val] at d0 HSP HBD2; obtain ⟨QN, hQN⟩ : ∃ n, QL.length = n := ⟨_, rfl⟩; rw [hQN] at d0 HSP; clear hQN; obtain ⟨qb, hqb⟩ : ∃ q, QL.all okPt = q := ⟨_, rfl⟩; rw [hqb] at HSP HBD2; clear hqb HXF HBD HFO
          go_wp2_with fail
          refine (HSP.out _ HPO.out.1).mono ?_; rintro e w2 ⟨rfl, hx2⟩; have hbm2 := HBM.out.trans (hx2.mono HBM.out.size); have hbn2 := HBN.out.trans (hx2.mono HBN.out.size); have p0 := (hx2.cell (p := ⟨B, 0, none⟩) hBlt).trans p0; have p1 := (hx2.cell (p := ⟨B, 1, none⟩) hBlt).trans p1; clear hx2
          cases qb with
          | false =>
            have HG := Lib.hid (HBD2.out (.inl rfl)); go_wp2; go_ret; exact ⟨HG.out, hHS.trans (hbm2.mono hs0)⟩
          | true =>
            obtain ⟨qp, hqp⟩ : ∃ q, okPt ⟨px, py⟩ = q := ⟨_, rfl⟩; have hall := HOP.out qp hqp; have HXQ : Hid (∀ b W, Rd W (some ⟨b, 0, none⟩) (pts [⟨px, py⟩]) → Calls Try.prog 51 #[.slice (some ⟨b, 0, none⟩) 1 1] W fun e w' => e = .returned (.bool qp) ∧ Below W.heap.size W w') := Lib.hid (fun b W h => by
              have := HXP.out b W h; rw [hall] at this; exact this)
            rw [hqp] at HBD2; clear hall hqp HXP HOP
            go_wp2_with fail
            refine (HXQ.out _ _ (Rd.lit _ _ [.int .i64 px, .int .i64 py] _ rfl)).mono ?_; rintro e w3 ⟨rfl, hx3⟩; have hx4 := (Below.new w2 (.cells #[.int .i64 px, .int .i64 py] 46)).trans (hx3.mono (by simp)); have hbm3 := hbm2.trans (hx4.mono hbm2.size); have hbn3 := hbn2.trans (hx4.mono hbn2.size); clear hx3 hx4
            cases qp with
            | false =>
              have HG := Lib.hid (HBD2.out (.inr rfl)); go_wp2; go_ret; exact ⟨HG.out, hHS.trans (hbm3.mono hs0)⟩
            | true =>
              go_wp2; exact ⟨⟨k + 1, by omega, by go_num, Lib.hid hbm3, Lib.hid hbn3⟩, by simp [intOf]; omega⟩
        · obtain rfl : PN = k := by omega
          have hkp' : ¬ (PN : Int) < (PN : Int) := by omega
          go_wp2; exact ⟨⟨i + 1, by omega, by go_num, HBM⟩, by simp [intOf]; omega⟩
    · obtain rfl : N = i := by omega
      have hkn' : ¬ (N : Int) < (N : Int) := by omega
      have HBK0 := HBK; clear hkn hi HXR HXP HOP HBK
      as_aux_lemma =>
      go_wp2
      go_loopw [9, 43] (fun x i W => ∃ (k : Nat) (z : Int), k ≤ N ∧ i = .int .i64 k ∧ x = .int .i64 z ∧ Hid (firstAt ⟨px, py⟩ RL k z) ∧ Hid (∀ a, a < k → fwOk ⟨px, py⟩ RL[a]! = true) ∧ Hid (-1 ≤ z ∧ z ≤ 1000) ∧ Hid (Below wS.heap.size wS W)) (fun _ i _ => N - (intOf i).toNat)
      case atStart => exact ⟨0, -1, by omega, rfl, rfl, Lib.hid (.inr ⟨rfl, fun k h => by omega⟩), Lib.hid (fun k h => by omega), Lib.hid (by omega), HBK0⟩
      case round =>
        obtain ⟨i, z, hi, rfl, rfl, HFA, HFO2, HZB, HBK⟩ := hrel
        by_cases hkn : i < N
        · as_aux_lemma =>
          have hkn' : (i : Int) < (N : Int) := by omega
          have hil : i < L.length := by rw [HN.out]; exact hkn
          have hbw := hHS.trans (HBK.out.mono hs0); obtain ⟨b, o, rfl, hb, c0, c1⟩ := (HR.out.keep hbw).fc i hil; have HFO := Lib.hid ((HOK.out _ (List.getElem_mem hil)).keep hbw); have HXF := Lib.hid (HWN.out _ (List.getElem_mem hil)); obtain ⟨hri, hrm⟩ := HRR.out i hil; have HRI := Lib.hid hri; have hpb := HLB.out _ (List.getElem_mem hil); have HPB := Lib.hid hpb.2; have hpb := hpb.1; have HBD := Lib.hid (fun (r : PC) (hr : r ∈ L[i].rs) (h : windOk r.l ⟨px, py⟩ = false) => loc_bad (x := -2) hrm (ok_bad (List.mem_map_of_mem hr) h) (.inr rfl)); clear HOK HRR HLB HRLN HWN hri hrm hbw; generalize L[i] = P at *; obtain ⟨prs, pra, prc, pls, paa, pac⟩ := P; have hprc := HFO.out.1.2; dsimp only [Fc.rval, Fc.aval] at c0 c1 HXF HBD hprc hpb HPB HRI; obtain ⟨PN, hPN⟩ : ∃ n, prs.length = n := ⟨_, rfl⟩; have HPN := Lib.hid hPN; rw [hPN] at c0 hprc hpb; clear hPN; have hbA := Below.new wr (.cells #[.slice pra PN prc, .slice paa pls.length pac] 38); have hA0 := HBK.out.trans (hbA.mono HBK.out.size); have kA := heap_alloc_new wr (.cells #[.slice pra PN prc, .slice paa pls.length pac] 38); have HA0 := Lib.hid hA0; have HA1 := Lib.hid hbA; clear hA0 hbA; go_wp2; clear c0 c1
          go_loopw [12, 51] (fun n j W => ∃ (k : Nat) (y : Int), k ≤ PN ∧ j = .int .i64 k ∧ n = .int .i64 y ∧ Hid (fwS ⟨px, py⟩ ((prs.take k).map PC.l) = y) ∧ -((k : Int) * 1000) ≤ y ∧ y ≤ (k : Int) * 1000 ∧ Hid (fwOk ⟨px, py⟩ ((prs.take k).map PC.l) = true) ∧ Hid (Below wS.heap.size wS W) ∧ Hid (Below wr.heap.size wr W)) (fun _ j _ => PN - (intOf j).toNat)
          case atStart => exact ⟨0, 0, by omega, rfl, rfl, Lib.hid rfl, by omega, by omega, Lib.hid rfl, HA0, HA1⟩
          case round =>
            obtain ⟨k, y, hk, rfl, rfl, HY, hy1, hy2, HO, HBM, HBN⟩ := hrel
            by_cases hkp : k < PN
            · as_aux_lemma =>
              have hkp' : (k : Int) < (PN : Int) := by omega
              have hkl : k < prs.length := by rw [HPN.out]; exact hkp
              have HFW := Lib.hid (HFO.out.keep HBN.out); obtain ⟨b2, o2, rfl, hb2, d0⟩ := HFW.out.1.1.rc k hkl; have HPO := Lib.hid (HFW.out.2.1 _ (List.getElem_mem hkl)); have HSP := Lib.hid (HXF.out _ (List.getElem_mem hkl)); have HBD2 := Lib.hid (HBD.out _ (List.getElem_mem hkl)); have hql := HPB.out _ (List.getElem_mem hkl); have p0 := (kP.keep HBM.out).cell 0 rfl; have p1 := (kP.keep HBM.out).cell 1 rfl; have HTA : Hid ((prs.take (k + 1)).map PC.l = (prs.take k).map PC.l ++ [prs[k].l]) := Lib.hid (by
                rw [List.take_succ_eq_append_getElem hkl, List.map_append, List.map_singleton])
              generalize prs[k] = Q at *; obtain ⟨QL, Qp, Qc⟩ := Q; have hbd := windF_bd QL ⟨px, py⟩; dsimp only [PC.val] at d0 HSP HBD2 hql HTA; have HY2 : Hid (fwS ⟨px, py⟩ ((prs.take (k + 1)).map PC.l) = y + windF QL ⟨px, py⟩) := Lib.hid (by rw [HTA.out, fwS_snoc, HY.out]); have HO2 : Hid (windOk QL ⟨px, py⟩ = true → fwOk ⟨px, py⟩ ((prs.take (k + 1)).map PC.l) = true) := Lib.hid (fun h => by
                rw [HTA.out]; have := HO.out; unfold fwOk at this ⊢; rw [List.all_append, this]; simp [h])
              obtain ⟨QN, hQN⟩ : ∃ n, QL.length = n := ⟨_, rfl⟩; rw [hQN] at d0 HSP hql hbd; obtain ⟨qw, hqw⟩ : ∃ q, windF QL ⟨px, py⟩ = q := ⟨_, rfl⟩; rw [hqw] at HSP HY2 hbd; obtain ⟨qb, hqb⟩ : ∃ q, windOk QL ⟨px, py⟩ = q := ⟨_, rfl⟩; rw [hqb] at HSP HBD2 HO2; clear hqb hqw hQN HXF HBD HFO HY HO
              go_wp2_with fail
              refine (HSP.out _ HPO.out.1).mono ?_; rintro e w2 ⟨rfl, hx2⟩; have hbm2 := HBM.out.trans (hx2.mono HBM.out.size); have hbn2 := HBN.out.trans (hx2.mono HBN.out.size); clear hx2
              cases qb with
              | false =>
                have HG := Lib.hid (HBD2.out rfl); go_wp2; go_ret; exact ⟨HG.out, hHS.trans (hbm2.mono hs0)⟩
              | true =>
                have HO3 := Lib.hid (HO2.out rfl); go_wp2; exact ⟨⟨k + 1, y + qw, by omega, by go_num, by go_num, HY2, by omega, by omega, HO3, Lib.hid hbm2, Lib.hid hbn2⟩, by simp [intOf]; omega⟩
            · obtain rfl : PN = k := by omega
              have hkp' : ¬ (PN : Int) < (PN : Int) := by omega
              have HFF : Hid (fwOk ⟨px, py⟩ RL[i]! = true ∧ fwF ⟨px, py⟩ RL[i]! = y) := Lib.hid (by
                have h1 := HO.out; have h2 := HY.out; rw [List.take_of_length_le (by rw [HPN.out]; omega)] at h1 h2; rw [HRI.out]; refine ⟨h1, ?_⟩; unfold fwF; rw [if_pos h1]; exact h2)
              have HFO3 : Hid (∀ a, a < i + 1 → fwOk ⟨px, py⟩ RL[a]! = true) := Lib.hid (fun a ha => by
                by_cases g : a = i
                · rw [g]; exact HFF.out.1
                · exact HFO2.out a (by omega))
              have hnx := first_next HFA.out; rw [HFF.out.2] at hnx; have HNX := Lib.hid hnx; obtain ⟨z1, z2⟩ := HZB.out; clear hnx HFA HFF HO HY HFO2 HZB
              by_cases hy0 : 0 < y
              · by_cases hz : z = -1
                · subst hz; have HF := Lib.hid (HNX.out.1 hy0 rfl); have HZ : Hid (-1 ≤ (i : Int) ∧ (i : Int) ≤ 1000) := Lib.hid (by omega); go_wp2; exact ⟨⟨i + 1, i, by omega, by go_num, by go_num, HF, HFO3, HZ, HBM⟩, by simp [intOf]; omega⟩
                · have hz' : (z == -1) = false := by simpa using hz
                  have HF := Lib.hid (HNX.out.2 (fun h => hz h.2)); have HZ : Hid (-1 ≤ z ∧ z ≤ 1000) := Lib.hid ⟨z1, z2⟩; go_wp2; exact ⟨⟨i + 1, z, by omega, by go_num, by go_num, HF, HFO3, HZ, HBM⟩, by simp [intOf]; omega⟩
              · have HF := Lib.hid (HNX.out.2 (fun h => hy0 h.1)); have HZ : Hid (-1 ≤ z ∧ z ≤ 1000) := Lib.hid ⟨z1, z2⟩; go_wp2; exact ⟨⟨i + 1, z, by omega, by go_num, by go_num, HF, HFO3, HZ, HBM⟩, by simp [intOf]; omega⟩
        · obtain rfl : N = i := by omega
          have hkn' : ¬ (N : Int) < (N : Int) := by omega
          have HG := Lib.hid (loc_good HRLN.out HFO2.out HFA.out); go_wp2; refine bodyPost_ret (v := .int .i64 z) (by simp [results, Try.results24, go_sem]) rfl ⟨HG.out, hHS.trans (HBK.out.mono hs0)⟩
end Go.Proofs.Ytccamjnomjcchaa
/- graticulelaw01.Of. -/
set_option linter.unusedVariables false
set_option linter.unusedSimpArgs false
namespace Go.Proofs.Ytccamjnomjcchaa
open Go.RowKit
theorem lof_any (p : Pt) (w : World) :
    Calls Try.prog 82 #[p.val] w fun e w' => e = .returned p.val ∧ Below w.heap.size w w' := by
  obtain ⟨x, y⟩ := p; dsimp only [Pt.val]
  go_enter Try.func82, Try.ntmps82
  go_wp2; refine bodyPost_ret (v := .agg #[.int .i64 x, .int .i64 y]) (by simp [results, Try.results82, go_sem]) rfl ⟨rfl, ((Below.new _ _).alloc (by simp) _)⟩
end Go.Proofs.Ytccamjnomjcchaa
/- graticuleref01.May. -/
set_option linter.unusedVariables false
set_option linter.unusedSimpArgs false
namespace Go.Proofs.Ytccamjnomjcchaa
open Go.RowKit
theorem Try.infoRP : (Try.prog.info? 73).map (fun i => (i.zero, i.size, i.bytes)) = some (some (.agg #[.int .i64 0, .int .i64 0]), 2, 16) := by kernel_rfl

set_option maxHeartbeats 800000 in
theorem rmay_any (p : Pt) (w : World) :
    Calls Try.prog 90 #[p.val] w fun e w' => e = .returned (.bool (okPt p)) ∧ Below w.heap.size w w' := by
  obtain ⟨x, y⟩ := p; dsimp only [Pt.val]; obtain ⟨B, hB⟩ : ∃ B, okPt ⟨x, y⟩ = B := ⟨_, rfl⟩; have hC : Hid (B = (decide (-16777216 ≤ x) && decide (x ≤ 16777216) && decide (-16777216 ≤ y) && decide (y ≤ 16777216))) := by
    refine Lib.hid ?_; rw [← hB]; simp [okPt, Bool.and_assoc]
  rw [hB]; clear hB
  go_enter Try.func90, Try.ntmps90
  go_wp2
  all_goals (go_ret; refine ⟨ret_bool ?_, Below.new _ _⟩; rw [hC.out]; clear hC; first | (simp_all; done) | (simp_all; intros; omega))

end Go.Proofs.Ytccamjnomjcchaa
/- graticuleref01.All. -/
set_option linter.unusedVariables false
set_option linter.unusedSimpArgs false
namespace Go.Proofs.Ytccamjnomjcchaa
open Go.RowKit


set_option maxHeartbeats 800000 in
theorem rall_any (a : Option Addr) (c : Nat) (l : List Pt) (hl : l.length ≤ 1000000) (w : World) (hr : Rd w a (pts l)) :
    Calls Try.prog 64 #[.slice a l.length c] w fun e w' => e = .returned (.bool (l.all okPt)) ∧ Below w.heap.size w w' := by
  go_enter Try.func64, Try.ntmps64
  go_wp2
  go_loopw [3] (fun i wr => ∃ k : Nat, k ≤ l.length ∧ i = .int .i64 k ∧ (l.take k).all okPt = true ∧ Below w.heap.size w wr) (fun i _ => l.length - (intOf i).toNat)
  case atStart => exact ⟨0, Nat.zero_le _, rfl, rfl, Below.refl _ _⟩
  case round =>
    obtain ⟨k, hk, rfl, hall, hbl⟩ := hrel; have HA := Lib.hid hall; clear hall
    by_cases hlt : k < l.length
    · obtain ⟨b, off, rfl, hb, c0, c1⟩ := (hr.keep hbl).pt k hlt; have HST : Hid ((l.take (k + 1)).all okPt = okPt l[k]) := by
        refine Lib.hid ?_; rw [List.take_succ_eq_append_getElem hlt, List.all_append, HA.out]; simp
      have HNO : Hid (okPt l[k] = false → l.all okPt = false) := by
        refine Lib.hid fun h => ?_; rw [List.all_eq_false]; exact ⟨l[k], List.getElem_mem _, by simp [h]⟩
      generalize l[k] = p at *; have hm := rmay_any p wr; obtain ⟨x, y⟩ := p; dsimp only [Pt.val] at c0 c1 hm; have hs := hbl.size
      cases hp : okPt ⟨x, y⟩ with
      | true =>
        rw [hp] at hm; have HM := Lib.hid hm; have HP := Lib.hid hp; clear hm hp
        go_wp2_with fail
        refine HM.out.mono ?_; rintro e w1 ⟨rfl, hb1⟩; have hbl1 := hbl.trans (hb1.mono hs); clear hb1 hbl HM c0 c1; go_wp2; go_roundw
        case rel => exact ⟨k + 1, by omega, by go_num, HST.out.trans HP.out, hbl1⟩
        case measure => simp [intOf]; omega
      | false =>
        rw [hp] at hm; have HM := Lib.hid hm; have HP := Lib.hid hp; clear hm hp
        go_wp2_with fail
        refine HM.out.mono ?_; rintro e w1 ⟨rfl, hb1⟩; have hbl1 := hbl.trans (hb1.mono hs); clear hb1 hbl HM c0 c1; go_wp2; go_ret; exact ⟨ret_bool (HNO.out HP.out).symm, hbl1⟩
    · obtain rfl : k = l.length := by omega
      have HA := Lib.hid HA.out; rw [List.take_length] at HA; go_wp2; go_ret; exact ⟨ret_bool HA.out.symm, hbl⟩
end Go.Proofs.Ytccamjnomjcchaa
/- graticuleref01.Cross. -/
set_option linter.unusedVariables false
set_option linter.unusedSimpArgs false
set_option maxRecDepth 100000
namespace Go
def okW (p : Pt) : Prop := (-33554432 ≤ p.x ∧ p.x ≤ 33554432) ∧ -33554432 ≤ p.y ∧ p.y ≤ 33554432
theorem okW_of {p : Pt} (h : okPt p = true) : okW p := by
  rw [okPt_iff] at h; unfold okW; omega
end Go
namespace Go.Proofs.Ytccamjnomjcchaa
open Go.RowKit

set_option maxHeartbeats 1600000 in
theorem rcross_wide (a b c : Pt) (ha : okW a) (hb : okW b) (hc : okW c) (w : World) :
    Calls Try.prog 92 #[a.val, b.val, c.val] w fun e w' => e = .returned (.int .i64 (crs a b c)) ∧ Below w.heap.size w w' := by
  obtain ⟨R, hR⟩ : ∃ R, crs a b c = R := ⟨_, rfl⟩; rw [hR]; unfold okW at ha hb hc; obtain ⟨ax, ay⟩ := a; obtain ⟨bx, bY⟩ := b; obtain ⟨cx, cy⟩ := c; dsimp only [Pt.val, crs] at *; have hE : Hid (ax * bY - bx * ay + bx * cy - cx * bY + cx * ay - ax * cy = R) := Lib.hid (by rw [← hR]; grind); clear hR; have m1 := mul_bd ax bY 33554432 33554432 (by omega) (by omega) (by omega) (by omega); have m2 := mul_bd bx ay 33554432 33554432 (by omega) (by omega) (by omega) (by omega); have m3 := mul_bd bx cy 33554432 33554432 (by omega) (by omega) (by omega) (by omega); have m4 := mul_bd cx bY 33554432 33554432 (by omega) (by omega) (by omega) (by omega); have m5 := mul_bd cx ay 33554432 33554432 (by omega) (by omega) (by omega) (by omega); have m6 := mul_bd ax cy 33554432 33554432 (by omega) (by omega) (by omega) (by omega); simp only [Int.reduceMul, Int.reduceNeg] at m1 m2 m3 m4 m5 m6; clear ha hb hc; have hbl := ((Below.new w (.cells #[.int .i64 ax, .int .i64 ay] 73)).alloc (by simp) (.cells #[.int .i64 bx, .int .i64 bY] 73)).alloc (by simp; omega) (.cells #[.int .i64 cx, .int .i64 cy] 73)
  go_enter Try.func92, Try.ntmps92
  go_wp2; go_ret; exact ⟨ret_int hE.out, hbl⟩
theorem rcross_any (a b c : Pt) (ha : okPt a = true) (hb : okPt b = true) (hc : okPt c = true) (w : World) :
    Calls Try.prog 92 #[a.val, b.val, c.val] w fun e w' => e = .returned (.int .i64 (crs a b c)) ∧ Below w.heap.size w w' :=
  rcross_wide a b c (okW_of ha) (okW_of hb) (okW_of hc) w
end Go.Proofs.Ytccamjnomjcchaa
/- graticuleref01.Cross, Sign, On. -/
set_option linter.unusedVariables false
set_option linter.unusedSimpArgs false
set_option maxRecDepth 100000
namespace Go.Proofs.Ytccamjnomjcchaa
open Go.RowKit

theorem rsign_any (n : Int) (w : World) :
    Calls Try.prog 77 #[.int .i64 n] w fun e w' => e = .returned (.int .i64 (sg n)) ∧ w = w' := by
  go_enter Try.func77, Try.ntmps77
  rcases Int.lt_trichotomy n 0 with h | h | h
  · have h' : ¬ 0 < n := by omega
    go_wp2; go_ret; exact ⟨ret_int (sg_neg h).symm, rfl⟩
  · subst h; go_wp2; go_ret; exact ⟨rfl, rfl⟩
  · go_wp2; go_ret; exact ⟨ret_int (sg_pos h).symm, rfl⟩

set_option maxHeartbeats 3200000 in
theorem ron_far (a b p : Pt) (ha : okW a) (hb : okW b) (hp : okW p) (hab : a ≠ b) (w : World) :
    Calls Try.prog 91 #[a.val, b.val, p.val] w fun e w' => e = .returned (.bool (onP a b p)) ∧ Below w.heap.size w w' := by
  have hx := rcross_wide a b p ha hb hp; obtain ⟨R, hR⟩ : ∃ R, onP a b p = R := ⟨_, rfl⟩; rw [hR]; unfold onP at hR; rw [if_neg hab] at hR; unfold okW at ha hb hp; generalize crs a b p = X at *; have hne := pt_ne hab; obtain ⟨ax, ay⟩ := a; obtain ⟨bx, bY⟩ := b; obtain ⟨px, py⟩ := p; dsimp only [Pt.val] at *; have m1 := mul_bd (px - ax) (bx - ax) 67108864 67108864 (by omega) (by omega) (by omega) (by omega); have m2 := mul_bd (py - ay) (bY - ay) 67108864 67108864 (by omega) (by omega) (by omega) (by omega); have m3 := mul_bd (bx - ax) (bx - ax) 67108864 67108864 (by omega) (by omega) (by omega) (by omega); have m4 := mul_bd (bY - ay) (bY - ay) 67108864 67108864 (by omega) (by omega) (by omega) (by omega); simp only [Int.reduceMul, Int.reduceNeg] at m1 m2 m3 m4; obtain ⟨U1, hU1⟩ : ∃ U, px - ax = U := ⟨_, rfl⟩; obtain ⟨U2, hU2⟩ : ∃ U, py - ay = U := ⟨_, rfl⟩; obtain ⟨U3, hU3⟩ : ∃ U, bx - ax = U := ⟨_, rfl⟩; obtain ⟨U4, hU4⟩ : ∃ U, bY - ay = U := ⟨_, rfl⟩; have w1 : IntKind.i64.wrap (px - ax) = U1 := by rw [hU1]; exact IntWalk.i64_in _ (by omega)
  have w2 : IntKind.i64.wrap (py - ay) = U2 := by rw [hU2]; exact IntWalk.i64_in _ (by omega)
  have w3 : IntKind.i64.wrap (bx - ax) = U3 := by rw [hU3]; exact IntWalk.i64_in _ (by omega)
  have w4 : IntKind.i64.wrap (bY - ay) = U4 := by rw [hU4]; exact IntWalk.i64_in _ (by omega)
  rw [hU1, hU3] at m1; rw [hU2, hU4] at m2; rw [hU3] at m3; rw [hU4] at m4; obtain ⟨P1, hP1⟩ : ∃ U, U1 * U3 = U := ⟨_, rfl⟩; obtain ⟨P2, hP2⟩ : ∃ U, U2 * U4 = U := ⟨_, rfl⟩; obtain ⟨P3, hP3⟩ : ∃ U, U3 * U3 = U := ⟨_, rfl⟩; obtain ⟨P4, hP4⟩ : ∃ U, U4 * U4 = U := ⟨_, rfl⟩; rw [hP1] at m1; rw [hP2] at m2; rw [hP3] at m3; rw [hP4] at m4; have p1 : IntKind.i64.wrap (U1 * U3) = P1 := by rw [hP1]; exact IntWalk.i64_in _ (by omega)
  have p2 : IntKind.i64.wrap (U2 * U4) = P2 := by rw [hP2]; exact IntWalk.i64_in _ (by omega)
  have p3 : IntKind.i64.wrap (U3 * U3) = P3 := by rw [hP3]; exact IntWalk.i64_in _ (by omega)
  have p4 : IntKind.i64.wrap (U4 * U4) = P4 := by rw [hP4]; exact IntWalk.i64_in _ (by omega)
  obtain ⟨D, hD⟩ : ∃ U, P1 + P2 = U := ⟨_, rfl⟩; obtain ⟨G, hG⟩ : ∃ U, P3 + P4 = U := ⟨_, rfl⟩; have s1 : IntKind.i64.wrap (P1 + P2) = D := by rw [hD]; exact IntWalk.i64_in _ (by omega)
  have s2 : IntKind.i64.wrap (P3 + P4) = G := by rw [hG]; exact IntWalk.i64_in _ (by omega)
  have eD : dotP ⟨ax, ay⟩ ⟨bx, bY⟩ ⟨px, py⟩ = D := by
    show (px - ax) * (bx - ax) + (py - ay) * (bY - ay) = D; rw [hU1, hU2, hU3, hU4, hP1, hP2, hD]
  have eG : longP ⟨ax, ay⟩ ⟨bx, bY⟩ = G := by
    show (bx - ax) * (bx - ax) + (bY - ay) * (bY - ay) = G; rw [hU3, hU4, hP3, hP4, hG]
  rw [eD, eG] at hR; clear eD eG; clear m1 m2 m3 m4 hU1 hU2 hU3 hU4 hP1 hP2 hP3 hP4 hD hG; have HX := Lib.hid hx; have HR := Lib.hid hR; have hne' : Hid (¬ (ax = bx ∧ ay = bY)) := Lib.hid (by omega); clear hx hR hab ha hb hp hne; have k0 := ((Blk.lit w w.heap.size [.int .i64 ax, .int .i64 ay] 73 rfl).alloc (.cells #[.int .i64 bx, .int .i64 bY] 73)).alloc (.cells #[.int .i64 px, .int .i64 py] 73); have k1 := (Blk.lit (w.alloc (.cells #[.int .i64 ax, .int .i64 ay] 73)) (w.heap.size + 1) [.int .i64 bx, .int .i64 bY] 73 (by simp)).alloc (.cells #[.int .i64 px, .int .i64 py] 73); have hbl := ((Below.new w (.cells #[.int .i64 ax, .int .i64 ay] 73)).alloc (by simp) (.cells #[.int .i64 bx, .int .i64 bY] 73)).alloc (by simp; omega) (.cells #[.int .i64 px, .int .i64 py] 73); have hs := hbl.size
  go_enter Try.func91, Try.ntmps91
  by_cases hxe : ax = bx
  · have hq1 : (ax == bx) = true := by simp [hxe]
    have hq2 : (ay == bY) = false := by simpa using fun h => hne'.out ⟨hxe, h⟩
    clear hxe hne'
    go_wp2_with fail
    refine (HX.out _).mono ?_; rintro e w5 ⟨rfl, hx5⟩; have hbl5 := hbl.trans (hx5.mono hs); clear HX hx5 k0 k1 hbl; have hRR := HR.out
    by_cases hX0 : X = 0
    · subst hX0
      by_cases hD0 : 0 ≤ D
      · go_wp2; go_ret; refine ⟨ret_bool ?_, hbl5⟩; rw [← hRR]; simp [hD0]
      · have hDd : decide (0 ≤ D) = false := decide_eq_false hD0; go_wp2; go_ret; refine ⟨ret_bool ?_, hbl5⟩; rw [← hRR, hDd]; simp
    · have hX1 : (X == 0) = false := by simpa using hX0
      go_wp2; go_ret; refine ⟨ret_bool ?_, hbl5⟩; rw [← hRR]; simp [hX0]
  · have hq1 : (ax == bx) = false := by simpa using hxe
    clear hxe hne'
    go_wp2_with fail
    refine (HX.out _).mono ?_; rintro e w5 ⟨rfl, hx5⟩; have hbl5 := hbl.trans (hx5.mono hs); clear HX hx5 k0 k1 hbl; have hRR := HR.out
    by_cases hX0 : X = 0
    · subst hX0
      by_cases hD0 : 0 ≤ D
      · go_wp2; go_ret; refine ⟨ret_bool ?_, hbl5⟩; rw [← hRR]; simp [hD0]
      · have hDd : decide (0 ≤ D) = false := decide_eq_false hD0; go_wp2; go_ret; refine ⟨ret_bool ?_, hbl5⟩; rw [← hRR, hDd]; simp
    · have hX1 : (X == 0) = false := by simpa using hX0
      go_wp2; go_ret; refine ⟨ret_bool ?_, hbl5⟩; rw [← hRR]; simp [hX0]
theorem ron_same (a p : Pt) (w : World) :
    Calls Try.prog 91 #[a.val, a.val, p.val] w fun e w' => e = .returned (.bool (onP a a p)) ∧ Below w.heap.size w w' := by
  obtain ⟨R, hR⟩ : ∃ R, onP a a p = R := ⟨_, rfl⟩; rw [hR]; unfold onP at hR; rw [if_pos rfl] at hR; obtain ⟨ax, ay⟩ := a; obtain ⟨px, py⟩ := p; dsimp only [Pt.val] at *; have HR : ∀ b, decide ((⟨px, py⟩ : Pt) = ⟨ax, ay⟩) = b → b = R := fun b h => h.symm.trans hR; clear hR; have k0 := ((Blk.lit w w.heap.size [.int .i64 ax, .int .i64 ay] 73 rfl).alloc (.cells #[.int .i64 ax, .int .i64 ay] 73)).alloc (.cells #[.int .i64 px, .int .i64 py] 73); have k1 := (Blk.lit (w.alloc (.cells #[.int .i64 ax, .int .i64 ay] 73)) (w.heap.size + 1) [.int .i64 ax, .int .i64 ay] 73 (by simp)).alloc (.cells #[.int .i64 px, .int .i64 py] 73); have hbl := ((Below.new w (.cells #[.int .i64 ax, .int .i64 ay] 73)).alloc (by simp) (.cells #[.int .i64 ax, .int .i64 ay] 73)).alloc (by simp; omega) (.cells #[.int .i64 px, .int .i64 py] 73)
  go_enter Try.func91, Try.ntmps91
  have hq1 : (ax == ax) = true := by simp
  have hq2 : (ay == ay) = true := by simp
  go_wp2
  all_goals (go_ret; subst_vars; refine ⟨ret_bool (HR _ ?_), hbl⟩; simp_all)
theorem ron_wide (a b p : Pt) (ha : okW a) (hb : okW b) (hp : okW p) (w : World) :
    Calls Try.prog 91 #[a.val, b.val, p.val] w fun e w' => e = .returned (.bool (onP a b p)) ∧ Below w.heap.size w w' := by
  by_cases hab : a = b
  · subst hab; exact ron_same a p w
  · exact ron_far a b p ha hb hp hab w
theorem ron_any (a b p : Pt) (ha : okPt a = true) (hb : okPt b = true) (hp : okPt p = true) (hab : a ≠ b) (w : World) :
    Calls Try.prog 91 #[a.val, b.val, p.val] w fun e w' => e = .returned (.bool (onP a b p)) ∧ Below w.heap.size w w' :=
  ron_far a b p (okW_of ha) (okW_of hb) (okW_of hp) hab w
end Go.Proofs.Ytccamjnomjcchaa
