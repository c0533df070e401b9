/-
  cover.Valid. face.within; slices.ContainsFunc of points out of the world. face.Check, whatever table.Check answers. cover.Check. Which faces are near (plain), and the rows of rows that Near holds.
-/
import Derived.Test.YtccamjnomjcchaaPk13
import Derived.Test.YtccamjnomjcchaaPk21
import Derived.Test.YtccamjnomjcchaaPk6
import Derived.Test.YtccamjnomjcchaaPk7
import Derived.Test.YtccamjnomjcchaaPk5
import Derived.Test.YtccamjnomjcchaaPk20
import Derived.Test.YtccamjnomjcchaaPk14
/- cover.Valid. -/
set_option linter.unusedVariables false
set_option linter.unusedSimpArgs false
set_option maxRecDepth 100000
namespace Go.Proofs.Ytccamjnomjcchaa
open Go.RowKit

set_option maxHeartbeats 3200000 in
theorem valid_any (a : Option Addr) (c : Nat) (L : List Fc) (hlen : L.length ≤ 1000000) (h1 : cntR (L.map Fc.rings) ≤ 1000000) (h2 : (allEd (L.map Fc.rings)).length ≤ 1000) (h3 : cntP (L.map Fc.rings) ≤ 65536) (hl2 : ∀ f ∈ L, ∀ r ∈ f.rs, r.l.length ≤ 1000000) (hl3 : ∀ f ∈ L, f.rs.length ≤ 1000000) (hwf : ∀ f ∈ L, ∀ r ∈ f.rs, ∀ p ∈ r.l, p.Wf) (w : World) (hr : Rd w a (fcs L)) (hok : ∀ f ∈ L, f.Ok w) :
    Calls Try.prog 11 #[.slice a L.length c] w fun e w' => (∃ x, e = .returned (.int .i64 x) ∧ ValidIs (L.map Fc.rings) x) ∧ Below w.heap.size w w' := by
  have HR := Lib.hid hr; have HOK := Lib.hid hok; have HWF := Lib.hid hwf; have HL2 := Lib.hid hl2; have HL3 := Lib.hid hl3; have HEL := Lib.hid h2; have HCN := Lib.hid (fcount_any a c L hlen h1 (by omega) w hr hok); have HED := Lib.hid (fun W hW => edges_any a c L hlen h1 (by omega) hl2 W (hr.keep hW) (fun f hf => (hok f hf).keep hW)); have HEP : Hid (∀ e ∈ allEd (L.map Fc.rings), e.Wf ∧ e.n < e.m ∧ e.m ≤ 1000000 ∧ e.s.f ≤ 1000000) := Lib.hid (by
    intro e he; obtain ⟨f, hf, r, hrr, ha, hb, hn, hm, hF⟩ := ed_in he; obtain ⟨g, hg, rfl⟩ := List.mem_map.1 hf; obtain ⟨q, hq, rfl⟩ := List.mem_map.1 hrr; rw [List.length_map] at hF; exact ⟨⟨hwf g hg q hq _ ha, hwf g hg q hq _ hb⟩, hn, by rw [hm]; exact hl2 g hg q hq, by omega⟩)
  obtain ⟨N, hN⟩ : ∃ N, L.length = N := ⟨_, rfl⟩; have HN := Lib.hid hN; rw [hN] at hlen HCN HED ⊢; have HED2 : Hid (∀ W, Below w.heap.size w W → Calls Try.prog 31 #[.slice a N c] W fun e w' => ∃ v, e = .returned v ∧ w'.ownsRow W.heap.size 100 9 v (allEd (L.map Fc.rings)).length (eds (allEd (L.map Fc.rings))) ∧ Below W.heap.size W w') := HED; obtain ⟨CP, hCP⟩ : ∃ n, cntP (L.map Fc.rings) = n := ⟨_, rfl⟩; obtain ⟨CR, hCR⟩ : ∃ n, cntR (L.map Fc.rings) = n := ⟨_, rfl⟩; rw [hCP] at h3 HCN; rw [hCR] at HCN; have h3' : ¬ (65536 : Int) < (CP : Int) := by omega
  clear hr hok hwf hl2 hl3 h1 h2 hCP hCR hN HED
  go_enter Try.func11, Try.ntmps11
  go_wp2_with fail
  refine HCN.out.mono ?_; rintro e w1 ⟨rfl, hb1⟩; clear HCN; go_wp2
  go_loopw [18] (fun i wr => ∃ k : Nat, k ≤ N ∧ i = .int .i64 k ∧ Hid (rightR ((L.map Fc.rings).take k) = true) ∧ Below w.heap.size w wr) (fun i _ => N - (intOf i).toNat)
  case atStart => exact ⟨0, by omega, rfl, Lib.hid rfl, hb1⟩
  case round =>
    obtain ⟨k, hk, rfl, HA, hbl⟩ := hrel
    by_cases h1 : k < N
    · have h1' : (k : Int) < (N : Int) := by omega
      have hkl : k < L.length := by rw [HN.out]; exact h1
      obtain ⟨b, o, rfl, hb, c0, c1⟩ := (HR.out.keep hbl).fc k hkl; have hm := List.getElem_mem hkl; have HM := Lib.hid hm; have HT : Hid ((L.map Fc.rings).take (k + 1) = (L.map Fc.rings).take k ++ [L[k].rings]) := Lib.hid (by rw [List.take_succ_eq_append_getElem (by rw [List.length_map]; exact hkl)]; simp); have HCS := Lib.hid (fun W hW => containsS_any L[k].ra L[k].rc L[k].rs (HL3.out _ hm) (HL2.out _ hm) (HWF.out _ hm) W ((HOK.out _ hm).keep hW).1.1 ((HOK.out _ hm).keep hW).2.1); clear hm; generalize L[k] = P at *; obtain ⟨BB, hBB⟩ : ∃ B, P.rings.all singleF = B := ⟨_, rfl⟩; have HBB := Lib.hid hBB; have HCS2 : Hid (∀ W, Below w.heap.size w W → Calls Try.prog 28 #[P.rval, .func (.func 29) #[] #[]] W fun e w' => e = .returned (.bool (!BB)) ∧ Below W.heap.size W w') := by rw [← hBB]; exact HCS
      have e1 : P.rval.oneCell' = true := rfl; have e2 : P.aval.oneCell' = true := rfl; have hbA := hbl.alloc hbl.size (.cells #[P.rval, P.aval] 38); have kA := Blk.new wr [P.rval, P.aval] 38; have q0 := kA.cell 0 rfl; obtain ⟨prs, pra, prc, pls, paa, pac⟩ := P; dsimp only [Fc.rval, Fc.aval] at *; clear hBB HCS
      go_wp2_with fail
      refine (HCS2.out _ hbA).mono ?_; rintro e w2 ⟨rfl, hb2⟩; have hb3 := hbA.trans (hb2.mono hbA.size); clear q0 kA hbA hb2
      cases BB with
      | true =>
        have HA2 : Hid (rightR ((L.map Fc.rings).take (k + 1)) = true) := Lib.hid (by rw [HT.out]; unfold rightR; rw [List.all_append]; have := HA.out; unfold rightR at this; rw [this]; simp [HBB.out]); go_wp2; exact ⟨⟨k + 1, by omega, by go_num, HA2, hb3⟩, by simp [intOf]; omega⟩
      | false =>
        have HF : Hid (rightR (L.map Fc.rings) = false) := Lib.hid (by unfold rightR; rw [List.all_eq_false]; exact ⟨_, List.mem_map.2 ⟨_, HM.out, rfl⟩, by rw [HBB.out]; simp⟩); go_wp2; refine bodyPost_ret (v := .int .i64 9) (by simp [results, Try.results11, go_sem]) rfl ⟨⟨9, rfl, .inl ⟨HF.out, rfl⟩⟩, hb3⟩
    · have h1' : ¬ (k : Int) < (N : Int) := by omega
      have hall : (L.map Fc.rings).take k = L.map Fc.rings := List.take_of_length_le (by rw [List.length_map, HN.out]; omega); rw [hall] at HA; obtain rfl : k = N := by omega
      clear hall h1
      go_wp2_with fail
      refine (HED2.out _ hbl).mono ?_; rintro e w2 ⟨v, rfl, hO, hb2⟩; obtain ⟨ea, ec, rfl, -, -, -, hER, -⟩ := hO.form; have HER := Lib.hid hER; have hb3 := hbl.trans (hb2.mono hbl.size); obtain ⟨E, hE⟩ : ∃ E, allEd (L.map Fc.rings) = E := ⟨_, rfl⟩; have HE := Lib.hid hE; rw [hE] at HER HEL HEP ⊢; have HOKE : Hid (∀ e ∈ E, okPt e.s.a = true ∧ okPt e.s.b = true) := Lib.hid (by rw [← hE]; exact right_ed HA.out); have HMT := Lib.hid (fun W hW => meets_any ea ec E HEL.out HOKE.out (fun e he => ⟨(HEP.out e he).2.1, (HEP.out e he).2.2.1⟩) W (HER.out.keep hW)); have HTW := Lib.hid (fun W hW => twice_any ea ec E (by have := HEL.out; omega) (fun e he => (HEP.out e he).1) W (HER.out.keep hW)); have HSD := Lib.hid (fun W hW => sided_any ea ec E (by have := HEL.out; omega) (fun e he => ⟨(HOKE.out e he).1, (HOKE.out e he).2, (HEP.out e he).2.2.2⟩) W (HER.out.keep hW)); clear hO hER hb2 hE HED2 HER
      go_wp2_with fail
      refine (HMT.out _ (Below.refl _ _)).mono ?_; rintro e w3 ⟨⟨y, rfl, hy⟩, hb4⟩; have HY := Lib.hid hy; have hb5 := hb3.trans (hb4.mono hb3.size)
      by_cases hy0 : y = 0
      · have hy0' : (y != 0) = false := by simp [hy0]
        obtain ⟨T, hT⟩ : ∃ T, twiceF E = T := ⟨_, rfl⟩; have HT := Lib.hid hT; rw [hT] at HTW; have HB4 := Lib.hid hb4; clear hy hT hb4; subst hy0
        go_wp2_with fail
        refine (HTW.out _ HB4.out).mono ?_; rintro e w4 ⟨rfl, hb6⟩; have hb7 := hb5.trans (hb6.mono hb5.size); have HB7 := Lib.hid (HB4.out.trans (hb6.mono HB4.out.size))
        cases T with
        | true =>
          go_wp2; refine bodyPost_ret (v := .int .i64 8) (by simp [results, Try.results11, go_sem]) rfl ⟨⟨8, rfl, .inr ⟨HA.out, 0, by rw [HE.out]; exact HY.out, .inr ⟨rfl, .inl ⟨by rw [HE.out]; exact HT.out, rfl⟩⟩⟩⟩, hb7⟩
        | false =>
          go_wp2_with fail
          refine (HSD.out _ HB7.out).mono ?_; rintro e w5 ⟨⟨bb, rfl, hbb⟩, hb8⟩; have HBB := Lib.hid hbb; have hb9 := hb7.trans (hb8.mono hb7.size); clear hbb
          cases bb with
          | true =>
            go_wp2; refine bodyPost_ret (v := .int .i64 0) (by simp [results, Try.results11, go_sem]) rfl ⟨⟨0, rfl, .inr ⟨HA.out, 0, by rw [HE.out]; exact HY.out, .inr ⟨rfl, .inr ⟨by rw [HE.out]; exact HT.out, .inr ⟨by rw [HE.out]; exact HBB.out.1 (by trivial), rfl⟩⟩⟩⟩⟩, hb9⟩
          | false =>
            go_wp2; refine bodyPost_ret (v := .int .i64 11) (by simp [results, Try.results11, go_sem]) rfl ⟨⟨11, rfl, .inr ⟨HA.out, 0, by rw [HE.out]; exact HY.out, .inr ⟨rfl, .inr ⟨by rw [HE.out]; exact HT.out, .inl ⟨by rw [HE.out]; exact (fun h => absurd (HBB.out.2 h) (by simp)), rfl⟩⟩⟩⟩⟩, hb9⟩
      · have hy0' : (y != 0) = true := by simp [hy0]
        clear hy hb4; go_wp2; refine bodyPost_ret (v := .int .i64 y) (by simp [results, Try.results11, go_sem]) rfl ⟨⟨y, rfl, .inr ⟨HA.out, y, by rw [HE.out]; exact HY.out, .inl ⟨hy0, rfl⟩⟩⟩, hb5⟩
end Go.Proofs.Ytccamjnomjcchaa
/- face.within; slices.ContainsFunc of points out of the world. -/
set_option linter.unusedVariables false
set_option linter.unusedSimpArgs false
set_option maxRecDepth 100000
namespace Go
open Go.RowKit
def inW (p : Pt) : Bool := decide (0 ≤ p.x) && (decide (p.x ≤ 65536) && (decide (0 ≤ p.y) && decide (p.y ≤ 65536)))
end Go
namespace Go.Proofs.Ytccamjnomjcchaa
open Go.RowKit

set_option maxHeartbeats 800000 in
theorem fwithin_any (p : Pt) (w : World) :
    Calls Try.prog 69 #[p.val] w fun e w' => e = .returned (.bool (inW p)) ∧ Below w.heap.size w w' := by
  have HB : Hid (inW p = (decide (0 ≤ p.x) && (decide (p.x ≤ 65536) && (decide (0 ≤ p.y) && decide (p.y ≤ 65536))))) := Lib.hid rfl; generalize inW p = BB at *; obtain ⟨x, y⟩ := p; dsimp only [Pt.val] at *
  go_enter Try.func69, Try.ntmps69
  by_cases q1 : 0 ≤ x
  · by_cases q2 : x ≤ 65536
    · by_cases q3 : 0 ≤ y
      · by_cases q4 : y ≤ 65536
        · go_wp2; go_ret; exact ⟨by rw [HB.out]; simp [q1, q2, q3, q4], Below.new _ _⟩
        · go_wp2; go_ret; exact ⟨by rw [HB.out]; simp [q1, q2, q3, q4]; try omega, Below.new _ _⟩
      · go_wp2; go_ret; exact ⟨by rw [HB.out]; simp [q1, q2, q3]; try omega, Below.new _ _⟩
    · go_wp2; go_ret; exact ⟨by rw [HB.out]; simp [q1, q2]; try omega, Below.new _ _⟩
  · go_wp2; go_ret; exact ⟨by rw [HB.out]; simp [q1]; try omega, Below.new _ _⟩

theorem fcheck1_any (p : Pt) (w : World) :
    Calls Try.prog 68 #[p.val] w fun e w' => e = .returned (.bool (!inW p)) ∧ Below w.heap.size w w' := by
  have H := Lib.hid (fun w => fwithin_any p w); generalize inW p = BB at *; obtain ⟨x, y⟩ := p; dsimp only [Pt.val] at *; have hb0 := Below.new w (.cells #[.int .i64 x, .int .i64 y] 46)
  go_enter Try.func68, Try.ntmps68
  go_wp2_with fail
  refine (H.out _).mono ?_; rintro e w1 ⟨rfl, hb1⟩; have hb2 := hb0.trans (hb1.mono hb0.size)
  cases BB with
  | true =>
    go_wp2; go_ret; exact ⟨rfl, hb2⟩
  | false =>
    go_wp2; go_ret; exact ⟨rfl, hb2⟩

set_option maxHeartbeats 1600000 in
theorem indexW_any (a : Option Addr) (c : Nat) (L : List Pt) (hlen : L.length ≤ 1000000) (w : World) (hr : Rd w a (pts L)) :
    Calls Try.prog 94 #[.slice a L.length c, .func (.func 68) #[] #[]] w fun e w' => ∃ z : Int, e = .returned (.int .i64 z) ∧ Hid (0 ≤ z ↔ L.all inW = false) ∧ Below w.heap.size w w' := by
  have HR := Lib.hid hr; have HC := Lib.hid (fun p w => fcheck1_any p w); obtain ⟨N, hN⟩ : ∃ N, L.length = N := ⟨_, rfl⟩; have HN := Lib.hid hN; rw [hN] at hlen ⊢; obtain ⟨AB, hAB⟩ : ∃ B, L.all inW = B := ⟨_, rfl⟩; have HAB := Lib.hid hAB; rw [hAB]; clear hr hN hAB
  go_enter Try.func94, Try.ntmps94
  go_wp2
  go_loopw [8] (fun i wr => ∃ k : Nat, k ≤ N ∧ i = .int .i64 k ∧ Hid ((L.take k).all inW = true) ∧ Below w.heap.size w wr) (fun i _ => N - (intOf i).toNat)
  case atStart => exact ⟨0, by omega, rfl, Lib.hid rfl, Below.refl _ _⟩
  case round =>
    obtain ⟨k, hk, rfl, HA, hbl⟩ := hrel
    by_cases h1 : k < N
    · have h1' : (k : Int) < (N : Int) := by omega
      have hkl : k < L.length := by rw [HN.out]; exact h1
      obtain ⟨b, o, rfl, hb, c0, c1⟩ := (HR.out.keep hbl).pt k hkl; have HM := Lib.hid (List.getElem_mem hkl); have HT : Hid (L.take (k + 1) = L.take k ++ [L[k]]) := Lib.hid (List.take_succ_eq_append_getElem hkl); generalize L[k] = P at *; have HCP := Lib.hid (fun w => HC.out P w); obtain ⟨BB, hBB⟩ : ∃ B, inW P = B := ⟨_, rfl⟩; rw [hBB] at HCP; have HBB := Lib.hid hBB; clear hBB HC; obtain ⟨x, y⟩ := P; dsimp only [Pt.val] at c0 c1 HCP
      go_wp2_with fail
      refine (HCP.out _).mono ?_; rintro e w1 ⟨rfl, hb1⟩; have hb2 := hbl.trans (hb1.mono hbl.size)
      cases BB with
      | true =>
        have HA2 : Hid ((L.take (k + 1)).all inW = true) := Lib.hid (by rw [HT.out, List.all_append, HA.out]; simp [HBB.out]); go_wp2; exact ⟨⟨k + 1, by omega, by go_num, HA2, hb2⟩, by simp [intOf]; omega⟩
      | false =>
        have HF : Hid (AB = false) := Lib.hid (by rw [← HAB.out, List.all_eq_false]; exact ⟨_, HM.out, by rw [HBB.out]; simp⟩); go_wp2; go_ret; exact ⟨k, rfl, Lib.hid ⟨fun _ => HF.out, fun _ => by omega⟩, hb2⟩
    · have h1' : ¬ (k : Int) < (N : Int) := by omega
      have hall : L.take k = L := List.take_of_length_le (by rw [HN.out]; omega); have HAT : Hid (AB = true) := Lib.hid (by rw [← HAB.out, ← hall]; exact HA.out); clear hall; go_wp2; go_ret; exact ⟨-1, rfl, Lib.hid ⟨fun h => by omega, fun h => by rw [HAT.out] at h; cases h⟩, hbl⟩

set_option maxHeartbeats 800000 in
theorem containsW_any (a : Option Addr) (c : Nat) (L : List Pt) (hlen : L.length ≤ 1000000) (w : World) (hr : Rd w a (pts L)) :
    Calls Try.prog 67 #[.slice a L.length c, .func (.func 68) #[] #[]] w fun e w' => e = .returned (.bool (!L.all inW)) ∧ Below w.heap.size w w' := by
  have H := Lib.hid (indexW_any a c L hlen w hr); generalize L.all inW = BB at *; generalize L.length = N at *; clear hr
  go_enter Try.func67, Try.ntmps67
  go_wp2_with fail
  refine H.out.mono ?_; rintro e w1 ⟨z, rfl, HZ, hb⟩
  by_cases q : 0 ≤ z
  · go_wp2; go_ret; exact ⟨by rw [HZ.out.1 q]; simp [q], hb⟩
  · have e1 : BB = true := by
      cases BB with
      | true => rfl
      | false => exact absurd (HZ.out.2 rfl) q
    have HE := Lib.hid e1; clear e1; go_wp2; go_ret; exact ⟨by rw [HE.out]; simp; try omega, hb⟩
end Go.Proofs.Ytccamjnomjcchaa
/- face.Check, whatever table.Check answers. -/
set_option linter.unusedVariables false
set_option linter.unusedSimpArgs false
set_option maxRecDepth 100000
namespace Go
open Go.RowKit
def rIn (rs : List (List Pt)) : Bool := rs.all fun r => r.all inW
def tcs (tc : List At → Int) : List (List At) → Int
  | [] => 0
  | a :: l => if tc a = 0 then tcs tc l else tc a
def chkF (tc : List At → Int) (n : Nat) (rs : List (List (List Pt))) (ls : List (List At)) : Int :=
  if 32 < n ∨ 64 < cntR rs ∨ 512 < cntP rs then 6 else if rs.all rIn = false then 5 else tcs tc ls
end Go
namespace Go.Proofs.Ytccamjnomjcchaa
open Go.RowKit

set_option maxHeartbeats 6400000 in
theorem fcheck_any (tc : List At → Int) (a : Option Addr) (c : Nat) (L : List Fc) (hlen : L.length ≤ 1000000) (h1 : cntR (L.map Fc.rings) ≤ 1000000) (h2 : cntP (L.map Fc.rings) ≤ 1000000) (hl : ∀ f ∈ L, ∀ r ∈ f.rs, r.l.length ≤ 1000000) (w : World) (hr : Rd w a (fcs L)) (hok : ∀ f ∈ L, f.Ok w)
    (htc : ∀ f ∈ L, ∀ W, Rd W f.aa (ats f.ls) → Calls Try.prog 70 #[f.aval] W fun e w' => e = .returned (.int .i64 (tc f.ls)) ∧ Below W.heap.size W w') :
    Calls Try.prog 40 #[.slice a L.length c] w fun e w' => e = .returned (.int .i64 (chkF tc L.length (L.map Fc.rings) (L.map Fc.ls))) ∧ Below w.heap.size w w' := by
  have HR := Lib.hid hr; have HOK := Lib.hid hok; have HTC := Lib.hid htc; have HLL := Lib.hid hl; have HCN := Lib.hid (fcount_any a c L hlen h1 h2 w hr hok); have HCH : Hid (chkF tc L.length (L.map Fc.rings) (L.map Fc.ls) = if 32 < L.length ∨ 64 < cntR (L.map Fc.rings) ∨ 512 < cntP (L.map Fc.rings) then 6 else if (L.map Fc.rings).all rIn = false then 5 else tcs tc (L.map Fc.ls)) := Lib.hid rfl; generalize chkF tc L.length (L.map Fc.rings) (L.map Fc.ls) = CH at *; obtain ⟨RL, hRL⟩ : ∃ R, L.map Fc.rings = R := ⟨_, rfl⟩; have HRL := Lib.hid hRL; rw [hRL] at HCN HCH h1 h2; have hRn : RL.length = L.length := by rw [← hRL, List.length_map]
  obtain ⟨CR, hCR⟩ : ∃ z, cntR RL = z := ⟨_, rfl⟩; obtain ⟨CP, hCP⟩ : ∃ z, cntP RL = z := ⟨_, rfl⟩; rw [hCR, hCP] at HCN HCH; rw [hCR] at h1; rw [hCP] at h2; have HTS : Hid (tcs tc (L.map Fc.ls) = tcs tc ((L.drop 0).map Fc.ls)) := Lib.hid rfl; generalize tcs tc (L.map Fc.ls) = TS at *; obtain ⟨N, hN⟩ : ∃ N, L.length = N := ⟨_, rfl⟩; have HN := Lib.hid hN; rw [hN] at hlen hRn HCN HCH ⊢; clear hr hok hRL hN hl htc hCR hCP
  go_enter Try.func40, Try.ntmps40
  go_wp2_with fail
  refine HCN.out.mono ?_; rintro e w1 ⟨rfl, hb1⟩; clear HCN
  by_cases q1 : 32 < N
  · have q1' : (32 : Int) < (N : Int) := by omega
    have HV : Hid (CH = 6) := Lib.hid (by rw [HCH.out, if_pos (.inl q1)]); go_wp2; go_ret; exact ⟨ret_int HV.out.symm, hb1⟩
  by_cases q2 : 64 < CR
  · have q1' : ¬ (32 : Int) < (N : Int) := by omega
    have q2' : (64 : Int) < (CR : Int) := by omega
    have HV : Hid (CH = 6) := Lib.hid (by rw [HCH.out, if_pos (.inr (.inl q2))]); go_wp2; go_ret; exact ⟨ret_int HV.out.symm, hb1⟩
  by_cases q3 : 512 < CP
  · have q1' : ¬ (32 : Int) < (N : Int) := by omega
    have q2' : ¬ (64 : Int) < (CR : Int) := by omega
    have q3' : (512 : Int) < (CP : Int) := by omega
    have HV : Hid (CH = 6) := Lib.hid (by rw [HCH.out, if_pos (.inr (.inr q3))]); go_wp2; go_ret; exact ⟨ret_int HV.out.symm, hb1⟩
  have q1' : ¬ (32 : Int) < (N : Int) := by omega
  have q2' : ¬ (64 : Int) < (CR : Int) := by omega
  have q3' : ¬ (512 : Int) < (CP : Int) := by omega
  replace HCH : Hid (CH = if RL.all rIn = false then 5 else TS) := Lib.hid (by rw [HCH.out, if_neg (by omega)]); go_wp2
  go_loopw [30] (fun i wr => ∃ k : Nat, i = .int .i64 k ∧ k ≤ N ∧ Hid ((RL.take k).all rIn = true) ∧ Below w.heap.size w wr) (fun i _ => N - (intOf i).toNat)
  case atStart => exact ⟨0, rfl, Nat.zero_le _, Lib.hid rfl, hb1⟩
  case round =>
    obtain ⟨i, rfl, hi, HX, hbl⟩ := hrel
    by_cases hlt : i < N
    · as_aux_lemma =>
        have hlt' : (i : Int) < (N : Int) := by omega
        have hil : i < L.length := by rw [HN.out]; exact hlt
        have hiR : i < RL.length := by omega
        obtain ⟨b1, o1, rfl, hbb, c0, c1⟩ := (HR.out.keep hbl).fc i hil; have HRI : Hid (RL[i] = L[i].rs.map PC.l) := Lib.hid (by simp only [← HRL.out, List.getElem_map, Fc.rings]); have HFO := Lib.hid (HOK.out _ (List.getElem_mem hil)); have HF2 := Lib.hid (HLL.out _ (List.getElem_mem hil)); have HSR : Hid (RL.take (i + 1) = RL.take i ++ [RL[i]]) := Lib.hid (List.take_succ_eq_append_getElem hiR); have HMR := Lib.hid (List.getElem_mem hiR); generalize L[i] = f at *; generalize RL[i] = FR at *; obtain ⟨rs, ra, rc, ls, aa, ac⟩ := f; dsimp only [Fc.rval, Fc.aval] at c0 c1 HRI HF2; obtain ⟨RN, hRN⟩ : ∃ R, rs.length = R := ⟨_, rfl⟩; have HRN := Lib.hid hRN; have hFR : FR.length = RN := by rw [HRI.out, List.length_map, HRN.out]
        rw [hRN] at c0; have hrb := HFO.out.1.2; dsimp only at hrb; rw [hRN] at hrb; unfold maxLen at hrb; clear hRN; have hbA := Below.new wr (.cells #[.slice ra RN rc, .slice aa ls.length ac] 38); have hA0 := hbl.trans (hbA.mono hbl.size); go_wp2; clear c0 c1 hbA
        go_loopw [37] (fun i wr2 => ∃ j : Nat, i = .int .i64 j ∧ j ≤ RN ∧ Hid (rIn (FR.take j) = true) ∧ Below w.heap.size w wr2) (fun i _ => RN - (intOf i).toNat)
        case atStart => exact ⟨0, rfl, Nat.zero_le _, Lib.hid rfl, hA0⟩
        case round =>
          obtain ⟨j, rfl, hj, HZ, hb2⟩ := hrel
          by_cases hjt : j < RN
          · as_aux_lemma =>
              have hjt' : (j : Int) < (RN : Int) := by omega
              have hjl : j < rs.length := by rw [HRN.out]; exact hjt
              have hjF : j < FR.length := by omega
              obtain ⟨b3, o3, rfl, hbb3, d0⟩ := (HFO.out.1.1.keep hb2).rc j hjl; have HRO := Lib.hid ((HFO.out.2.1 _ (List.getElem_mem hjl)).keep hb2); have hl2 := HF2.out _ (List.getElem_mem hjl); have HFJ : Hid (FR[j] = rs[j].l) := Lib.hid (by simp only [HRI.out, List.getElem_map]); have HTJ : Hid (FR.take (j + 1) = FR.take j ++ [rs[j].l]) := Lib.hid (by rw [← HFJ.out]; exact List.take_succ_eq_append_getElem hjF); have HMJ : Hid (rs[j].l ∈ FR) := Lib.hid (by rw [← HFJ.out]; exact List.getElem_mem hjF); clear HFJ; generalize rs[j] = R at *; obtain ⟨LL, Rp, Rc⟩ := R; dsimp only [PC.val] at d0 hl2 HTJ HMJ; have HCW := Lib.hid (fun W h => containsW_any Rp Rc LL hl2 W h); obtain ⟨AB, hAB⟩ : ∃ B, LL.all inW = B := ⟨_, rfl⟩; have HAB := Lib.hid hAB; rw [hAB] at HCW; clear hAB
              go_wp2_with fail
              refine (HCW.out _ HRO.out.1).mono ?_; rintro e w3 ⟨rfl, hb3⟩; have hb4 := hb2.trans (hb3.mono hb2.size)
              cases AB with
              | true =>
                have HZ2 : Hid (rIn (FR.take (j + 1)) = true) := Lib.hid (by
                  have := HZ.out; unfold rIn at *; rw [HTJ.out, List.all_append, this]; simp only [List.all_cons, List.all_nil, HAB.out, Bool.and_self])
                go_wp2; exact ⟨⟨j + 1, by go_num, by omega, HZ2, hb4⟩, by simp [intOf]; omega⟩
              | false =>
                have HV : Hid (CH = 5) := Lib.hid (by
                  have e1 : rIn FR = false := by unfold rIn; rw [List.all_eq_false]; exact ⟨_, HMJ.out, by rw [HAB.out]; simp⟩
                  have e2 : RL.all rIn = false := by rw [List.all_eq_false]; exact ⟨_, HMR.out, by rw [e1]; simp⟩
                  rw [HCH.out, if_pos e2])
                go_wp2; go_ret; exact ⟨ret_int HV.out.symm, hb4⟩
          · have hjt' : ¬ (j : Int) < (RN : Int) := by omega
            have hft : FR.take j = FR := List.take_of_length_le (by omega); have HX2 : Hid ((RL.take (i + 1)).all rIn = true) := Lib.hid (by
              have e1 := HZ.out; rw [hft] at e1; rw [HSR.out, List.all_append, HX.out]; simp only [List.all_cons, List.all_nil, e1, Bool.and_self])
            clear hft; go_wp2; exact ⟨⟨i + 1, by go_num, by omega, HX2, hb2⟩, by simp [intOf]; omega⟩
    · as_aux_lemma =>
        have hlt' : ¬ (i : Int) < (N : Int) := by omega
        have hall : RL.take i = RL := List.take_of_length_le (by omega); have HCT : Hid (CH = TS) := Lib.hid (by
          have e1 := HX.out; rw [hall] at e1; rw [HCH.out, e1]; rfl)
        clear hall HX HCH; go_wp2
        go_loopw [47] (fun i wr => ∃ k : Nat, i = .int .i64 k ∧ k ≤ N ∧ Hid (TS = tcs tc ((L.drop k).map Fc.ls)) ∧ Below w.heap.size w wr) (fun i _ => N - (intOf i).toNat)
        case atStart => exact ⟨0, rfl, Nat.zero_le _, HTS, hbl⟩
        case round =>
          obtain ⟨k, rfl, hk, HX, hbl2⟩ := hrel
          by_cases hkt : k < N
          · as_aux_lemma =>
              have hkt' : (k : Int) < (N : Int) := by omega
              have hkl : k < L.length := by rw [HN.out]; exact hkt
              obtain ⟨b1, o1, rfl, hbb, c0, c1⟩ := (HR.out.keep hbl2).fc k hkl; have HFO := Lib.hid (HOK.out _ (List.getElem_mem hkl)); have HTK := Lib.hid (fun W h => HTC.out (L[k]'hkl) (List.getElem_mem hkl) W h); have HX2 : Hid (TS = if tc L[k].ls = 0 then tcs tc ((L.drop (k + 1)).map Fc.ls) else tc L[k].ls) := Lib.hid (by
                rw [HX.out, List.drop_eq_getElem_cons hkl]; rfl)
              generalize L[k] = f at *; obtain ⟨rs, ra, rc, ls, aa, ac⟩ := f; dsimp only [Fc.rval, Fc.aval] at c0 c1 HTK HX2; obtain ⟨TK, hTK⟩ : ∃ z, tc ls = z := ⟨_, rfl⟩; rw [hTK] at HTK HX2; clear hTK HX; have hbA := Below.new wr (.cells #[.slice ra rs.length rc, .slice aa ls.length ac] 38); have hA0 := hbl2.trans (hbA.mono hbl2.size)
              go_wp2_with fail
              refine (HTK.out _ (HFO.out.2.2.1.keep hA0)).mono ?_; rintro e w3 ⟨rfl, hb3⟩; have hb4 := hA0.trans (hb3.mono hA0.size)
              by_cases z : TK = 0
              · have HX3 : Hid (TS = tcs tc ((L.drop (k + 1)).map Fc.ls)) := Lib.hid (by rw [HX2.out, if_pos z]); go_wp2; exact ⟨⟨k + 1, by go_num, by omega, HX3, hb4⟩, by simp [intOf]; omega⟩
              · have HV : Hid (CH = TK) := Lib.hid (by rw [HCT.out, HX2.out, if_neg z]); go_wp2; go_ret; exact ⟨ret_int HV.out.symm, hb4⟩
          · have hkt' : ¬ (k : Int) < (N : Int) := by omega
            have hd : L.drop k = [] := List.drop_of_length_le (by rw [HN.out]; omega); have HV : Hid (CH = 0) := Lib.hid (by rw [HCT.out, HX.out, hd]; rfl); clear hd; go_wp2; go_ret; exact ⟨ret_int HV.out.symm, hbl2⟩
end Go.Proofs.Ytccamjnomjcchaa
/- cover.Check. -/
set_option linter.unusedVariables false
set_option linter.unusedSimpArgs false
set_option maxRecDepth 100000
namespace Go
open Go.RowKit
theorem allEd_len (F : List (List (List Pt))) : (allEd F).length = cntP F := by
  have h1 : ∀ i g f n, n ≤ f.length → (faceEd i g f n).length = lenS (f.take n) := by
    intro i g f n hn
    induction n with
    | zero => rfl
    | succ n ih =>
      rw [faceEd_succ, List.length_append, ih (by omega), List.take_succ_eq_append_getElem (by omega), lenS_append]; simp [ringEd, lenS, getElem!_pos f n (by omega)]
  have h2 : ∀ n, n ≤ F.length → (someEd F n).length = cntP (F.take n) := by
    intro n hn
    induction n with
    | zero => rfl
    | succ n ih =>
      rw [someEd_succ, List.length_append, ih (by omega), h1 _ _ _ _ (Nat.le_refl _), List.take_length, List.take_succ_eq_append_getElem (by omega), cntP_append]; simp [cntP, getElem!_pos F n (by omega)]
  unfold allEd; rw [h2 _ (Nat.le_refl _), List.take_length]
def CheckIs (tc : List At → Int) (n : Nat) (F : List (List (List Pt))) (ls : List (List At)) (x : Int) : Prop := (chkF tc n F ls ≠ 0 ∧ x = chkF tc n F ls) ∨ (chkF tc n F ls = 0 ∧ ValidIs F x)
theorem chk_small {tc : List At → Int} {n : Nat} {F : List (List (List Pt))} {ls : List (List At)} (h : chkF tc n F ls = 0) : n ≤ 32 ∧ cntR F ≤ 64 ∧ cntP F ≤ 512 ∧ F.all rIn = true := by
  unfold chkF at h
  split at h
  · cases h
  · split at h
    · cases h
    · refine ⟨by omega, by omega, by omega, ?_⟩
      cases hb : F.all rIn
      · contradiction
      · rfl
theorem inW_wf {p : Pt} (h : inW p = true) : p.Wf := by
  unfold inW at h; simp only [Bool.and_eq_true, decide_eq_true_eq] at h; exact ⟨WalkArith.wf_i64 (by omega), WalkArith.wf_i64 (by omega)⟩
end Go
namespace Go.Proofs.Ytccamjnomjcchaa
open Go.RowKit

set_option maxHeartbeats 1600000 in
theorem ccheck_any (tc : List At → Int) (a : Option Addr) (c : Nat) (L : List Fc) (hlen : L.length ≤ 1000000) (h1 : cntR (L.map Fc.rings) ≤ 1000000) (h3 : cntP (L.map Fc.rings) ≤ 1000000) (hl2 : ∀ f ∈ L, ∀ r ∈ f.rs, r.l.length ≤ 1000000) (hl3 : ∀ f ∈ L, f.rs.length ≤ 1000000) (w : World) (hr : Rd w a (fcs L)) (hok : ∀ f ∈ L, f.Ok w)
    (htc : ∀ f ∈ L, ∀ W, Rd W f.aa (ats f.ls) → Calls Try.prog 70 #[f.aval] W fun e w' => e = .returned (.int .i64 (tc f.ls)) ∧ Below W.heap.size W w') :
    Calls Try.prog 13 #[.slice a L.length c] w fun e w' => (∃ x, e = .returned (.int .i64 x) ∧ CheckIs tc L.length (L.map Fc.rings) (L.map Fc.ls) x) ∧ Below w.heap.size w w' := by
  have HF := Lib.hid (fcheck_any tc a c L hlen h1 h3 hl2 w hr hok htc); have HV : Hid (chkF tc L.length (L.map Fc.rings) (L.map Fc.ls) = 0 → ∀ W, Below w.heap.size w W → Calls Try.prog 11 #[.slice a L.length c] W fun e w' => (∃ x, e = .returned (.int .i64 x) ∧ ValidIs (L.map Fc.rings) x) ∧ Below W.heap.size W w') := Lib.hid fun h W hW => by
    obtain ⟨k1, k2, k3, k4⟩ := chk_small h; refine valid_any a c L hlen h1 (by rw [allEd_len]; omega) (by omega) hl2 hl3 (fun f hf r hrr p hp => ?_) W (hr.keep hW) (fun f hf => (hok f hf).keep hW); have := List.all_eq_true.1 k4 f.rings (List.mem_map.2 ⟨f, hf, rfl⟩); unfold rIn at this; exact inW_wf (List.all_eq_true.1 (List.all_eq_true.1 this r.l (List.mem_map.2 ⟨r, hrr, rfl⟩)) p hp)
  obtain ⟨C, hC⟩ : ∃ C, chkF tc L.length (L.map Fc.rings) (L.map Fc.ls) = C := ⟨_, rfl⟩; have HC := Lib.hid hC; rw [hC] at HF HV; generalize L.length = N at *; clear hr hok htc hC h1 h3 hl2 hl3
  go_enter Try.func13, Try.ntmps13
  go_wp2_with fail
  refine HF.out.mono ?_; rintro e w1 ⟨rfl, hb1⟩
  by_cases hc : C = 0
  · have hc' : (C != 0) = false := by simp [hc]
    have HVV := Lib.hid (HV.out hc w1 hb1); have HC2 := Lib.hid hc; clear HV hc
    go_wp2_with fail
    refine HVV.out.mono ?_; rintro e w2 ⟨⟨x, rfl, hx⟩, hb2⟩; have hb3 := hb1.trans (hb2.mono hb1.size); have HX := Lib.hid hx; clear hx; go_wp2; refine bodyPost_ret (v := .int .i64 x) (by simp [results, Try.results13, go_sem]) rfl ⟨⟨x, rfl, .inr ⟨HC.out.trans HC2.out, HX.out⟩⟩, hb3⟩
  · have hc' : (C != 0) = true := by simp [hc]
    clear HV; go_wp2; refine bodyPost_ret (v := .int .i64 C) (by simp [results, Try.results13, go_sem]) rfl ⟨⟨C, rfl, .inl ⟨by rw [HC.out]; exact hc, HC.out.symm⟩⟩, hb1⟩
end Go.Proofs.Ytccamjnomjcchaa
/- Which faces are near (plain), and the rows of rows that Near holds. -/
set_option linter.unusedVariables false
set_option linter.unusedSimpArgs false
namespace Go
open Go.RowKit
def waysF (S : List Sd) (k : Pt × Pt) : List Int := (S.filter fun t => decide ((t.a, t.b) = k)).map fun t => (t.f : Int)
def nearOne (S : List Sd) (s : Sd) : List Int :=
  let l := (waysF S (s.b, s.a)).filter fun f => decide (f ≠ (s.f : Int))
  if l = [] then [-1] else l
def nearG (S pre : List Sd) (i : Nat) : List Int := (pre.filter fun s => decide (s.f = i)).flatMap (nearOne S)
theorem waysF_snoc (S : List Sd) (s : Sd) : waysF (S ++ [s]) = gput (waysF S) (s.a, s.b) (waysF S (s.a, s.b) ++ [(s.f : Int)]) := by
  funext k
  by_cases h : k = (s.a, s.b)
  · subst h; rw [gput_same]; simp [waysF, List.filter_append]
  · rw [gput_other _ _ h]; have h2 : ¬ (s.a, s.b) = k := fun e => h e.symm; simp only [waysF, List.filter_append, List.map_append]; simp [h2]
theorem waysF_len (S : List Sd) (k : Pt × Pt) : (waysF S k).length ≤ S.length := by
  unfold waysF; rw [List.length_map]; exact List.length_filter_le _ _
theorem nearG_snoc (S pre : List Sd) (s : Sd) : nearG S (pre ++ [s]) = gput (nearG S pre) s.f (nearG S pre s.f ++ nearOne S s) := by
  funext i
  by_cases h : i = s.f
  · subst h; rw [gput_same]; simp [nearG, List.filter_append]
  · rw [gput_other _ _ h]; have h2 : ¬ s.f = i := fun e => h e.symm; simp [nearG, List.filter_append, h2]
theorem gput_self {α β : Type} (G : α → List β) (a : α) : gput G a (G a) = G := by
  funext x
  by_cases h : x = a
  · subst h; rw [gput_same]
  · rw [gput_other _ _ h]
theorem gput_gput {α β : Type} (G : α → List β) (a : α) (l m : List β) : gput (gput G a l) a m = gput G a m := by
  funext x
  by_cases h : x = a
  · subst h; rw [gput_same, gput_same]
  · rw [gput_other _ _ h, gput_other _ _ h, gput_other _ _ h]
def nearM (S : List Sd) (s : Sd) (j : Nat) : List Int := ((waysF S (s.b, s.a)).take j).filter fun f => decide (f ≠ (s.f : Int))
theorem nearM_zero (S : List Sd) (s : Sd) : nearM S s 0 = [] := rfl
theorem nearM_step {S : List Sd} {s : Sd} {j : Nat} {f : Int} (h : (waysF S (s.b, s.a))[j]? = some f) : nearM S s (j + 1) = nearM S s j ++ if f = (s.f : Int) then [] else [f] := by
  obtain ⟨hj, rfl⟩ := List.getElem?_eq_some_iff.1 h; unfold nearM; rw [List.take_succ_eq_append_getElem hj, List.filter_append]
  congr 1
  by_cases e : (waysF S (s.b, s.a))[j] = (s.f : Int)
  · simp [e]
  · simp [e]
theorem nearM_end (S : List Sd) (s : Sd) : nearOne S s = if nearM S s (waysF S (s.b, s.a)).length = [] then [-1] else nearM S s (waysF S (s.b, s.a)).length := by
  unfold nearM nearOne; rw [List.take_length]
theorem nearM_len (S : List Sd) (s : Sd) (j : Nat) : (nearM S s j).length ≤ S.length := by
  unfold nearM; refine Nat.le_trans (List.length_filter_le _ _) ?_; rw [List.length_take]; have := waysF_len S (s.b, s.a); omega
theorem nearOne_len (S : List Sd) (s : Sd) : (nearOne S s).length ≤ S.length + 1 := by
  rw [nearM_end]
  split
  · simp
  · have := nearM_len S s (waysF S (s.b, s.a)).length; omega
theorem nearG_len (S pre : List Sd) (i : Nat) : (nearG S pre i).length ≤ pre.length * (S.length + 1) := by
  unfold nearG
  induction pre with
  | nil => simp
  | cons s pre ih =>
    have h1 : (List.filter (fun s => decide (s.f = i)) pre).length ≤ pre.length := List.length_filter_le _ _; simp only [List.filter_cons, List.length_cons]; rw [Nat.add_mul, Nat.one_mul]
    split
    · rw [List.flatMap_cons, List.length_append]; have := nearOne_len S s; omega
    · omega
def NRows (W : World) (b base N : Nat) (vals : List Value) (G : Nat → List Int) (T : TypeId) : Prop :=
  vals.length = N ∧ Blk W b vals ∧ GRows T 1 iCell W base (fun i => vals[i]?) G
theorem NRows.keep {W W' : World} {b base N : Nat} {vals : List Value} {G : Nat → List Int} {T : TypeId} (h : NRows W b base N vals G T) (hb : Below W.heap.size W W') : NRows W' b base N vals G T :=
  ⟨h.1, h.2.1.keep hb, h.2.2.keep hb⟩
theorem made_slices (n : Nat) : (madeCells (Value.slice none 0 0).cells (n * 1)).toList = List.replicate n (.slice none 0 0) := by
  rw [show (Value.slice none 0 0).cells = #[.slice none 0 0] from rfl, madeCells, Array.toList_map, Array.toList_range, Nat.mul_one]; refine List.ext_getElem (by simp) fun i h1 h2 => ?_; simp [Nat.mod_one]
theorem NRows.madeG (w : World) (base N : Nat) (T : TypeId) : GRows T 1 iCell w base (fun i : Nat => (List.replicate N (Value.slice none 0 0))[i]?) (fun _ => []) := by
  have hr : ∀ (a : Nat) (v : Value), (List.replicate N (Value.slice none 0 0))[a]? = some v → v = .slice none 0 0 := fun a v hv => by
    rw [List.getElem?_replicate] at hv
    split at hv
    · cases hv; rfl
    · cases hv
  refine ⟨fun a h => rfl, fun a v hv => ?_, fun a a' v v' hne hv hv' => ?_⟩
  · rw [hr a v hv]; exact World.ownsRow_nil _ _ _ _
  · rw [hr a v hv]; intro k hk; cases hk
theorem set_fput (vals : List Value) (i : Nat) (v : Value) (hi : i < vals.length) : (fun j => (vals.set i v)[j]?) = fput (fun j => vals[j]?) i v := by
  funext j
  by_cases h : j = i
  · subst h; rw [fput_same]; simp [hi]
  · rw [fput_other _ _ h, List.getElem?_set_ne (fun e => h e.symm)]
theorem NRows.step {W W1 W2 : World} {b base N : Nat} {vals : List Value} {G : Nat → List Int} {T : TypeId} (h : NRows W b base N vals G T) (hbb : b < base) (i : Nat) (hi : i < N) {v v' : Value} (hv : vals[i]? = some v) {x : List Int} (hg : W.grownBy W1 v.ownBlock)
    (hown : W1.ownsRow base T 1 v' (G i ++ x).length ((G i ++ x).flatMap iCell)) (hat : v'.ownBlock = v.ownBlock ∨ ∃ n, v'.ownBlock = some n ∧ W.heap.size ≤ n) (hg2 : W1.grownBy W2 (some b)) (hb2 : Blk W2 b (vals.set i v')) :
    NRows W2 b base N (vals.set i v') (gput G i (G i ++ x)) T := by
  obtain ⟨h1, h2, h3⟩ := h; refine ⟨by rw [List.length_set]; exact h1, hb2, ?_⟩; rw [set_fput _ _ _ (by omega)]; have e : ((fun j => vals[j]?) i).getD (.slice none 0 0) = v := by simp [hv]
  exact h3.step i (by rw [e]; exact hg) hown (by rw [e]; exact hat) hg2 hbb
end Go
namespace Go
open Go.RowKit
def NearIs (W : World) (base : Nat) (v : Value) (N : Nat) (G : Nat → List Int) : Prop :=
  ∃ (OB : Nat) (vals : List Value), v = .slice (some ⟨OB, 0, none⟩) N N ∧ base ≤ OB ∧ vals.length = N ∧ Blk W OB vals ∧ ∀ i, i < N → ∃ (a : Option Addr) (C : List Int) (c : Nat), vals[i]? = some (.slice a C.length c) ∧ Rd W a (ins C) ∧ (∀ g, a.map (·.block) = some g → base ≤ g) ∧ C.Pairwise (· < ·) ∧ (∀ x, x ∈ C ↔ x ∈ G i) ∧ C.length ≤ 10000
theorem NearIs.keep {W W' : World} {base N : Nat} {v : Value} {G : Nat → List Int} (h : NearIs W base v N G) (hb : Below W.heap.size W W') : NearIs W' base v N G := by
  obtain ⟨OB, vals, h1, h2, h3, h4, h5⟩ := h; refine ⟨OB, vals, h1, h2, h3, h4.keep hb, fun i hi => ?_⟩; obtain ⟨a, C, c, k1, k2, k3⟩ := h5 i hi; exact ⟨a, C, c, k1, k2.keep hb, k3⟩
def NearAt (W : World) (OB N : Nat) (vals : List Value) (G : Nat → List Int) (k : Nat) : Prop :=
  vals.length = N ∧ Blk W OB vals ∧ ∀ i, i < N → ∃ (a : Option Addr) (C : List Int) (c : Nat), vals[i]? = some (.slice a C.length c) ∧ Rd W a (ins C) ∧ (∀ g, a.map (·.block) = some g → OB < g) ∧ C.length ≤ 10000 ∧ (i < k → C.Pairwise (· < ·) ∧ ∀ x, x ∈ C ↔ x ∈ G i) ∧ (k ≤ i → C = G i)
theorem NearAt.start {W : World} {OB base N : Nat} {vals : List Value} {G : Nat → List Int} {T : TypeId} (h : NRows W OB base N vals G T) (hb : OB < base) (hG : ∀ i, (G i).length ≤ 10000) : NearAt W OB N vals G 0 := by
  refine ⟨h.1, h.2.1, fun i hi => ?_⟩; obtain ⟨u, hv⟩ : ∃ u, vals[i]? = some u := ⟨_, List.getElem?_eq_getElem (by rw [h.1]; exact hi)⟩; have ho := h.2.2.own i _ hv; rw [iCells] at ho; obtain ⟨a, c, hva, -, -, -, hr, -⟩ := ho.form; subst hva; refine ⟨a, G i, c, hv, hr, fun g hg => ?_, hG i, fun h => absurd h (by omega), fun _ => rfl⟩; have e : (Value.slice a (G i).length c).ownBlock = some g := by
    cases a with
    | none => cases hg
    | some a => simpa [Value.ownBlock] using hg
  have := (ho.lt g e).1; omega
theorem NearAt.keep {W W' : World} {OB N k : Nat} {vals : List Value} {G : Nat → List Int} (h : NearAt W OB N vals G k) (hb : Below W.heap.size W W') : NearAt W' OB N vals G k := by
  obtain ⟨h1, h2, h3⟩ := h; refine ⟨h1, h2.keep hb, fun i hi => ?_⟩; obtain ⟨a, C, c, k1, k2, k3⟩ := h3 i hi; exact ⟨a, C, c, k1, k2.keep hb, k3⟩
theorem NearAt.step {W : World} {OB N k : Nat} {vals : List Value} {G : Nat → List Int} (h : NearAt W OB N vals G k) (hk : k < N) {a : Option Addr} {C : List Int} {c : Nat} (hr : Rd W a (ins C)) (ha : ∀ g, a.map (·.block) = some g → OB < g) (hp : C.Pairwise (· < ·)) (hm : ∀ x, x ∈ C ↔ x ∈ G k) (hl : C.length ≤ 10000) :
    NearAt (W.setCell ⟨OB, k, none⟩ (.slice a C.length c)) OB N (vals.set k (.slice a C.length c)) G (k + 1) := by
  obtain ⟨h1, h2, h3⟩ := h; have hg : W.grownBy (W.setCell ⟨OB, k, none⟩ (.slice a C.length c)) (some OB) := ⟨rfl, rfl, rfl, by simp [World.setCell], fun k _ hne => Below.heap_setCell _ _ _ _ (fun e => hne (by rw [e]))⟩; refine ⟨by rw [List.length_set]; exact h1, h2.set k _, fun i hi => ?_⟩
  by_cases e : i = k
  · subst e; exact ⟨a, C, c, by rw [List.getElem?_set]; simp [h1, hi], hr.grown hg (fun b hb e => by cases e; have := ha _ hb; omega), ha, hl, fun _ => ⟨hp, hm⟩, fun h => absurd h (by omega)⟩
  · obtain ⟨a', C', c', k1, k2, k3, k4, k5, k6⟩ := h3 i hi; refine ⟨a', C', c', by rw [List.getElem?_set_ne (fun e2 => e e2.symm)]; exact k1, k2.grown hg (fun b hb e => by cases e; have := k3 _ hb; omega), k3, k4, fun h => k5 (by omega), fun h => k6 (by omega)⟩
theorem NearAt.done {W : World} {OB N base : Nat} {vals : List Value} {G : Nat → List Int} (h : NearAt W OB N vals G N) (hb : base ≤ OB) : NearIs W base (.slice (some ⟨OB, 0, none⟩) N N) N G := by
  obtain ⟨h1, h2, h3⟩ := h; refine ⟨OB, vals, rfl, hb, h1, h2, fun i hi => ?_⟩; obtain ⟨a, C, c, k1, k2, k3, k4, k5, k6⟩ := h3 i hi; exact ⟨a, C, c, k1, k2, fun g hg => by have := k3 g hg; omega, (k5 hi).1, (k5 hi).2, k4⟩
end Go
