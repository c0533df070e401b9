/-
  ring.Thin.
-/
import Derived.Test.YtmmhkageehlknaaZcomp
set_option linter.unusedVariables false
set_option linter.unusedSimpArgs false
set_option maxRecDepth 100000
namespace Go
open Go.RowKit
/-- A row without the last points that are the first one. -/
def stripN : Nat → List Pt → List Pt
  | 0, l => l
  | f + 1, l => if 1 < l.length ∧ l[l.length - 1]! = l[0]! then stripN f l.dropLast else l
def thinR (l : List Pt) : List Pt := stripN (Lib.compact l).length (Lib.compact l)
theorem stripN_short (l : List Pt) (h : ¬ 1 < l.length) : ∀ f, stripN f l = l
  | 0 => rfl
  | f + 1 => by unfold stripN; rw [if_neg (fun q => h q.1)]
theorem ownsRow_pre {w : World} {base : Nat} {e : TypeId} {a : Option Addr} {n c : Nat} {R : List Pt} (h : w.ownsRow base e 2 (.slice a n c) n (pts R)) (hn : R.length = n) (m : Nat) (hm : m < n) :
    w.ownsRow base e 2 (.slice a m c) m (pts (R.take m)) := by
  obtain ⟨h1, h2⟩ := h
  rcases h2 with ⟨h2, h0⟩ | ⟨g, cap, cur, hv, hb, hg, hnc, hcm, hcs, htk⟩
  · omega
  · injection hv with q1 q2 q3
    subst q1 q3
    refine ⟨by rw [pts_len, List.length_take, hn]; omega, .inr ⟨g, c, cur, rfl, hb, hg, by omega, hcm, hcs, ?_⟩⟩
    rw [← pts_take, ← htk, List.take_take]
    congr 1; omega
end Go
namespace Go.Proofs.Ytmmhkageehlknaa
open Go.RowKit

set_option maxHeartbeats 6400000 in
theorem thinR_any (a : Option Addr) (c : Nat) (l : List Pt) (hn : l.length ≤ 1000000) (w : World) (hr : Rd w a (pts l)) (hc : a = none → c = 0) :
    Calls Try.prog 30 #[.slice a l.length c] w fun e w' => ∃ ra, e = .returned (.slice ra (thinR l).length (thinR l).length) ∧ Rd w' ra (pts (thinR l)) ∧ Below w.heap.size w w' := by
  have h1 := cloneP_any a c l hn w hr hc
  have h2 := fun v w1 h => compactP_any v l hn w1 w.heap.size h
  obtain ⟨RES, hRES⟩ : ∃ R, thinR l = R := ⟨_, rfl⟩
  have HR : Hid (stripN (Lib.compact l).length (Lib.compact l) = RES) := Lib.hid hRES
  rw [hRES]
  have hle := Lib.compact_length_le l
  clear hRES hr hc
  generalize Lib.compact l = C at *
  obtain ⟨n, hnl⟩ : ∃ n, l.length = n := ⟨_, rfl⟩
  rw [hnl] at h1 h2 hn hle ⊢
  have H2 := Lib.hid h2
  clear hnl h2
  go_enter Try.func30, Try.ntmps30
  go_wp2_with fail
  refine h1.mono ?_
  rintro e w1 ⟨v, rfl, ho, hb⟩
  go_wp2_with fail
  refine (H2.out v w1 ho).mono ?_
  rintro e w2 ⟨v2, rfl, ho2, hb2⟩
  have hb3 := hb.trans hb2
  clear h1 H2 ho hb hb2
  go_wp2
  go_loopw [3] (fun o wr => ∃ (R : List Pt) (m : Nat) (oa : Option Addr) (oc : Nat), m ≤ n ∧ o = .slice oa m oc ∧ Hid (R.length = m) ∧ Hid (stripN m R = RES) ∧ wr.ownsRow w.heap.size 23 2 (.slice oa m oc) m (pts R) ∧ Below w.heap.size w wr) (fun o _ => match o with | .slice _ m _ => m | _ => 0)
  case atStart =>
    obtain ⟨oa, oc, rfl, -, -, -, -, -⟩ := ho2.form
    exact ⟨C, C.length, oa, oc, by omega, rfl, Lib.hid rfl, HR, ho2, hb3⟩
  case round =>
    obtain ⟨R, m, oa, oc, hmn, rfl, HL, HS, hor, hbr⟩ := hrel
    obtain ⟨oa', oc', he, hmc, hcm, hno, hro, -⟩ := hor.form
    cases he
    have hRd := Lib.hid hro
    have hoc : oc ≤ 9223372036854775807 := by unfold maxLen at hcm; omega
    by_cases hm1 : 1 < m
    · have hm2 : (1 : Int) < (m : Int) := by omega
      obtain ⟨m1, hm3⟩ : ∃ m1, m = m1 + 1 := ⟨m - 1, by omega⟩
      have hw1 : IntKind.i64.wrap ((m : Int) - 1) = (m1 : Int) := by rw [IntWalk.i64_in _ (by omega)]; omega
      have hm0 : 0 < m := by omega
      have hmm : m1 < m := by omega
      have hl1 : m1 < R.length := by rw [HL.out]; exact hmm
      have hl0 : 0 < R.length := by rw [HL.out]; exact hm0
      obtain ⟨b, off, rfl, hb0, c0, c1⟩ := hro.pt m1 hl1
      obtain ⟨b', off', he2, hb1, d0', d1'⟩ := hro.pt 0 hl0
      cases he2
      have d0 : wr.cell? ⟨b, off, none⟩ = some (.int .i64 (R[0]'hl0).x) := by simpa using d0'
      have d1 : wr.cell? ⟨b, off + 1, none⟩ = some (.int .i64 (R[0]'hl0).y) := by simpa using d1'
      clear d0' d1'
      obtain ⟨⟨px, py⟩, hpp⟩ : ∃ p, R[m1]'hl1 = p := ⟨_, rfl⟩
      obtain ⟨⟨qx, qy⟩, hqq⟩ : ∃ p, R[0]'hl0 = p := ⟨_, rfl⟩
      rw [hpp] at c0 c1
      rw [hqq] at d0 d1
      dsimp only at c0 c1 d0 d1
      have hm1c : m1 ≤ oc := by omega
      by_cases hx : px = qx
      · by_cases hy : py = qy
        · subst hx hy
          have HS2 : Hid (stripN m1 (R.take m1) = RES) := Lib.hid (by
            rw [← HS.out, hm3]
            conv => rhs; unfold stripN
            rw [if_pos ⟨by rw [HL.out]; exact hm1, by rw [HL.out, show m - 1 = m1 by omega, getElem!_pos R m1 hl1, getElem!_pos R 0 hl0, hpp, hqq]⟩, List.dropLast_eq_take, HL.out]
            rw [show m - 1 = m1 by omega])
          have HL2 : Hid ((R.take m1).length = m1) := Lib.hid (by rw [List.length_take, HL.out]; omega)
          have HO2 := Lib.hid (ownsRow_pre hor HL.out m1 hmm)
          have hmn1 : m1 ≤ n := by omega
          clear hpp hqq hm3 HS hor
          go_wp2
          go_quiet (fail)
          have hbr2 := below_drewN hbr nq
          have HO3 : Hid ((wr.drewN nq).ownsRow w.heap.size 23 2 (.slice (some ⟨b, off, none⟩) m1 oc) m1 (pts (R.take m1))) := Lib.hid HO2.out
          go_wp2
          exact ⟨⟨R.take m1, m1, _, oc, hmn1, rfl, HL2, HS2, HO3.out, hbr2⟩, hmm⟩
        · have hy2 : (py == qy) = false := by simpa using hy
          have HNE : py = qy → False := hy
          subst hx
          have hcond : ¬ (1 < R.length ∧ R[R.length - 1]! = R[0]!) := by
            rintro ⟨-, h⟩
            rw [HL.out, show m - 1 = m1 by omega, getElem!_pos R m1 hl1, getElem!_pos R 0 hl0, hpp, hqq] at h
            exact HNE (by injection h)
          have hRR : R = RES := by
            rw [← HS.out]
            have e9 : stripN m R = stripN (m1 + 1) R := by rw [← hm3]
            rw [e9]; unfold stripN; rw [if_neg hcond]
          clear hcond
          subst hRR
          clear hm3
          go_wp2
          go_quiet (fail)
          go_wp2_with fail
          refine (clipP_any _ m oc hmc hoc hno _).mono ?_
          rintro e w5 ⟨rfl, rfl⟩
          go_wp2
          refine bodyPost_ret (v := .slice (some ⟨b, off, none⟩) m m) (by simp [results, Try.results30, go_sem]) rfl ⟨_, by rw [HL.out], hRd.out, below_drewN hbr _⟩
      · have hx2 : (px == qx) = false := by simpa using hx
        have HNE : px = qx → False := hx
        have hcond : ¬ (1 < R.length ∧ R[R.length - 1]! = R[0]!) := by
          rintro ⟨-, h⟩
          rw [HL.out, show m - 1 = m1 by omega, getElem!_pos R m1 hl1, getElem!_pos R 0 hl0, hpp, hqq] at h
          exact HNE (by injection h)
        have hRR : R = RES := by
          rw [← HS.out]
          have e9 : stripN m R = stripN (m1 + 1) R := by rw [← hm3]
          rw [e9]; unfold stripN; rw [if_neg hcond]
        clear hcond
        subst hRR
        clear hm3
        go_wp2
        go_quiet (fail)
        go_wp2_with fail
        refine (clipP_any _ m oc hmc hoc hno _).mono ?_
        rintro e w5 ⟨rfl, rfl⟩
        go_wp2
        refine bodyPost_ret (v := .slice (some ⟨b, off, none⟩) m m) (by simp [results, Try.results30, go_sem]) rfl ⟨_, by rw [HL.out], hRd.out, below_drewN hbr _⟩
    · have hm2 : ¬ (1 : Int) < (m : Int) := by omega
      have hRR : R = RES := by rw [← HS.out, stripN_short R (by rw [HL.out]; exact hm1)]
      subst hRR
      go_wp2
      have hm9 : ¬ (1 : Int) < (m : Int) := by omega
      go_quiet (fail)
      go_wp2_with fail
      refine (clipP_any _ m oc hmc hoc hno _).mono ?_
      rintro e w5 ⟨rfl, rfl⟩
      go_wp2
      refine bodyPost_ret (v := .slice oa m m) (by simp [results, Try.results30, go_sem]) rfl ⟨_, by rw [HL.out], hRd.out, below_drewN hbr _⟩
end Go.Proofs.Ytmmhkageehlknaa
