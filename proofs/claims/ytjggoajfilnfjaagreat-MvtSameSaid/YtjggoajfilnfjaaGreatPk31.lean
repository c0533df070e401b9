/-
  slices.Equal, EqualFunc, table.Same of any things. graticuleref03.Same, graticulelaw03.Same. graticulelaw11.Same, graticulelaw22.Same of any rows.
-/
import Derived.Test.YtjggoajfilnfjaaGreatPk12
import Derived.Test.YtjggoajfilnfjaaGreatPk9
import Derived.Test.YtjggoajfilnfjaaGreatPk29
import Derived.Test.YtjggoajfilnfjaaGreatPk3
/- slices.Equal, EqualFunc, table.Same of any things. -/
set_option linter.unusedVariables false
set_option linter.unusedSimpArgs false
set_option maxRecDepth 100000
namespace Go
theorem ba_injq (a b : ByteArray) : a = b ↔ a.toList = b.toList := by
  refine ⟨fun h => by rw [h], fun h => ?_⟩; rw [ByteArray.toList_eq, ByteArray.toList_eq] at h; exact ByteArray.ext (Array.ext' h)
instance : DecidableEq At := fun a b => decidable_of_iff (a.key = b.key ∧ a.kind = b.kind ∧ a.text = b.text ∧ a.n = b.n) (by cases a; cases b; simp)
end Go
namespace Go.Proofs.YtjggoajfilnfjaaGreat
open Go.RowKit
set_option maxHeartbeats 6400000 in
theorem eqP_any (a b : Option Addr) (ca cb : Nat) (L M : List Pt) (hl : L.length ≤ 1000000) (hm : M.length ≤ 1000000) (w : World) (hr : Rd w a (pts L)) (hs : Rd w b (pts M)) :
    Calls Tryz.prog 41 #[.slice a L.length ca, .slice b M.length cb] w fun e w' => e = .returned (.bool (decide (L = M))) ∧ Below w.heap.size w w' := by
  have HR := Lib.hid hr; have HS := Lib.hid hs; have HBF : Hid (L ≠ M → decide (L = M) = false) := Lib.hid (fun h => decide_eq_false h); have HBT : Hid (L = M → decide (L = M) = true) := Lib.hid (fun h => decide_eq_true h); have HLN : Hid (L.length ≠ M.length → decide (L = M) = false) := Lib.hid (fun h => decide_eq_false (fun e => h (by rw [e]))); generalize decide (L = M) = B at *; obtain ⟨N, hN⟩ : ∃ N, L.length = N := ⟨_, rfl⟩; obtain ⟨N2, hN2⟩ : ∃ N, M.length = N := ⟨_, rfl⟩; have HN := Lib.hid hN; have HN2 := Lib.hid hN2; rw [hN] at hl HLN ⊢; rw [hN2] at hm HLN ⊢; clear hr hs hN hN2
  by_cases hlen : N = N2
  · subst hlen
    go_enter Tryz.func41, Tryz.ntmps41
    go_wp2
    go_loopw [13] (fun i wr => ∃ k : Nat, k ≤ N ∧ i = .int .i64 k ∧ Hid (L.take k = M.take k) ∧ Below w.heap.size w wr) (fun i _ => N - (intOf i).toNat)
    case atStart => exact ⟨0, by omega, rfl, Lib.hid rfl, Below.refl _ _⟩
    case round =>
      obtain ⟨k, hk, rfl, HE, hbl⟩ := hrel
      by_cases h1 : k < N
      · have h1' : (k : Int) < (N : Int) := by omega
        have hkl : k < L.length := by rw [HN.out]; exact h1
        have hkm : k < M.length := by rw [HN2.out]; exact h1
        obtain ⟨b1, o1, rfl, hbb, c0, c1⟩ := (HR.out.keep hbl).pt k hkl; obtain ⟨b2, o2, rfl, hbb2, d0, d1⟩ := (HS.out.keep hbl).pt k hkm; have HST : Hid (L[k] = M[k] → L.take (k + 1) = M.take (k + 1)) := Lib.hid fun h => by rw [List.take_succ_eq_append_getElem hkl, List.take_succ_eq_append_getElem hkm, HE.out, h]
        have HNO : Hid (L[k] ≠ M[k] → B = false) := Lib.hid fun hx => HBF.out (fun h => hx (by simp [h])); generalize L[k] = p at *; generalize M[k] = q at *; obtain ⟨x0, x1⟩ := p; obtain ⟨y0, y1⟩ := q; dsimp only at c0 c1 d0 d1
        by_cases h10 : x0 = y0
        · subst h10
          by_cases h11 : x1 = y1
          · subst h11; go_wp2
            go_quiet (fail)
            go_wp2; exact ⟨⟨k + 1, by omega, by go_num, Lib.hid (HST.out trivial), below_drewN hbl _⟩, by simp [intOf]; omega⟩
          · have hB : B = false := HNO.out (by simp [h11]); have hs1 := h11; have ht1 : x1 ≠ y1 := h11; clear HNO HST; subst hB; go_wp2
            go_quiet (fail)
            go_wp2; go_ret; exact ⟨rfl, below_drewN hbl _⟩
        · have hB : B = false := HNO.out (by simp [h10]); have hs0 := h10; have ht0 : x0 ≠ y0 := h10; clear HNO HST; subst hB; go_wp2
          go_quiet (fail)
          go_wp2; go_ret; exact ⟨rfl, below_drewN hbl _⟩
      · have h1' : ¬ (k : Int) < (N : Int) := by omega
        have hB : B = true := HBT.out (by
          have := HE.out
          rwa [List.take_of_length_le (by rw [HN.out]; omega), List.take_of_length_le (by rw [HN2.out]; omega)] at this)
        subst hB; go_wp2; go_ret; exact ⟨rfl, hbl⟩
  · have hne : ((N : Int) != (N2 : Int)) = true := by simp; omega
    have hne2 : ¬ ((N : Int) = (N2 : Int)) := by omega
    have hB : B = false := HLN.out hlen
    go_enter Tryz.func41, Tryz.ntmps41
    subst hB; go_wp2; go_ret; exact ⟨rfl, Below.refl _ _⟩
set_option maxHeartbeats 6400000 in
theorem eqA_any (a b : Option Addr) (ca cb : Nat) (L M : List At) (hl : L.length ≤ 1000000) (hm : M.length ≤ 1000000) (w : World) (hr : Rd w a (ats L)) (hs : Rd w b (ats M)) :
    Calls Tryz.prog 73 #[.slice a L.length ca, .slice b M.length cb] w fun e w' => e = .returned (.bool (decide (L = M))) ∧ Below w.heap.size w w' := by
  have HR := Lib.hid hr; have HS := Lib.hid hs; have HBF : Hid (L ≠ M → decide (L = M) = false) := Lib.hid (fun h => decide_eq_false h); have HBT : Hid (L = M → decide (L = M) = true) := Lib.hid (fun h => decide_eq_true h); have HLN : Hid (L.length ≠ M.length → decide (L = M) = false) := Lib.hid (fun h => decide_eq_false (fun e => h (by rw [e]))); generalize decide (L = M) = B at *; obtain ⟨N, hN⟩ : ∃ N, L.length = N := ⟨_, rfl⟩; obtain ⟨N2, hN2⟩ : ∃ N, M.length = N := ⟨_, rfl⟩; have HN := Lib.hid hN; have HN2 := Lib.hid hN2; rw [hN] at hl HLN ⊢; rw [hN2] at hm HLN ⊢; clear hr hs hN hN2
  by_cases hlen : N = N2
  · subst hlen
    go_enter Tryz.func73, Tryz.ntmps73
    go_wp2
    go_loopw [13] (fun i wr => ∃ k : Nat, k ≤ N ∧ i = .int .i64 k ∧ Hid (L.take k = M.take k) ∧ Below w.heap.size w wr) (fun i _ => N - (intOf i).toNat)
    case atStart => exact ⟨0, by omega, rfl, Lib.hid rfl, Below.refl _ _⟩
    case round =>
      obtain ⟨k, hk, rfl, HE, hbl⟩ := hrel
      by_cases h1 : k < N
      · have h1' : (k : Int) < (N : Int) := by omega
        have hkl : k < L.length := by rw [HN.out]; exact h1
        have hkm : k < M.length := by rw [HN2.out]; exact h1
        obtain ⟨b1, o1, rfl, hbb, c0, c1, c2, c3⟩ := (HR.out.keep hbl).atr k hkl; obtain ⟨b2, o2, rfl, hbb2, d0, d1, d2, d3⟩ := (HS.out.keep hbl).atr k hkm; have HST : Hid (L[k] = M[k] → L.take (k + 1) = M.take (k + 1)) := Lib.hid fun h => by rw [List.take_succ_eq_append_getElem hkl, List.take_succ_eq_append_getElem hkm, HE.out, h]
        have HNO : Hid (L[k] ≠ M[k] → B = false) := Lib.hid fun hx => HBF.out (fun h => hx (by simp [h])); generalize L[k] = p at *; generalize M[k] = q at *; obtain ⟨x0, x1, x2, x3⟩ := p; obtain ⟨y0, y1, y2, y3⟩ := q; dsimp only at c0 c1 c2 c3 d0 d1 d2 d3
        by_cases h10 : x0 = y0
        · subst h10
          by_cases h11 : x1 = y1
          · subst h11
            by_cases h12 : x2 = y2
            · subst h12
              by_cases h13 : x3 = y3
              · subst h13; go_wp2
                go_quiet (fail)
                go_wp2; exact ⟨⟨k + 1, by omega, by go_num, Lib.hid (HST.out trivial), below_drewN hbl _⟩, by simp [intOf]; omega⟩
              · have hB : B = false := HNO.out (by simp [h13]); have hs3 := h13; have ht3 : x3 ≠ y3 := h13; clear HNO HST; subst hB; go_wp2
                go_quiet (fail)
                go_wp2; go_ret; exact ⟨rfl, below_drewN hbl _⟩
            · have hB : B = false := HNO.out (by simp [h12]); have hs2 : ¬ x2.toList = y2.toList := fun h => h12 ((ba_injq _ _).2 h); have ht2 : x2 ≠ y2 := h12; clear HNO HST; subst hB; go_wp2
              go_quiet (fail)
              go_wp2; go_ret; exact ⟨rfl, below_drewN hbl _⟩
          · have hB : B = false := HNO.out (by simp [h11]); have hs1 := h11; have ht1 : x1 ≠ y1 := h11; clear HNO HST; subst hB; go_wp2
            go_quiet (fail)
            go_wp2; go_ret; exact ⟨rfl, below_drewN hbl _⟩
        · have hB : B = false := HNO.out (by simp [h10]); have hs0 : ¬ x0.toList = y0.toList := fun h => h10 ((ba_injq _ _).2 h); have ht0 : x0 ≠ y0 := h10; clear HNO HST; subst hB; go_wp2
          go_quiet (fail)
          go_wp2; go_ret; exact ⟨rfl, below_drewN hbl _⟩
      · have h1' : ¬ (k : Int) < (N : Int) := by omega
        have hB : B = true := HBT.out (by
          have := HE.out
          rwa [List.take_of_length_le (by rw [HN.out]; omega), List.take_of_length_le (by rw [HN2.out]; omega)] at this)
        subst hB; go_wp2; go_ret; exact ⟨rfl, hbl⟩
  · have hne : ((N : Int) != (N2 : Int)) = true := by simp; omega
    have hne2 : ¬ ((N : Int) = (N2 : Int)) := by omega
    have hB : B = false := HLN.out hlen
    go_enter Tryz.func73, Tryz.ntmps73
    subst hB; go_wp2; go_ret; exact ⟨rfl, Below.refl _ _⟩
set_option maxHeartbeats 800000 in
theorem tsame_any (a b : Option Addr) (ca cb : Nat) (L M : List At) (hl : L.length ≤ 1000000) (hm : M.length ≤ 1000000) (w : World) (hr : Rd w a (ats L)) (hs : Rd w b (ats M)) :
    Calls Tryz.prog 39 #[.slice a L.length ca, .slice b M.length cb] w fun e w' => e = .returned (.bool (decide (L = M))) ∧ Below w.heap.size w w' := by
  have H := Lib.hid (eqA_any a b ca cb L M hl hm w hr hs); generalize decide (L = M) = B at *; generalize L.length = n1 at *; generalize M.length = n2 at *; clear hr hs
  go_enter Tryz.func39, Tryz.ntmps39
  go_wp2_with fail
  refine H.out.mono ?_; rintro e w1 ⟨rfl, hb⟩; go_wp2; go_ret; exact ⟨rfl, hb⟩
set_option maxHeartbeats 6400000 in
theorem eqR_any (a b : Option Addr) (ca cb : Nat) (L M : List PC) (hl : L.length ≤ 1000000) (hm : M.length ≤ 1000000) (hz : ∀ x ∈ L, x.l.length ≤ 1000000) (hz2 : ∀ x ∈ M, x.l.length ≤ 1000000) (w : World) (hr : Rd w a (rcs L)) (hs : Rd w b (rcs M)) (hL : ∀ x ∈ L, x.Ok w) (hM : ∀ x ∈ M, x.Ok w) :
    Calls Tryz.prog 40 #[.slice a L.length ca, .slice b M.length cb, .func (.func 41) #[] #[]] w fun e w' => e = .returned (.bool (decide (L.map PC.l = M.map PC.l))) ∧ Below w.heap.size w w' := by
  have HR := Lib.hid hr; have HS := Lib.hid hs; have HL := Lib.hid hL; have HM := Lib.hid hM; have HZ := Lib.hid hz; have HZ2 := Lib.hid hz2; have HBF : Hid (L.map PC.l ≠ M.map PC.l → decide (L.map PC.l = M.map PC.l) = false) := Lib.hid (fun h => decide_eq_false h); have HBT : Hid (L.map PC.l = M.map PC.l → decide (L.map PC.l = M.map PC.l) = true) := Lib.hid (fun h => decide_eq_true h); have HLN : Hid (L.length ≠ M.length → decide (L.map PC.l = M.map PC.l) = false) := Lib.hid (fun h => decide_eq_false (fun e => h (by have := congrArg List.length e; simpa using this))); generalize decide (L.map PC.l = M.map PC.l) = B at *; obtain ⟨N, hN⟩ : ∃ N, L.length = N := ⟨_, rfl⟩; obtain ⟨N2, hN2⟩ : ∃ N, M.length = N := ⟨_, rfl⟩; have HN := Lib.hid hN; have HN2 := Lib.hid hN2; rw [hN] at hl HLN ⊢; rw [hN2] at hm HLN ⊢; clear hr hs hN hN2 hL hM hz hz2
  by_cases hlen : N = N2
  · subst hlen
    go_enter Tryz.func40, Tryz.ntmps40
    go_wp2
    go_loopw [17] (fun i wr => ∃ k : Nat, k ≤ N ∧ i = .int .i64 k ∧ Hid ((L.take k).map PC.l = (M.take k).map PC.l) ∧ Below w.heap.size w wr) (fun i _ => N - (intOf i).toNat)
    case atStart => exact ⟨0, by omega, rfl, Lib.hid rfl, Below.refl _ _⟩
    case round =>
      obtain ⟨k, hk, rfl, HE, hbl⟩ := hrel
      by_cases h1 : k < N
      · have h1' : (k : Int) < (N : Int) := by omega
        have hkl : k < L.length := by rw [HN.out]; exact h1
        have hkm : k < M.length := by rw [HN2.out]; exact h1
        obtain ⟨b1, o1, rfl, hbb, c0⟩ := (HR.out.keep hbl).rc k hkl; obtain ⟨b2, o2, rfl, hbb2, d0⟩ := (HS.out.keep hbl).rc k hkm; have HST : Hid (PC.l L[k] = PC.l M[k] → (L.take (k + 1)).map PC.l = (M.take (k + 1)).map PC.l) := Lib.hid fun h => by rw [List.take_succ_eq_append_getElem hkl, List.take_succ_eq_append_getElem hkm, List.map_append, List.map_append, HE.out, List.map_singleton, List.map_singleton, h]
        have HNO : Hid (PC.l L[k] ≠ PC.l M[k] → B = false) := Lib.hid fun hx => HBF.out (fun h => hx (by
          have := congrArg (fun z => z[k]?) h; simp [hkl, hkm] at this; exact this))
        have hx := (HL.out _ (List.getElem_mem hkl)).keep hbl; have hy := (HM.out _ (List.getElem_mem hkm)).keep hbl; have hzx := HZ.out _ (List.getElem_mem hkl); have hzy := HZ2.out _ (List.getElem_mem hkm); generalize L[k] = x at *; generalize M[k] = y at *; have HC := Lib.hid (fun W (h : Below wr.heap.size wr W) => eqP_any x.p y.p x.c y.c x.l y.l (by omega) (by omega) W (hx.1.keep h) (hy.1.keep h)); clear hx hy hzx hzy; have hcs : PC.l x = PC.l y ∨ PC.l x ≠ PC.l y := Classical.em _
        rcases hcs with hc | hc
        · rw [decide_eq_true hc] at HC; have HS2 := Lib.hid (HST.out hc); clear HST HNO hc; obtain ⟨xl, xp, xc⟩ := x; obtain ⟨yl, yp, yc⟩ := y; dsimp only [PC.val] at c0 d0 HC; have hxx := Below.refl wr.heap.size wr
          go_wp2_with fail
          refine (HC.out _ hxx).mono ?_; rintro e w1 ⟨rfl, hb1⟩; have hb3 := hbl.trans ((hxx.trans (hb1.mono hxx.size)).mono hbl.size); go_wp2; exact ⟨⟨k + 1, by omega, by go_num, HS2, hb3⟩, by simp [intOf]; omega⟩
        · rw [decide_eq_false hc] at HC; have hB : B = false := HNO.out hc; subst hB; clear HST HNO hc; obtain ⟨xl, xp, xc⟩ := x; obtain ⟨yl, yp, yc⟩ := y; dsimp only [PC.val] at c0 d0 HC; have hxx := Below.refl wr.heap.size wr
          go_wp2_with fail
          refine (HC.out _ hxx).mono ?_; rintro e w1 ⟨rfl, hb1⟩; have hb3 := hbl.trans ((hxx.trans (hb1.mono hxx.size)).mono hbl.size); go_wp2; go_ret; exact ⟨rfl, hb3⟩
      · have h1' : ¬ (k : Int) < (N : Int) := by omega
        have hB : B = true := HBT.out (by
          have := HE.out
          rwa [List.take_of_length_le (by rw [HN.out]; omega), List.take_of_length_le (by rw [HN2.out]; omega)] at this)
        subst hB; go_wp2; go_ret; exact ⟨rfl, hbl⟩
  · have hne : ((N : Int) != (N2 : Int)) = true := by simp; omega
    have hne2 : ¬ ((N : Int) = (N2 : Int)) := by omega
    have hB : B = false := HLN.out hlen
    go_enter Tryz.func40, Tryz.ntmps40
    subst hB; go_wp2; go_ret; exact ⟨rfl, Below.refl _ _⟩
end Go.Proofs.YtjggoajfilnfjaaGreat
/- graticuleref03.Same, graticulelaw03.Same. -/
set_option linter.unusedVariables false
set_option linter.unusedSimpArgs false
set_option maxRecDepth 100000
namespace Go.Proofs.YtjggoajfilnfjaaGreat
open Go.RowKit

set_option maxHeartbeats 800000 in
theorem r3same_any (a b : Option Addr) (c d : Nat) (L M : List Pt) (hl : L.length ≤ 1000000) (hm : M.length ≤ 1000000) (w : World) (hr : Rd w a (pts L)) (hs : Rd w b (pts M)) :
    Calls Tryz.prog 98 #[.slice a L.length c, .slice b M.length d] w fun e w' => e = .returned (.bool (decide (L = M))) ∧ ∃ n, w' = w.drewN n := by
  by_cases hlen : L.length = M.length
  · have hne : ((L.length : Int) != (M.length : Int)) = false := by simp [hlen]
    go_enter Tryz.func98, Tryz.ntmps98
    have HL := Lib.hid hlen; clear hlen; go_wp2
    go_loopw [5] (fun i wr => ∃ k : Nat, k ≤ L.length ∧ i = .int .i64 k ∧ L.take k = M.take k ∧ ∃ n, wr = w.drewN n) (fun i _ => L.length - (intOf i).toNat)
    case atStart => exact ⟨0, Nat.zero_le _, rfl, rfl, 0, rfl⟩
    case round =>
      obtain ⟨k, hk, rfl, heq, n, rfl⟩ := hrel; have HE := Lib.hid heq; clear heq
      by_cases hlt : k < L.length
      · have hlt2 : k < M.length := by have := HL.out; omega
        obtain ⟨b1, off1, rfl, hb1, c0, c1⟩ := hr.pt k hlt; obtain ⟨b2, off2, rfl, hb2, d0, d1⟩ := hs.pt k hlt2; have HST : Hid (L[k] = M[k] → L.take (k + 1) = M.take (k + 1)) := Lib.hid fun h => by rw [List.take_succ_eq_append_getElem hlt, List.take_succ_eq_append_getElem hlt2, HE.out, h]
        have HNO : Hid (L[k] ≠ M[k] → decide (L = M) = false) := Lib.hid fun hx => by apply decide_eq_false; intro h; exact hx (by simp [h])
        generalize L[k] = p at *; generalize M[k] = q at *; obtain ⟨px, py⟩ := p; obtain ⟨qx, qy⟩ := q; dsimp only at c0 c1 d0 d1
        by_cases hx : px = qx
        · subst hx
          by_cases hy : py = qy
          · subst hy; go_wp2
            go_quiet (fail)
            go_wp2; go_roundw
            case rel => exact ⟨k + 1, by omega, by go_num, HST.out trivial, n + nq, by simp⟩
            case measure => simp [intOf]; omega
          · go_wp2
            go_quiet (fail)
            go_wp2; go_ret; exact ⟨ret_bool (HNO.out (by simp [hy])).symm, n + nq, by simp⟩
        · go_wp2
          go_quiet (fail)
          go_wp2; go_ret; exact ⟨ret_bool (HNO.out (by simp [hx])).symm, n + nq, by simp⟩
      · go_wp2; go_ret; refine ⟨ret_bool ?_, n, rfl⟩
        symm; apply decide_eq_true
        have := HE.out
        rwa [List.take_of_length_le (by omega), List.take_of_length_le (by have := HL.out; omega)] at this
  · have hne : ((L.length : Int) != (M.length : Int)) = true := by simp; omega
    go_enter Tryz.func98, Tryz.ntmps98
    go_wp2; go_ret; refine ⟨ret_bool ?_, 0, rfl⟩
    symm; apply decide_eq_false; intro h; rw [h] at hlen; exact hlen rfl

theorem l3same_any (a b : Option Addr) (c d : Nat) (L M : List Pt) (hl : L.length ≤ 1000000) (hm : M.length ≤ 1000000) (w : World) (hr : Rd w a (pts L)) (hs : Rd w b (pts M)) :
    Calls Tryz.prog 74 #[.slice a L.length c, .slice b M.length d] w fun e w' => e = .returned (.bool (decide (L = M))) ∧ Below w.heap.size w w' := by
  have hof := lofs_any a c L hl w hr; have HOF := Lib.hid hof; have hsm := fun W a c h1 h2 => r3same_any a b c d L M hl hm W h1 h2; have HSM := Lib.hid hsm; clear hof hsm; generalize decide (L = M) = B at *; obtain ⟨N, hN⟩ : ∃ N, L.length = N := ⟨_, rfl⟩; obtain ⟨N2, hN2⟩ : ∃ N2, M.length = N2 := ⟨_, rfl⟩; rw [hN] at HOF HSM ⊢; rw [hN2] at HSM ⊢; clear hN hN2 hl hm
  go_enter Tryz.func74, Tryz.ntmps74
  go_wp2_with fail
  refine HOF.out.mono ?_; rintro e w1 ⟨v1, rfl, hown1, hb1⟩; obtain ⟨a1, c1, rfl, -, -, -, hr1, -⟩ := hown1.form; have HS2 := Lib.hid (HSM.out w1 a1 c1 hr1 (hs.keep hb1)); clear HOF HSM hown1 hr1
  go_wp2_with fail
  refine HS2.out.mono ?_; rintro e w2 ⟨rfl, n, rfl⟩; go_wp2; go_ret; exact ⟨rfl, below_drewN hb1 n⟩

end Go.Proofs.YtjggoajfilnfjaaGreat
/- graticulelaw11.Same, graticulelaw22.Same of any rows. -/
set_option linter.unusedVariables false
set_option linter.unusedSimpArgs false
set_option maxRecDepth 100000
namespace Go.Proofs.YtjggoajfilnfjaaGreat
open Go.RowKit
set_option maxHeartbeats 6400000 in
theorem asame_any (a b : Option Addr) (ca cb : Nat) (L M : List At) (hl : L.length ≤ 1000000) (hm : M.length ≤ 1000000) (w : World) (hr : Rd w a (ats L)) (hs : Rd w b (ats M)) :
    Calls Tryz.prog 42 #[.slice a L.length ca, .slice b M.length cb] w fun e w' => e = .returned (.bool (decide (L = M))) ∧ Below w.heap.size w w' := by
  have HR := Lib.hid hr; have HS := Lib.hid hs; have HBF : Hid (L ≠ M → decide (L = M) = false) := Lib.hid (fun h => decide_eq_false h); have HBT : Hid (L = M → decide (L = M) = true) := Lib.hid (fun h => decide_eq_true h); have HLN : Hid (L.length ≠ M.length → decide (L = M) = false) := Lib.hid (fun h => decide_eq_false (fun e => h (by rw [e]))); generalize decide (L = M) = B at *; obtain ⟨N, hN⟩ : ∃ N, L.length = N := ⟨_, rfl⟩; obtain ⟨N2, hN2⟩ : ∃ N, M.length = N := ⟨_, rfl⟩; have HN := Lib.hid hN; have HN2 := Lib.hid hN2; rw [hN] at hl HLN ⊢; rw [hN2] at hm HLN ⊢; clear hr hs hN hN2
  by_cases hlen : N = N2
  · subst hlen
    go_enter Tryz.func42, Tryz.ntmps42
    go_wp2
    go_loopw [5] (fun i wr => ∃ k : Nat, k ≤ N ∧ i = .int .i64 k ∧ Hid (L.take k = M.take k) ∧ Below w.heap.size w wr) (fun i _ => N - (intOf i).toNat)
    case atStart => exact ⟨0, by omega, rfl, Lib.hid rfl, Below.refl _ _⟩
    case round =>
      obtain ⟨k, hk, rfl, HE, hbl⟩ := hrel
      by_cases h1 : k < N
      · have h1' : (k : Int) < (N : Int) := by omega
        have hkl : k < L.length := by rw [HN.out]; exact h1
        have hkm : k < M.length := by rw [HN2.out]; exact h1
        obtain ⟨b1, o1, rfl, hbb, c0, c1, c2, c3⟩ := (HR.out.keep hbl).atr k hkl; obtain ⟨b2, o2, rfl, hbb2, d0, d1, d2, d3⟩ := (HS.out.keep hbl).atr k hkm; have HST : Hid (L[k] = M[k] → L.take (k + 1) = M.take (k + 1)) := Lib.hid fun h => by rw [List.take_succ_eq_append_getElem hkl, List.take_succ_eq_append_getElem hkm, HE.out, h]
        have HNO : Hid (L[k] ≠ M[k] → B = false) := Lib.hid fun hx => HBF.out (fun h => hx (by simp [h])); generalize L[k] = p at *; generalize M[k] = q at *; obtain ⟨x0, x1, x2, x3⟩ := p; obtain ⟨y0, y1, y2, y3⟩ := q; dsimp only at c0 c1 c2 c3 d0 d1 d2 d3
        by_cases h10 : x0 = y0
        · subst h10
          by_cases h11 : x1 = y1
          · subst h11
            by_cases h12 : x2 = y2
            · subst h12
              by_cases h13 : x3 = y3
              · subst h13; go_wp2
                go_quiet (fail)
                go_wp2; exact ⟨⟨k + 1, by omega, by go_num, Lib.hid (HST.out trivial), below_drewN hbl _⟩, by simp [intOf]; omega⟩
              · have hB : B = false := HNO.out (by simp [h13]); have hs3 := h13; have ht3 : x3 ≠ y3 := h13; clear HNO HST; subst hB; go_wp2
                go_quiet (fail)
                go_wp2; go_ret; exact ⟨rfl, below_drewN hbl _⟩
            · have hB : B = false := HNO.out (by simp [h12]); have hs2 : ¬ x2.toList = y2.toList := fun h => h12 ((ba_injq _ _).2 h); have ht2 : x2 ≠ y2 := h12; clear HNO HST; subst hB; go_wp2
              go_quiet (fail)
              go_wp2; go_ret; exact ⟨rfl, below_drewN hbl _⟩
          · have hB : B = false := HNO.out (by simp [h11]); have hs1 := h11; have ht1 : x1 ≠ y1 := h11; clear HNO HST; subst hB; go_wp2
            go_quiet (fail)
            go_wp2; go_ret; exact ⟨rfl, below_drewN hbl _⟩
        · have hB : B = false := HNO.out (by simp [h10]); have hs0 : ¬ x0.toList = y0.toList := fun h => h10 ((ba_injq _ _).2 h); have ht0 : x0 ≠ y0 := h10; clear HNO HST; subst hB; go_wp2
          go_quiet (fail)
          go_wp2; go_ret; exact ⟨rfl, below_drewN hbl _⟩
      · have h1' : ¬ (k : Int) < (N : Int) := by omega
        have hB : B = true := HBT.out (by
          have := HE.out
          rwa [List.take_of_length_le (by rw [HN.out]; omega), List.take_of_length_le (by rw [HN2.out]; omega)] at this)
        subst hB; go_wp2; go_ret; exact ⟨rfl, hbl⟩
  · have hne : ((N : Int) != (N2 : Int)) = true := by simp; omega
    have hne2 : ¬ ((N : Int) = (N2 : Int)) := by omega
    have hB : B = false := HLN.out hlen
    go_enter Tryz.func42, Tryz.ntmps42
    subst hB; go_wp2; go_ret; exact ⟨rfl, Below.refl _ _⟩
set_option maxHeartbeats 6400000 in
theorem l22same_any (a b : Option Addr) (ca cb : Nat) (L M : List PC) (hl : L.length ≤ 1000000) (hm : M.length ≤ 1000000) (hz : ∀ x ∈ L, x.l.length ≤ 1000000) (hz2 : ∀ x ∈ M, x.l.length ≤ 1000000) (w : World) (hr : Rd w a (rcs L)) (hs : Rd w b (rcs M)) (hL : ∀ x ∈ L, x.Ok w) (hM : ∀ x ∈ M, x.Ok w) :
    Calls Tryz.prog 43 #[.slice a L.length ca, .slice b M.length cb] w fun e w' => e = .returned (.bool (decide (L.map PC.l = M.map PC.l))) ∧ Below w.heap.size w w' := by
  have HR := Lib.hid hr; have HS := Lib.hid hs; have HL := Lib.hid hL; have HM := Lib.hid hM; have HZ := Lib.hid hz; have HZ2 := Lib.hid hz2; have HBF : Hid (L.map PC.l ≠ M.map PC.l → decide (L.map PC.l = M.map PC.l) = false) := Lib.hid (fun h => decide_eq_false h); have HBT : Hid (L.map PC.l = M.map PC.l → decide (L.map PC.l = M.map PC.l) = true) := Lib.hid (fun h => decide_eq_true h); have HLN : Hid (L.length ≠ M.length → decide (L.map PC.l = M.map PC.l) = false) := Lib.hid (fun h => decide_eq_false (fun e => h (by have := congrArg List.length e; simpa using this))); generalize decide (L.map PC.l = M.map PC.l) = B at *; obtain ⟨N, hN⟩ : ∃ N, L.length = N := ⟨_, rfl⟩; obtain ⟨N2, hN2⟩ : ∃ N, M.length = N := ⟨_, rfl⟩; have HN := Lib.hid hN; have HN2 := Lib.hid hN2; rw [hN] at hl HLN ⊢; rw [hN2] at hm HLN ⊢; clear hr hs hN hN2 hL hM hz hz2
  by_cases hlen : N = N2
  · subst hlen
    go_enter Tryz.func43, Tryz.ntmps43
    go_wp2
    go_loopw [5] (fun i wr => ∃ k : Nat, k ≤ N ∧ i = .int .i64 k ∧ Hid ((L.take k).map PC.l = (M.take k).map PC.l) ∧ Below w.heap.size w wr) (fun i _ => N - (intOf i).toNat)
    case atStart => exact ⟨0, by omega, rfl, Lib.hid rfl, Below.refl _ _⟩
    case round =>
      obtain ⟨k, hk, rfl, HE, hbl⟩ := hrel
      by_cases h1 : k < N
      · have h1' : (k : Int) < (N : Int) := by omega
        have hkl : k < L.length := by rw [HN.out]; exact h1
        have hkm : k < M.length := by rw [HN2.out]; exact h1
        obtain ⟨b1, o1, rfl, hbb, c0⟩ := (HR.out.keep hbl).rc k hkl; obtain ⟨b2, o2, rfl, hbb2, d0⟩ := (HS.out.keep hbl).rc k hkm; have HST : Hid (PC.l L[k] = PC.l M[k] → (L.take (k + 1)).map PC.l = (M.take (k + 1)).map PC.l) := Lib.hid fun h => by rw [List.take_succ_eq_append_getElem hkl, List.take_succ_eq_append_getElem hkm, List.map_append, List.map_append, HE.out, List.map_singleton, List.map_singleton, h]
        have HNO : Hid (PC.l L[k] ≠ PC.l M[k] → B = false) := Lib.hid fun hx => HBF.out (fun h => hx (by
          have := congrArg (fun z => z[k]?) h; simp [hkl, hkm] at this; exact this))
        have hx := (HL.out _ (List.getElem_mem hkl)).keep hbl; have hy := (HM.out _ (List.getElem_mem hkm)).keep hbl; have hzx := HZ.out _ (List.getElem_mem hkl); have hzy := HZ2.out _ (List.getElem_mem hkm); generalize L[k] = x at *; generalize M[k] = y at *; have HC := Lib.hid (fun W (h : Below wr.heap.size wr W) => l3same_any x.p y.p x.c y.c x.l y.l (by omega) (by omega) W (hx.1.keep h) (hy.1.keep h)); clear hx hy hzx hzy; have hcs : PC.l x = PC.l y ∨ PC.l x ≠ PC.l y := Classical.em _
        rcases hcs with hc | hc
        · rw [decide_eq_true hc] at HC; have HS2 := Lib.hid (HST.out hc); clear HST HNO hc; obtain ⟨xl, xp, xc⟩ := x; obtain ⟨yl, yp, yc⟩ := y; dsimp only [PC.val] at c0 d0 HC; go_wp2; have hd := (Below.refl wr.heap.size wr).drew; refine wp_region_lit_txt [0, 1, 2, 3, 4, 5, 6, 7, 9] (fun W => W.cell? ⟨b1, o1 + k, none⟩ = some (.slice xp xl.length xc) ∧ W.cell? ⟨b2, o2 + k, none⟩ = some (.slice yp yl.length yc)) (by kernel_rfl) (by kernel_rfl) (by kernel_rfl) ⟨c0, d0⟩ ?_
          iterate 3 ((refine txt_light ?_ rfl rfl ?_ ?_; rotate_left; · (intro w' hS; (try dsimp only at hS); go_simp; with_reducible rfl)); try simp only [Act.put, List.getElem_toArray, List.getElem_cons_succ, List.getElem_cons_zero, List.setIfInBounds_toArray, List.set_cons_zero, List.set_cons_succ])
          refine txt_light (.slice xp xl.length xc) rfl rfl ?_ ?_
          · intro w' hS; have c0 := hS.1; go_simp
          try simp only [Act.put, List.getElem_toArray, List.getElem_cons_succ, List.getElem_cons_zero, List.setIfInBounds_toArray, List.set_cons_zero, List.set_cons_succ]
          iterate 3 ((refine txt_light ?_ rfl rfl ?_ ?_; rotate_left; · (intro w' hS; (try dsimp only at hS); go_simp; with_reducible rfl)); try simp only [Act.put, List.getElem_toArray, List.getElem_cons_succ, List.getElem_cons_zero, List.setIfInBounds_toArray, List.set_cons_zero, List.set_cons_succ])
          refine txt_light (.slice yp yl.length yc) rfl rfl ?_ ?_
          · intro w' hS; have c0 := hS.2; go_simp
          try simp only [Act.put, List.getElem_toArray, List.getElem_cons_succ, List.getElem_cons_zero, List.setIfInBounds_toArray, List.set_cons_zero, List.set_cons_succ]
          refine txt_call [.slice xp xl.length xc, .slice yp yl.length yc] Tryz.f74 rfl rfl Tryz.func74 (by kernel_rfl) (by kernel_rfl) rfl ((HC.out _ hd).mono ?_); rintro e w1 ⟨rfl, hb1⟩; have hdb := hd.trans (hb1.mono hd.size); have hb3 := hbl.trans (hdb.mono hbl.size); refine ⟨_, rfl, ⟨(hdb.cell (p := ⟨b1, o1 + k, none⟩) hbb).trans c0, (hdb.cell (p := ⟨b2, o2 + k, none⟩) hbb2).trans d0⟩, ?_⟩
          try simp only [Act.put, List.getElem_toArray, List.getElem_cons_succ, List.getElem_cons_zero, List.setIfInBounds_toArray, List.set_cons_zero, List.set_cons_succ]
          (refine txt_light ?_ rfl rfl ?_ ?_; rotate_left; · (intro w' hS; (try dsimp only at hS); go_simp; with_reducible rfl)); try simp only [Act.put, List.getElem_toArray, List.getElem_cons_succ, List.getElem_cons_zero, List.setIfInBounds_toArray, List.set_cons_zero, List.set_cons_succ]
          refine txt_nil ?_; clear c0 d0 hb1 hdb hd; go_wp2; exact ⟨⟨k + 1, by omega, by go_num, HS2, hb3⟩, by simp [intOf]; omega⟩
        · rw [decide_eq_false hc] at HC; have hB : B = false := HNO.out hc; subst hB; clear HST HNO hc; obtain ⟨xl, xp, xc⟩ := x; obtain ⟨yl, yp, yc⟩ := y; dsimp only [PC.val] at c0 d0 HC; go_wp2; have hd := (Below.refl wr.heap.size wr).drew; refine wp_region_lit_txt [0, 1, 2, 3, 4, 5, 6, 7, 9] (fun W => W.cell? ⟨b1, o1 + k, none⟩ = some (.slice xp xl.length xc) ∧ W.cell? ⟨b2, o2 + k, none⟩ = some (.slice yp yl.length yc)) (by kernel_rfl) (by kernel_rfl) (by kernel_rfl) ⟨c0, d0⟩ ?_
          iterate 3 ((refine txt_light ?_ rfl rfl ?_ ?_; rotate_left; · (intro w' hS; (try dsimp only at hS); go_simp; with_reducible rfl)); try simp only [Act.put, List.getElem_toArray, List.getElem_cons_succ, List.getElem_cons_zero, List.setIfInBounds_toArray, List.set_cons_zero, List.set_cons_succ])
          refine txt_light (.slice xp xl.length xc) rfl rfl ?_ ?_
          · intro w' hS; have c0 := hS.1; go_simp
          try simp only [Act.put, List.getElem_toArray, List.getElem_cons_succ, List.getElem_cons_zero, List.setIfInBounds_toArray, List.set_cons_zero, List.set_cons_succ]
          iterate 3 ((refine txt_light ?_ rfl rfl ?_ ?_; rotate_left; · (intro w' hS; (try dsimp only at hS); go_simp; with_reducible rfl)); try simp only [Act.put, List.getElem_toArray, List.getElem_cons_succ, List.getElem_cons_zero, List.setIfInBounds_toArray, List.set_cons_zero, List.set_cons_succ])
          refine txt_light (.slice yp yl.length yc) rfl rfl ?_ ?_
          · intro w' hS; have c0 := hS.2; go_simp
          try simp only [Act.put, List.getElem_toArray, List.getElem_cons_succ, List.getElem_cons_zero, List.setIfInBounds_toArray, List.set_cons_zero, List.set_cons_succ]
          refine txt_call [.slice xp xl.length xc, .slice yp yl.length yc] Tryz.f74 rfl rfl Tryz.func74 (by kernel_rfl) (by kernel_rfl) rfl ((HC.out _ hd).mono ?_); rintro e w1 ⟨rfl, hb1⟩; have hdb := hd.trans (hb1.mono hd.size); have hb3 := hbl.trans (hdb.mono hbl.size); refine ⟨_, rfl, ⟨(hdb.cell (p := ⟨b1, o1 + k, none⟩) hbb).trans c0, (hdb.cell (p := ⟨b2, o2 + k, none⟩) hbb2).trans d0⟩, ?_⟩
          try simp only [Act.put, List.getElem_toArray, List.getElem_cons_succ, List.getElem_cons_zero, List.setIfInBounds_toArray, List.set_cons_zero, List.set_cons_succ]
          (refine txt_light ?_ rfl rfl ?_ ?_; rotate_left; · (intro w' hS; (try dsimp only at hS); go_simp; with_reducible rfl)); try simp only [Act.put, List.getElem_toArray, List.getElem_cons_succ, List.getElem_cons_zero, List.setIfInBounds_toArray, List.set_cons_zero, List.set_cons_succ]
          refine txt_nil ?_; clear c0 d0 hb1 hdb hd; go_wp2; go_ret; exact ⟨rfl, hb3⟩
      · have h1' : ¬ (k : Int) < (N : Int) := by omega
        have hB : B = true := HBT.out (by
          have := HE.out
          rwa [List.take_of_length_le (by rw [HN.out]; omega), List.take_of_length_le (by rw [HN2.out]; omega)] at this)
        subst hB; go_wp2; go_ret; exact ⟨rfl, hbl⟩
  · have hne : ((N : Int) != (N2 : Int)) = true := by simp; omega
    have hne2 : ¬ ((N : Int) = (N2 : Int)) := by omega
    have hB : B = false := HLN.out hlen
    go_enter Tryz.func43, Tryz.ntmps43
    subst hB; go_wp2; go_ret; exact ⟨rfl, Below.refl _ _⟩
end Go.Proofs.YtjggoajfilnfjaaGreat
