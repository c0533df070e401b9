/-
  graticuleref03.Same, graticulelaw03.Same, graticulelaw22.Same.
-/
import Derived.Test.YtephdnahmgfmeaaRings
import Derived.Test.YtephdnahmgfmeaaReg
set_option linter.unusedVariables false
set_option linter.unusedSimpArgs false
set_option maxRecDepth 100000
namespace Go.Proofs.Ytephdnahmgfmeaa
open Go.RowKit

set_option maxHeartbeats 800000 in
theorem r3same_any (a b : Option Addr) (c d : Nat) (L M : List Pt) (hl : L.length ≤ 1000000) (hm : M.length ≤ 1000000) (w : World) (hr : Rd w a (pts L)) (hs : Rd w b (pts M)) :
    Calls Try.prog 48 #[.slice a L.length c, .slice b M.length d] w fun e w' => e = .returned (.bool (decide (L = M))) ∧ ∃ n, w' = w.drewN n := by
  by_cases hlen : L.length = M.length
  · have hne : ((L.length : Int) != (M.length : Int)) = false := by simp [hlen]
    go_enter Try.func48, Try.ntmps48
    have HL := Lib.hid hlen
    clear hlen
    go_wp2
    go_loopw [5] (fun i wr => ∃ k : Nat, k ≤ L.length ∧ i = .int .i64 k ∧ L.take k = M.take k ∧ ∃ n, wr = w.drewN n) (fun i _ => L.length - (intOf i).toNat)
    case atStart => exact ⟨0, Nat.zero_le _, rfl, rfl, 0, rfl⟩
    case round =>
      obtain ⟨k, hk, rfl, heq, n, rfl⟩ := hrel
      have HE := Lib.hid heq
      clear heq
      by_cases hlt : k < L.length
      · have hlt2 : k < M.length := by have := HL.out; omega
        obtain ⟨b1, off1, rfl, hb1, c0, c1⟩ := hr.pt k hlt
        obtain ⟨b2, off2, rfl, hb2, d0, d1⟩ := hs.pt k hlt2
        have HST : Hid (L[k] = M[k] → L.take (k + 1) = M.take (k + 1)) := Lib.hid fun h => by rw [List.take_succ_eq_append_getElem hlt, List.take_succ_eq_append_getElem hlt2, HE.out, h]
        have HNO : Hid (L[k] ≠ M[k] → decide (L = M) = false) := Lib.hid fun hx => by apply decide_eq_false; intro h; exact hx (by simp [h])
        generalize L[k] = p at *
        generalize M[k] = q at *
        obtain ⟨px, py⟩ := p
        obtain ⟨qx, qy⟩ := q
        dsimp only at c0 c1 d0 d1
        by_cases hx : px = qx
        · subst hx
          by_cases hy : py = qy
          · subst hy
            go_wp2
            go_quiet (fail)
            go_wp2
            go_roundw
            case rel => exact ⟨k + 1, by omega, by go_num, HST.out trivial, n + nq, by simp⟩
            case measure => simp [intOf]; omega
          · go_wp2
            go_quiet (fail)
            go_wp2
            go_ret
            exact ⟨ret_bool (HNO.out (by simp [hy])).symm, n + nq, by simp⟩
        · go_wp2
          go_quiet (fail)
          go_wp2
          go_ret
          exact ⟨ret_bool (HNO.out (by simp [hx])).symm, n + nq, by simp⟩
      · go_wp2
        go_ret
        refine ⟨ret_bool ?_, n, rfl⟩
        symm; apply decide_eq_true
        have := HE.out
        rwa [List.take_of_length_le (by omega), List.take_of_length_le (by have := HL.out; omega)] at this
  · have hne : ((L.length : Int) != (M.length : Int)) = true := by simp; omega
    go_enter Try.func48, Try.ntmps48
    go_wp2
    go_ret
    refine ⟨ret_bool ?_, 0, rfl⟩
    symm; apply decide_eq_false; intro h; rw [h] at hlen; exact hlen rfl

theorem l3same_any (a b : Option Addr) (c d : Nat) (L M : List Pt) (hl : L.length ≤ 1000000) (hm : M.length ≤ 1000000) (w : World) (hr : Rd w a (pts L)) (hs : Rd w b (pts M)) :
    Calls Try.prog 34 #[.slice a L.length c, .slice b M.length d] w fun e w' => e = .returned (.bool (decide (L = M))) ∧ Below w.heap.size w w' := by
  have hof := lofs_any a c L hl w hr
  have HOF := Lib.hid hof
  have hsm := fun W a c h1 h2 => r3same_any a b c d L M hl hm W h1 h2
  have HSM := Lib.hid hsm
  clear hof hsm
  generalize decide (L = M) = B at *
  obtain ⟨N, hN⟩ : ∃ N, L.length = N := ⟨_, rfl⟩
  obtain ⟨N2, hN2⟩ : ∃ N2, M.length = N2 := ⟨_, rfl⟩
  rw [hN] at HOF HSM ⊢
  rw [hN2] at HSM ⊢
  clear hN hN2 hl hm
  go_enter Try.func34, Try.ntmps34
  go_wp2_with fail
  refine HOF.out.mono ?_
  rintro e w1 ⟨v1, rfl, hown1, hb1⟩
  obtain ⟨a1, c1, rfl, -, -, -, hr1, -⟩ := hown1.form
  have HS2 := Lib.hid (HSM.out w1 a1 c1 hr1 (hs.keep hb1))
  clear HOF HSM hown1 hr1
  go_wp2_with fail
  refine HS2.out.mono ?_
  rintro e w2 ⟨rfl, n, rfl⟩
  go_wp2
  go_ret
  exact ⟨rfl, below_drewN hb1 n⟩

set_option maxHeartbeats 1600000 in
/-- Rows that are the same. -/
theorem l22same_ok (a b : Option Addr) (c d : Nat) (X Y : List PC) (hXY : X.map (·.l) = Y.map (·.l)) (hX : X.length ≤ 1000000) (hle : ∀ x ∈ X, x.l.length ≤ 1000) (w : World) (hr : Rd w a (X.map PC.val)) (hs : Rd w b (Y.map PC.val)) (hokX : ∀ x ∈ X, x.Ok w) (hokY : ∀ x ∈ Y, x.Ok w) :
    Calls Try.prog 20 #[.slice a X.length c, .slice b Y.length d] w fun e w' => e = .returned (.bool true) ∧ Below w.heap.size w w' := by
  have hlen : X.length = Y.length := by have := congrArg List.length hXY; simpa using this
  have hat : ∀ k, k < X.length → ∀ W, Below w.heap.size w W → ∃ x y : PC, X[k]? = some x ∧ Y[k]? = some y ∧ Calls Try.prog 34 #[x.val, y.val] W fun e w' => e = .returned (.bool true) ∧ Below W.heap.size W w' := by
    intro k hk W hW
    have hk2 : k < Y.length := by omega
    have h1 : X[k] ∈ X := List.getElem_mem _
    have h2 : Y[k] ∈ Y := List.getElem_mem _
    have e : X[k].l = Y[k].l := by
      have h3 : (X.map (·.l))[k]? = (Y.map (·.l))[k]? := by rw [hXY]
      simpa [hk, hk2] using h3
    have hl := hle _ h1
    refine ⟨X[k], Y[k], List.getElem?_eq_getElem hk, List.getElem?_eq_getElem hk2, ?_⟩
    have := l3same_any X[k].p Y[k].p X[k].c Y[k].c X[k].l Y[k].l (by omega) (by rw [← e]; omega) W ((hokX _ h1).1.below hW (Nat.le_refl _)) ((hokY _ h2).1.below hW (Nat.le_refl _))
    rw [decide_eq_true e] at this
    exact this
  have HAT := Lib.hid hat
  rw [← hlen]
  have hVX : ∀ (k : Nat) (x : PC), X[k]? = some x → (X.map PC.val)[k]? = some x.val := fun k x h => by simp [h]
  have hVY : ∀ (k : Nat) (x : PC), Y[k]? = some x → (Y.map PC.val)[k]? = some x.val := fun k x h => by simp [h]
  have HVX := Lib.hid hVX
  have HVY := Lib.hid hVY
  obtain ⟨N, hN⟩ : ∃ N, X.length = N := ⟨_, rfl⟩
  rw [hN] at hX HAT ⊢
  generalize X.map PC.val = VX at *
  generalize Y.map PC.val = VY at *
  clear hat hXY hlen hle hokX hokY hVX hVY hN
  go_enter Try.func20, Try.ntmps20
  go_wp2
  go_loopw [5] (fun i wr => ∃ k : Nat, k ≤ N ∧ i = .int .i64 k ∧ Below w.heap.size w wr) (fun i _ => N - (intOf i).toNat)
  case atStart => exact ⟨0, Nat.zero_le _, rfl, Below.refl _ _⟩
  case round =>
    obtain ⟨k, hk, rfl, hbl⟩ := hrel
    by_cases hlt : k < N
    · obtain ⟨x, y, hx, hy, hc⟩ := HAT.out k hlt wr.drew (below_drewN hbl 1)
      obtain ⟨b1, off1, rfl, c0, hb1⟩ := (hr.keep hbl).at (HVX.out k x hx)
      obtain ⟨b2, off2, rfl, d0, hb2⟩ := (hs.keep hbl).at (HVY.out k y hy)
      obtain ⟨lx, px, cx⟩ := x
      obtain ⟨ly, py, cy⟩ := y
      dsimp only [PC.val] at c0 d0 hc
      have HC := Lib.hid hc
      have hs1 := hbl.size
      clear hc hx hy
      go_wp2_with fail
      refine wp_region_lit_txt [0, 1, 2, 3, 4, 5, 6, 7, 9] (fun W => W.cell? ⟨b1, off1 + k, none⟩ = some (.slice px lx.length cx) ∧ W.cell? ⟨b2, off2 + k, none⟩ = some (.slice py ly.length cy)) (by kernel_rfl) (by kernel_rfl) (by kernel_rfl) ⟨c0, d0⟩ ?_
      (refine txt_light ?_ rfl rfl ?_ ?_; rotate_left; · (intro w' hS; (try dsimp only at hS); go_simp; with_reducible rfl)); try simp only [Act.put, List.setIfInBounds_toArray, List.set_cons_zero, List.set_cons_succ]
      (refine txt_light ?_ rfl rfl ?_ ?_; rotate_left; · (intro w' hS; (try dsimp only at hS); go_simp; with_reducible rfl)); try simp only [Act.put, List.setIfInBounds_toArray, List.set_cons_zero, List.set_cons_succ]
      (refine txt_light ?_ rfl rfl ?_ ?_; rotate_left; · (intro w' hS; (try dsimp only at hS); go_simp; with_reducible rfl)); try simp only [Act.put, List.setIfInBounds_toArray, List.set_cons_zero, List.set_cons_succ]
      refine txt_light (.slice px lx.length cx) rfl rfl ?_ ?_
      · intro w' hS
        have c0 := hS.1
        go_simp
      try simp only [Act.put, List.setIfInBounds_toArray, List.set_cons_zero, List.set_cons_succ]
      (refine txt_light ?_ rfl rfl ?_ ?_; rotate_left; · (intro w' hS; (try dsimp only at hS); go_simp; with_reducible rfl)); try simp only [Act.put, List.setIfInBounds_toArray, List.set_cons_zero, List.set_cons_succ]
      (refine txt_light ?_ rfl rfl ?_ ?_; rotate_left; · (intro w' hS; (try dsimp only at hS); go_simp; with_reducible rfl)); try simp only [Act.put, List.setIfInBounds_toArray, List.set_cons_zero, List.set_cons_succ]
      (refine txt_light ?_ rfl rfl ?_ ?_; rotate_left; · (intro w' hS; (try dsimp only at hS); go_simp; with_reducible rfl)); try simp only [Act.put, List.setIfInBounds_toArray, List.set_cons_zero, List.set_cons_succ]
      refine txt_light (.slice py ly.length cy) rfl rfl ?_ ?_
      · intro w' hS
        have c0 := hS.2
        go_simp
      try simp only [Act.put, List.setIfInBounds_toArray, List.set_cons_zero, List.set_cons_succ]
      refine txt_call [.slice px lx.length cx, .slice py ly.length cy] Try.f34 rfl rfl Try.func34 (by kernel_rfl) (by kernel_rfl) rfl (HC.out.mono ?_)
      rintro e w1 ⟨rfl, hb⟩
      have hbl1 : Below w.heap.size w w1 := (below_drewN hbl 1).trans (hb.mono hs1)
      have c1 := (hb.cell (p := ⟨b1, off1 + k, none⟩) hb1).trans c0
      have d1 := (hb.cell (p := ⟨b2, off2 + k, none⟩) hb2).trans d0
      refine ⟨_, rfl, ⟨c1, d1⟩, ?_⟩
      try simp only [Act.put, List.setIfInBounds_toArray, List.set_cons_zero, List.set_cons_succ]
      (refine txt_light ?_ rfl rfl ?_ ?_; rotate_left; · (intro w' hS; (try dsimp only at hS); go_simp; with_reducible rfl)); try simp only [Act.put, List.setIfInBounds_toArray, List.set_cons_zero, List.set_cons_succ]
      refine txt_nil ?_
      clear c0 c1 d0 d1 hb hbl HC
      go_wp2
      go_roundw
      case rel => exact ⟨k + 1, by omega, by go_num, hbl1⟩
      case measure => simp [intOf]; omega
    · obtain rfl : k = N := by omega
      go_wp2
      go_ret
      exact ⟨rfl, hbl⟩
end Go.Proofs.Ytephdnahmgfmeaa
