/-
  graticuleref01.Floor, Round.
-/
import Derived.Test.YtmmhkageehlknaaSat
set_option linter.unusedVariables false
set_option linter.unusedSimpArgs false
namespace Go.Proofs.Ytmmhkageehlknaa
open Go.RowKit

set_option maxHeartbeats 800000 in
theorem rfloor_ok (n d : Int) (hd : 1 ≤ d ∧ d ≤ 1152921504606846976) (hn : -1152921504606846976 ≤ n ∧ n ≤ 1152921504606846976) (w : World) :
    Calls Try.prog 42 #[.int .i64 n, .int .i64 d] w fun e w' => e = .returned (.int .i64 (n / d)) ∧ w = w' := by
  have ht := tdiv_floor n d (by omega)
  have hb := ediv_bd n d hd.1 1152921504606846976 hn (by omega)
  have h1 := Int.mul_tdiv_add_tmod n d
  have h2 := Int.tmod_lt_of_pos n (by omega : 0 < d)
  have h3 := Int.lt_tmod_of_pos n (by omega : 0 < d)
  have hb0 : (d == 0) = false := by simp; omega
  have hd0 : d ≠ 0 := by omega
  have hm0 : IntKind.i64.wrap (n.tmod d) = n.tmod d := IntWalk.i64_in _ (by omega)
  by_cases hT : n.tmod d < 0
  · have hq := ht.2 hT
    obtain ⟨U, hU⟩ : ∃ U, n.tmod d + d = U := ⟨_, rfl⟩
    obtain ⟨S, hS⟩ : ∃ S, n - U = S := ⟨_, rfl⟩
    have wa : IntKind.i64.wrap (n.tmod d + d) = U := by rw [hU]; exact IntWalk.i64_in _ (by omega)
    have wb : IntKind.i64.wrap (n - U) = S := by rw [hS]; exact IntWalk.i64_in _ (by omega)
    have hdiv : S.tdiv d = n / d := by
      rw [show S = d * (n.tdiv d - 1) by rw [← hS, ← hU]; grind, Int.mul_tdiv_cancel_left _ (by omega), hq]
    obtain ⟨R, hR⟩ : ∃ R, n / d = R := ⟨_, rfl⟩
    rw [hR] at hdiv hb ⊢
    have wc : IntKind.i64.wrap (S.tdiv d) = R := by rw [hdiv]; exact IntWalk.i64_in _ (by omega)
    clear ht hb h1 h2 h3 hq hd hn hU hS hR hdiv
    go_enter Try.func42, Try.ntmps42
    go_wp2
    go_ret
    exact ⟨rfl, rfl⟩
  · have hq := ht.1 (by omega)
    obtain ⟨S, hS⟩ : ∃ S, n - n.tmod d = S := ⟨_, rfl⟩
    have wb : IntKind.i64.wrap (n - n.tmod d) = S := by rw [hS]; exact IntWalk.i64_in _ (by omega)
    have hdiv : S.tdiv d = n / d := by
      rw [show S = d * n.tdiv d by rw [← hS]; grind, Int.mul_tdiv_cancel_left _ (by omega), hq]
    obtain ⟨R, hR⟩ : ∃ R, n / d = R := ⟨_, rfl⟩
    rw [hR] at hdiv hb ⊢
    have wc : IntKind.i64.wrap (S.tdiv d) = R := by rw [hdiv]; exact IntWalk.i64_in _ (by omega)
    have hTd : decide (n.tmod d < 0) = false := decide_eq_false hT
    clear ht hb h1 h2 h3 hq hd hn hS hR hdiv
    go_enter Try.func42, Try.ntmps42
    go_wp2
    go_ret
    exact ⟨rfl, rfl⟩

set_option maxHeartbeats 800000 in
theorem rround_ok (n d : Int) (hd : 1 ≤ d ∧ d ≤ 1152921504606846976) (hn : -1152921504606846976 ≤ n ∧ n ≤ 1152921504606846976) (w : World) :
    Calls Try.prog 27 #[.int .i64 n, .int .i64 d] w fun e w' => e = .returned (.int .i64 (roundF n d)) ∧ w = w' := by
  have hf := rfloor_ok n d hd hn
  have hb := ediv_bd n d hd.1 1152921504606846976 hn (by omega)
  have e1 := Int.mul_ediv_add_emod n d
  have e2 := Int.emod_nonneg n (by omega : d ≠ 0)
  have e3 := Int.emod_lt_of_pos n (by omega : 0 < d)
  rw [Int.mul_comm] at e1
  unfold roundF
  generalize n / d = q at *
  obtain ⟨P, hP⟩ : ∃ P, q * d = P := ⟨_, rfl⟩
  rw [hP] at e1 ⊢
  obtain ⟨L, hL⟩ : ∃ L, n - P = L := ⟨_, rfl⟩
  rw [hL]
  have w1 : IntKind.i64.wrap (q * d) = P := by rw [hP]; exact IntWalk.i64_in _ (by omega)
  have w2 : IntKind.i64.wrap (n - P) = L := by rw [hL]; exact IntWalk.i64_in _ (by omega)
  obtain ⟨M, hM⟩ : ∃ M, d - L = M := ⟨_, rfl⟩
  have w3 : IntKind.i64.wrap (d - L) = M := by rw [hM]; exact IntWalk.i64_in _ (by omega)
  have w4 : IntKind.i64.wrap (q + 1) = q + 1 := IntWalk.i64_in _ (by omega)
  rw [hM]
  have HFL := Lib.hid hf
  clear hf e1 e2 e3 hP hL hM hd hn
  rcases Int.lt_trichotomy M L with h | h | h
  · rw [if_pos (by omega)]
    go_enter Try.func27, Try.ntmps27
    go_wp2_with fail
    refine HFL.out _ |>.mono ?_
    rintro e w1 ⟨rfl, rfl⟩
    go_wp2
    go_ret
    exact ⟨rfl, rfl⟩
  · subst h
    rw [if_pos (by omega)]
    go_enter Try.func27, Try.ntmps27
    go_wp2_with fail
    refine HFL.out _ |>.mono ?_
    rintro e w1 ⟨rfl, rfl⟩
    go_wp2
    go_ret
    exact ⟨rfl, rfl⟩
  · rw [if_neg (by omega)]
    have hne : ¬ L = M := by omega
    have hlt : ¬ M < L := by omega
    have hb1 : (L == M) = false := by simp; omega
    have hb2 : decide (M < L) = false := decide_eq_false hlt
    go_enter Try.func27, Try.ntmps27
    go_wp2_with fail
    refine HFL.out _ |>.mono ?_
    rintro e w1 ⟨rfl, rfl⟩
    go_wp2
    go_ret
    exact ⟨rfl, rfl⟩

end Go.Proofs.Ytmmhkageehlknaa
