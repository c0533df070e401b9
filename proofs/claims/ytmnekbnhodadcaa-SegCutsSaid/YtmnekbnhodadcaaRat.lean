/-
  graticuleref01.Floor, Round, graticuleref02.abs, At.
-/
import Derived.Test.YtmnekbnhodadcaaSat
import Derived.Test.YtmnekbnhodadcaaRmay
set_option linter.unusedVariables false
set_option linter.unusedSimpArgs false
namespace Go.Proofs.Ytmnekbnhodadcaa
open Go.RowKit

set_option maxHeartbeats 800000 in
theorem rfloor_ok (n d : Int) (hd : 1 ≤ d ∧ d ≤ 1152921504606846976) (hn : -1152921504606846976 ≤ n ∧ n ≤ 1152921504606846976) (w : World) :
    Calls Try.prog 31 #[.int .i64 n, .int .i64 d] w fun e w' => e = .returned (.int .i64 (n / d)) ∧ w = w' := by
  have ht := tdiv_floor n d (by omega)
  have hb := ediv_bd n d hd.1 1152921504606846976 hn (by omega)
  have h1 := Int.mul_tdiv_add_tmod n d
  have h2 := Int.tmod_lt_of_pos n (by omega : 0 < d)
  have h3 := Int.lt_tmod_of_pos n (by omega : 0 < d)
  have hb0 : (d == 0) = false := by simp; omega
  have hd0 : d ≠ 0 := by omega
  have hm0 : IntKind.i64.wrap (n.tmod d) = n.tmod d := IntWalk.i64_in _ (by omega)
  by_cases hT : n.tmod d < 0
  · have hq := ht.2 hT
    obtain ⟨U, hU⟩ : ∃ U, n.tmod d + d = U := ⟨_, rfl⟩
    obtain ⟨S, hS⟩ : ∃ S, n - U = S := ⟨_, rfl⟩
    have wa : IntKind.i64.wrap (n.tmod d + d) = U := by rw [hU]; exact IntWalk.i64_in _ (by omega)
    have wb : IntKind.i64.wrap (n - U) = S := by rw [hS]; exact IntWalk.i64_in _ (by omega)
    have hdiv : S.tdiv d = n / d := by
      rw [show S = d * (n.tdiv d - 1) by rw [← hS, ← hU]; grind, Int.mul_tdiv_cancel_left _ (by omega), hq]
    obtain ⟨R, hR⟩ : ∃ R, n / d = R := ⟨_, rfl⟩
    rw [hR] at hdiv hb ⊢
    have wc : IntKind.i64.wrap (S.tdiv d) = R := by rw [hdiv]; exact IntWalk.i64_in _ (by omega)
    clear ht hb h1 h2 h3 hq hd hn hU hS hR hdiv
    go_enter Try.func31, Try.ntmps31
    go_wp2
    go_ret
    exact ⟨rfl, rfl⟩
  · have hq := ht.1 (by omega)
    obtain ⟨S, hS⟩ : ∃ S, n - n.tmod d = S := ⟨_, rfl⟩
    have wb : IntKind.i64.wrap (n - n.tmod d) = S := by rw [hS]; exact IntWalk.i64_in _ (by omega)
    have hdiv : S.tdiv d = n / d := by
      rw [show S = d * n.tdiv d by rw [← hS]; grind, Int.mul_tdiv_cancel_left _ (by omega), hq]
    obtain ⟨R, hR⟩ : ∃ R, n / d = R := ⟨_, rfl⟩
    rw [hR] at hdiv hb ⊢
    have wc : IntKind.i64.wrap (S.tdiv d) = R := by rw [hdiv]; exact IntWalk.i64_in _ (by omega)
    have hTd : decide (n.tmod d < 0) = false := decide_eq_false hT
    clear ht hb h1 h2 h3 hq hd hn hS hR hdiv
    go_enter Try.func31, Try.ntmps31
    go_wp2
    go_ret
    exact ⟨rfl, rfl⟩

set_option maxHeartbeats 800000 in
theorem rround_ok (n d : Int) (hd : 1 ≤ d ∧ d ≤ 1152921504606846976) (hn : -1152921504606846976 ≤ n ∧ n ≤ 1152921504606846976) (w : World) :
    Calls Try.prog 23 #[.int .i64 n, .int .i64 d] w fun e w' => e = .returned (.int .i64 (roundF n d)) ∧ w = w' := by
  have hf := rfloor_ok n d hd hn
  have hb := ediv_bd n d hd.1 1152921504606846976 hn (by omega)
  have e1 := Int.mul_ediv_add_emod n d
  have e2 := Int.emod_nonneg n (by omega : d ≠ 0)
  have e3 := Int.emod_lt_of_pos n (by omega : 0 < d)
  rw [Int.mul_comm] at e1
  unfold roundF
  generalize n / d = q at *
  obtain ⟨P, hP⟩ : ∃ P, q * d = P := ⟨_, rfl⟩
  rw [hP] at e1 ⊢
  obtain ⟨L, hL⟩ : ∃ L, n - P = L := ⟨_, rfl⟩
  rw [hL]
  have w1 : IntKind.i64.wrap (q * d) = P := by rw [hP]; exact IntWalk.i64_in _ (by omega)
  have w2 : IntKind.i64.wrap (n - P) = L := by rw [hL]; exact IntWalk.i64_in _ (by omega)
  obtain ⟨M, hM⟩ : ∃ M, d - L = M := ⟨_, rfl⟩
  have w3 : IntKind.i64.wrap (d - L) = M := by rw [hM]; exact IntWalk.i64_in _ (by omega)
  have w4 : IntKind.i64.wrap (q + 1) = q + 1 := IntWalk.i64_in _ (by omega)
  rw [hM]
  have HFL := Lib.hid hf
  clear hf e1 e2 e3 hP hL hM hd hn
  rcases Int.lt_trichotomy M L with h | h | h
  · rw [if_pos (by omega)]
    go_enter Try.func23, Try.ntmps23
    go_wp2_with fail
    refine HFL.out _ |>.mono ?_
    rintro e w1 ⟨rfl, rfl⟩
    go_wp2
    go_ret
    exact ⟨rfl, rfl⟩
  · subst h
    rw [if_pos (by omega)]
    go_enter Try.func23, Try.ntmps23
    go_wp2_with fail
    refine HFL.out _ |>.mono ?_
    rintro e w1 ⟨rfl, rfl⟩
    go_wp2
    go_ret
    exact ⟨rfl, rfl⟩
  · rw [if_neg (by omega)]
    have hne : ¬ L = M := by omega
    have hlt : ¬ M < L := by omega
    have hb1 : (L == M) = false := by simp; omega
    have hb2 : decide (M < L) = false := decide_eq_false hlt
    go_enter Try.func23, Try.ntmps23
    go_wp2_with fail
    refine HFL.out _ |>.mono ?_
    rintro e w1 ⟨rfl, rfl⟩
    go_wp2
    go_ret
    exact ⟨rfl, rfl⟩

theorem rabs_ok (n : Int) (h : -4611686018427387904 ≤ n ∧ n ≤ 4611686018427387904) (w : World) :
    Calls Try.prog 25 #[.int .i64 n] w fun e w' => e = .returned (.int .i64 (n.natAbs : Nat)) ∧ w = w' := by
  have w1 : IntKind.i64.wrap (-n) = -n := IntWalk.i64_in _ (by omega)
  by_cases h0 : n < 0
  · rw [show ((n.natAbs : Nat) : Int) = -n by omega]
    go_enter Try.func25, Try.ntmps25
    go_wp2
    go_ret
    exact ⟨rfl, rfl⟩
  · rw [show ((n.natAbs : Nat) : Int) = n by omega]
    go_enter Try.func25, Try.ntmps25
    go_wp2
    go_ret
    exact ⟨rfl, rfl⟩

set_option maxHeartbeats 1600000 in
theorem rat_any (a b : Pt) (c : Int) (ha : okPt a = true) (hb : okPt b = true) (w : World) :
    Calls Try.prog 12 #[.int .i64 a.x, .int .i64 a.y, .int .i64 b.x, .int .i64 b.y, .int .i64 c] w fun e w' => e = .returned (.tuple #[.int .i64 (atF a b c).1, .bool (atF a b c).2]) ∧ w = w' := by
  have hF : atF a b c = if (a.x < c ∧ c < b.x) then (roundF (a.y * (b.x - c) + b.y * (c - a.x)) (b.x - a.x), true) else if (b.x < c ∧ c < a.x) then (roundF (-(a.y * (b.x - c) + b.y * (c - a.x))) (-(b.x - a.x)), true) else (0, false) := by
    unfold atF
    by_cases hs : b.x < a.x
    · simp only [hs, if_true, List.all_cons, List.all_nil, ha, hb, Bool.and_true]
      rw [if_neg (show ¬ (a.x < c ∧ c < b.x) by omega)]
      by_cases hc : b.x < c ∧ c < a.x
      · rw [if_pos hc, if_neg (by simp; omega)]
        congr 2
        · grind
        · omega
      · rw [if_neg hc, if_pos (by simp; omega)]
    · simp only [hs, if_false, List.all_cons, List.all_nil, ha, hb, Bool.and_true]
      by_cases hc : a.x < c ∧ c < b.x
      · rw [if_pos hc, if_neg (by simp; omega)]
        congr 2
        grind
      · rw [if_neg hc, if_neg (show ¬ (b.x < c ∧ c < a.x) by omega), if_pos (by simp; omega)]
  rw [hF]
  clear hF
  rw [okPt_iff] at ha hb
  obtain ⟨ax, ay⟩ := a
  obtain ⟨bx, bY⟩ := b
  dsimp only at *
  by_cases h1 : ax < c ∧ c < bx
  · rw [if_pos h1]
    obtain ⟨g1, g2⟩ := h1
    have m1 := mul_bd ay (bx - c) 16777216 33554432 (by omega) (by omega) (by omega) (by omega)
    have m2 := mul_bd bY (c - ax) 16777216 33554432 (by omega) (by omega) (by omega) (by omega)
    simp only [Int.reduceMul, Int.reduceNeg] at m1 m2
    obtain ⟨D1, hD1⟩ : ∃ D, bx - c = D := ⟨_, rfl⟩
    obtain ⟨D2, hD2⟩ : ∃ D, c - ax = D := ⟨_, rfl⟩
    obtain ⟨D3, hD3⟩ : ∃ D, bx - ax = D := ⟨_, rfl⟩
    rw [hD1] at m1 ⊢
    rw [hD2] at m2 ⊢
    rw [hD3]
    obtain ⟨M1, hM1⟩ : ∃ M, ay * D1 = M := ⟨_, rfl⟩
    obtain ⟨M2, hM2⟩ : ∃ M, bY * D2 = M := ⟨_, rfl⟩
    rw [hM1] at m1 ⊢
    rw [hM2] at m2 ⊢
    obtain ⟨M3, hM3⟩ : ∃ M, M1 + M2 = M := ⟨_, rfl⟩
    rw [hM3]
    have w1 : IntKind.i64.wrap (bx - c) = D1 := by rw [hD1]; exact IntWalk.i64_in _ (by omega)
    have w2 : IntKind.i64.wrap (c - ax) = D2 := by rw [hD2]; exact IntWalk.i64_in _ (by omega)
    have w3 : IntKind.i64.wrap (bx - ax) = D3 := by rw [hD3]; exact IntWalk.i64_in _ (by omega)
    have w4 : IntKind.i64.wrap (ay * D1) = M1 := by rw [hM1]; exact IntWalk.i64_in _ (by omega)
    have w5 : IntKind.i64.wrap (bY * D2) = M2 := by rw [hM2]; exact IntWalk.i64_in _ (by omega)
    have w6 : IntKind.i64.wrap (M1 + M2) = M3 := by rw [hM3]; exact IntWalk.i64_in _ (by omega)
    have hr := rround_ok M3 D3 (by omega) (by omega)
    have hd : ¬ D3 < 0 := by omega
    generalize roundF M3 D3 = R at *
    have HRR := Lib.hid hr
    clear hr m1 m2 hD1 hD2 hD3 hM1 hM2 hM3
    go_enter Try.func12, Try.ntmps12
    go_wp2_with fail
    refine (HRR.out _).mono ?_
    rintro e w1 ⟨rfl, rfl⟩
    go_wp2
    refine bodyPost_ret (v := .tuple #[.int .i64 R, .bool true]) (by simp [results, Try.results12, go_sem]) rfl ⟨rfl, rfl⟩
  · rw [if_neg h1]
    by_cases h2 : bx < c ∧ c < ax
    · rw [if_pos h2]
      obtain ⟨g1, g2⟩ := h2
      have m1 := mul_bd ay (bx - c) 16777216 33554432 (by omega) (by omega) (by omega) (by omega)
      have m2 := mul_bd bY (c - ax) 16777216 33554432 (by omega) (by omega) (by omega) (by omega)
      simp only [Int.reduceMul, Int.reduceNeg] at m1 m2
      obtain ⟨D1, hD1⟩ : ∃ D, bx - c = D := ⟨_, rfl⟩
      obtain ⟨D2, hD2⟩ : ∃ D, c - ax = D := ⟨_, rfl⟩
      obtain ⟨D3, hD3⟩ : ∃ D, bx - ax = D := ⟨_, rfl⟩
      rw [hD1] at m1 ⊢
      rw [hD2] at m2 ⊢
      rw [hD3]
      obtain ⟨M1, hM1⟩ : ∃ M, ay * D1 = M := ⟨_, rfl⟩
      obtain ⟨M2, hM2⟩ : ∃ M, bY * D2 = M := ⟨_, rfl⟩
      rw [hM1] at m1 ⊢
      rw [hM2] at m2 ⊢
      obtain ⟨M3, hM3⟩ : ∃ M, M1 + M2 = M := ⟨_, rfl⟩
      rw [hM3]
      have w1 : IntKind.i64.wrap (bx - c) = D1 := by rw [hD1]; exact IntWalk.i64_in _ (by omega)
      have w2 : IntKind.i64.wrap (c - ax) = D2 := by rw [hD2]; exact IntWalk.i64_in _ (by omega)
      have w3 : IntKind.i64.wrap (bx - ax) = D3 := by rw [hD3]; exact IntWalk.i64_in _ (by omega)
      have w4 : IntKind.i64.wrap (ay * D1) = M1 := by rw [hM1]; exact IntWalk.i64_in _ (by omega)
      have w5 : IntKind.i64.wrap (bY * D2) = M2 := by rw [hM2]; exact IntWalk.i64_in _ (by omega)
      have w6 : IntKind.i64.wrap (M1 + M2) = M3 := by rw [hM3]; exact IntWalk.i64_in _ (by omega)
      obtain ⟨N3, hN3⟩ : ∃ M, -M3 = M := ⟨_, rfl⟩
      obtain ⟨E3, hE3⟩ : ∃ M, -D3 = M := ⟨_, rfl⟩
      rw [hN3, hE3]
      have w7 : IntKind.i64.wrap (-M3) = N3 := by rw [hN3]; exact IntWalk.i64_in _ (by omega)
      have w8 : IntKind.i64.wrap (-D3) = E3 := by rw [hE3]; exact IntWalk.i64_in _ (by omega)
      have hr := rround_ok N3 E3 (by omega) (by omega)
      have hd : D3 < 0 := by omega
      have hn1 : ¬ ax < c := by omega
      generalize roundF N3 E3 = R at *
      have HRR := Lib.hid hr
      clear hr m1 m2 hD1 hD2 hD3 hM1 hM2 hM3 h1 hN3 hE3
      go_enter Try.func12, Try.ntmps12
      go_wp2_with fail
      refine (HRR.out _).mono ?_
      rintro e w1 ⟨rfl, rfl⟩
      go_wp2
      refine bodyPost_ret (v := .tuple #[.int .i64 R, .bool true]) (by simp [results, Try.results12, go_sem]) rfl ⟨rfl, rfl⟩
    · rw [if_neg h2]
      by_cases q1 : ax < c
      · have q2 : ¬ c < bx := by omega
        by_cases q3 : bx < c
        · have q4 : ¬ c < ax := by omega
          clear h1 h2
          go_enter Try.func12, Try.ntmps12
          go_wp2
          refine bodyPost_ret (v := .tuple #[.int .i64 0, .bool false]) (by simp [results, Try.results12, go_sem]) rfl ⟨rfl, rfl⟩
        · clear h1 h2
          go_enter Try.func12, Try.ntmps12
          go_wp2
          refine bodyPost_ret (v := .tuple #[.int .i64 0, .bool false]) (by simp [results, Try.results12, go_sem]) rfl ⟨rfl, rfl⟩
      · by_cases q3 : bx < c
        · have q4 : ¬ c < ax := by omega
          clear h1 h2
          go_enter Try.func12, Try.ntmps12
          go_wp2
          refine bodyPost_ret (v := .tuple #[.int .i64 0, .bool false]) (by simp [results, Try.results12, go_sem]) rfl ⟨rfl, rfl⟩
        · clear h1 h2
          go_enter Try.func12, Try.ntmps12
          go_wp2
          refine bodyPost_ret (v := .tuple #[.int .i64 0, .bool false]) (by simp [results, Try.results12, go_sem]) rfl ⟨rfl, rfl⟩
end Go.Proofs.Ytmnekbnhodadcaa
