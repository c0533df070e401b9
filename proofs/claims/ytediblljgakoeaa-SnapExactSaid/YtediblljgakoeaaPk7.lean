/-
  exact.Floor, Round, where the quotient is one; seg.flip, far, AtX, AtY. seg.Cuts' comparison; insertion sort of cuts. A call of a function value, inside a region that draws its order.
-/
import Derived.Test.YtediblljgakoeaaPk4
import Derived.Test.YtediblljgakoeaaPk6
import Derived.Test.YtediblljgakoeaaPk2
import Derived.Test.YtediblljgakoeaaPk5
import Derived.Test.YtediblljgakoeaaPk3
/- exact.Floor, Round, where the quotient is one; seg.flip, far, AtX, AtY. -/
set_option linter.unusedVariables false
set_option linter.unusedSimpArgs false
set_option maxRecDepth 100000
namespace Go
/-- A quotient, rounded. -/
def roundF (n d : Int) : Int := if d - (n - n / d * d) ≤ n - n / d * d then n / d + 1 else n / d
/-- The cut by a line X = c. -/
def atF (a b : Pt) (c : Int) : Int × Bool :=
  let p := if b.x < a.x then b else a
  let q := if b.x < a.x then a else b
  if [p, q].all okPt = false ∨ c ≤ p.x ∨ q.x ≤ c then (0, false) else (roundF (p.y * (q.x - p.x) + (q.y - p.y) * (c - p.x)) (q.x - p.x), true)
theorem tdiv_floor (n d : Int) (hd : 0 < d) : (0 ≤ n.tmod d → n.tdiv d = n / d) ∧ (n.tmod d < 0 → n.tdiv d - 1 = n / d) := by
  have h1 := Int.mul_tdiv_add_tmod n d
  have h2 := Int.tmod_lt_of_pos n hd
  have h3 := Int.lt_tmod_of_pos n hd
  have e1 := Int.mul_ediv_add_emod n d
  have e2 := Int.emod_nonneg n (by omega : d ≠ 0)
  have e3 := Int.emod_lt_of_pos n hd
  have key : ∀ q r q' r' : Int, d * q + r = d * q' + r' → 0 ≤ r → r < d → 0 ≤ r' → r' < d → q = q' := by
    intro q r q' r' h a1 a2 a3 a4
    rcases Int.lt_trichotomy q q' with h' | h' | h'
    · have := Int.mul_le_mul_of_nonneg_left (show q + 1 ≤ q' by omega) (by omega : 0 ≤ d)
      rw [Int.mul_add] at this; omega
    · exact h'
    · have := Int.mul_le_mul_of_nonneg_left (show q' + 1 ≤ q by omega) (by omega : 0 ≤ d)
      rw [Int.mul_add] at this; omega
  constructor
  · intro h
    exact key _ _ _ _ (by omega) h h2 e2 e3
  · intro h
    refine key (n.tdiv d - 1) (n.tmod d + d) _ _ ?_ (by omega) (by omega) e2 e3
    rw [Int.mul_sub]; omega
theorem ediv_bd (n d : Int) (hd : 1 ≤ d) (m : Int) (hn : -m ≤ n ∧ n ≤ m) (hm : 0 ≤ m) : -m - 1 ≤ n / d ∧ n / d ≤ m := by
  have e1 := Int.mul_ediv_add_emod n d
  have e2 := Int.emod_nonneg n (by omega : d ≠ 0)
  have e3 := Int.emod_lt_of_pos n (by omega : 0 < d)
  generalize n / d = q at *
  generalize n % d = r at *
  constructor
  · rcases Int.lt_or_le q (-m - 1) with h | h
    · have h1 : d * q ≤ d * (-m - 2) := Int.mul_le_mul_of_nonneg_left (by omega) (by omega)
      have h2 : d * (-m - 2) ≤ 1 * (-m - 2) := by
        have := Int.mul_le_mul_of_nonneg_right hd (show 0 ≤ m + 2 by omega)
        rw [show (-m - 2 : Int) = -(m + 2) by omega, Int.mul_neg, Int.mul_neg]; omega
      have h3 : d * (-m - 2) ≤ -m - 1 - d := by
        have : (d - 1) * (m + 1) ≥ 0 := Int.mul_nonneg (by omega) (by omega)
        grind
      omega
    · exact h
  · rcases Int.lt_or_le m q with h | h
    · have h1 : d * (m + 1) ≤ d * q := Int.mul_le_mul_of_nonneg_left (by omega) (by omega)
      have h2 : 1 * (m + 1) ≤ d * (m + 1) := Int.mul_le_mul_of_nonneg_right hd (by omega)
      omega
    · exact h
end Go
namespace Go.Proofs.Ytediblljgakoeaa
open Go.RowKit

set_option maxHeartbeats 800000 in
theorem xfloor_ok (n d : Int) (hd : 1 ≤ d ∧ d ≤ 1152921504606846976) (hn : -1152921504606846976 ≤ n ∧ n ≤ 1152921504606846976) (w : World) :
    Calls Try.prog 52 #[.int .i64 n, .int .i64 d] w fun e w' => e = .returned (.tuple #[.int .i64 (n / d), .bool true]) ∧ w = w' := by
  have ht := tdiv_floor n d (by omega)
  have hb := ediv_bd n d hd.1 1152921504606846976 hn (by omega)
  have HD := Lib.hid hd
  have HN := Lib.hid hn
  have hd0 : d ≠ 0 := by omega
  go_enter Try.func52, Try.ntmps52
  go_wp2
  refine wp_goto_fwd 0 rfl ?_
  intro J hJ
  go_wp2_with fail
  refine (xwithin_any d 1 1152921504606846976 _).mono ?_
  rintro e w1 ⟨rfl, rfl⟩
  rw [decide_eq_true HD.out]
  go_wp2_with fail
  refine (xwithin_any n (-1152921504606846976) 1152921504606846976 _).mono ?_
  rintro e w1 ⟨rfl, rfl⟩
  rw [decide_eq_true HN.out]
  have hw1 : IntKind.i64.wrap (n.tdiv d) = n.tdiv d := by
    rcases Int.lt_or_le (n.tmod d) 0 with h | h
    · have := ht.2 h; exact IntWalk.i64_in _ (by omega)
    · have := ht.1 h; exact IntWalk.i64_in _ (by omega)
  have hb0 : (d == 0) = false := by simpa using hd0
  by_cases hm : 0 ≤ n.tmod d
  · have hq := ht.1 hm
    clear ht
    go_wp2
    go_step3
    show (0 : Nat) = 0 ∧ J _ _
    refine ⟨rfl, hJ.out _ _ ?_⟩
    clear hJ hq hw1
    go_wp2
    rw [Exit.jump_ret]
    refine bodyPost_ret (v := .tuple #[.int .i64 (n / d), .bool true]) (by simp [results, Try.results52, go_sem]) rfl ⟨rfl, rfl⟩
  · have hm2 : n.tmod d < 0 := by omega
    have hq := ht.2 hm2
    have hw2 : IntKind.i64.wrap (n.tdiv d - 1) = n / d := by rw [hq]; exact IntWalk.i64_in _ (by omega)
    have hw3 : wrap64 (n.tdiv d - 1) = n / d := by rw [hq]; exact IntWalk.wrap64_in _ (by omega)
    have hmd : decide (0 ≤ n.tmod d) = false := decide_eq_false hm
    clear ht hq
    go_wp2
    go_step3
    go_step
    go_step
    go_wp2
    rw [Exit.jump_ret]
    refine bodyPost_ret (v := .tuple #[.int .i64 (n / d), .bool true]) (by simp [results, Try.results52, go_sem]) rfl ⟨rfl, rfl⟩

set_option maxHeartbeats 800000 in
theorem xround_ok (n d : Int) (hd : 1 ≤ d ∧ d ≤ 1152921504606846976) (hn : -1152921504606846976 ≤ n ∧ n ≤ 1152921504606846976) (w : World) :
    Calls Try.prog 49 #[.int .i64 n, .int .i64 d] w fun e w' => e = .returned (.tuple #[.int .i64 (roundF n d), .bool true]) ∧ w = w' := by
  have hf := xfloor_ok n d hd hn
  have hb := ediv_bd n d hd.1 1152921504606846976 hn (by omega)
  have e1 := Int.mul_ediv_add_emod n d
  have e2 := Int.emod_nonneg n (by omega : d ≠ 0)
  have e3 := Int.emod_lt_of_pos n (by omega : 0 < d)
  rw [Int.mul_comm] at e1
  unfold roundF
  generalize n / d = q at *
  obtain ⟨P, hP⟩ : ∃ P, q * d = P := ⟨_, rfl⟩
  rw [hP] at e1 ⊢
  obtain ⟨L, hL⟩ : ∃ L, n - P = L := ⟨_, rfl⟩
  rw [hL]
  have w1 : IntKind.i64.wrap (q * d) = P := by rw [hP]; exact IntWalk.i64_in _ (by omega)
  have w2 : IntKind.i64.wrap (n - P) = L := by rw [hL]; exact IntWalk.i64_in _ (by omega)
  have w3 : IntKind.i64.wrap (d - L) = d - L := IntWalk.i64_in _ (by omega)
  have w4 : IntKind.i64.wrap (q + 1) = q + 1 := IntWalk.i64_in _ (by omega)
  have HFL := Lib.hid hf
  clear hf e1 e2 e3 hP hL hd hn
  go_enter Try.func49, Try.ntmps49
  go_wp2_with fail
  refine HFL.out _ |>.mono ?_
  rintro e w1 ⟨rfl, rfl⟩
  by_cases h : d - L ≤ L
  · have HQ : Hid ((if d - L ≤ L then q + 1 else q) = q + 1) := Lib.hid (if_pos h)
    go_wp2
    refine bodyPost_ret (v := .tuple #[.int .i64 (q + 1), .bool true]) (by simp [results, Try.results49, go_sem]) rfl ⟨by first | rfl | rw [HQ.out], rfl⟩
  · have HQ : Hid ((if d - L ≤ L then q + 1 else q) = q) := Lib.hid (if_neg h)
    have hdd : decide (d - L ≤ L) = false := decide_eq_false h
    go_wp2
    refine bodyPost_ret (v := .tuple #[.int .i64 q, .bool true]) (by simp [results, Try.results49, go_sem]) rfl ⟨by first | rfl | rw [HQ.out], rfl⟩

set_option maxHeartbeats 1600000 in
theorem atx_any (a b : Pt) (c : Int) (w : World) :
    Calls Try.prog 40 #[a.val, b.val, .int .i64 c] w fun e w' => e = .returned (.tuple #[.int .i64 (atF a b c).1, .bool (atF a b c).2]) ∧ Below w.heap.size w w' := by
  obtain ⟨R, hR⟩ : ∃ R, atF a b c = R := ⟨_, rfl⟩
  rw [hR]
  unfold atF at hR
  have HR := Lib.hid hR
  clear hR
  obtain ⟨ax, ay⟩ := a
  obtain ⟨bx, bY⟩ := b
  dsimp only [Pt.val] at *
  have k0 := (Blk.lit w w.heap.size [.int .i64 ax, .int .i64 ay] 32 rfl).alloc (.cells #[.int .i64 bx, .int .i64 bY] 32)
  have k1 := Blk.lit (w.alloc (.cells #[.int .i64 ax, .int .i64 ay] 32)) (w.heap.size + 1) [.int .i64 bx, .int .i64 bY] 32 (by simp)
  have hbl := (Below.new w (.cells #[.int .i64 ax, .int .i64 ay] 32)).alloc (by simp) (.cells #[.int .i64 bx, .int .i64 bY] 32)
  have hs2 : ∀ {W}, Below w.heap.size w W → w.heap.size ≤ W.heap.size := fun h => h.size
  have hs := hs2 hbl
  obtain ⟨S0, hS0⟩ : ∃ S0, w.heap.size = S0 := ⟨_, rfl⟩
  rw [hS0] at k0 k1
  obtain ⟨wA, hwA⟩ : ∃ wA, (w.alloc (.cells #[.int .i64 ax, .int .i64 ay] 32)).alloc (.cells #[.int .i64 bx, .int .i64 bY] 32) = wA := ⟨_, rfl⟩
  rw [hwA] at k0 k1 hbl hs
  have a0 := k0.cell 0 rfl
  have a1 := k0.cell 1 rfl
  have b0 := k1.cell 0 rfl
  have b1 := k1.cell 1 rfl
  go_enter Try.func40, Try.ntmps40
  by_cases hsw : bx < ax
  · have hR2 := HR.out
    simp only [if_pos hsw] at hR2
    have HR2 := Lib.hid hR2
    clear hR2 HR
    have g0 := k0.free 0
    have g1 := k0.free 1
    have g2 := k1.free 0
    have g3 := k1.free 1
    have n1 : S0 ≠ S0 + 1 := by omega
    have n2 : S0 + 1 ≠ S0 := by omega
    have k0' := (((k0.set 0 (.int .i64 bx)).set 1 (.int .i64 bY)).set_at (o := 0) n1 (.int .i64 ax)).set_at (o := 1) n1 (.int .i64 ay)
    have k1' := (((k1.set_at (o := 0) n2 (.int .i64 bx)).set_at (o := 1) n2 (.int .i64 bY)).set 0 (.int .i64 ax)).set 1 (.int .i64 ay)
    have hbl' := (((hbl.set_at (b := S0) (o := 0) (by omega) (.int .i64 bx)).set_at (b := S0) (o := 1) (by omega) (.int .i64 bY)).set_at (b := S0 + 1) (o := 0) (by omega) (.int .i64 ax)).set_at (b := S0 + 1) (o := 1) (by omega) (.int .i64 ay)
    obtain ⟨wB, hwB⟩ : ∃ wB, ((((wA.setCell ⟨S0, 0, none⟩ (.int .i64 bx)).setCell ⟨S0, 1, none⟩ (.int .i64 bY)).setCell ⟨S0 + 1, 0, none⟩ (.int .i64 ax)).setCell ⟨S0 + 1, 1, none⟩ (.int .i64 ay)) = wB := ⟨_, rfl⟩
    rw [hwB] at k0' k1' hbl'
    dsimp only [List.set_cons_zero, List.set_cons_succ] at k0' k1'
    have c0 := k0'.cell 0 rfl
    have c1 := k0'.cell 1 rfl
    have d0 := k1'.cell 0 rfl
    have d1 := k1'.cell 1 rfl
    have hsB := hs2 hbl'
    have hri := xright_any (some ⟨wB.heap.size, 0, none⟩) 2 [⟨bx, bY⟩, ⟨ax, ay⟩] (by simp [maxLen]) (wB.alloc (.cells #[.int .i64 bx, .int .i64 bY, .int .i64 ax, .int .i64 ay] 32)) (Rd.new wB [.int .i64 bx, .int .i64 bY, .int .i64 ax, .int .i64 ay] 32)
    cases hok : [(⟨bx, bY⟩ : Pt), ⟨ax, ay⟩].all okPt with
    | false =>
      rw [hok] at hri
      have HF : Hid (R = (0, false)) := Lib.hid (by rw [← HR2.out, if_pos (.inl hok)])
      have HRI := Lib.hid hri
      clear HR2 hok hri
      go_wp2_with fail
      refine HRI.out.mono ?_
      rintro e w1 ⟨rfl, hx1⟩
      have hblx := (hbl'.alloc hsB (.cells #[.int .i64 bx, .int .i64 bY, .int .i64 ax, .int .i64 ay] 32)).trans (hx1.mono (Nat.le_trans hsB (Below.new wB _).size))
      go_wp2
      refine bodyPost_ret (v := .tuple #[.int .i64 0, .bool false]) (by simp [results, Try.results40, go_sem]) rfl ⟨by rw [HF.out], hblx⟩
    | true =>
      rw [hok] at hri
      have hR3 := HR2.out
      have ok2 : okPt ⟨bx, bY⟩ = true ∧ okPt ⟨ax, ay⟩ = true := by simpa using hok
      rw [okPt_iff, okPt_iff] at ok2
      dsimp only at ok2
      simp only [hok, Bool.true_eq_false, false_or] at hR3
      have HRI := Lib.hid hri
      clear HR2 hok hri
      have kk0 := k0'.alloc (.cells #[.int .i64 bx, .int .i64 bY, .int .i64 ax, .int .i64 ay] 32)
      have kk1 := k1'.alloc (.cells #[.int .i64 bx, .int .i64 bY, .int .i64 ax, .int .i64 ay] 32)
      have hbb := hbl'.alloc hsB (.cells #[.int .i64 bx, .int .i64 bY, .int .i64 ax, .int .i64 ay] 32)
      have hss := Nat.le_trans hsB (Below.new wB (.cells #[.int .i64 bx, .int .i64 bY, .int .i64 ax, .int .i64 ay] 32)).size
      go_wp2_with fail
      refine HRI.out.mono ?_
      rintro e w1 ⟨rfl, hx1⟩
      have kk0 := kk0.keep hx1
      have kk1 := kk1.keep hx1
      have hblx := hbb.trans (hx1.mono hss)
      have z0 := kk0.cell 0 rfl
      have z1 := kk0.cell 1 rfl
      have z2 := kk1.cell 0 rfl
      have z3 := kk1.cell 1 rfl
      clear HRI hx1
      by_cases hc1 : c ≤ bx
      · have HF : Hid (R = (0, false)) := Lib.hid (by rw [← hR3, if_pos (.inl hc1)])
        clear hR3
        go_wp2
        refine bodyPost_ret (v := .tuple #[.int .i64 0, .bool false]) (by simp [results, Try.results40, go_sem]) rfl ⟨by rw [HF.out], hblx⟩
      · have hc1' : decide (c ≤ bx) = false := decide_eq_false hc1
        by_cases hc2 : ax ≤ c
        · have HF : Hid (R = (0, false)) := Lib.hid (by rw [← hR3, if_pos (.inr hc2)])
          clear hR3
          go_wp2
          refine bodyPost_ret (v := .tuple #[.int .i64 0, .bool false]) (by simp [results, Try.results40, go_sem]) rfl ⟨by rw [HF.out], hblx⟩
        · have hc2' : decide (ax ≤ c) = false := decide_eq_false hc2
          rw [if_neg (by omega)] at hR3
          have m1 := mul_bd bY (ax - bx) 16777216 33554432 (by omega) (by omega) (by omega) (by omega)
          have m2 := mul_bd (ay - bY) (c - bx) 33554432 33554432 (by omega) (by omega) (by omega) (by omega)
          simp only [Int.reduceMul, Int.reduceNeg] at m1 m2
          obtain ⟨D, hD⟩ : ∃ D, ax - bx = D := ⟨_, rfl⟩
          obtain ⟨E, hE⟩ : ∃ D, ay - bY = D := ⟨_, rfl⟩
          obtain ⟨F, hF⟩ : ∃ D, c - bx = D := ⟨_, rfl⟩
          have v1 : IntKind.i64.wrap (ax - bx) = D := by rw [hD]; exact IntWalk.i64_in _ (by omega)
          have v2 : IntKind.i64.wrap (ay - bY) = E := by rw [hE]; exact IntWalk.i64_in _ (by omega)
          have v3 : IntKind.i64.wrap (c - bx) = F := by rw [hF]; exact IntWalk.i64_in _ (by omega)
          have hDb : 1 ≤ D ∧ D ≤ 1152921504606846976 := by omega
          rw [hD] at m1 hR3
          rw [hE, hF] at m2 hR3
          obtain ⟨P1, hP1⟩ : ∃ P, bY * D = P := ⟨_, rfl⟩
          obtain ⟨P2, hP2⟩ : ∃ P, E * F = P := ⟨_, rfl⟩
          rw [hP1] at m1 hR3
          rw [hP2] at m2 hR3
          have v4 : IntKind.i64.wrap (bY * D) = P1 := by rw [hP1]; exact IntWalk.i64_in _ (by omega)
          have v5 : IntKind.i64.wrap (E * F) = P2 := by rw [hP2]; exact IntWalk.i64_in _ (by omega)
          obtain ⟨NN, hNN⟩ : ∃ P, P1 + P2 = P := ⟨_, rfl⟩
          have v6 : IntKind.i64.wrap (P1 + P2) = NN := by rw [hNN]; exact IntWalk.i64_in _ (by omega)
          have hNb : -1152921504606846976 ≤ NN ∧ NN ≤ 1152921504606846976 := by omega
          rw [hNN] at hR3
          have hrd := xround_ok NN D hDb hNb
          have HRD := Lib.hid hrd
          have HR3 := Lib.hid hR3
          clear hrd hR3 m1 m2 hD hE hF hP1 hP2 hNN ok2 hDb hNb hc1 hc2
          generalize roundF NN D = RR at *
          go_wp2_with fail
          refine (HRD.out _).mono ?_
          rintro e w2 ⟨rfl, rfl⟩
          go_wp2
          refine bodyPost_ret (v := .tuple #[.int .i64 RR, .bool true]) (by simp [results, Try.results40, go_sem]) rfl ⟨by rw [← HR3.out], hblx⟩
  · have hR2 := HR.out
    simp only [if_neg hsw] at hR2
    have HR2 := Lib.hid hR2
    clear hR2 HR
    have hsw' : decide (bx < ax) = false := decide_eq_false hsw
    have hri := xright_any (some ⟨wA.heap.size, 0, none⟩) 2 [⟨ax, ay⟩, ⟨bx, bY⟩] (by simp [maxLen]) (wA.alloc (.cells #[.int .i64 ax, .int .i64 ay, .int .i64 bx, .int .i64 bY] 32)) (Rd.new wA [.int .i64 ax, .int .i64 ay, .int .i64 bx, .int .i64 bY] 32)
    cases hok : [(⟨ax, ay⟩ : Pt), ⟨bx, bY⟩].all okPt with
    | false =>
      rw [hok] at hri
      have HF : Hid (R = (0, false)) := Lib.hid (by rw [← HR2.out, if_pos (.inl hok)])
      have HRI := Lib.hid hri
      clear HR2 hok hri
      go_wp2_with fail
      refine HRI.out.mono ?_
      rintro e w1 ⟨rfl, hx1⟩
      have hblx := (hbl.alloc hs (.cells #[.int .i64 ax, .int .i64 ay, .int .i64 bx, .int .i64 bY] 32)).trans (hx1.mono (Nat.le_trans hs (Below.new wA _).size))
      go_wp2
      refine bodyPost_ret (v := .tuple #[.int .i64 0, .bool false]) (by simp [results, Try.results40, go_sem]) rfl ⟨by rw [HF.out], hblx⟩
    | true =>
      rw [hok] at hri
      have hR3 := HR2.out
      have ok2 : okPt ⟨ax, ay⟩ = true ∧ okPt ⟨bx, bY⟩ = true := by simpa using hok
      rw [okPt_iff, okPt_iff] at ok2
      dsimp only at ok2
      simp only [hok, Bool.true_eq_false, false_or] at hR3
      have HRI := Lib.hid hri
      clear HR2 hok hri
      have kk0 := k0.alloc (.cells #[.int .i64 ax, .int .i64 ay, .int .i64 bx, .int .i64 bY] 32)
      have kk1 := k1.alloc (.cells #[.int .i64 ax, .int .i64 ay, .int .i64 bx, .int .i64 bY] 32)
      have hbb := hbl.alloc hs (.cells #[.int .i64 ax, .int .i64 ay, .int .i64 bx, .int .i64 bY] 32)
      have hss := Nat.le_trans hs (Below.new wA (.cells #[.int .i64 ax, .int .i64 ay, .int .i64 bx, .int .i64 bY] 32)).size
      go_wp2_with fail
      refine HRI.out.mono ?_
      rintro e w1 ⟨rfl, hx1⟩
      have kk0 := kk0.keep hx1
      have kk1 := kk1.keep hx1
      have hblx := hbb.trans (hx1.mono hss)
      have z0 := kk0.cell 0 rfl
      have z1 := kk0.cell 1 rfl
      have z2 := kk1.cell 0 rfl
      have z3 := kk1.cell 1 rfl
      clear HRI hx1
      by_cases hc1 : c ≤ ax
      · have HF : Hid (R = (0, false)) := Lib.hid (by rw [← hR3, if_pos (.inl hc1)])
        clear hR3
        go_wp2
        refine bodyPost_ret (v := .tuple #[.int .i64 0, .bool false]) (by simp [results, Try.results40, go_sem]) rfl ⟨by rw [HF.out], hblx⟩
      · have hc1' : decide (c ≤ ax) = false := decide_eq_false hc1
        by_cases hc2 : bx ≤ c
        · have HF : Hid (R = (0, false)) := Lib.hid (by rw [← hR3, if_pos (.inr hc2)])
          clear hR3
          go_wp2
          refine bodyPost_ret (v := .tuple #[.int .i64 0, .bool false]) (by simp [results, Try.results40, go_sem]) rfl ⟨by rw [HF.out], hblx⟩
        · have hc2' : decide (bx ≤ c) = false := decide_eq_false hc2
          rw [if_neg (by omega)] at hR3
          have m1 := mul_bd ay (bx - ax) 16777216 33554432 (by omega) (by omega) (by omega) (by omega)
          have m2 := mul_bd (bY - ay) (c - ax) 33554432 33554432 (by omega) (by omega) (by omega) (by omega)
          simp only [Int.reduceMul, Int.reduceNeg] at m1 m2
          obtain ⟨D, hD⟩ : ∃ D, bx - ax = D := ⟨_, rfl⟩
          obtain ⟨E, hE⟩ : ∃ D, bY - ay = D := ⟨_, rfl⟩
          obtain ⟨F, hF⟩ : ∃ D, c - ax = D := ⟨_, rfl⟩
          have v1 : IntKind.i64.wrap (bx - ax) = D := by rw [hD]; exact IntWalk.i64_in _ (by omega)
          have v2 : IntKind.i64.wrap (bY - ay) = E := by rw [hE]; exact IntWalk.i64_in _ (by omega)
          have v3 : IntKind.i64.wrap (c - ax) = F := by rw [hF]; exact IntWalk.i64_in _ (by omega)
          have hDb : 1 ≤ D ∧ D ≤ 1152921504606846976 := by omega
          rw [hD] at m1 hR3
          rw [hE, hF] at m2 hR3
          obtain ⟨P1, hP1⟩ : ∃ P, ay * D = P := ⟨_, rfl⟩
          obtain ⟨P2, hP2⟩ : ∃ P, E * F = P := ⟨_, rfl⟩
          rw [hP1] at m1 hR3
          rw [hP2] at m2 hR3
          have v4 : IntKind.i64.wrap (ay * D) = P1 := by rw [hP1]; exact IntWalk.i64_in _ (by omega)
          have v5 : IntKind.i64.wrap (E * F) = P2 := by rw [hP2]; exact IntWalk.i64_in _ (by omega)
          obtain ⟨NN, hNN⟩ : ∃ P, P1 + P2 = P := ⟨_, rfl⟩
          have v6 : IntKind.i64.wrap (P1 + P2) = NN := by rw [hNN]; exact IntWalk.i64_in _ (by omega)
          have hNb : -1152921504606846976 ≤ NN ∧ NN ≤ 1152921504606846976 := by omega
          rw [hNN] at hR3
          have hrd := xround_ok NN D hDb hNb
          have HRD := Lib.hid hrd
          have HR3 := Lib.hid hR3
          clear hrd hR3 m1 m2 hD hE hF hP1 hP2 hNN ok2 hDb hNb hc1 hc2
          generalize roundF NN D = RR at *
          go_wp2_with fail
          refine (HRD.out _).mono ?_
          rintro e w2 ⟨rfl, rfl⟩
          go_wp2
          refine bodyPost_ret (v := .tuple #[.int .i64 RR, .bool true]) (by simp [results, Try.results40, go_sem]) rfl ⟨by rw [← HR3.out], hblx⟩

theorem flip_any (a : Pt) (w : World) :
    Calls Try.prog 50 #[a.val] w fun e w' => e = .returned (.agg #[.int .i64 a.y, .int .i64 a.x]) ∧ Below w.heap.size w w' := by
  obtain ⟨x, y⟩ := a
  dsimp only [Pt.val]
  go_enter Try.func50, Try.ntmps50
  go_wp2
  refine bodyPost_ret (v := .agg #[.int .i64 y, .int .i64 x]) (by simp [results, Try.results50, go_sem]) rfl ⟨rfl, ((Below.new _ _).alloc (by simp) _)⟩

/-- A number without its sign. -/
theorem far_any (a b : Int) (h : -4611686018427387904 ≤ a - b ∧ a - b ≤ 4611686018427387904) (w : World) :
    Calls Try.prog 41 #[.int .i64 a, .int .i64 b] w fun e w' => e = .returned (.int .i64 ((a - b).natAbs : Nat)) ∧ w = w' := by
  have w1 : IntKind.i64.wrap (a - b) = a - b := IntWalk.i64_in _ (by omega)
  have w2 : IntKind.i64.wrap (b - a) = b - a := IntWalk.i64_in _ (by omega)
  go_enter Try.func41, Try.ntmps41
  go_wp2
  all_goals (go_ret; exact ⟨ret_int (by omega), rfl⟩)

set_option maxHeartbeats 800000 in
theorem aty_any (a b : Pt) (c : Int) (w : World) :
    Calls Try.prog 42 #[a.val, b.val, .int .i64 c] w fun e w' => e = .returned (.tuple #[.int .i64 (atF ⟨a.y, a.x⟩ ⟨b.y, b.x⟩ c).1, .bool (atF ⟨a.y, a.x⟩ ⟨b.y, b.x⟩ c).2]) ∧ Below w.heap.size w w' := by
  have h1 := flip_any a
  have h2 := flip_any b
  have h3 := atx_any ⟨a.y, a.x⟩ ⟨b.y, b.x⟩ c
  generalize atF ⟨a.y, a.x⟩ ⟨b.y, b.x⟩ c = R at *
  obtain ⟨ax, ay⟩ := a
  obtain ⟨bx, bY⟩ := b
  dsimp only [Pt.val] at *
  go_enter Try.func42, Try.ntmps42
  have H1 := Lib.hid h1
  have H2 := Lib.hid h2
  have H3 := Lib.hid h3
  clear h1 h2 h3
  go_wp2_with fail
  have k0 := (Blk.lit w w.heap.size [.int .i64 ax, .int .i64 ay] 32 rfl).alloc (.cells #[.int .i64 bx, .int .i64 bY] 32)
  have k1 := Blk.lit (w.alloc (.cells #[.int .i64 ax, .int .i64 ay] 32)) (w.heap.size + 1) [.int .i64 bx, .int .i64 bY] 32 (by simp)
  have hbl := (Below.new w (.cells #[.int .i64 ax, .int .i64 ay] 32)).alloc (by simp) (.cells #[.int .i64 bx, .int .i64 bY] 32)
  have hs2 : ∀ {W}, Below w.heap.size w W → w.heap.size ≤ W.heap.size := fun h => h.size
  have hs := hs2 hbl
  refine wp_region_lit_txt [0, 2, 4, 6, 7, 8, 9] (fun W => Blk W w.heap.size [.int .i64 ax, .int .i64 ay] ∧ Blk W (w.heap.size + 1) [.int .i64 bx, .int .i64 bY]) (by kernel_rfl) (by kernel_rfl) (by kernel_rfl) ⟨k0.drew, k1.drew⟩ ?_
  have k0 := k0.drew
  have k1 := k1.drew
  have hbl := hbl.drew
  refine txt_light (.agg #[.int .i64 ax, .int .i64 ay]) rfl rfl ?_ ?_
  · intro w' hS
    have c0 := hS.1.cell 0 rfl
    have c1 := hS.1.cell 1 rfl
    go_simp
  try simp only [Act.put, List.setIfInBounds_toArray, List.set_cons_zero, List.set_cons_succ]
  refine txt_call [.agg #[.int .i64 ax, .int .i64 ay]] Try.f50 rfl rfl Try.func50 (by kernel_rfl) (by kernel_rfl) rfl ((H1.out _).mono ?_)
  rintro e w1 ⟨rfl, hx1⟩
  have k0 := k0.keep hx1
  have k1 := k1.keep hx1
  have hbl := hbl.trans (hx1.mono hs)
  have hs := hs2 hbl
  refine ⟨_, rfl, ⟨k0, k1⟩, ?_⟩
  try simp only [Act.put, List.setIfInBounds_toArray, List.set_cons_zero, List.set_cons_succ]
  refine txt_light (.agg #[.int .i64 bx, .int .i64 bY]) rfl rfl ?_ ?_
  · intro w' hS
    have c0 := hS.2.cell 0 rfl
    have c1 := hS.2.cell 1 rfl
    go_simp
  try simp only [Act.put, List.setIfInBounds_toArray, List.set_cons_zero, List.set_cons_succ]
  refine txt_call [.agg #[.int .i64 bx, .int .i64 bY]] Try.f50 rfl rfl Try.func50 (by kernel_rfl) (by kernel_rfl) rfl ((H2.out _).mono ?_)
  rintro e w2 ⟨rfl, hx2⟩
  have k0 := k0.keep hx2
  have k1 := k1.keep hx2
  have hbl := hbl.trans (hx2.mono hs)
  have hs := hs2 hbl
  refine ⟨_, rfl, ⟨k0, k1⟩, ?_⟩
  try simp only [Act.put, List.setIfInBounds_toArray, List.set_cons_zero, List.set_cons_succ]
  (refine txt_light ?_ rfl rfl ?_ ?_; rotate_left; · (intro w' hS; (try dsimp only at hS); go_simp; with_reducible rfl)); try simp only [Act.put, List.setIfInBounds_toArray, List.set_cons_zero, List.set_cons_succ]
  refine txt_call [.agg #[.int .i64 ay, .int .i64 ax], .agg #[.int .i64 bY, .int .i64 bx], .int .i64 c] Try.f40 rfl rfl Try.func40 (by kernel_rfl) (by kernel_rfl) rfl ((H3.out _).mono ?_)
  rintro e w3 ⟨rfl, hx3⟩
  have k0 := k0.keep hx3
  have k1 := k1.keep hx3
  have hbl := hbl.trans (hx3.mono hs)
  have hs := hs2 hbl
  refine ⟨_, rfl, ⟨k0, k1⟩, ?_⟩
  try simp only [Act.put, List.setIfInBounds_toArray, List.set_cons_zero, List.set_cons_succ]
  (refine txt_light ?_ rfl rfl ?_ ?_; rotate_left; · (intro w' hS; (try dsimp only at hS); go_simp; with_reducible rfl)); try simp only [Act.put, List.setIfInBounds_toArray, List.set_cons_zero, List.set_cons_succ]
  (refine txt_light ?_ rfl rfl ?_ ?_; rotate_left; · (intro w' hS; (try dsimp only at hS); go_simp; with_reducible rfl)); try simp only [Act.put, List.setIfInBounds_toArray, List.set_cons_zero, List.set_cons_succ]
  (refine txt_light ?_ rfl rfl ?_ ?_; rotate_left; · (intro w' hS; (try dsimp only at hS); go_simp; with_reducible rfl)); try simp only [Act.put, List.setIfInBounds_toArray, List.set_cons_zero, List.set_cons_succ]
  (refine txt_light ?_ rfl rfl ?_ ?_; rotate_left; · (intro w' hS; (try dsimp only at hS); go_simp; with_reducible rfl)); try simp only [Act.put, List.setIfInBounds_toArray, List.set_cons_zero, List.set_cons_succ]
  refine txt_nil ?_
  go_wp2
  refine bodyPost_ret (v := .tuple #[.int .i64 R.1, .bool R.2]) (by simp [results, Try.results42, go_sem]) rfl ⟨rfl, hbl⟩
end Go.Proofs.Ytediblljgakoeaa
/- seg.Cuts' comparison; insertion sort of cuts. -/
set_option linter.unusedVariables false
set_option linter.unusedSimpArgs false
set_option maxRecDepth 100000
namespace Go
theorem cus_len (l : List Cu) : (cus l).length = l.length * 4 := flatMap_len Cu.cells 4 (fun _ => rfl) l
theorem cus_get (l : List Cu) (i j : Nat) (hi : i < l.length) (hj : j < 4) : (cus l)[i * 4 + j]? = (l[i]).cells[j]? := flatMap_get Cu.cells 4 (fun _ => rfl) l i j hi hj
theorem cus_set (l : List Cu) (i : Nat) (hi : i < l.length) (c : Cu) : ((((cus l).set (i * 4) (.int .i64 c.x)).set (i * 4 + 1) (.int .i64 c.y)).set (i * 4 + 2) (.int .i64 c.p)).set (i * 4 + 3) (.int .i64 c.w) = cus (l.set i c) := by
  induction l generalizing i with
  | nil => simp at hi
  | cons a l ih =>
    cases i with
    | zero => simp [cus, Cu.cells]
    | succ i =>
      have := ih i (by simpa using hi)
      simp only [cus, List.flatMap_cons, List.set_cons_succ] at *
      rw [← this]
      have e : ∀ (X : List Value) (k : Nat) (v : Value), (a.cells ++ X).set ((i + 1) * 4 + k) v = a.cells ++ X.set (i * 4 + k) v := fun X k v => by
        have hl : a.cells.length = 4 := rfl
        rw [List.set_append, if_neg (by rw [hl]; omega), hl, show (i + 1) * 4 + k - 4 = i * 4 + k by omega]
      have e0 := e (l.flatMap Cu.cells) 0
      simp only [Nat.add_zero] at e0
      rw [e0, e, e, e]
end Go
namespace Go.Proofs.Ytediblljgakoeaa
open Go.RowKit

set_option maxHeartbeats 800000 in
theorem ccmp_any (a b : Cu) (ha : CuOk a) (hb : CuOk b) (w : World) :
    Calls Try.prog 44 #[a.val, b.val] w fun e w' => e = .returned (.int .i64 (cmpC a b)) ∧ Below w.heap.size w w' := by
  obtain ⟨ax, ay, ap, aw⟩ := a
  obtain ⟨bx, bY, bp, bw⟩ := b
  obtain ⟨h1, h2⟩ := ha
  obtain ⟨h3, h4⟩ := hb
  dsimp only [Cu.val, cmpC] at *
  have m1 := mul_bd ap bw 67108864 67108864 (by omega) (by omega) (by omega) (by omega)
  have m2 := mul_bd bp aw 67108864 67108864 (by omega) (by omega) (by omega) (by omega)
  simp only [Int.reduceMul, Int.reduceNeg] at m1 m2
  have w1 : IntKind.i64.wrap (ap * bw) = ap * bw := IntWalk.i64_in _ (by omega)
  have w2 : IntKind.i64.wrap (bp * aw) = bp * aw := IntWalk.i64_in _ (by omega)
  have hbl := (Below.new w (.cells #[.int .i64 ax, .int .i64 ay, .int .i64 ap, .int .i64 aw] 84)).alloc (by simp) (.cells #[.int .i64 bx, .int .i64 bY, .int .i64 bp, .int .i64 bw] 84)
  go_enter Try.func44, Try.ntmps44
  go_wp2
  go_ret
  exact ⟨ret_int rfl, hbl⟩
end Go.Proofs.Ytediblljgakoeaa
/- A call of a function value, inside a region that draws its order. -/
set_option linter.unusedVariables false
set_option linter.unusedSimpArgs false
namespace Go
open Go.RowKit
section
variable {P : Program} {ops : Array Oper} {lt : Nat → Bool} {Q : Exit → Act → World → Prop} {S : World → Prop} {z : Option Nat}
theorem txt_callv {k : Nat} {rest : List Oper} {a : Act} {w : World} {dst : Option Tmp} {ty : TypeId} {pos : String} {after : Array Edge} {guard : Option (Nat × Bool)} {x : Operand} {f : FuncId} {args : Array Operand} {ats : Array TypeId} (bs : List Value) (vs : List Value) (fn : Func) (hl : lt k = false)
    (hw : Region.wanted { dst := dst, op := .call { callee := .value x, args := args, argTypes := ats }, type := ty, pos := pos, after := after, guard := guard } (yielded ops a.tmps) = true)
    (hx : a.eval x = .func (.func f) #[] bs.toArray) (hfn : P.funcs[f]? = some fn) (hn : (fn.name == "runtime.NumGoroutine") = false) (hb : fn.body.isNone = false) (hvs : args.toList.map a.eval = vs)
    (h : Calls P f (vs ++ bs).toArray w fun e w' => ∃ v, e = .returned v ∧ S w' ∧ wpTxtL P ops lt Q S z (k + 1) rest (a.put dst v) w') :
    wpTxtL P ops lt Q S z k ({ dst := dst, op := .call { callee := .value x, args := args, argTypes := ats }, type := ty, pos := pos, after := after, guard := guard } :: rest) a w := by
  refine txt_heavy hl hw (fun K hK => ?_)
  unfold Oper.wp
  have e : execOp a.eval { dst := dst, op := .call { callee := .value x, args := args, argTypes := ats }, type := ty, pos := pos, after := after, guard := guard } = callFunc f (vs ++ bs).toArray := by
    have e1 : args.map a.eval = vs.toArray := by rw [← hvs]; apply Array.ext'; simp
    unfold execOp
    simp only [resolve, hx, Deferred.ofValue, invoke, e1]
    simp
  rw [e, run_callFunc _ _ hfn hn hb]
  rw [Oper.upon_enter]
  refine Calls.mono h ?_
  rintro e w' ⟨v, rfl, hS, hn⟩
  exact hK.out _ _ hS hn
end
end Go
