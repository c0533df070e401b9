/-
  VarintReads: the walk.
-/
import Derived.Test.YtfonljchocekgaaVknown
import Derived.Test.YtfonljchocekgaaVrow
import Derived.Test.YtfonljchocekgaaVsame64
import Derived.Test.YtfonljchocekgaaOpen
import Derived.Test.YtfonljchocekgaaReg
namespace Go.Proofs.Ytfonljchocekgaa
open Go.RowKit Go.Vint

set_option maxHeartbeats 2000000 in
theorem reads_walk {w : World} (a : Option Addr) (c0 : Nat) (A : List Int) (hn0 : A.length ≤ c0) (hc0 : c0 ≤ maxLen) (_hca : a = none → c0 = 0) (hra : Rd w a (A.map (Value.int .u8))) (hwA : ∀ n ∈ A, (Lit.int .u8 n).wf = true) :
    Calls Try.prog 4 #[.slice a A.length c0] w fun e w' => e = .returned (.bool true) ∧ Below w.heap.size w w' := by
  have hbA : ∀ x ∈ A, 0 ≤ x ∧ x ≤ 255 := fun x hx => bd_u8 (hwA x hx)
  clear hwA
  obtain ⟨n0, hA⟩ : ∃ n0, A.length = n0 := ⟨_, rfl⟩
  rw [hA] at hn0 ⊢
  have hc0' := hc0
  unfold maxLen at hc0
  go_enter Try.func4, Try.ntmps4
  obtain ⟨z0, hz0⟩ : ∃ z : Int, (if (200 : Int) < (n0 : Int) then (200 : Int) else (n0 : Int)) = z := ⟨_, rfl⟩
  obtain ⟨L, hL⟩ : ∃ L, L = A.take 200 := ⟨_, rfl⟩
  have e0 : z0.toNat = L.length := by rw [hL, List.length_take, hA, ← hz0]; split <;> omega
  have hz1 : 0 ≤ z0 ∧ z0 ≤ c0 := by rw [← hz0]; split <;> omega
  have hr : Rd w a (L.map (Value.int .u8)) := by rw [hL, List.map_take]; exact hra.take 200
  have hL2 : L.length ≤ 200 := by rw [hL, List.length_take]; omega
  have hLc : L.length ≤ c0 := by omega
  have hb : ∀ x ∈ L, 0 ≤ x ∧ x ≤ 255 := by rw [hL]; exact fun x hx => hbA x (List.mem_of_mem_take hx)
  clear hL hA hra hbA
  go_wp2_with fail
  clear hz0 e0 hz1
  refine (vread_any a c0 L hb (by omega) _ hr).mono ?_
  rintro e w1 ⟨he, rfl⟩
  have hrl := row_len L
  have hrs : ∀ D, rd L = D → _ := fun D h => rd_ok L
  obtain ⟨rn, rk, re, hrd⟩ : ∃ rn rk re, rd L = (rn, rk, re) := ⟨_, _, _, rfl⟩
  obtain ⟨rl, rp, rf, hrow⟩ : ∃ rl rp rf, row L = (rl, rp, rf) := ⟨_, _, _, rfl⟩
  rw [hrow] at hrl
  simp only at hrl
  have HRD := Lib.hid hrd
  have HROW := Lib.hid hrow
  clear hrd hrow hrs
  rw [HRD.out] at he
  simp only [Rd3] at he
  subst he
  go_wp2_with fail
  refine (rread_any a c0 L hb (by omega) _ hr).mono ?_
  rintro e w1 ⟨he, rfl⟩
  rw [HRD.out] at he
  simp only [Rd3] at he
  subst he
  go_wp2_with fail
  refine (vrow_any a c0 L hb (by omega) hLc hc0' _ hr).mono ?_
  rintro e w1 ⟨⟨v1, he, hown1⟩, hb1⟩
  rw [HROW.out] at he hown1
  simp only at he hown1
  subst he
  obtain ⟨a1, c1, rfl, -, -, hz1, hr1, -⟩ := hown1.form
  have hrb1 := hr.keep hb1
  go_wp2_with fail
  refine (rrow_any a c0 L hb (by omega) hLc hc0' _ hrb1).mono ?_
  rintro e w2 ⟨⟨v2, he, hown2⟩, hb2⟩
  rw [HROW.out] at he hown2
  simp only at he hown2
  subst he
  obtain ⟨a2, c2, rfl, -, -, hz2, hr2, -⟩ := hown2.form
  have hr12 := hr1.keep hb2
  have hrb2 := hrb1.keep hb2
  have hbl2 := hb1.trans (hb2.mono hb1.size)
  clear hown1 hown2 hb1 hb2 hr1 hrb1 hr
  go_wp2_with fail
  refine (lsame_any a1 a2 _ _ rl rl (by omega) (by omega) _ hr12 hr2).mono ?_
  rintro e w3 ⟨rfl, nq, rfl⟩
  simp only [decide_true]
  have hbl3 := below_drewN hbl2 nq
  have hr13 : Rd (w2.drewN nq) a1 _ := hr12
  have hrb3 : Rd (w2.drewN nq) a _ := hrb2
  have hs3 := hbl3.size
  clear hbl2 hr12 hrb2 hr2
  generalize w2.drewN nq = w3 at *
  go_wp2
  have hrk : Hid (re = 0 → vb rn = L.take rk.toNat ∧ 0 ≤ rk ∧ rk ≤ L.length ∧ 0 ≤ rn ∧ rn ≤ 18446744073709551615) := by
    intro h
    have hr := HRD.out
    obtain ⟨k, hk, he, hc, -, -, hz⟩ := rd_ok L (by rw [hr]; exact h)
    have hbd := rd_bd L hb (by rw [hr]; exact h)
    have hv := vb_rd L hb k hk hc hz
    rw [hr] at he hbd
    simp only [Prod.mk.injEq] at he
    obtain ⟨rfl, rfl, -⟩ := he
    have e : ((k : Int) + 1).toNat = k + 1 := by omega
    exact ⟨by rw [e]; exact hv, by omega, by omega, hbd.1, hbd.2⟩
  have hrw : Hid (rf = 0 → vbs rl = L ∧ ∀ x ∈ rl, 0 ≤ x ∧ x ≤ 18446744073709551615) := by
    intro h
    have hr := HROW.out
    obtain ⟨h1, h2, -, -⟩ := row_ok L hb (by rw [hr]; exact h)
    rw [hr] at h1 h2
    exact ⟨h1, h2⟩
  have hdone : ∀ wz, Below w3.heap.size w3 wz → Below w.heap.size w wz := fun wz h => hbl3.trans (h.mono hs3)
  have HD := Lib.hid hdone
  clear HRD HROW hdone hbl3 hs3
  by_cases h1 : re = 0
  · obtain ⟨hvb, hrk0, hrkl, hrn0, hrn1⟩ := hrk.out h1
    obtain ⟨k, rfl⟩ := Int.eq_ofNat_of_zero_le hrk0
    rw [Int.toNat_natCast] at hvb
    have hvbs : vbs [rn] = vb rn := by simp [vbs]
    have HVB := Lib.hid (hvbs.trans hvb)
    have hb1 : (re != 0) = false := by simp [h1]
    have hkl : k ≤ L.length := by omega
    have hkc : (k : Int) ≤ c0 := by omega
    have hrT : ∀ wz, Below w3.heap.size w3 wz → Rd wz a ((L.take k).map (Value.int .u8)) := fun wz h => by rw [List.map_take]; exact (hrb3.keep h).take k
    have HRT := Lib.hid hrT
    have hTl : (L.take k).length = k := by simp; omega
    clear hvb h1 hvbs hrk hrT
    by_cases h2 : rf = 0
    · obtain ⟨hvbs2, hrlb⟩ := hrw.out h2
      have HV2 := Lib.hid hvbs2
      have hb2 : (rf != 0) = false := by simp [h2]
      clear h2 hvbs2 hrw
      refine wp_region_lit_txt [1, 2, 3, 4, 5, 8, 9, 10, 12, 13, 14, 15, 16, 17, 18, 20, 22, 23, 24] (Below w3.heap.size w3) (by kernel_rfl) (by kernel_rfl) (by kernel_rfl) ((Below.refl _ _).drew) ?_
      refine txt_call [] Try.f10 rfl rfl Try.func10 (by kernel_rfl) (by kernel_rfl) rfl ((vknown_any _).mono ?_)
      rintro e w4 ⟨rfl, hb4⟩
      have hb4' : Below w3.heap.size w3 w4 := (Below.refl _ _).drew.trans (hb4.mono (Nat.le_refl _))
      clear hb4
      refine ⟨_, rfl, hb4', ?_⟩
      try simp only [Act.put, List.setIfInBounds_toArray, List.set_cons_zero, List.set_cons_succ]
      (refine txt_light ?_ rfl rfl ?_ ?_; rotate_left; · (intro w' hS; go_simp; with_reducible rfl)); try simp only [Act.put, List.setIfInBounds_toArray, List.set_cons_zero, List.set_cons_succ]
      (refine txt_light ?_ rfl rfl ?_ ?_; rotate_left; · (intro w' hS; go_simp; with_reducible rfl)); try simp only [Act.put, List.setIfInBounds_toArray, List.set_cons_zero, List.set_cons_succ]
      (refine txt_light ?_ rfl rfl ?_ ?_; rotate_left; · (intro w' hS; go_simp; with_reducible rfl)); try simp only [Act.put, List.setIfInBounds_toArray, List.set_cons_zero, List.set_cons_succ]
      (refine txt_light ?_ rfl rfl ?_ ?_; rotate_left; · (intro w' hS; go_simp; with_reducible rfl)); try simp only [Act.put, List.setIfInBounds_toArray, List.set_cons_zero, List.set_cons_succ]
      (refine txt_light ?_ rfl rfl ?_ ?_; rotate_left; · (intro w' hS; go_simp; with_reducible rfl)); try simp only [Act.put, List.setIfInBounds_toArray, List.set_cons_zero, List.set_cons_succ]
      refine txt_heavy rfl rfl (fun K hK => ?_)
      go_step
      refine hK.out _ _ (hb4'.alloc hb4'.size _) ?_
      clear hK K
      try simp only [Act.put, List.setIfInBounds_toArray, List.set_cons_zero, List.set_cons_succ]
      refine txt_call [.slice (some ⟨w4.heap.size, 0, none⟩) 1 1] Try.f6 rfl rfl Try.func6 (by kernel_rfl) (by kernel_rfl) rfl ((vbytes_any _ 1 [rn] (by simpa using ⟨hrn0, hrn1⟩) (by simp) _ (Rd.lit _ _ [.int .u64 rn] _ rfl)).mono ?_)
      rintro e w5 ⟨v5, rfl, hown5, hb5⟩
      rw [HVB.out] at hown5
      obtain ⟨a5, c5, rfl, -, -, -, hr5, -⟩ := hown5.form
      have hb5' := (hb4'.alloc hb4'.size (.cells #[.int .u64 rn] 23)).trans (hb5.mono (by have := hb4'.size; simp; omega))
      clear hb5 hown5 hb4'
      rw [hTl]
      refine ⟨_, rfl, hb5', ?_⟩
      try simp only [Act.put, List.setIfInBounds_toArray, List.set_cons_zero, List.set_cons_succ]
      (refine txt_light ?_ rfl rfl ?_ ?_; rotate_left; · (intro w' hS; go_simp; with_reducible rfl)); try simp only [Act.put, List.setIfInBounds_toArray, List.set_cons_zero, List.set_cons_succ]
      (refine txt_light ?_ rfl rfl ?_ ?_; rotate_left; · (intro w' hS; go_simp; with_reducible rfl)); try simp only [Act.put, List.setIfInBounds_toArray, List.set_cons_zero, List.set_cons_succ]
      (refine txt_light ?_ rfl rfl ?_ ?_; rotate_left; · (intro w' hS; go_simp; with_reducible rfl)); try simp only [Act.put, List.setIfInBounds_toArray, List.set_cons_zero, List.set_cons_succ]
      have hsm := rsame_any a5 a c5 c0 (L.take k) (L.take k) (by omega) (by omega) w5 hr5 (HRT.out _ hb5')
      rw [hTl] at hsm
      refine txt_call [.slice a5 k c5, .slice a k c0] Try.f7 rfl rfl Try.func7 (by kernel_rfl) (by kernel_rfl) rfl (hsm.mono ?_)
      rintro e w6 ⟨rfl, n6, rfl⟩
      simp only [decide_true]
      have hb6 := below_drewN hb5' n6
      clear hsm hr5 hb5'
      refine ⟨_, rfl, hb6, ?_⟩
      try simp only [Act.put, List.setIfInBounds_toArray, List.set_cons_zero, List.set_cons_succ]
      generalize w5.drewN n6 = w6 at *
      (refine txt_light ?_ rfl rfl ?_ ?_; rotate_left; · (intro w' hS; go_simp; with_reducible rfl)); try simp only [Act.put, List.setIfInBounds_toArray, List.set_cons_zero, List.set_cons_succ]
      (refine txt_light ?_ rfl rfl ?_ ?_; rotate_left; · (intro w' hS; go_simp; with_reducible rfl)); try simp only [Act.put, List.setIfInBounds_toArray, List.set_cons_zero, List.set_cons_succ]
      (refine txt_light ?_ rfl rfl ?_ ?_; rotate_left; · (intro w' hS; go_simp; with_reducible rfl)); try simp only [Act.put, List.setIfInBounds_toArray, List.set_cons_zero, List.set_cons_succ]
      (refine txt_light ?_ rfl rfl ?_ ?_; rotate_left; · (intro w' hS; go_simp; with_reducible rfl)); try simp only [Act.put, List.setIfInBounds_toArray, List.set_cons_zero, List.set_cons_succ]
      (refine txt_light ?_ rfl rfl ?_ ?_; rotate_left; · (intro w' hS; go_simp; with_reducible rfl)); try simp only [Act.put, List.setIfInBounds_toArray, List.set_cons_zero, List.set_cons_succ]
      (refine txt_light ?_ rfl rfl ?_ ?_; rotate_left; · (intro w' hS; go_simp; with_reducible rfl)); try simp only [Act.put, List.setIfInBounds_toArray, List.set_cons_zero, List.set_cons_succ]
      (refine txt_light ?_ rfl rfl ?_ ?_; rotate_left; · (intro w' hS; go_simp; with_reducible rfl)); try simp only [Act.put, List.setIfInBounds_toArray, List.set_cons_zero, List.set_cons_succ]
      refine txt_call [.slice a1 rl.length c1] Try.f6 rfl rfl Try.func6 (by kernel_rfl) (by kernel_rfl) rfl ((vbytes_any a1 c1 rl hrlb (by omega) _ (hr13.keep hb6)).mono ?_)
      rintro e w7 ⟨v7, rfl, hown7, hb7⟩
      rw [HV2.out] at hown7
      obtain ⟨a7, c7, rfl, -, -, -, hr7, -⟩ := hown7.form
      have hb7' := (hb6).trans (hb7.mono (hb6).size)
      clear hb7 hown7 hb6
      refine ⟨_, rfl, hb7', ?_⟩
      try simp only [Act.put, List.setIfInBounds_toArray, List.set_cons_zero, List.set_cons_succ]
      (refine txt_light ?_ rfl rfl ?_ ?_; rotate_left; · (intro w' hS; go_simp; with_reducible rfl)); try simp only [Act.put, List.setIfInBounds_toArray, List.set_cons_zero, List.set_cons_succ]
      refine txt_call [.slice a7 L.length c7, .slice a L.length c0] Try.f7 rfl rfl Try.func7 (by kernel_rfl) (by kernel_rfl) rfl ((rsame_any a7 a c7 c0 L L (by omega) (by omega) _ hr7 (hrb3.keep hb7')).mono ?_)
      rintro e w8 ⟨rfl, n8, rfl⟩
      simp only [decide_true]
      have hb8 := below_drewN hb7' n8
      clear hr7 hb7'
      refine ⟨_, rfl, hb8, ?_⟩
      try simp only [Act.put, List.setIfInBounds_toArray, List.set_cons_zero, List.set_cons_succ]
      generalize w7.drewN n8 = w8 at *
      (refine txt_light ?_ rfl rfl ?_ ?_; rotate_left; · (intro w' hS; go_simp; with_reducible rfl)); try simp only [Act.put, List.setIfInBounds_toArray, List.set_cons_zero, List.set_cons_succ]
      (refine txt_light ?_ rfl rfl ?_ ?_; rotate_left; · (intro w' hS; go_simp; with_reducible rfl)); try simp only [Act.put, List.setIfInBounds_toArray, List.set_cons_zero, List.set_cons_succ]
      (refine txt_light ?_ rfl rfl ?_ ?_; rotate_left; · (intro w' hS; go_simp; with_reducible rfl)); try simp only [Act.put, List.setIfInBounds_toArray, List.set_cons_zero, List.set_cons_succ]
      refine txt_nil ?_
      go_wp2
      go_ret
      exact ⟨rfl, HD.out _ hb8⟩
    · have hb2 : (rf != 0) = true := by simpa using h2
      clear h2 hrw
      refine wp_region_lit_txt [1, 2, 3, 4, 5, 8, 9, 10, 12, 13, 14, 15, 16, 17, 18, 20, 22, 23, 24] (Below w3.heap.size w3) (by kernel_rfl) (by kernel_rfl) (by kernel_rfl) ((Below.refl _ _).drew) ?_
      refine txt_call [] Try.f10 rfl rfl Try.func10 (by kernel_rfl) (by kernel_rfl) rfl ((vknown_any _).mono ?_)
      rintro e w4 ⟨rfl, hb4⟩
      have hb4' : Below w3.heap.size w3 w4 := (Below.refl _ _).drew.trans (hb4.mono (Nat.le_refl _))
      clear hb4
      refine ⟨_, rfl, hb4', ?_⟩
      try simp only [Act.put, List.setIfInBounds_toArray, List.set_cons_zero, List.set_cons_succ]
      (refine txt_light ?_ rfl rfl ?_ ?_; rotate_left; · (intro w' hS; go_simp; with_reducible rfl)); try simp only [Act.put, List.setIfInBounds_toArray, List.set_cons_zero, List.set_cons_succ]
      (refine txt_light ?_ rfl rfl ?_ ?_; rotate_left; · (intro w' hS; go_simp; with_reducible rfl)); try simp only [Act.put, List.setIfInBounds_toArray, List.set_cons_zero, List.set_cons_succ]
      (refine txt_light ?_ rfl rfl ?_ ?_; rotate_left; · (intro w' hS; go_simp; with_reducible rfl)); try simp only [Act.put, List.setIfInBounds_toArray, List.set_cons_zero, List.set_cons_succ]
      (refine txt_light ?_ rfl rfl ?_ ?_; rotate_left; · (intro w' hS; go_simp; with_reducible rfl)); try simp only [Act.put, List.setIfInBounds_toArray, List.set_cons_zero, List.set_cons_succ]
      (refine txt_light ?_ rfl rfl ?_ ?_; rotate_left; · (intro w' hS; go_simp; with_reducible rfl)); try simp only [Act.put, List.setIfInBounds_toArray, List.set_cons_zero, List.set_cons_succ]
      refine txt_heavy rfl rfl (fun K hK => ?_)
      go_step
      refine hK.out _ _ (hb4'.alloc hb4'.size _) ?_
      clear hK K
      try simp only [Act.put, List.setIfInBounds_toArray, List.set_cons_zero, List.set_cons_succ]
      refine txt_call [.slice (some ⟨w4.heap.size, 0, none⟩) 1 1] Try.f6 rfl rfl Try.func6 (by kernel_rfl) (by kernel_rfl) rfl ((vbytes_any _ 1 [rn] (by simpa using ⟨hrn0, hrn1⟩) (by simp) _ (Rd.lit _ _ [.int .u64 rn] _ rfl)).mono ?_)
      rintro e w5 ⟨v5, rfl, hown5, hb5⟩
      rw [HVB.out] at hown5
      obtain ⟨a5, c5, rfl, -, -, -, hr5, -⟩ := hown5.form
      have hb5' := (hb4'.alloc hb4'.size (.cells #[.int .u64 rn] 23)).trans (hb5.mono (by have := hb4'.size; simp; omega))
      clear hb5 hown5 hb4'
      rw [hTl]
      refine ⟨_, rfl, hb5', ?_⟩
      try simp only [Act.put, List.setIfInBounds_toArray, List.set_cons_zero, List.set_cons_succ]
      (refine txt_light ?_ rfl rfl ?_ ?_; rotate_left; · (intro w' hS; go_simp; with_reducible rfl)); try simp only [Act.put, List.setIfInBounds_toArray, List.set_cons_zero, List.set_cons_succ]
      (refine txt_light ?_ rfl rfl ?_ ?_; rotate_left; · (intro w' hS; go_simp; with_reducible rfl)); try simp only [Act.put, List.setIfInBounds_toArray, List.set_cons_zero, List.set_cons_succ]
      (refine txt_light ?_ rfl rfl ?_ ?_; rotate_left; · (intro w' hS; go_simp; with_reducible rfl)); try simp only [Act.put, List.setIfInBounds_toArray, List.set_cons_zero, List.set_cons_succ]
      have hsm := rsame_any a5 a c5 c0 (L.take k) (L.take k) (by omega) (by omega) w5 hr5 (HRT.out _ hb5')
      rw [hTl] at hsm
      refine txt_call [.slice a5 k c5, .slice a k c0] Try.f7 rfl rfl Try.func7 (by kernel_rfl) (by kernel_rfl) rfl (hsm.mono ?_)
      rintro e w6 ⟨rfl, n6, rfl⟩
      simp only [decide_true]
      have hb6 := below_drewN hb5' n6
      clear hsm hr5 hb5'
      refine ⟨_, rfl, hb6, ?_⟩
      try simp only [Act.put, List.setIfInBounds_toArray, List.set_cons_zero, List.set_cons_succ]
      generalize w5.drewN n6 = w6 at *
      (refine txt_light ?_ rfl rfl ?_ ?_; rotate_left; · (intro w' hS; go_simp; with_reducible rfl)); try simp only [Act.put, List.setIfInBounds_toArray, List.set_cons_zero, List.set_cons_succ]
      (refine txt_light ?_ rfl rfl ?_ ?_; rotate_left; · (intro w' hS; go_simp; with_reducible rfl)); try simp only [Act.put, List.setIfInBounds_toArray, List.set_cons_zero, List.set_cons_succ]
      (refine txt_light ?_ rfl rfl ?_ ?_; rotate_left; · (intro w' hS; go_simp; with_reducible rfl)); try simp only [Act.put, List.setIfInBounds_toArray, List.set_cons_zero, List.set_cons_succ]
      (refine txt_light ?_ rfl rfl ?_ ?_; rotate_left; · (intro w' hS; go_simp; with_reducible rfl)); try simp only [Act.put, List.setIfInBounds_toArray, List.set_cons_zero, List.set_cons_succ]
      (refine txt_light ?_ rfl rfl ?_ ?_; rotate_left; · (intro w' hS; go_simp; with_reducible rfl)); try simp only [Act.put, List.setIfInBounds_toArray, List.set_cons_zero, List.set_cons_succ]
      (refine txt_light ?_ rfl rfl ?_ ?_; rotate_left; · (intro w' hS; go_simp; with_reducible rfl)); try simp only [Act.put, List.setIfInBounds_toArray, List.set_cons_zero, List.set_cons_succ]
      refine txt_skip rfl ?_; try simp only [Act.put, List.setIfInBounds_toArray, List.set_cons_zero, List.set_cons_succ]
      refine txt_skip rfl ?_; try simp only [Act.put, List.setIfInBounds_toArray, List.set_cons_zero, List.set_cons_succ]
      refine txt_skip rfl ?_; try simp only [Act.put, List.setIfInBounds_toArray, List.set_cons_zero, List.set_cons_succ]
      refine txt_skip rfl ?_; try simp only [Act.put, List.setIfInBounds_toArray, List.set_cons_zero, List.set_cons_succ]
      (refine txt_light ?_ rfl rfl ?_ ?_; rotate_left; · (intro w' hS; go_simp; with_reducible rfl)); try simp only [Act.put, List.setIfInBounds_toArray, List.set_cons_zero, List.set_cons_succ]
      (refine txt_light ?_ rfl rfl ?_ ?_; rotate_left; · (intro w' hS; go_simp; with_reducible rfl)); try simp only [Act.put, List.setIfInBounds_toArray, List.set_cons_zero, List.set_cons_succ]
      (refine txt_light ?_ rfl rfl ?_ ?_; rotate_left; · (intro w' hS; go_simp; with_reducible rfl)); try simp only [Act.put, List.setIfInBounds_toArray, List.set_cons_zero, List.set_cons_succ]
      refine txt_nil ?_
      go_wp2
      go_ret
      exact ⟨rfl, HD.out _ hb6⟩
  · have hb1 : (re != 0) = true := by simpa using h1
    clear h1 hrk
    by_cases h2 : rf = 0
    · obtain ⟨hvbs2, hrlb⟩ := hrw.out h2
      have HV2 := Lib.hid hvbs2
      have hb2 : (rf != 0) = false := by simp [h2]
      clear h2 hvbs2 hrw
      refine wp_region_lit_txt [1, 2, 3, 4, 5, 8, 9, 10, 12, 13, 14, 15, 16, 17, 18, 20, 22, 23, 24] (Below w3.heap.size w3) (by kernel_rfl) (by kernel_rfl) (by kernel_rfl) ((Below.refl _ _).drew) ?_
      refine txt_call [] Try.f10 rfl rfl Try.func10 (by kernel_rfl) (by kernel_rfl) rfl ((vknown_any _).mono ?_)
      rintro e w4 ⟨rfl, hb4⟩
      have hb4' : Below w3.heap.size w3 w4 := (Below.refl _ _).drew.trans (hb4.mono (Nat.le_refl _))
      clear hb4
      refine ⟨_, rfl, hb4', ?_⟩
      try simp only [Act.put, List.setIfInBounds_toArray, List.set_cons_zero, List.set_cons_succ]
      (refine txt_light ?_ rfl rfl ?_ ?_; rotate_left; · (intro w' hS; go_simp; with_reducible rfl)); try simp only [Act.put, List.setIfInBounds_toArray, List.set_cons_zero, List.set_cons_succ]
      (refine txt_light ?_ rfl rfl ?_ ?_; rotate_left; · (intro w' hS; go_simp; with_reducible rfl)); try simp only [Act.put, List.setIfInBounds_toArray, List.set_cons_zero, List.set_cons_succ]
      (refine txt_light ?_ rfl rfl ?_ ?_; rotate_left; · (intro w' hS; go_simp; with_reducible rfl)); try simp only [Act.put, List.setIfInBounds_toArray, List.set_cons_zero, List.set_cons_succ]
      (refine txt_light ?_ rfl rfl ?_ ?_; rotate_left; · (intro w' hS; go_simp; with_reducible rfl)); try simp only [Act.put, List.setIfInBounds_toArray, List.set_cons_zero, List.set_cons_succ]
      refine txt_skip rfl ?_; try simp only [Act.put, List.setIfInBounds_toArray, List.set_cons_zero, List.set_cons_succ]
      refine txt_skip rfl ?_; try simp only [Act.put, List.setIfInBounds_toArray, List.set_cons_zero, List.set_cons_succ]
      refine txt_skip rfl ?_; try simp only [Act.put, List.setIfInBounds_toArray, List.set_cons_zero, List.set_cons_succ]
      refine txt_skip rfl ?_; try simp only [Act.put, List.setIfInBounds_toArray, List.set_cons_zero, List.set_cons_succ]
      refine txt_skip rfl ?_; try simp only [Act.put, List.setIfInBounds_toArray, List.set_cons_zero, List.set_cons_succ]
      refine txt_skip rfl ?_; try simp only [Act.put, List.setIfInBounds_toArray, List.set_cons_zero, List.set_cons_succ]
      refine txt_skip rfl ?_; try simp only [Act.put, List.setIfInBounds_toArray, List.set_cons_zero, List.set_cons_succ]
      have hb6 := hb4'
      clear hb4'
      (refine txt_light ?_ rfl rfl ?_ ?_; rotate_left; · (intro w' hS; go_simp; with_reducible rfl)); try simp only [Act.put, List.setIfInBounds_toArray, List.set_cons_zero, List.set_cons_succ]
      (refine txt_light ?_ rfl rfl ?_ ?_; rotate_left; · (intro w' hS; go_simp; with_reducible rfl)); try simp only [Act.put, List.setIfInBounds_toArray, List.set_cons_zero, List.set_cons_succ]
      (refine txt_light ?_ rfl rfl ?_ ?_; rotate_left; · (intro w' hS; go_simp; with_reducible rfl)); try simp only [Act.put, List.setIfInBounds_toArray, List.set_cons_zero, List.set_cons_succ]
      (refine txt_light ?_ rfl rfl ?_ ?_; rotate_left; · (intro w' hS; go_simp; with_reducible rfl)); try simp only [Act.put, List.setIfInBounds_toArray, List.set_cons_zero, List.set_cons_succ]
      (refine txt_light ?_ rfl rfl ?_ ?_; rotate_left; · (intro w' hS; go_simp; with_reducible rfl)); try simp only [Act.put, List.setIfInBounds_toArray, List.set_cons_zero, List.set_cons_succ]
      (refine txt_light ?_ rfl rfl ?_ ?_; rotate_left; · (intro w' hS; go_simp; with_reducible rfl)); try simp only [Act.put, List.setIfInBounds_toArray, List.set_cons_zero, List.set_cons_succ]
      (refine txt_light ?_ rfl rfl ?_ ?_; rotate_left; · (intro w' hS; go_simp; with_reducible rfl)); try simp only [Act.put, List.setIfInBounds_toArray, List.set_cons_zero, List.set_cons_succ]
      refine txt_call [.slice a1 rl.length c1] Try.f6 rfl rfl Try.func6 (by kernel_rfl) (by kernel_rfl) rfl ((vbytes_any a1 c1 rl hrlb (by omega) _ (hr13.keep hb6)).mono ?_)
      rintro e w7 ⟨v7, rfl, hown7, hb7⟩
      rw [HV2.out] at hown7
      obtain ⟨a7, c7, rfl, -, -, -, hr7, -⟩ := hown7.form
      have hb7' := (hb6).trans (hb7.mono (hb6).size)
      clear hb7 hown7 hb6
      refine ⟨_, rfl, hb7', ?_⟩
      try simp only [Act.put, List.setIfInBounds_toArray, List.set_cons_zero, List.set_cons_succ]
      (refine txt_light ?_ rfl rfl ?_ ?_; rotate_left; · (intro w' hS; go_simp; with_reducible rfl)); try simp only [Act.put, List.setIfInBounds_toArray, List.set_cons_zero, List.set_cons_succ]
      refine txt_call [.slice a7 L.length c7, .slice a L.length c0] Try.f7 rfl rfl Try.func7 (by kernel_rfl) (by kernel_rfl) rfl ((rsame_any a7 a c7 c0 L L (by omega) (by omega) _ hr7 (hrb3.keep hb7')).mono ?_)
      rintro e w8 ⟨rfl, n8, rfl⟩
      simp only [decide_true]
      have hb8 := below_drewN hb7' n8
      clear hr7 hb7'
      refine ⟨_, rfl, hb8, ?_⟩
      try simp only [Act.put, List.setIfInBounds_toArray, List.set_cons_zero, List.set_cons_succ]
      generalize w7.drewN n8 = w8 at *
      (refine txt_light ?_ rfl rfl ?_ ?_; rotate_left; · (intro w' hS; go_simp; with_reducible rfl)); try simp only [Act.put, List.setIfInBounds_toArray, List.set_cons_zero, List.set_cons_succ]
      (refine txt_light ?_ rfl rfl ?_ ?_; rotate_left; · (intro w' hS; go_simp; with_reducible rfl)); try simp only [Act.put, List.setIfInBounds_toArray, List.set_cons_zero, List.set_cons_succ]
      (refine txt_light ?_ rfl rfl ?_ ?_; rotate_left; · (intro w' hS; go_simp; with_reducible rfl)); try simp only [Act.put, List.setIfInBounds_toArray, List.set_cons_zero, List.set_cons_succ]
      refine txt_nil ?_
      go_wp2
      go_ret
      exact ⟨rfl, HD.out _ hb8⟩
    · have hb2 : (rf != 0) = true := by simpa using h2
      clear h2 hrw
      refine wp_region_lit_txt [1, 2, 3, 4, 5, 8, 9, 10, 12, 13, 14, 15, 16, 17, 18, 20, 22, 23, 24] (Below w3.heap.size w3) (by kernel_rfl) (by kernel_rfl) (by kernel_rfl) ((Below.refl _ _).drew) ?_
      refine txt_call [] Try.f10 rfl rfl Try.func10 (by kernel_rfl) (by kernel_rfl) rfl ((vknown_any _).mono ?_)
      rintro e w4 ⟨rfl, hb4⟩
      have hb4' : Below w3.heap.size w3 w4 := (Below.refl _ _).drew.trans (hb4.mono (Nat.le_refl _))
      clear hb4
      refine ⟨_, rfl, hb4', ?_⟩
      try simp only [Act.put, List.setIfInBounds_toArray, List.set_cons_zero, List.set_cons_succ]
      (refine txt_light ?_ rfl rfl ?_ ?_; rotate_left; · (intro w' hS; go_simp; with_reducible rfl)); try simp only [Act.put, List.setIfInBounds_toArray, List.set_cons_zero, List.set_cons_succ]
      (refine txt_light ?_ rfl rfl ?_ ?_; rotate_left; · (intro w' hS; go_simp; with_reducible rfl)); try simp only [Act.put, List.setIfInBounds_toArray, List.set_cons_zero, List.set_cons_succ]
      (refine txt_light ?_ rfl rfl ?_ ?_; rotate_left; · (intro w' hS; go_simp; with_reducible rfl)); try simp only [Act.put, List.setIfInBounds_toArray, List.set_cons_zero, List.set_cons_succ]
      (refine txt_light ?_ rfl rfl ?_ ?_; rotate_left; · (intro w' hS; go_simp; with_reducible rfl)); try simp only [Act.put, List.setIfInBounds_toArray, List.set_cons_zero, List.set_cons_succ]
      refine txt_skip rfl ?_; try simp only [Act.put, List.setIfInBounds_toArray, List.set_cons_zero, List.set_cons_succ]
      refine txt_skip rfl ?_; try simp only [Act.put, List.setIfInBounds_toArray, List.set_cons_zero, List.set_cons_succ]
      refine txt_skip rfl ?_; try simp only [Act.put, List.setIfInBounds_toArray, List.set_cons_zero, List.set_cons_succ]
      refine txt_skip rfl ?_; try simp only [Act.put, List.setIfInBounds_toArray, List.set_cons_zero, List.set_cons_succ]
      refine txt_skip rfl ?_; try simp only [Act.put, List.setIfInBounds_toArray, List.set_cons_zero, List.set_cons_succ]
      refine txt_skip rfl ?_; try simp only [Act.put, List.setIfInBounds_toArray, List.set_cons_zero, List.set_cons_succ]
      refine txt_skip rfl ?_; try simp only [Act.put, List.setIfInBounds_toArray, List.set_cons_zero, List.set_cons_succ]
      have hb6 := hb4'
      clear hb4'
      (refine txt_light ?_ rfl rfl ?_ ?_; rotate_left; · (intro w' hS; go_simp; with_reducible rfl)); try simp only [Act.put, List.setIfInBounds_toArray, List.set_cons_zero, List.set_cons_succ]
      (refine txt_light ?_ rfl rfl ?_ ?_; rotate_left; · (intro w' hS; go_simp; with_reducible rfl)); try simp only [Act.put, List.setIfInBounds_toArray, List.set_cons_zero, List.set_cons_succ]
      (refine txt_light ?_ rfl rfl ?_ ?_; rotate_left; · (intro w' hS; go_simp; with_reducible rfl)); try simp only [Act.put, List.setIfInBounds_toArray, List.set_cons_zero, List.set_cons_succ]
      (refine txt_light ?_ rfl rfl ?_ ?_; rotate_left; · (intro w' hS; go_simp; with_reducible rfl)); try simp only [Act.put, List.setIfInBounds_toArray, List.set_cons_zero, List.set_cons_succ]
      (refine txt_light ?_ rfl rfl ?_ ?_; rotate_left; · (intro w' hS; go_simp; with_reducible rfl)); try simp only [Act.put, List.setIfInBounds_toArray, List.set_cons_zero, List.set_cons_succ]
      (refine txt_light ?_ rfl rfl ?_ ?_; rotate_left; · (intro w' hS; go_simp; with_reducible rfl)); try simp only [Act.put, List.setIfInBounds_toArray, List.set_cons_zero, List.set_cons_succ]
      refine txt_skip rfl ?_; try simp only [Act.put, List.setIfInBounds_toArray, List.set_cons_zero, List.set_cons_succ]
      refine txt_skip rfl ?_; try simp only [Act.put, List.setIfInBounds_toArray, List.set_cons_zero, List.set_cons_succ]
      refine txt_skip rfl ?_; try simp only [Act.put, List.setIfInBounds_toArray, List.set_cons_zero, List.set_cons_succ]
      refine txt_skip rfl ?_; try simp only [Act.put, List.setIfInBounds_toArray, List.set_cons_zero, List.set_cons_succ]
      (refine txt_light ?_ rfl rfl ?_ ?_; rotate_left; · (intro w' hS; go_simp; with_reducible rfl)); try simp only [Act.put, List.setIfInBounds_toArray, List.set_cons_zero, List.set_cons_succ]
      (refine txt_light ?_ rfl rfl ?_ ?_; rotate_left; · (intro w' hS; go_simp; with_reducible rfl)); try simp only [Act.put, List.setIfInBounds_toArray, List.set_cons_zero, List.set_cons_succ]
      (refine txt_light ?_ rfl rfl ?_ ?_; rotate_left; · (intro w' hS; go_simp; with_reducible rfl)); try simp only [Act.put, List.setIfInBounds_toArray, List.set_cons_zero, List.set_cons_succ]
      refine txt_nil ?_
      go_wp2
      go_ret
      exact ⟨rfl, HD.out _ hb6⟩
end Go.Proofs.Ytfonljchocekgaa
