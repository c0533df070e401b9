/-
  SnapLines: the walk.
-/
import Derived.Test.YtmmhkageehlknaaZknown
import Derived.Test.YtmmhkageehlknaaZrpt
import Derived.Test.YtmmhkageehlknaaZrlines
import Derived.Test.YtmmhkageehlknaaZcmp
import Derived.Test.YtmmhkageehlknaaLof
import Derived.Test.YtmmhkageehlknaaOpenP
set_option linter.unusedVariables false
set_option linter.unusedSimpArgs false
set_option maxRecDepth 100000
namespace Go.Proofs.Ytmmhkageehlknaa
open Go.RowKit
theorem wf_i64 {z : Int} (h : (Lit.int .i64 z).wf = true) : -9223372036854775808 ≤ z ∧ z ≤ 9223372036854775807 := by
  have := (by simpa [Lit.wf] using h : IntKind.i64.min ≤ z ∧ z ≤ IntKind.i64.max)
  exact this

set_option maxHeartbeats 6400000 in
theorem zlines_law {w : World} (z : Int) (hwz : (Lit.int .i64 z).wf = true) (b : Int) (hwb : (Lit.int .i64 b).wf = true) (p : Pt) (_ : PtIn p) :
    Calls Try.prog 3 #[.int .i64 z, .int .i64 b, p.val] w fun e w' => e = .returned (.bool true) ∧ Below w.heap.size w w' := by
  have hz := wf_i64 hwz
  have HSIDE := Lib.hid (fun w => side_any z w)
  have HLI := Lib.hid (fun w => lines_any z b w)
  have HRL := Lib.hid (fun w => rlines_any z b w)
  have HPT := Lib.hid (fun w => point_any p z hz w)
  have HLV := Lib.hid (fun w => rlevel_any z w)
  have HWD := Lib.hid (fun w => rworld_any p w)
  have HRP := Lib.hid (fun h1 h2 w => rpoint_any p z h1 h2 w)
  have HKN := Lib.hid (fun w => zknown_any w)
  have HOF := Lib.hid (fun p w => lof_any p w)
  have HPW := Lib.hid (fun h w => rpow_any z h w)
  have HLL := linesF_len z b
  have HINS := Lib.hid (fun a1 a2 c d w h1 h2 => ints_same a1 a2 c d (linesF z b) (by omega) w h1 h2)
  have hcs : levelB z = true → 0 ≤ z ∧ z ≤ 4 := fun h => by unfold levelB at h; simpa using h
  have HCS := Lib.hid hcs
  clear hcs hwz hwb
  generalize linesF z b = LI at *
  obtain ⟨SV, hSV⟩ : ∃ S : Int, (if levelB z then 4096 * 2 ^ z.toNat else 0) = S := ⟨_, rfl⟩
  rw [hSV] at HSIDE
  have HSV := Lib.hid hSV
  clear hSV
  generalize linesB z b = LB at *
  obtain ⟨n, hn⟩ : ∃ n, LI.length = n := ⟨_, rfl⟩
  rw [hn] at HLI HRL HINS HLL
  clear hn
  have hp : ∃ x y, p = ⟨x, y⟩ := ⟨p.x, p.y, rfl⟩
  obtain ⟨x, y, hp⟩ := hp
  have HP := Lib.hid hp
  have hpv : p.val = .agg #[.int .i64 x, .int .i64 y] := by rw [hp]; rfl
  rw [hpv] at HPT HWD ⊢
  have HOFP : Hid (∀ w, Calls Try.prog 13 #[.agg #[.int .i64 x, .int .i64 y]] w fun e w' => e = .returned (.agg #[.int .i64 x, .int .i64 y]) ∧ Below w.heap.size w w') := Lib.hid (fun w => HOF.out ⟨x, y⟩ w)
  have HRP2 : Hid (levelB z = true → worldB p = true → ∀ w, Calls Try.prog 14 #[.agg #[.int .i64 x, .int .i64 y], .int .i64 z] w fun e w' => e = .returned (snapP p z).val ∧ Below w.heap.size w w') := Lib.hid (fun h1 h2 w => by have := HRP.out h1 h2 w; rwa [hpv] at this)
  clear HRP hpv hp
  have kp := Blk.lit w w.heap.size [.int .i64 x, .int .i64 y] 23 rfl
  have hb0 := Below.new w (.cells #[.int .i64 x, .int .i64 y] 23)
  go_enter Try.func3, Try.ntmps3
  go_wp2_with fail
  refine (HSIDE.out _).mono ?_
  rintro e w1 ⟨rfl, rfl⟩
  go_wp2_with fail
  generalize w.alloc (.cells #[.int .i64 x, .int .i64 y] 23) = wA at *
  refine (HLI.out _).mono ?_
  rintro e w1 ⟨v1, rfl, ho1, hx1⟩
  obtain ⟨a1, c1, rfl, -, -, -, hr1, -⟩ := ho1.form
  have hb1 := hb0.trans (hx1.mono hb0.size)
  have kp1 := kp.keep hx1
  clear ho1 hb0 kp hx1 HLI HSIDE
  go_wp2_with fail
  refine (HRL.out _).mono ?_
  rintro e w2 ⟨v2, rfl, ho2, hx2⟩
  obtain ⟨a2, c2, rfl, -, -, -, hr2, -⟩ := ho2.form
  have hb2 := hb1.trans (hx2.mono hb1.size)
  have kp2 := kp1.keep hx2
  have hr1 := hr1.keep hx2
  have p0 := kp2.cell 0 rfl
  have p1 := kp2.cell 1 rfl
  clear ho2 hb1 kp1 hx2 HRL
  go_wp2_with fail
  refine (HPT.out _).mono ?_
  rintro e w3 ⟨rfl, hx3⟩
  have hb3 := hb2.trans (hx3.mono hb2.size)
  have kp3 := kp2.keep hx3
  have hr1 := hr1.keep hx3
  have hr2 := hr2.keep hx3
  clear hb2 kp2 hx3 HPT p0 p1
  cases hL : levelB z with
  | false =>
    simp only [Bool.false_and, Bool.false_eq_true, if_false]
    dsimp only [Pt.val]
    rw [hL] at HLV
    go_wp2_with fail
    refine (HLV.out _).mono ?_
    rintro e w4 ⟨rfl, rfl⟩
    go_wp2_with fail
    refine (HLV.out _).mono ?_
    rintro e w4 ⟨rfl, rfl⟩
    go_wp2_with fail
    have hSV0 : SV = 0 := by rw [← HSV.out, hL]; rfl
    subst hSV0
    have kq1 := (Blk.lit w3 w3.heap.size [.int .i64 0, .int .i64 0] 23 rfl).alloc (.cells #[.int .i64 0, .int .i64 0] 31)
    have kq2 := Blk.lit (w3.alloc (.cells #[.int .i64 0, .int .i64 0] 23)) (w3.heap.size + 1) [.int .i64 0, .int .i64 0] 31 (by simp)
    have hr1 := (hr1.alloc (.cells #[.int .i64 0, .int .i64 0] 23)).alloc (.cells #[.int .i64 0, .int .i64 0] 31)
    have hr2 := (hr2.alloc (.cells #[.int .i64 0, .int .i64 0] 23)).alloc (.cells #[.int .i64 0, .int .i64 0] 31)
    have hb := (hb3.alloc hb3.size (.cells #[.int .i64 0, .int .i64 0] 23)).alloc (by have := hb3.size; simp; omega) (.cells #[.int .i64 0, .int .i64 0] 31)
    generalize (w3.alloc (.cells #[.int .i64 0, .int .i64 0] 23)).alloc (.cells #[.int .i64 0, .int .i64 0] 31) = wX at *
    have hrr : Below wX.heap.size wX wX.drew := (Below.refl _ _).drew
    refine wp_region_lit_txt [1, 2, 3, 5, 6, 7, 8, 9, 10, 11, 12, 13, 14, 15, 16, 17, 18, 19, 21, 22, 23, 24, 25, 26, 27, 28, 30, 31, 32, 33] (fun W => Below wX.heap.size wX W) (by kernel_rfl) (by kernel_rfl) (by kernel_rfl) hrr ?_
    refine txt_call [] Try.f15 rfl rfl Try.func15 (by kernel_rfl) (by kernel_rfl) rfl ((HKN.out _).mono ?_)
    rintro e y1 ⟨rfl, hx5⟩
    have hb5 := hrr.trans (hx5.mono hrr.size)
    refine ⟨_, rfl, hb5, ?_⟩
    clear hx5
    try simp only [Act.put, List.setIfInBounds_toArray, List.set_cons_zero, List.set_cons_succ]
    (refine txt_light ?_ rfl rfl ?_ ?_; rotate_left; · (intro w' hS; (try dsimp only at hS); go_simp; with_reducible rfl)); try simp only [Act.put, List.setIfInBounds_toArray, List.set_cons_zero, List.set_cons_succ]
    (refine txt_light ?_ rfl rfl ?_ ?_; rotate_left; · (intro w' hS; (try dsimp only at hS); go_simp; with_reducible rfl)); try simp only [Act.put, List.setIfInBounds_toArray, List.set_cons_zero, List.set_cons_succ]
    (refine txt_light ?_ rfl rfl ?_ ?_; rotate_left; · (intro w' hS; (try dsimp only at hS); go_simp; with_reducible rfl)); try simp only [Act.put, List.setIfInBounds_toArray, List.set_cons_zero, List.set_cons_succ]
    refine txt_call [.int .i64 z] Try.f10 rfl rfl Try.func10 (by kernel_rfl) (by kernel_rfl) rfl ((HLV.out _).mono ?_)
    rintro e y2 ⟨rfl, rfl⟩
    refine ⟨_, rfl, hb5, ?_⟩
    try simp only [Act.put, List.setIfInBounds_toArray, List.set_cons_zero, List.set_cons_succ]
    refine txt_light (.bool true) rfl rfl ?_ ?_
    · intro w' hS
      go_simp
    try simp only [Act.put, List.setIfInBounds_toArray, List.set_cons_zero, List.set_cons_succ]
    (refine txt_light ?_ rfl rfl ?_ ?_; rotate_left; · (intro w' hS; (try dsimp only at hS); go_simp; with_reducible rfl)); try simp only [Act.put, List.setIfInBounds_toArray, List.set_cons_zero, List.set_cons_succ]
    (refine txt_light ?_ rfl rfl ?_ ?_; rotate_left; · (intro w' hS; (try dsimp only at hS); go_simp; with_reducible rfl)); try simp only [Act.put, List.setIfInBounds_toArray, List.set_cons_zero, List.set_cons_succ]
    (refine txt_light ?_ rfl rfl ?_ ?_; rotate_left; · (intro w' hS; (try dsimp only at hS); go_simp; with_reducible rfl)); try simp only [Act.put, List.setIfInBounds_toArray, List.set_cons_zero, List.set_cons_succ]
    (refine txt_light ?_ rfl rfl ?_ ?_; rotate_left; · (intro w' hS; (try dsimp only at hS); go_simp; with_reducible rfl)); try simp only [Act.put, List.setIfInBounds_toArray, List.set_cons_zero, List.set_cons_succ]
    refine txt_light (.bool true) rfl rfl ?_ ?_
    · intro w' hS
      go_simp
    try simp only [Act.put, List.setIfInBounds_toArray, List.set_cons_zero, List.set_cons_succ]
    (refine txt_light ?_ rfl rfl ?_ ?_; rotate_left; · (intro w' hS; (try dsimp only at hS); go_simp; with_reducible rfl)); try simp only [Act.put, List.setIfInBounds_toArray, List.set_cons_zero, List.set_cons_succ]
    (refine txt_light ?_ rfl rfl ?_ ?_; rotate_left; · (intro w' hS; (try dsimp only at hS); go_simp; with_reducible rfl)); try simp only [Act.put, List.setIfInBounds_toArray, List.set_cons_zero, List.set_cons_succ]
    (refine txt_light ?_ rfl rfl ?_ ?_; rotate_left; · (intro w' hS; (try dsimp only at hS); go_simp; with_reducible rfl)); try simp only [Act.put, List.setIfInBounds_toArray, List.set_cons_zero, List.set_cons_succ]
    (refine txt_light ?_ rfl rfl ?_ ?_; rotate_left; · (intro w' hS; (try dsimp only at hS); go_simp; with_reducible rfl)); try simp only [Act.put, List.setIfInBounds_toArray, List.set_cons_zero, List.set_cons_succ]
    refine txt_light (.bool true) rfl rfl ?_ ?_
    · intro w' hS
      go_simp
    try simp only [Act.put, List.setIfInBounds_toArray, List.set_cons_zero, List.set_cons_succ]
    (refine txt_light ?_ rfl rfl ?_ ?_; rotate_left; · (intro w' hS; (try dsimp only at hS); go_simp; with_reducible rfl)); try simp only [Act.put, List.setIfInBounds_toArray, List.set_cons_zero, List.set_cons_succ]
    (refine txt_light ?_ rfl rfl ?_ ?_; rotate_left; · (intro w' hS; (try dsimp only at hS); go_simp; with_reducible rfl)); try simp only [Act.put, List.setIfInBounds_toArray, List.set_cons_zero, List.set_cons_succ]
    (refine txt_light ?_ rfl rfl ?_ ?_; rotate_left; · (intro w' hS; (try dsimp only at hS); go_simp; with_reducible rfl)); try simp only [Act.put, List.setIfInBounds_toArray, List.set_cons_zero, List.set_cons_succ]
    (refine txt_light ?_ rfl rfl ?_ ?_; rotate_left; · (intro w' hS; (try dsimp only at hS); go_simp; with_reducible rfl)); try simp only [Act.put, List.setIfInBounds_toArray, List.set_cons_zero, List.set_cons_succ]
    refine txt_call [.slice a1 n c1, .slice a2 n c2] Try.f16 rfl rfl Try.func16 (by kernel_rfl) (by kernel_rfl) rfl ((HINS.out a1 a2 c1 c2 _ (hr1.keep hb5) (hr2.keep hb5)).mono ?_)
    rintro e y3 ⟨rfl, nq, rfl⟩
    have hb6 := below_drewN hb5 nq
    refine ⟨_, rfl, hb6, ?_⟩
    try simp only [Act.put, List.setIfInBounds_toArray, List.set_cons_zero, List.set_cons_succ]
    (refine txt_light ?_ rfl rfl ?_ ?_; rotate_left; · (intro w' hS; (try dsimp only at hS); go_simp; with_reducible rfl)); try simp only [Act.put, List.setIfInBounds_toArray, List.set_cons_zero, List.set_cons_succ]
    (refine txt_light ?_ rfl rfl ?_ ?_; rotate_left; · (intro w' hS; (try dsimp only at hS); go_simp; with_reducible rfl)); try simp only [Act.put, List.setIfInBounds_toArray, List.set_cons_zero, List.set_cons_succ]
    (refine txt_light ?_ rfl rfl ?_ ?_; rotate_left; · (intro w' hS; (try dsimp only at hS); go_simp; with_reducible rfl)); try simp only [Act.put, List.setIfInBounds_toArray, List.set_cons_zero, List.set_cons_succ]
    (refine txt_light ?_ rfl rfl ?_ ?_; rotate_left; · (intro w' hS; (try dsimp only at hS); go_simp; with_reducible rfl)); try simp only [Act.put, List.setIfInBounds_toArray, List.set_cons_zero, List.set_cons_succ]
    refine txt_light (.bool true) rfl rfl ?_ ?_
    · intro w' hS
      go_simp
    try simp only [Act.put, List.setIfInBounds_toArray, List.set_cons_zero, List.set_cons_succ]
    (refine txt_light ?_ rfl rfl ?_ ?_; rotate_left; · (intro w' hS; (try dsimp only at hS); go_simp; with_reducible rfl)); try simp only [Act.put, List.setIfInBounds_toArray, List.set_cons_zero, List.set_cons_succ]
    (refine txt_light ?_ rfl rfl ?_ ?_; rotate_left; · (intro w' hS; (try dsimp only at hS); go_simp; with_reducible rfl)); try simp only [Act.put, List.setIfInBounds_toArray, List.set_cons_zero, List.set_cons_succ]
    refine txt_light (.agg #[.int .i64 0, .int .i64 0]) rfl rfl ?_ ?_
    · intro w' hS
      have c0 := (kq1.keep hS).cell 0 rfl
      have c1 := (kq1.keep hS).cell 1 rfl
      go_simp
    try simp only [Act.put, List.setIfInBounds_toArray, List.set_cons_zero, List.set_cons_succ]
    refine txt_call [.agg #[.int .i64 0, .int .i64 0]] Try.f13 rfl rfl Try.func13 (by kernel_rfl) (by kernel_rfl) rfl ((HOF.out ⟨0, 0⟩ _).mono ?_)
    rintro e y4 ⟨rfl, hx7⟩
    dsimp only [Pt.val]
    have hb7 := hb6.trans (hx7.mono hb6.size)
    refine ⟨_, rfl, hb7, ?_⟩
    clear hx7
    try simp only [Act.put, List.setIfInBounds_toArray, List.set_cons_zero, List.set_cons_succ]
    refine txt_light (.agg #[.int .i64 0, .int .i64 0]) rfl rfl ?_ ?_
    · intro w' hS
      have c0 := (kq2.keep hS).cell 0 rfl
      have c1 := (kq2.keep hS).cell 1 rfl
      go_simp
    try simp only [Act.put, List.setIfInBounds_toArray, List.set_cons_zero, List.set_cons_succ]
    refine txt_light (.bool true) rfl rfl ?_ ?_
    · intro w' hS
      go_simp
    try simp only [Act.put, List.setIfInBounds_toArray, List.set_cons_zero, List.set_cons_succ]
    (refine txt_light ?_ rfl rfl ?_ ?_; rotate_left; · (intro w' hS; (try dsimp only at hS); go_simp; with_reducible rfl)); try simp only [Act.put, List.setIfInBounds_toArray, List.set_cons_zero, List.set_cons_succ]
    (refine txt_light ?_ rfl rfl ?_ ?_; rotate_left; · (intro w' hS; (try dsimp only at hS); go_simp; with_reducible rfl)); try simp only [Act.put, List.setIfInBounds_toArray, List.set_cons_zero, List.set_cons_succ]
    refine txt_nil ?_
    go_wp2
    go_ret
    exact ⟨rfl, hb.trans (hb7.mono hb.size)⟩
  | true =>
    have hz4 := HCS.out hL
    rw [hL] at HLV
    have hSV1 := HSV.out
    rw [hL] at hSV1
    simp only [if_true] at hSV1
    obtain ⟨Q, hQ⟩ : ∃ Q : Int, 2 ^ z.toNat = Q := ⟨_, rfl⟩
    have hQb : 1 ≤ Q ∧ Q ≤ 16 := by
      rw [← hQ]
      rcases level_cases hL with rfl | rfl | rfl | rfl | rfl <;> decide
    have HPQ : Hid (∀ w, Calls Try.prog 11 #[.int .i64 z] w fun e w' => e = .returned (.int .i64 Q) ∧ w' = w) := Lib.hid (fun w => by rw [← hQ]; exact HPW.out hz4 w)
    rw [hQ] at hSV1
    clear hQ HPW
    simp only [Bool.true_and]
    cases hW : worldB p with
    | false =>
      simp only [Bool.false_eq_true, if_false]
      dsimp only [Pt.val]
      rw [hW] at HWD
      go_wp2_with fail
      refine (HLV.out _).mono ?_
      rintro e w4 ⟨rfl, rfl⟩
      go_wp2_with fail
      refine (HPQ.out _).mono ?_
      rintro e w4 ⟨rfl, rfl⟩
      go_wp2_with fail
      refine (HLV.out _).mono ?_
      rintro e w4 ⟨rfl, rfl⟩
      have kp4 := (kp3.alloc (.cells #[.int .i64 0, .int .i64 0] 23)).alloc (.cells #[.int .i64 0, .int .i64 0] 31)
      have p0 := kp4.cell 0 rfl
      have p1 := kp4.cell 1 rfl
      have kq1 := (Blk.lit w3 w3.heap.size [.int .i64 0, .int .i64 0] 23 rfl).alloc (.cells #[.int .i64 0, .int .i64 0] 31)
      have kq2 := Blk.lit (w3.alloc (.cells #[.int .i64 0, .int .i64 0] 23)) (w3.heap.size + 1) [.int .i64 0, .int .i64 0] 31 (by simp)
      have hr1 := (hr1.alloc (.cells #[.int .i64 0, .int .i64 0] 23)).alloc (.cells #[.int .i64 0, .int .i64 0] 31)
      have hr2 := (hr2.alloc (.cells #[.int .i64 0, .int .i64 0] 23)).alloc (.cells #[.int .i64 0, .int .i64 0] 31)
      have hb := (hb3.alloc hb3.size (.cells #[.int .i64 0, .int .i64 0] 23)).alloc (by have := hb3.size; simp; omega) (.cells #[.int .i64 0, .int .i64 0] 31)
      generalize (w3.alloc (.cells #[.int .i64 0, .int .i64 0] 23)).alloc (.cells #[.int .i64 0, .int .i64 0] 31) = wX at *
      go_wp2_with fail
      refine (HOFP.out _).mono ?_
      rintro e w5 ⟨rfl, hx5⟩
      go_wp2_with fail
      refine (HWD.out _).mono ?_
      rintro e w6 ⟨rfl, hx6⟩
      have hx7 := hx5.trans (hx6.mono hx5.size)
      have kq1 := kq1.keep hx7
      have kq2 := kq2.keep hx7
      have hr1 := hr1.keep hx7
      have hr2 := hr2.keep hx7
      have hb := hb.trans (hx7.mono hb.size)
      clear hx5 hx6 hx7 p0 p1 kp4 HWD HPQ HOFP
      go_wp2_with fail
      subst hSV1
      
      have hrr : Below w6.heap.size w6 w6.drew := (Below.refl _ _).drew
      refine wp_region_lit_txt [1, 2, 3, 5, 6, 7, 8, 9, 10, 11, 12, 13, 14, 15, 16, 17, 18, 19, 21, 22, 23, 24, 25, 26, 27, 28, 30, 31, 32, 33] (fun W => Below w6.heap.size w6 W) (by kernel_rfl) (by kernel_rfl) (by kernel_rfl) hrr ?_
      refine txt_call [] Try.f15 rfl rfl Try.func15 (by kernel_rfl) (by kernel_rfl) rfl ((HKN.out _).mono ?_)
      rintro e y1 ⟨rfl, hx5⟩
      have hb5 := hrr.trans (hx5.mono hrr.size)
      refine ⟨_, rfl, hb5, ?_⟩
      clear hx5
      try simp only [Act.put, List.setIfInBounds_toArray, List.set_cons_zero, List.set_cons_succ]
      (refine txt_light ?_ rfl rfl ?_ ?_; rotate_left; · (intro w' hS; (try dsimp only at hS); go_simp; with_reducible rfl)); try simp only [Act.put, List.setIfInBounds_toArray, List.set_cons_zero, List.set_cons_succ]
      (refine txt_light ?_ rfl rfl ?_ ?_; rotate_left; · (intro w' hS; (try dsimp only at hS); go_simp; with_reducible rfl)); try simp only [Act.put, List.setIfInBounds_toArray, List.set_cons_zero, List.set_cons_succ]
      (refine txt_light ?_ rfl rfl ?_ ?_; rotate_left; · (intro w' hS; (try dsimp only at hS); go_simp; with_reducible rfl)); try simp only [Act.put, List.setIfInBounds_toArray, List.set_cons_zero, List.set_cons_succ]
      refine txt_call [.int .i64 z] Try.f10 rfl rfl Try.func10 (by kernel_rfl) (by kernel_rfl) rfl ((HLV.out _).mono ?_)
      rintro e y2 ⟨rfl, rfl⟩
      refine ⟨_, rfl, hb5, ?_⟩
      try simp only [Act.put, List.setIfInBounds_toArray, List.set_cons_zero, List.set_cons_succ]
      refine txt_light (.bool true) rfl rfl ?_ ?_
      · intro w' hS
        go_simp
      try simp only [Act.put, List.setIfInBounds_toArray, List.set_cons_zero, List.set_cons_succ]
      (refine txt_light ?_ rfl rfl ?_ ?_; rotate_left; · (intro w' hS; (try dsimp only at hS); go_simp; with_reducible rfl)); try simp only [Act.put, List.setIfInBounds_toArray, List.set_cons_zero, List.set_cons_succ]
      (refine txt_light ?_ rfl rfl ?_ ?_; rotate_left; · (intro w' hS; (try dsimp only at hS); go_simp; with_reducible rfl)); try simp only [Act.put, List.setIfInBounds_toArray, List.set_cons_zero, List.set_cons_succ]
      (refine txt_light ?_ rfl rfl ?_ ?_; rotate_left; · (intro w' hS; (try dsimp only at hS); go_simp; with_reducible rfl)); try simp only [Act.put, List.setIfInBounds_toArray, List.set_cons_zero, List.set_cons_succ]
      (refine txt_light ?_ rfl rfl ?_ ?_; rotate_left; · (intro w' hS; (try dsimp only at hS); go_simp; with_reducible rfl)); try simp only [Act.put, List.setIfInBounds_toArray, List.set_cons_zero, List.set_cons_succ]
      refine txt_light (.bool true) rfl rfl ?_ ?_
      · intro w' hS
        go_simp
      try simp only [Act.put, List.setIfInBounds_toArray, List.set_cons_zero, List.set_cons_succ]
      (refine txt_light ?_ rfl rfl ?_ ?_; rotate_left; · (intro w' hS; (try dsimp only at hS); go_simp; with_reducible rfl)); try simp only [Act.put, List.setIfInBounds_toArray, List.set_cons_zero, List.set_cons_succ]
      (refine txt_light ?_ rfl rfl ?_ ?_; rotate_left; · (intro w' hS; (try dsimp only at hS); go_simp; with_reducible rfl)); try simp only [Act.put, List.setIfInBounds_toArray, List.set_cons_zero, List.set_cons_succ]
      (refine txt_light ?_ rfl rfl ?_ ?_; rotate_left; · (intro w' hS; (try dsimp only at hS); go_simp; with_reducible rfl)); try simp only [Act.put, List.setIfInBounds_toArray, List.set_cons_zero, List.set_cons_succ]
      (refine txt_light ?_ rfl rfl ?_ ?_; rotate_left; · (intro w' hS; (try dsimp only at hS); go_simp; with_reducible rfl)); try simp only [Act.put, List.setIfInBounds_toArray, List.set_cons_zero, List.set_cons_succ]
      refine txt_light (.bool true) rfl rfl ?_ ?_
      · intro w' hS
        go_simp
      try simp only [Act.put, List.setIfInBounds_toArray, List.set_cons_zero, List.set_cons_succ]
      (refine txt_light ?_ rfl rfl ?_ ?_; rotate_left; · (intro w' hS; (try dsimp only at hS); go_simp; with_reducible rfl)); try simp only [Act.put, List.setIfInBounds_toArray, List.set_cons_zero, List.set_cons_succ]
      (refine txt_light ?_ rfl rfl ?_ ?_; rotate_left; · (intro w' hS; (try dsimp only at hS); go_simp; with_reducible rfl)); try simp only [Act.put, List.setIfInBounds_toArray, List.set_cons_zero, List.set_cons_succ]
      (refine txt_light ?_ rfl rfl ?_ ?_; rotate_left; · (intro w' hS; (try dsimp only at hS); go_simp; with_reducible rfl)); try simp only [Act.put, List.setIfInBounds_toArray, List.set_cons_zero, List.set_cons_succ]
      (refine txt_light ?_ rfl rfl ?_ ?_; rotate_left; · (intro w' hS; (try dsimp only at hS); go_simp; with_reducible rfl)); try simp only [Act.put, List.setIfInBounds_toArray, List.set_cons_zero, List.set_cons_succ]
      refine txt_call [.slice a1 n c1, .slice a2 n c2] Try.f16 rfl rfl Try.func16 (by kernel_rfl) (by kernel_rfl) rfl ((HINS.out a1 a2 c1 c2 _ (hr1.keep hb5) (hr2.keep hb5)).mono ?_)
      rintro e y3 ⟨rfl, nq, rfl⟩
      have hb6 := below_drewN hb5 nq
      refine ⟨_, rfl, hb6, ?_⟩
      try simp only [Act.put, List.setIfInBounds_toArray, List.set_cons_zero, List.set_cons_succ]
      (refine txt_light ?_ rfl rfl ?_ ?_; rotate_left; · (intro w' hS; (try dsimp only at hS); go_simp; with_reducible rfl)); try simp only [Act.put, List.setIfInBounds_toArray, List.set_cons_zero, List.set_cons_succ]
      (refine txt_light ?_ rfl rfl ?_ ?_; rotate_left; · (intro w' hS; (try dsimp only at hS); go_simp; with_reducible rfl)); try simp only [Act.put, List.setIfInBounds_toArray, List.set_cons_zero, List.set_cons_succ]
      (refine txt_light ?_ rfl rfl ?_ ?_; rotate_left; · (intro w' hS; (try dsimp only at hS); go_simp; with_reducible rfl)); try simp only [Act.put, List.setIfInBounds_toArray, List.set_cons_zero, List.set_cons_succ]
      (refine txt_light ?_ rfl rfl ?_ ?_; rotate_left; · (intro w' hS; (try dsimp only at hS); go_simp; with_reducible rfl)); try simp only [Act.put, List.setIfInBounds_toArray, List.set_cons_zero, List.set_cons_succ]
      refine txt_light (.bool true) rfl rfl ?_ ?_
      · intro w' hS
        go_simp
      try simp only [Act.put, List.setIfInBounds_toArray, List.set_cons_zero, List.set_cons_succ]
      (refine txt_light ?_ rfl rfl ?_ ?_; rotate_left; · (intro w' hS; (try dsimp only at hS); go_simp; with_reducible rfl)); try simp only [Act.put, List.setIfInBounds_toArray, List.set_cons_zero, List.set_cons_succ]
      (refine txt_light ?_ rfl rfl ?_ ?_; rotate_left; · (intro w' hS; (try dsimp only at hS); go_simp; with_reducible rfl)); try simp only [Act.put, List.setIfInBounds_toArray, List.set_cons_zero, List.set_cons_succ]
      refine txt_light (.agg #[.int .i64 0, .int .i64 0]) rfl rfl ?_ ?_
      · intro w' hS
        have c0 := (kq1.keep hS).cell 0 rfl
        have c1 := (kq1.keep hS).cell 1 rfl
        go_simp
      try simp only [Act.put, List.setIfInBounds_toArray, List.set_cons_zero, List.set_cons_succ]
      refine txt_call [.agg #[.int .i64 0, .int .i64 0]] Try.f13 rfl rfl Try.func13 (by kernel_rfl) (by kernel_rfl) rfl ((HOF.out ⟨0, 0⟩ _).mono ?_)
      rintro e y4 ⟨rfl, hx7⟩
      dsimp only [Pt.val]
      have hb7 := hb6.trans (hx7.mono hb6.size)
      refine ⟨_, rfl, hb7, ?_⟩
      clear hx7
      try simp only [Act.put, List.setIfInBounds_toArray, List.set_cons_zero, List.set_cons_succ]
      refine txt_light (.agg #[.int .i64 0, .int .i64 0]) rfl rfl ?_ ?_
      · intro w' hS
        have c0 := (kq2.keep hS).cell 0 rfl
        have c1 := (kq2.keep hS).cell 1 rfl
        go_simp
      try simp only [Act.put, List.setIfInBounds_toArray, List.set_cons_zero, List.set_cons_succ]
      refine txt_light (.bool true) rfl rfl ?_ ?_
      · intro w' hS
        go_simp
      try simp only [Act.put, List.setIfInBounds_toArray, List.set_cons_zero, List.set_cons_succ]
      (refine txt_light ?_ rfl rfl ?_ ?_; rotate_left; · (intro w' hS; (try dsimp only at hS); go_simp; with_reducible rfl)); try simp only [Act.put, List.setIfInBounds_toArray, List.set_cons_zero, List.set_cons_succ]
      (refine txt_light ?_ rfl rfl ?_ ?_; rotate_left; · (intro w' hS; (try dsimp only at hS); go_simp; with_reducible rfl)); try simp only [Act.put, List.setIfInBounds_toArray, List.set_cons_zero, List.set_cons_succ]
      refine txt_nil ?_
      go_wp2
      go_ret
      exact ⟨rfl, hb.trans (hb7.mono hb.size)⟩
    | true =>
      have HRQ := HRP2.out hL hW
      simp only [if_true]
      rw [hW] at HWD
      clear HRP2
      generalize snapP p z = sp at *
      obtain ⟨sx, sy⟩ := sp
      dsimp only [Pt.val] at HRQ ⊢
      replace HRQ := Lib.hid HRQ
      go_wp2_with fail
      refine (HLV.out _).mono ?_
      rintro e w4 ⟨rfl, rfl⟩
      go_wp2_with fail
      refine (HPQ.out _).mono ?_
      rintro e w4 ⟨rfl, rfl⟩
      go_wp2_with fail
      refine (HLV.out _).mono ?_
      rintro e w4 ⟨rfl, rfl⟩
      have kp4 := (kp3.alloc (.cells #[.int .i64 sx, .int .i64 sy] 23)).alloc (.cells #[.int .i64 0, .int .i64 0] 31)
      have p0 := kp4.cell 0 rfl
      have p1 := kp4.cell 1 rfl
      have hr13 := hr1
      have hr23 := hr2
      have hbx : Below w3.heap.size w3 ((w3.alloc (.cells #[.int .i64 sx, .int .i64 sy] 23)).alloc (.cells #[.int .i64 0, .int .i64 0] 31)) := (Below.new w3 _).alloc (by simp) _
      have kq1 := (Blk.lit w3 w3.heap.size [.int .i64 sx, .int .i64 sy] 23 rfl).alloc (.cells #[.int .i64 0, .int .i64 0] 31)
      have kq2 := Blk.lit (w3.alloc (.cells #[.int .i64 sx, .int .i64 sy] 23)) (w3.heap.size + 1) [.int .i64 0, .int .i64 0] 31 (by simp)
      have hr1 := (hr1.alloc (.cells #[.int .i64 sx, .int .i64 sy] 23)).alloc (.cells #[.int .i64 0, .int .i64 0] 31)
      have hr2 := (hr2.alloc (.cells #[.int .i64 sx, .int .i64 sy] 23)).alloc (.cells #[.int .i64 0, .int .i64 0] 31)
      have hb := (hb3.alloc hb3.size (.cells #[.int .i64 sx, .int .i64 sy] 23)).alloc (by have := hb3.size; simp; omega) (.cells #[.int .i64 0, .int .i64 0] 31)
      generalize (w3.alloc (.cells #[.int .i64 sx, .int .i64 sy] 23)).alloc (.cells #[.int .i64 0, .int .i64 0] 31) = wX at *
      go_wp2_with fail
      refine (HOFP.out _).mono ?_
      rintro e w5 ⟨rfl, hx5⟩
      go_wp2_with fail
      refine (HWD.out _).mono ?_
      rintro e w6 ⟨rfl, hx6⟩
      have hx7 := hx5.trans (hx6.mono hx5.size)
      have kp5 := kp4.keep hx7
      have kq1 := kq1.keep hx7
      have kq2 := kq2.keep hx7
      have hr1 := hr1.keep hx7
      have hr2 := hr2.keep hx7
      have hb := hb.trans (hx7.mono hb.size)
      have hbx := hbx.trans (hx7.mono hbx.size)
      clear hx5 hx6 hx7 p0 p1 kp4 HWD HPQ
      have p0 := kp5.cell 0 rfl
      have p1 := kp5.cell 1 rfl
      go_wp2_with fail
      refine (HOFP.out _).mono ?_
      rintro e w7 ⟨rfl, hx7⟩
      go_wp2_with fail
      refine (HRQ.out _).mono ?_
      rintro e w8 ⟨rfl, hx8⟩
      have hx9 := hx7.trans (hx8.mono hx7.size)
      have kq1 := kq1.keep hx9
      have kq2 := kq2.keep hx9
      have hr1 := hr1.keep hx9
      have hr2 := hr2.keep hx9
      have hb := hb.trans (hx9.mono hb.size)
      have hbx := hbx.trans (hx9.mono hbx.size)
      clear hx7 hx8 hx9 p0 p1 kp5 HOFP HRQ
      have f0 := kq2.free 0
      have f1 := kq2.free 1
      have q0 := kq2.cell 0 rfl
      have q1 := kq2.cell 1 rfl
      have hq2 := kq2.lt
      have hs3 := hb3.size
      go_wp2_with fail
      have hbx := (hbx.set_at (b := w3.heap.size + 1) (o := 0) (by omega) (.int .i64 sx)).set_at (b := w3.heap.size + 1) (o := 1) (by omega) (.int .i64 sy)
      have hb := (hb.set_at (b := w3.heap.size + 1) (o := 0) (by omega) (.int .i64 sx)).set_at (b := w3.heap.size + 1) (o := 1) (by omega) (.int .i64 sy)
      have kq1 := (kq1.set_at (b' := w3.heap.size + 1) (o := 0) (by omega) (.int .i64 sx)).set_at (b' := w3.heap.size + 1) (o := 1) (by omega) (.int .i64 sy)
      have kq2 : Blk _ _ [.int .i64 sx, .int .i64 sy] := (kq2.set 0 (.int .i64 sx)).set 1 (.int .i64 sy)
      have hr1 := hr13.keep hbx
      have hr2 := hr23.keep hbx
      clear q0 q1 f0 f1 hq2 hr13 hr23 hbx
      generalize (w8.setCell ⟨w3.heap.size + 1, 0, none⟩ (.int .i64 sx)).setCell ⟨w3.heap.size + 1, 1, none⟩ (.int .i64 sy) = wY at *
      subst hSV1
      
      have hrr : Below wY.heap.size wY wY.drew := (Below.refl _ _).drew
      refine wp_region_lit_txt [1, 2, 3, 5, 6, 7, 8, 9, 10, 11, 12, 13, 14, 15, 16, 17, 18, 19, 21, 22, 23, 24, 25, 26, 27, 28, 30, 31, 32, 33] (fun W => Below wY.heap.size wY W) (by kernel_rfl) (by kernel_rfl) (by kernel_rfl) hrr ?_
      refine txt_call [] Try.f15 rfl rfl Try.func15 (by kernel_rfl) (by kernel_rfl) rfl ((HKN.out _).mono ?_)
      rintro e y1 ⟨rfl, hx5⟩
      have hb5 := hrr.trans (hx5.mono hrr.size)
      refine ⟨_, rfl, hb5, ?_⟩
      clear hx5
      try simp only [Act.put, List.setIfInBounds_toArray, List.set_cons_zero, List.set_cons_succ]
      (refine txt_light ?_ rfl rfl ?_ ?_; rotate_left; · (intro w' hS; (try dsimp only at hS); go_simp; with_reducible rfl)); try simp only [Act.put, List.setIfInBounds_toArray, List.set_cons_zero, List.set_cons_succ]
      (refine txt_light ?_ rfl rfl ?_ ?_; rotate_left; · (intro w' hS; (try dsimp only at hS); go_simp; with_reducible rfl)); try simp only [Act.put, List.setIfInBounds_toArray, List.set_cons_zero, List.set_cons_succ]
      (refine txt_light ?_ rfl rfl ?_ ?_; rotate_left; · (intro w' hS; (try dsimp only at hS); go_simp; with_reducible rfl)); try simp only [Act.put, List.setIfInBounds_toArray, List.set_cons_zero, List.set_cons_succ]
      refine txt_call [.int .i64 z] Try.f10 rfl rfl Try.func10 (by kernel_rfl) (by kernel_rfl) rfl ((HLV.out _).mono ?_)
      rintro e y2 ⟨rfl, rfl⟩
      refine ⟨_, rfl, hb5, ?_⟩
      try simp only [Act.put, List.setIfInBounds_toArray, List.set_cons_zero, List.set_cons_succ]
      refine txt_light (.bool true) rfl rfl ?_ ?_
      · intro w' hS
        go_simp
      try simp only [Act.put, List.setIfInBounds_toArray, List.set_cons_zero, List.set_cons_succ]
      (refine txt_light ?_ rfl rfl ?_ ?_; rotate_left; · (intro w' hS; (try dsimp only at hS); go_simp; with_reducible rfl)); try simp only [Act.put, List.setIfInBounds_toArray, List.set_cons_zero, List.set_cons_succ]
      (refine txt_light ?_ rfl rfl ?_ ?_; rotate_left; · (intro w' hS; (try dsimp only at hS); go_simp; with_reducible rfl)); try simp only [Act.put, List.setIfInBounds_toArray, List.set_cons_zero, List.set_cons_succ]
      (refine txt_light ?_ rfl rfl ?_ ?_; rotate_left; · (intro w' hS; (try dsimp only at hS); go_simp; with_reducible rfl)); try simp only [Act.put, List.setIfInBounds_toArray, List.set_cons_zero, List.set_cons_succ]
      (refine txt_light ?_ rfl rfl ?_ ?_; rotate_left; · (intro w' hS; (try dsimp only at hS); go_simp; with_reducible rfl)); try simp only [Act.put, List.setIfInBounds_toArray, List.set_cons_zero, List.set_cons_succ]
      refine txt_light (.bool true) rfl rfl ?_ ?_
      · intro w' hS
        go_simp
      try simp only [Act.put, List.setIfInBounds_toArray, List.set_cons_zero, List.set_cons_succ]
      (refine txt_light ?_ rfl rfl ?_ ?_; rotate_left; · (intro w' hS; (try dsimp only at hS); go_simp; with_reducible rfl)); try simp only [Act.put, List.setIfInBounds_toArray, List.set_cons_zero, List.set_cons_succ]
      (refine txt_light ?_ rfl rfl ?_ ?_; rotate_left; · (intro w' hS; (try dsimp only at hS); go_simp; with_reducible rfl)); try simp only [Act.put, List.setIfInBounds_toArray, List.set_cons_zero, List.set_cons_succ]
      (refine txt_light ?_ rfl rfl ?_ ?_; rotate_left; · (intro w' hS; (try dsimp only at hS); go_simp; with_reducible rfl)); try simp only [Act.put, List.setIfInBounds_toArray, List.set_cons_zero, List.set_cons_succ]
      (refine txt_light ?_ rfl rfl ?_ ?_; rotate_left; · (intro w' hS; (try dsimp only at hS); go_simp; with_reducible rfl)); try simp only [Act.put, List.setIfInBounds_toArray, List.set_cons_zero, List.set_cons_succ]
      refine txt_light (.bool true) rfl rfl ?_ ?_
      · intro w' hS
        go_simp
      try simp only [Act.put, List.setIfInBounds_toArray, List.set_cons_zero, List.set_cons_succ]
      (refine txt_light ?_ rfl rfl ?_ ?_; rotate_left; · (intro w' hS; (try dsimp only at hS); go_simp; with_reducible rfl)); try simp only [Act.put, List.setIfInBounds_toArray, List.set_cons_zero, List.set_cons_succ]
      (refine txt_light ?_ rfl rfl ?_ ?_; rotate_left; · (intro w' hS; (try dsimp only at hS); go_simp; with_reducible rfl)); try simp only [Act.put, List.setIfInBounds_toArray, List.set_cons_zero, List.set_cons_succ]
      (refine txt_light ?_ rfl rfl ?_ ?_; rotate_left; · (intro w' hS; (try dsimp only at hS); go_simp; with_reducible rfl)); try simp only [Act.put, List.setIfInBounds_toArray, List.set_cons_zero, List.set_cons_succ]
      (refine txt_light ?_ rfl rfl ?_ ?_; rotate_left; · (intro w' hS; (try dsimp only at hS); go_simp; with_reducible rfl)); try simp only [Act.put, List.setIfInBounds_toArray, List.set_cons_zero, List.set_cons_succ]
      refine txt_call [.slice a1 n c1, .slice a2 n c2] Try.f16 rfl rfl Try.func16 (by kernel_rfl) (by kernel_rfl) rfl ((HINS.out a1 a2 c1 c2 _ (hr1.keep hb5) (hr2.keep hb5)).mono ?_)
      rintro e y3 ⟨rfl, nq, rfl⟩
      have hb6 := below_drewN hb5 nq
      refine ⟨_, rfl, hb6, ?_⟩
      try simp only [Act.put, List.setIfInBounds_toArray, List.set_cons_zero, List.set_cons_succ]
      (refine txt_light ?_ rfl rfl ?_ ?_; rotate_left; · (intro w' hS; (try dsimp only at hS); go_simp; with_reducible rfl)); try simp only [Act.put, List.setIfInBounds_toArray, List.set_cons_zero, List.set_cons_succ]
      (refine txt_light ?_ rfl rfl ?_ ?_; rotate_left; · (intro w' hS; (try dsimp only at hS); go_simp; with_reducible rfl)); try simp only [Act.put, List.setIfInBounds_toArray, List.set_cons_zero, List.set_cons_succ]
      (refine txt_light ?_ rfl rfl ?_ ?_; rotate_left; · (intro w' hS; (try dsimp only at hS); go_simp; with_reducible rfl)); try simp only [Act.put, List.setIfInBounds_toArray, List.set_cons_zero, List.set_cons_succ]
      (refine txt_light ?_ rfl rfl ?_ ?_; rotate_left; · (intro w' hS; (try dsimp only at hS); go_simp; with_reducible rfl)); try simp only [Act.put, List.setIfInBounds_toArray, List.set_cons_zero, List.set_cons_succ]
      refine txt_light (.bool true) rfl rfl ?_ ?_
      · intro w' hS
        go_simp
      try simp only [Act.put, List.setIfInBounds_toArray, List.set_cons_zero, List.set_cons_succ]
      (refine txt_light ?_ rfl rfl ?_ ?_; rotate_left; · (intro w' hS; (try dsimp only at hS); go_simp; with_reducible rfl)); try simp only [Act.put, List.setIfInBounds_toArray, List.set_cons_zero, List.set_cons_succ]
      (refine txt_light ?_ rfl rfl ?_ ?_; rotate_left; · (intro w' hS; (try dsimp only at hS); go_simp; with_reducible rfl)); try simp only [Act.put, List.setIfInBounds_toArray, List.set_cons_zero, List.set_cons_succ]
      refine txt_light (.agg #[.int .i64 sx, .int .i64 sy]) rfl rfl ?_ ?_
      · intro w' hS
        have c0 := (kq1.keep hS).cell 0 rfl
        have c1 := (kq1.keep hS).cell 1 rfl
        go_simp
      try simp only [Act.put, List.setIfInBounds_toArray, List.set_cons_zero, List.set_cons_succ]
      refine txt_call [.agg #[.int .i64 sx, .int .i64 sy]] Try.f13 rfl rfl Try.func13 (by kernel_rfl) (by kernel_rfl) rfl ((HOF.out ⟨sx, sy⟩ _).mono ?_)
      rintro e y4 ⟨rfl, hx7⟩
      dsimp only [Pt.val]
      have hb7 := hb6.trans (hx7.mono hb6.size)
      refine ⟨_, rfl, hb7, ?_⟩
      clear hx7
      try simp only [Act.put, List.setIfInBounds_toArray, List.set_cons_zero, List.set_cons_succ]
      refine txt_light (.agg #[.int .i64 sx, .int .i64 sy]) rfl rfl ?_ ?_
      · intro w' hS
        have c0 := (kq2.keep hS).cell 0 rfl
        have c1 := (kq2.keep hS).cell 1 rfl
        go_simp
      try simp only [Act.put, List.setIfInBounds_toArray, List.set_cons_zero, List.set_cons_succ]
      refine txt_light (.bool true) rfl rfl ?_ ?_
      · intro w' hS
        go_simp
      try simp only [Act.put, List.setIfInBounds_toArray, List.set_cons_zero, List.set_cons_succ]
      (refine txt_light ?_ rfl rfl ?_ ?_; rotate_left; · (intro w' hS; (try dsimp only at hS); go_simp; with_reducible rfl)); try simp only [Act.put, List.setIfInBounds_toArray, List.set_cons_zero, List.set_cons_succ]
      (refine txt_light ?_ rfl rfl ?_ ?_; rotate_left; · (intro w' hS; (try dsimp only at hS); go_simp; with_reducible rfl)); try simp only [Act.put, List.setIfInBounds_toArray, List.set_cons_zero, List.set_cons_succ]
      refine txt_nil ?_
      go_wp2
      go_ret
      exact ⟨rfl, hb.trans (hb7.mono hb.size)⟩
end Go.Proofs.Ytmmhkageehlknaa
