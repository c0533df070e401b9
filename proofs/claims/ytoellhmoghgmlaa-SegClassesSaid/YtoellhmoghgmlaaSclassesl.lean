/-
  SegClasses: the walk.
-/
import Derived.Test.YtoellhmoghgmlaaSword
import Derived.Test.YtoellhmoghgmlaaRclass
import Derived.Test.YtoellhmoghgmlaaOpenP
set_option linter.unusedVariables false
set_option linter.unusedSimpArgs false
set_option maxRecDepth 100000
namespace Go.Proofs.Ytoellhmoghgmlaa
open Go.RowKit
set_option maxHeartbeats 6400000 in
theorem sclasses_walk (a b c d : Pt) (n : Int) (w : World) :
    Calls Try.prog 7 #[a.val, b.val, c.val, d.val, .int .i64 n] w fun e w' => e = .returned (.bool true) ∧ Below w.heap.size w w' := by
  have sc := sclass_any a b c d
  have wd := word_any n
  obtain ⟨R, hR⟩ : ∃ R, clsR a b c d = R := ⟨_, rfl⟩
  have hR0 : Hid ([a, b, c, d].all okPt = false → R = (0, 5)) := Lib.hid (fun h => by rw [← hR, clsR, if_pos h])
  have hR1 : Hid ([a, b, c, d].all okPt = true → (a = b ∨ c = d) → R = (0, 1)) := Lib.hid (fun h h2 => by rw [← hR, clsR, if_neg (by rw [h]; decide), if_pos h2])
  have hR2 : Hid ([a, b, c, d].all okPt = true → ¬ (a = b ∨ c = d) → R = (rclsF a b c d, 0)) := Lib.hid (fun h h2 => by
    have hh := h
    simp only [List.all_cons, List.all_nil, Bool.and_true, Bool.and_eq_true] at hh
    rw [← hR, clsR, if_neg (by rw [h]; decide), if_neg h2, cls_eq a b c d hh.1 hh.2.1 hh.2.2.1 hh.2.2.2 (fun e => h2 (.inl e)) (fun e => h2 (.inr e))])
  have RC := Lib.hid (fun (h : [a, b, c, d].all okPt = true) (h2 : ¬ (a = b ∨ c = d)) => (by
    simp only [List.all_cons, List.all_nil, Bool.and_true, Bool.and_eq_true] at h
    exact rclass_any a b c d h.1 h.2.1 h.2.2.1 h.2.2.2 (fun e => h2 (.inl e)) (fun e => h2 (.inr e)) : ∀ w, _))
  rw [hR] at sc
  have RA := Lib.hid (fun (w : World) (b0 : Nat) h => rall_any (some ⟨b0, 0, none⟩) 4 [a, b, c, d] (by simp) w h)
  generalize rclsF a b c d = RF at *
  have la := lof_any a
  have lb := lof_any b
  have lc := lof_any c
  have ld := lof_any d
  obtain ⟨OK, hOK⟩ : ∃ OK, [a, b, c, d].all okPt = OK := ⟨_, rfl⟩
  rw [hOK] at hR0 hR1 hR2 RA RC
  clear hR hOK
  obtain ⟨ax, ay⟩ := a
  obtain ⟨bx, bY⟩ := b
  obtain ⟨cx, cy⟩ := c
  obtain ⟨dx, dy⟩ := d
  obtain ⟨R1, R2⟩ := R
  dsimp only [Pt.val] at *
  simp only [Pt.mk.injEq] at hR1 hR2 RC
  have SC := Lib.hid sc
  have WD := Lib.hid wd
  have LA := Lib.hid la
  have LB := Lib.hid lb
  have LC := Lib.hid lc
  have LD := Lib.hid ld
  clear sc wd la lb lc ld

  have k0 := ((((Blk.lit w w.heap.size [.int .i64 ax, .int .i64 ay] 23 rfl).alloc (.cells #[.int .i64 bx, .int .i64 bY] 23)).alloc (.cells #[.int .i64 cx, .int .i64 cy] 23)).alloc (.cells #[.int .i64 dx, .int .i64 dy] 23))
  have k1 := (((Blk.lit (w.alloc (.cells #[.int .i64 ax, .int .i64 ay] 23)) (w.heap.size + 1) [.int .i64 bx, .int .i64 bY] 23 (by simp)).alloc (.cells #[.int .i64 cx, .int .i64 cy] 23)).alloc (.cells #[.int .i64 dx, .int .i64 dy] 23))
  have k2 := ((Blk.lit ((w.alloc (.cells #[.int .i64 ax, .int .i64 ay] 23)).alloc (.cells #[.int .i64 bx, .int .i64 bY] 23)) (w.heap.size + 1 + 1) [.int .i64 cx, .int .i64 cy] 23 (by simp)).alloc (.cells #[.int .i64 dx, .int .i64 dy] 23))
  have k3 := (Blk.lit (((w.alloc (.cells #[.int .i64 ax, .int .i64 ay] 23)).alloc (.cells #[.int .i64 bx, .int .i64 bY] 23)).alloc (.cells #[.int .i64 cx, .int .i64 cy] 23)) (w.heap.size + 1 + 1 + 1) [.int .i64 dx, .int .i64 dy] 23 (by simp))
  have hb0 := ((((Below.new w (.cells #[.int .i64 ax, .int .i64 ay] 23)).alloc (by simp) (.cells #[.int .i64 bx, .int .i64 bY] 23)).alloc (by simp; omega) (.cells #[.int .i64 cx, .int .i64 cy] 23)).alloc (by simp; omega) (.cells #[.int .i64 dx, .int .i64 dy] 23))
  go_enter Try.func7, Try.ntmps7
  obtain ⟨wA, hwA⟩ : ∃ wA, ((((w.alloc (.cells #[.int .i64 ax, .int .i64 ay] 23)).alloc (.cells #[.int .i64 bx, .int .i64 bY] 23)).alloc (.cells #[.int .i64 cx, .int .i64 cy] 23)).alloc (.cells #[.int .i64 dx, .int .i64 dy] 23)) = wA := ⟨_, rfl⟩
  rw [hwA] at k0 k1 k2 k3 hb0
  have hs0 := hb0.size
  have a0 := k0.cell 0 rfl
  have a1 := k0.cell 1 rfl
  have b0 := k1.cell 0 rfl
  have b1 := k1.cell 1 rfl
  have x0 := k2.cell 0 rfl
  have x1 := k2.cell 1 rfl
  have y0 := k3.cell 0 rfl
  have y1 := k3.cell 1 rfl
  go_step
  go_step
  rename_i K0 hK0
  replace hK0 := Lib.hid hK0
  go_wp2
  refine hK0.out _ _ ?_
  clear hK0
  try rw [hwA]
  clear hwA
  go_wp2_with fail
  refine (SC.out _).mono ?_
  rintro e w1 ⟨rfl, hx1⟩
  have hbA := hx1
  have k0 := k0.keep hx1
  have k1 := k1.keep hx1
  have k2 := k2.keep hx1
  have k3 := k3.keep hx1
  have hb1 := hb0.trans (hx1.mono hs0)
  have hs1 := hb1.size
  clear a0 a1 b0 b1 x0 x1 y0 y1 hbA hb0 hs0 hx1
  go_wp2_with fail
  have hrr := (Below.refl w1.heap.size w1)
  have hrr : Below w1.heap.size w1 w1.drew := hrr.drew
  refine wp_region_lit_txt [0, 2, 4, 6, 10] (fun W => Below w1.heap.size w1 W) (by kernel_rfl) (by kernel_rfl) (by kernel_rfl) hrr ?_
  refine txt_light (.agg #[.int .i64 ax, .int .i64 ay]) rfl rfl ?_ ?_
  · intro w' hS
    have c0 := (k0.keep hS).cell 0 rfl
    have c1 := (k0.keep hS).cell 1 rfl
    go_simp
  try simp only [Act.put, List.setIfInBounds_toArray, List.set_cons_zero, List.set_cons_succ]
  refine txt_call [.agg #[.int .i64 ax, .int .i64 ay]] Try.f9 rfl rfl Try.func9 (by kernel_rfl) (by kernel_rfl) rfl ((LA.out _).mono ?_)
  rintro e v0 ⟨rfl, hy0⟩
  have hz0 := Below.trans hrr (hy0.mono (Below.size hrr))
  refine ⟨_, rfl, hz0, ?_⟩
  try simp only [Act.put, List.setIfInBounds_toArray, List.set_cons_zero, List.set_cons_succ]
  refine txt_light (.agg #[.int .i64 bx, .int .i64 bY]) rfl rfl ?_ ?_
  · intro w' hS
    have c0 := (k1.keep hS).cell 0 rfl
    have c1 := (k1.keep hS).cell 1 rfl
    go_simp
  try simp only [Act.put, List.setIfInBounds_toArray, List.set_cons_zero, List.set_cons_succ]
  refine txt_call [.agg #[.int .i64 bx, .int .i64 bY]] Try.f9 rfl rfl Try.func9 (by kernel_rfl) (by kernel_rfl) rfl ((LB.out _).mono ?_)
  rintro e v1 ⟨rfl, hy1⟩
  have hz1 := Below.trans hz0 (hy1.mono (Below.size hz0))
  refine ⟨_, rfl, hz1, ?_⟩
  try simp only [Act.put, List.setIfInBounds_toArray, List.set_cons_zero, List.set_cons_succ]
  refine txt_light (.agg #[.int .i64 cx, .int .i64 cy]) rfl rfl ?_ ?_
  · intro w' hS
    have c0 := (k2.keep hS).cell 0 rfl
    have c1 := (k2.keep hS).cell 1 rfl
    go_simp
  try simp only [Act.put, List.setIfInBounds_toArray, List.set_cons_zero, List.set_cons_succ]
  refine txt_call [.agg #[.int .i64 cx, .int .i64 cy]] Try.f9 rfl rfl Try.func9 (by kernel_rfl) (by kernel_rfl) rfl ((LC.out _).mono ?_)
  rintro e v2 ⟨rfl, hy2⟩
  have hz2 := Below.trans hz1 (hy2.mono (Below.size hz1))
  refine ⟨_, rfl, hz2, ?_⟩
  try simp only [Act.put, List.setIfInBounds_toArray, List.set_cons_zero, List.set_cons_succ]
  refine txt_light (.agg #[.int .i64 dx, .int .i64 dy]) rfl rfl ?_ ?_
  · intro w' hS
    have c0 := (k3.keep hS).cell 0 rfl
    have c1 := (k3.keep hS).cell 1 rfl
    go_simp
  try simp only [Act.put, List.setIfInBounds_toArray, List.set_cons_zero, List.set_cons_succ]
  refine txt_call [.agg #[.int .i64 dx, .int .i64 dy]] Try.f9 rfl rfl Try.func9 (by kernel_rfl) (by kernel_rfl) rfl ((LD.out _).mono ?_)
  rintro e v3 ⟨rfl, hy3⟩
  have hz3 := Below.trans hz2 (hy3.mono (Below.size hz2))
  refine ⟨_, rfl, hz3, ?_⟩
  try simp only [Act.put, List.setIfInBounds_toArray, List.set_cons_zero, List.set_cons_succ]
  have hsz := hz3.size
  refine txt_heavy rfl rfl (fun K hK => ?_)
  go_step
  have hz4 := hz3.alloc (by exact hsz) (.cells #[.int .i64 ax, .int .i64 ay, .int .i64 bx, .int .i64 bY, .int .i64 cx, .int .i64 cy, .int .i64 dx, .int .i64 dy] 26)
  have hrd := Rd.lit v3 v3.heap.size [.int .i64 ax, .int .i64 ay, .int .i64 bx, .int .i64 bY, .int .i64 cx, .int .i64 cy, .int .i64 dx, .int .i64 dy] 26 rfl
  refine hK.out _ _ hz4 ?_
  clear hK K
  try simp only [Act.put, List.setIfInBounds_toArray, List.set_cons_zero, List.set_cons_succ]
  refine txt_call [.slice (some ⟨v3.heap.size, 0, none⟩) 4 4] Try.f18 rfl rfl Try.func18 (by kernel_rfl) (by kernel_rfl) rfl ((RA.out _ _ hrd).mono ?_)
  rintro e v5 ⟨rfl, hy5⟩
  have hz5 := hz4.trans (hy5.mono hz4.size)
  refine ⟨_, rfl, hz5, ?_⟩
  try simp only [Act.put, List.setIfInBounds_toArray, List.set_cons_zero, List.set_cons_succ]
  (refine txt_light ?_ rfl rfl ?_ ?_; rotate_left; · (intro w' hS; (try dsimp only at hS); go_simp; with_reducible rfl)); try simp only [Act.put, List.setIfInBounds_toArray, List.set_cons_zero, List.set_cons_succ]
  refine txt_nil ?_
  have k0 := k0.keep hz5
  have k1 := k1.keep hz5
  have k2 := k2.keep hz5
  have k3 := k3.keep hz5
  have hb2 := hb1.trans (hz5.mono hs1)
  have hs2 := hb2.size
  clear hrd hz0 hz1 hz2 hz3 hz4 hz5 hy0 hy1 hy2 hy3 hy5 hrr hb1 hs1 RA hsz
  have a0 := k0.cell 0 rfl
  have a1 := k0.cell 1 rfl
  have b0 := k1.cell 0 rfl
  have b1 := k1.cell 1 rfl
  have x0 := k2.cell 0 rfl
  have x1 := k2.cell 1 rfl
  have y0 := k3.cell 0 rfl
  have y1 := k3.cell 1 rfl
  cases OK with
  | false =>
    have hR := hR0.out rfl
    cases hR
    clear hR0 hR1 hR2 RC SC
    obtain ⟨wX, hwX⟩ : ∃ wX, v5 = wX := ⟨_, rfl⟩
    subst hwX
    have hbX := hb2
    clear hb2 k0 k1 k2 k3
    generalize v5 = wX at *
    by_cases hn0 : n < 0
    · have hw : wordF n = ⟨#[]⟩ := by unfold wordF; rw [if_neg (by omega), if_neg (by omega), if_neg (by omega), if_neg (by omega), if_neg (by omega), if_neg (by omega)]
      rw [hw] at WD
      have hn00 : ¬ 0 ≤ n := by omega
      clear hw
      go_wp2_with fail
      refine (sknown_any _).mono ?_
      rintro e w7 ⟨rfl, hb7⟩
      have hb8 := hbX.trans (hb7.mono hbX.size)
      go_wp2_with fail
      refine (WD.out _).mono ?_
      rintro e w8 ⟨rfl, hb9⟩
      have hbE := hb8.trans (hb9.mono hb8.size)
      clear hb7 hb8 hb9 hbX
      go_wp2
      go_ret
      exact ⟨rfl, hbE⟩
    · by_cases hn5 : 5 < n
      · have hw : wordF n = ⟨#[]⟩ := by unfold wordF; rw [if_neg (by omega), if_neg (by omega), if_neg (by omega), if_neg (by omega), if_neg (by omega), if_neg (by omega)]
        rw [hw] at WD
        have hn00 : 0 ≤ n := by omega
        have hn55 : ¬ n ≤ 5 := by omega
        clear hw
        go_wp2_with fail
        refine (sknown_any _).mono ?_
        rintro e w7 ⟨rfl, hb7⟩
        have hb8 := hbX.trans (hb7.mono hbX.size)
        go_wp2_with fail
        refine (WD.out _).mono ?_
        rintro e w8 ⟨rfl, hb9⟩
        have hbE := hb8.trans (hb9.mono hb8.size)
        clear hb7 hb8 hb9 hbX
        go_wp2
        go_ret
        exact ⟨rfl, hbE⟩
      · obtain ⟨k, rfl⟩ : ∃ k : Nat, n = (k : Int) := ⟨n.toNat, by omega⟩
        have hk : k < 6 := by omega
        have hv : [Value.string ⟨#[97, 112, 97, 114, 116]⟩, .string ⟨#[116, 111, 117, 99, 104]⟩, .string ⟨#[116, 101, 101]⟩, .string ⟨#[99, 114, 111, 115, 115]⟩, .string ⟨#[111, 118, 101, 114, 108, 97, 112]⟩, .string ⟨#[115, 97, 109, 101]⟩][k]? = some (.string (wordF k)) := by
          obtain rfl | rfl | rfl | rfl | rfl | rfl : k = 0 ∨ k = 1 ∨ k = 2 ∨ k = 3 ∨ k = 4 ∨ k = 5 := by omega
          all_goals rfl
        generalize wordF (k : Int) = WK at *
        have hn55 : (k : Int) ≤ 5 := by omega
        have hk6 : (k : Int) < 6 := by omega
        obtain ⟨b7, o7, e7, q7, -⟩ := (Rd.new wX [Value.string ⟨#[97, 112, 97, 114, 116]⟩, .string ⟨#[116, 111, 117, 99, 104]⟩, .string ⟨#[116, 101, 101]⟩, .string ⟨#[99, 114, 111, 115, 115]⟩, .string ⟨#[111, 118, 101, 114, 108, 97, 112]⟩, .string ⟨#[115, 97, 109, 101]⟩] 9).at hv
        cases e7
        rw [Nat.zero_add] at q7
        have hbY := hbX.alloc hbX.size (.cells #[.string ⟨#[97, 112, 97, 114, 116]⟩, .string ⟨#[116, 111, 117, 99, 104]⟩, .string ⟨#[116, 101, 101]⟩, .string ⟨#[99, 114, 111, 115, 115]⟩, .string ⟨#[111, 118, 101, 114, 108, 97, 112]⟩, .string ⟨#[115, 97, 109, 101]⟩] 9)
        clear hv hbX
        go_wp2_with fail
        refine (sknown_any _).mono ?_
        rintro e w7 ⟨rfl, hb7⟩
        have hb8 := hbY.trans (hb7.mono hbY.size)
        go_wp2_with fail
        refine (WD.out _).mono ?_
        rintro e w8 ⟨rfl, hb9⟩
        have hbE := hb8.trans (hb9.mono hb8.size)
        clear hb7 hb8 hb9 hbY
        go_wp2
        go_ret
        exact ⟨rfl, hbE⟩
  | true =>
    have hR1 := Lib.hid (hR1.out rfl)
    have hR2 := Lib.hid (hR2.out rfl)
    have RC1 := Lib.hid (RC.out rfl)
    clear hR0
    by_cases hax : ax = bx
    · by_cases hay : ay = bY
      · have hR := hR1.out (.inl ⟨hax, hay⟩)
        subst hax hay
        cases hR
        clear hR1 hR2 RC SC
        have hbX := hb2
        clear hb2
        generalize v5 = wX at *
        by_cases hn0 : n < 0
        · have hw : wordF n = ⟨#[]⟩ := by unfold wordF; rw [if_neg (by omega), if_neg (by omega), if_neg (by omega), if_neg (by omega), if_neg (by omega), if_neg (by omega)]
          rw [hw] at WD
          have hn00 : ¬ 0 ≤ n := by omega
          clear hw
          go_wp2_with fail
          refine (sknown_any _).mono ?_
          rintro e w7 ⟨rfl, hb7⟩
          have hb8 := hbX.trans (hb7.mono hbX.size)
          go_wp2_with fail
          refine (WD.out _).mono ?_
          rintro e w8 ⟨rfl, hb9⟩
          have hbE := hb8.trans (hb9.mono hb8.size)
          clear hb7 hb8 hb9 hbX
          go_wp2
          go_ret
          exact ⟨rfl, hbE⟩
        · by_cases hn5 : 5 < n
          · have hw : wordF n = ⟨#[]⟩ := by unfold wordF; rw [if_neg (by omega), if_neg (by omega), if_neg (by omega), if_neg (by omega), if_neg (by omega), if_neg (by omega)]
            rw [hw] at WD
            have hn00 : 0 ≤ n := by omega
            have hn55 : ¬ n ≤ 5 := by omega
            clear hw
            go_wp2_with fail
            refine (sknown_any _).mono ?_
            rintro e w7 ⟨rfl, hb7⟩
            have hb8 := hbX.trans (hb7.mono hbX.size)
            go_wp2_with fail
            refine (WD.out _).mono ?_
            rintro e w8 ⟨rfl, hb9⟩
            have hbE := hb8.trans (hb9.mono hb8.size)
            clear hb7 hb8 hb9 hbX
            go_wp2
            go_ret
            exact ⟨rfl, hbE⟩
          · obtain ⟨k, rfl⟩ : ∃ k : Nat, n = (k : Int) := ⟨n.toNat, by omega⟩
            have hk : k < 6 := by omega
            have hv : [Value.string ⟨#[97, 112, 97, 114, 116]⟩, .string ⟨#[116, 111, 117, 99, 104]⟩, .string ⟨#[116, 101, 101]⟩, .string ⟨#[99, 114, 111, 115, 115]⟩, .string ⟨#[111, 118, 101, 114, 108, 97, 112]⟩, .string ⟨#[115, 97, 109, 101]⟩][k]? = some (.string (wordF k)) := by
              obtain rfl | rfl | rfl | rfl | rfl | rfl : k = 0 ∨ k = 1 ∨ k = 2 ∨ k = 3 ∨ k = 4 ∨ k = 5 := by omega
              all_goals rfl
            generalize wordF (k : Int) = WK at *
            have hn55 : (k : Int) ≤ 5 := by omega
            have hk6 : (k : Int) < 6 := by omega
            obtain ⟨b7, o7, e7, q7, -⟩ := (Rd.new wX [Value.string ⟨#[97, 112, 97, 114, 116]⟩, .string ⟨#[116, 111, 117, 99, 104]⟩, .string ⟨#[116, 101, 101]⟩, .string ⟨#[99, 114, 111, 115, 115]⟩, .string ⟨#[111, 118, 101, 114, 108, 97, 112]⟩, .string ⟨#[115, 97, 109, 101]⟩] 9).at hv
            cases e7
            rw [Nat.zero_add] at q7
            have hbY := hbX.alloc hbX.size (.cells #[.string ⟨#[97, 112, 97, 114, 116]⟩, .string ⟨#[116, 111, 117, 99, 104]⟩, .string ⟨#[116, 101, 101]⟩, .string ⟨#[99, 114, 111, 115, 115]⟩, .string ⟨#[111, 118, 101, 114, 108, 97, 112]⟩, .string ⟨#[115, 97, 109, 101]⟩] 9)
            clear hv hbX
            go_wp2_with fail
            refine (sknown_any _).mono ?_
            rintro e w7 ⟨rfl, hb7⟩
            have hb8 := hbY.trans (hb7.mono hbY.size)
            go_wp2_with fail
            refine (WD.out _).mono ?_
            rintro e w8 ⟨rfl, hb9⟩
            have hbE := hb8.trans (hb9.mono hb8.size)
            clear hb7 hb8 hb9 hbY
            go_wp2
            go_ret
            exact ⟨rfl, hbE⟩
      ·
        subst hax
        by_cases hcx : cx = dx
        · by_cases hcy : cy = dy
          · have hR := hR1.out (.inr ⟨hcx, hcy⟩)
            subst hcx hcy
            cases hR
            clear hR1 hR2 RC SC
            have hbX := hb2
            clear hb2
            generalize v5 = wX at *
            by_cases hn0 : n < 0
            · have hw : wordF n = ⟨#[]⟩ := by unfold wordF; rw [if_neg (by omega), if_neg (by omega), if_neg (by omega), if_neg (by omega), if_neg (by omega), if_neg (by omega)]
              rw [hw] at WD
              have hn00 : ¬ 0 ≤ n := by omega
              clear hw
              go_wp2_with fail
              refine (sknown_any _).mono ?_
              rintro e w7 ⟨rfl, hb7⟩
              have hb8 := hbX.trans (hb7.mono hbX.size)
              go_wp2_with fail
              refine (WD.out _).mono ?_
              rintro e w8 ⟨rfl, hb9⟩
              have hbE := hb8.trans (hb9.mono hb8.size)
              clear hb7 hb8 hb9 hbX
              go_wp2
              go_ret
              exact ⟨rfl, hbE⟩
            · by_cases hn5 : 5 < n
              · have hw : wordF n = ⟨#[]⟩ := by unfold wordF; rw [if_neg (by omega), if_neg (by omega), if_neg (by omega), if_neg (by omega), if_neg (by omega), if_neg (by omega)]
                rw [hw] at WD
                have hn00 : 0 ≤ n := by omega
                have hn55 : ¬ n ≤ 5 := by omega
                clear hw
                go_wp2_with fail
                refine (sknown_any _).mono ?_
                rintro e w7 ⟨rfl, hb7⟩
                have hb8 := hbX.trans (hb7.mono hbX.size)
                go_wp2_with fail
                refine (WD.out _).mono ?_
                rintro e w8 ⟨rfl, hb9⟩
                have hbE := hb8.trans (hb9.mono hb8.size)
                clear hb7 hb8 hb9 hbX
                go_wp2
                go_ret
                exact ⟨rfl, hbE⟩
              · obtain ⟨k, rfl⟩ : ∃ k : Nat, n = (k : Int) := ⟨n.toNat, by omega⟩
                have hk : k < 6 := by omega
                have hv : [Value.string ⟨#[97, 112, 97, 114, 116]⟩, .string ⟨#[116, 111, 117, 99, 104]⟩, .string ⟨#[116, 101, 101]⟩, .string ⟨#[99, 114, 111, 115, 115]⟩, .string ⟨#[111, 118, 101, 114, 108, 97, 112]⟩, .string ⟨#[115, 97, 109, 101]⟩][k]? = some (.string (wordF k)) := by
                  obtain rfl | rfl | rfl | rfl | rfl | rfl : k = 0 ∨ k = 1 ∨ k = 2 ∨ k = 3 ∨ k = 4 ∨ k = 5 := by omega
                  all_goals rfl
                generalize wordF (k : Int) = WK at *
                have hn55 : (k : Int) ≤ 5 := by omega
                have hk6 : (k : Int) < 6 := by omega
                obtain ⟨b7, o7, e7, q7, -⟩ := (Rd.new wX [Value.string ⟨#[97, 112, 97, 114, 116]⟩, .string ⟨#[116, 111, 117, 99, 104]⟩, .string ⟨#[116, 101, 101]⟩, .string ⟨#[99, 114, 111, 115, 115]⟩, .string ⟨#[111, 118, 101, 114, 108, 97, 112]⟩, .string ⟨#[115, 97, 109, 101]⟩] 9).at hv
                cases e7
                rw [Nat.zero_add] at q7
                have hbY := hbX.alloc hbX.size (.cells #[.string ⟨#[97, 112, 97, 114, 116]⟩, .string ⟨#[116, 111, 117, 99, 104]⟩, .string ⟨#[116, 101, 101]⟩, .string ⟨#[99, 114, 111, 115, 115]⟩, .string ⟨#[111, 118, 101, 114, 108, 97, 112]⟩, .string ⟨#[115, 97, 109, 101]⟩] 9)
                clear hv hbX
                go_wp2_with fail
                refine (sknown_any _).mono ?_
                rintro e w7 ⟨rfl, hb7⟩
                have hb8 := hbY.trans (hb7.mono hbY.size)
                go_wp2_with fail
                refine (WD.out _).mono ?_
                rintro e w8 ⟨rfl, hb9⟩
                have hbE := hb8.trans (hb9.mono hb8.size)
                clear hb7 hb8 hb9 hbY
                go_wp2
                go_ret
                exact ⟨rfl, hbE⟩
          · have hne : ¬ ((ax = ax ∧ ay = bY) ∨ (cx = dx ∧ cy = dy)) := by omega
            have hR := hR2.out hne
            subst hcx
            cases hR
            have RC2 := Lib.hid (RC1.out hne)
            clear RC1 RC
            clear hR1 hR2 SC
            go_wp2_with fail
            have hrr := (Below.refl v5.heap.size v5)
            have hrr : Below v5.heap.size v5 v5.drew := hrr.drew
            refine wp_region_lit_txt [0, 2, 4, 6, 9] (fun W => Below v5.heap.size v5 W) (by kernel_rfl) (by kernel_rfl) (by kernel_rfl) hrr ?_
            refine txt_light (.agg #[.int .i64 ax, .int .i64 ay]) rfl rfl ?_ ?_
            · intro w' hS
              have c0 := (k0.keep hS).cell 0 rfl
              have c1 := (k0.keep hS).cell 1 rfl
              go_simp
            try simp only [Act.put, List.setIfInBounds_toArray, List.set_cons_zero, List.set_cons_succ]
            refine txt_call [.agg #[.int .i64 ax, .int .i64 ay]] Try.f9 rfl rfl Try.func9 (by kernel_rfl) (by kernel_rfl) rfl ((LA.out _).mono ?_)
            rintro e v0 ⟨rfl, hy0⟩
            have hz0 := Below.trans hrr (hy0.mono (Below.size hrr))
            refine ⟨_, rfl, hz0, ?_⟩
            try simp only [Act.put, List.setIfInBounds_toArray, List.set_cons_zero, List.set_cons_succ]
            refine txt_light (.agg #[.int .i64 ax, .int .i64 bY]) rfl rfl ?_ ?_
            · intro w' hS
              have c0 := (k1.keep hS).cell 0 rfl
              have c1 := (k1.keep hS).cell 1 rfl
              go_simp
            try simp only [Act.put, List.setIfInBounds_toArray, List.set_cons_zero, List.set_cons_succ]
            refine txt_call [.agg #[.int .i64 ax, .int .i64 bY]] Try.f9 rfl rfl Try.func9 (by kernel_rfl) (by kernel_rfl) rfl ((LB.out _).mono ?_)
            rintro e v1 ⟨rfl, hy1⟩
            have hz1 := Below.trans hz0 (hy1.mono (Below.size hz0))
            refine ⟨_, rfl, hz1, ?_⟩
            try simp only [Act.put, List.setIfInBounds_toArray, List.set_cons_zero, List.set_cons_succ]
            refine txt_light (.agg #[.int .i64 cx, .int .i64 cy]) rfl rfl ?_ ?_
            · intro w' hS
              have c0 := (k2.keep hS).cell 0 rfl
              have c1 := (k2.keep hS).cell 1 rfl
              go_simp
            try simp only [Act.put, List.setIfInBounds_toArray, List.set_cons_zero, List.set_cons_succ]
            refine txt_call [.agg #[.int .i64 cx, .int .i64 cy]] Try.f9 rfl rfl Try.func9 (by kernel_rfl) (by kernel_rfl) rfl ((LC.out _).mono ?_)
            rintro e v2 ⟨rfl, hy2⟩
            have hz2 := Below.trans hz1 (hy2.mono (Below.size hz1))
            refine ⟨_, rfl, hz2, ?_⟩
            try simp only [Act.put, List.setIfInBounds_toArray, List.set_cons_zero, List.set_cons_succ]
            refine txt_light (.agg #[.int .i64 cx, .int .i64 dy]) rfl rfl ?_ ?_
            · intro w' hS
              have c0 := (k3.keep hS).cell 0 rfl
              have c1 := (k3.keep hS).cell 1 rfl
              go_simp
            try simp only [Act.put, List.setIfInBounds_toArray, List.set_cons_zero, List.set_cons_succ]
            refine txt_call [.agg #[.int .i64 cx, .int .i64 dy]] Try.f9 rfl rfl Try.func9 (by kernel_rfl) (by kernel_rfl) rfl ((LD.out _).mono ?_)
            rintro e v3 ⟨rfl, hy3⟩
            have hz3 := Below.trans hz2 (hy3.mono (Below.size hz2))
            refine ⟨_, rfl, hz3, ?_⟩
            try simp only [Act.put, List.setIfInBounds_toArray, List.set_cons_zero, List.set_cons_succ]
            refine txt_call [.agg #[.int .i64 ax, .int .i64 ay], .agg #[.int .i64 ax, .int .i64 bY], .agg #[.int .i64 cx, .int .i64 cy], .agg #[.int .i64 cx, .int .i64 dy]] Try.f19 rfl rfl Try.func19 (by kernel_rfl) (by kernel_rfl) rfl ((RC2.out _).mono ?_)
            rintro e v6 ⟨rfl, hy5⟩
            have hz5 := hz3.trans (hy5.mono hz3.size)
            refine ⟨_, rfl, hz5, ?_⟩
            try simp only [Act.put, List.setIfInBounds_toArray, List.set_cons_zero, List.set_cons_succ]
            (refine txt_light ?_ rfl rfl ?_ ?_; rotate_left; · (intro w' hS; (try dsimp only at hS); go_simp; with_reducible rfl)); try simp only [Act.put, List.setIfInBounds_toArray, List.set_cons_zero, List.set_cons_succ]
            refine txt_nil ?_
            have hbX := hb2.trans (hz5.mono hs2)
            clear hz0 hz1 hz2 hz3 hz5 hy0 hy1 hy2 hy3 hy5 hrr hb2 k0 k1 k2 k3 a0 a1 b0 b1 x0 x1 y0 y1 RC2
            generalize v6 = wX at *
            by_cases hn0 : n < 0
            · have hw : wordF n = ⟨#[]⟩ := by unfold wordF; rw [if_neg (by omega), if_neg (by omega), if_neg (by omega), if_neg (by omega), if_neg (by omega), if_neg (by omega)]
              rw [hw] at WD
              have hn00 : ¬ 0 ≤ n := by omega
              clear hw
              go_wp2_with fail
              refine (sknown_any _).mono ?_
              rintro e w7 ⟨rfl, hb7⟩
              have hb8 := hbX.trans (hb7.mono hbX.size)
              go_wp2_with fail
              refine (WD.out _).mono ?_
              rintro e w8 ⟨rfl, hb9⟩
              have hbE := hb8.trans (hb9.mono hb8.size)
              clear hb7 hb8 hb9 hbX
              go_wp2
              go_ret
              exact ⟨rfl, hbE⟩
            · by_cases hn5 : 5 < n
              · have hw : wordF n = ⟨#[]⟩ := by unfold wordF; rw [if_neg (by omega), if_neg (by omega), if_neg (by omega), if_neg (by omega), if_neg (by omega), if_neg (by omega)]
                rw [hw] at WD
                have hn00 : 0 ≤ n := by omega
                have hn55 : ¬ n ≤ 5 := by omega
                clear hw
                go_wp2_with fail
                refine (sknown_any _).mono ?_
                rintro e w7 ⟨rfl, hb7⟩
                have hb8 := hbX.trans (hb7.mono hbX.size)
                go_wp2_with fail
                refine (WD.out _).mono ?_
                rintro e w8 ⟨rfl, hb9⟩
                have hbE := hb8.trans (hb9.mono hb8.size)
                clear hb7 hb8 hb9 hbX
                go_wp2
                go_ret
                exact ⟨rfl, hbE⟩
              · obtain ⟨k, rfl⟩ : ∃ k : Nat, n = (k : Int) := ⟨n.toNat, by omega⟩
                have hk : k < 6 := by omega
                have hv : [Value.string ⟨#[97, 112, 97, 114, 116]⟩, .string ⟨#[116, 111, 117, 99, 104]⟩, .string ⟨#[116, 101, 101]⟩, .string ⟨#[99, 114, 111, 115, 115]⟩, .string ⟨#[111, 118, 101, 114, 108, 97, 112]⟩, .string ⟨#[115, 97, 109, 101]⟩][k]? = some (.string (wordF k)) := by
                  obtain rfl | rfl | rfl | rfl | rfl | rfl : k = 0 ∨ k = 1 ∨ k = 2 ∨ k = 3 ∨ k = 4 ∨ k = 5 := by omega
                  all_goals rfl
                generalize wordF (k : Int) = WK at *
                have hn55 : (k : Int) ≤ 5 := by omega
                have hk6 : (k : Int) < 6 := by omega
                obtain ⟨b7, o7, e7, q7, -⟩ := (Rd.new wX [Value.string ⟨#[97, 112, 97, 114, 116]⟩, .string ⟨#[116, 111, 117, 99, 104]⟩, .string ⟨#[116, 101, 101]⟩, .string ⟨#[99, 114, 111, 115, 115]⟩, .string ⟨#[111, 118, 101, 114, 108, 97, 112]⟩, .string ⟨#[115, 97, 109, 101]⟩] 9).at hv
                cases e7
                rw [Nat.zero_add] at q7
                have hbY := hbX.alloc hbX.size (.cells #[.string ⟨#[97, 112, 97, 114, 116]⟩, .string ⟨#[116, 111, 117, 99, 104]⟩, .string ⟨#[116, 101, 101]⟩, .string ⟨#[99, 114, 111, 115, 115]⟩, .string ⟨#[111, 118, 101, 114, 108, 97, 112]⟩, .string ⟨#[115, 97, 109, 101]⟩] 9)
                clear hv hbX
                go_wp2_with fail
                refine (sknown_any _).mono ?_
                rintro e w7 ⟨rfl, hb7⟩
                have hb8 := hbY.trans (hb7.mono hbY.size)
                go_wp2_with fail
                refine (WD.out _).mono ?_
                rintro e w8 ⟨rfl, hb9⟩
                have hbE := hb8.trans (hb9.mono hb8.size)
                clear hb7 hb8 hb9 hbY
                go_wp2
                go_ret
                exact ⟨rfl, hbE⟩
        · have hne : ¬ ((ax = ax ∧ ay = bY) ∨ (cx = dx ∧ cy = dy)) := by omega
          have hR := hR2.out hne
          cases hR
          have RC2 := Lib.hid (RC1.out hne)
          clear RC1 RC
          clear hR1 hR2 SC
          go_wp2_with fail
          have hrr := (Below.refl v5.heap.size v5)
          have hrr : Below v5.heap.size v5 v5.drew := hrr.drew
          refine wp_region_lit_txt [0, 2, 4, 6, 9] (fun W => Below v5.heap.size v5 W) (by kernel_rfl) (by kernel_rfl) (by kernel_rfl) hrr ?_
          refine txt_light (.agg #[.int .i64 ax, .int .i64 ay]) rfl rfl ?_ ?_
          · intro w' hS
            have c0 := (k0.keep hS).cell 0 rfl
            have c1 := (k0.keep hS).cell 1 rfl
            go_simp
          try simp only [Act.put, List.setIfInBounds_toArray, List.set_cons_zero, List.set_cons_succ]
          refine txt_call [.agg #[.int .i64 ax, .int .i64 ay]] Try.f9 rfl rfl Try.func9 (by kernel_rfl) (by kernel_rfl) rfl ((LA.out _).mono ?_)
          rintro e v0 ⟨rfl, hy0⟩
          have hz0 := Below.trans hrr (hy0.mono (Below.size hrr))
          refine ⟨_, rfl, hz0, ?_⟩
          try simp only [Act.put, List.setIfInBounds_toArray, List.set_cons_zero, List.set_cons_succ]
          refine txt_light (.agg #[.int .i64 ax, .int .i64 bY]) rfl rfl ?_ ?_
          · intro w' hS
            have c0 := (k1.keep hS).cell 0 rfl
            have c1 := (k1.keep hS).cell 1 rfl
            go_simp
          try simp only [Act.put, List.setIfInBounds_toArray, List.set_cons_zero, List.set_cons_succ]
          refine txt_call [.agg #[.int .i64 ax, .int .i64 bY]] Try.f9 rfl rfl Try.func9 (by kernel_rfl) (by kernel_rfl) rfl ((LB.out _).mono ?_)
          rintro e v1 ⟨rfl, hy1⟩
          have hz1 := Below.trans hz0 (hy1.mono (Below.size hz0))
          refine ⟨_, rfl, hz1, ?_⟩
          try simp only [Act.put, List.setIfInBounds_toArray, List.set_cons_zero, List.set_cons_succ]
          refine txt_light (.agg #[.int .i64 cx, .int .i64 cy]) rfl rfl ?_ ?_
          · intro w' hS
            have c0 := (k2.keep hS).cell 0 rfl
            have c1 := (k2.keep hS).cell 1 rfl
            go_simp
          try simp only [Act.put, List.setIfInBounds_toArray, List.set_cons_zero, List.set_cons_succ]
          refine txt_call [.agg #[.int .i64 cx, .int .i64 cy]] Try.f9 rfl rfl Try.func9 (by kernel_rfl) (by kernel_rfl) rfl ((LC.out _).mono ?_)
          rintro e v2 ⟨rfl, hy2⟩
          have hz2 := Below.trans hz1 (hy2.mono (Below.size hz1))
          refine ⟨_, rfl, hz2, ?_⟩
          try simp only [Act.put, List.setIfInBounds_toArray, List.set_cons_zero, List.set_cons_succ]
          refine txt_light (.agg #[.int .i64 dx, .int .i64 dy]) rfl rfl ?_ ?_
          · intro w' hS
            have c0 := (k3.keep hS).cell 0 rfl
            have c1 := (k3.keep hS).cell 1 rfl
            go_simp
          try simp only [Act.put, List.setIfInBounds_toArray, List.set_cons_zero, List.set_cons_succ]
          refine txt_call [.agg #[.int .i64 dx, .int .i64 dy]] Try.f9 rfl rfl Try.func9 (by kernel_rfl) (by kernel_rfl) rfl ((LD.out _).mono ?_)
          rintro e v3 ⟨rfl, hy3⟩
          have hz3 := Below.trans hz2 (hy3.mono (Below.size hz2))
          refine ⟨_, rfl, hz3, ?_⟩
          try simp only [Act.put, List.setIfInBounds_toArray, List.set_cons_zero, List.set_cons_succ]
          refine txt_call [.agg #[.int .i64 ax, .int .i64 ay], .agg #[.int .i64 ax, .int .i64 bY], .agg #[.int .i64 cx, .int .i64 cy], .agg #[.int .i64 dx, .int .i64 dy]] Try.f19 rfl rfl Try.func19 (by kernel_rfl) (by kernel_rfl) rfl ((RC2.out _).mono ?_)
          rintro e v6 ⟨rfl, hy5⟩
          have hz5 := hz3.trans (hy5.mono hz3.size)
          refine ⟨_, rfl, hz5, ?_⟩
          try simp only [Act.put, List.setIfInBounds_toArray, List.set_cons_zero, List.set_cons_succ]
          (refine txt_light ?_ rfl rfl ?_ ?_; rotate_left; · (intro w' hS; (try dsimp only at hS); go_simp; with_reducible rfl)); try simp only [Act.put, List.setIfInBounds_toArray, List.set_cons_zero, List.set_cons_succ]
          refine txt_nil ?_
          have hbX := hb2.trans (hz5.mono hs2)
          clear hz0 hz1 hz2 hz3 hz5 hy0 hy1 hy2 hy3 hy5 hrr hb2 k0 k1 k2 k3 a0 a1 b0 b1 x0 x1 y0 y1 RC2
          generalize v6 = wX at *
          by_cases hn0 : n < 0
          · have hw : wordF n = ⟨#[]⟩ := by unfold wordF; rw [if_neg (by omega), if_neg (by omega), if_neg (by omega), if_neg (by omega), if_neg (by omega), if_neg (by omega)]
            rw [hw] at WD
            have hn00 : ¬ 0 ≤ n := by omega
            clear hw
            go_wp2_with fail
            refine (sknown_any _).mono ?_
            rintro e w7 ⟨rfl, hb7⟩
            have hb8 := hbX.trans (hb7.mono hbX.size)
            go_wp2_with fail
            refine (WD.out _).mono ?_
            rintro e w8 ⟨rfl, hb9⟩
            have hbE := hb8.trans (hb9.mono hb8.size)
            clear hb7 hb8 hb9 hbX
            go_wp2
            go_ret
            exact ⟨rfl, hbE⟩
          · by_cases hn5 : 5 < n
            · have hw : wordF n = ⟨#[]⟩ := by unfold wordF; rw [if_neg (by omega), if_neg (by omega), if_neg (by omega), if_neg (by omega), if_neg (by omega), if_neg (by omega)]
              rw [hw] at WD
              have hn00 : 0 ≤ n := by omega
              have hn55 : ¬ n ≤ 5 := by omega
              clear hw
              go_wp2_with fail
              refine (sknown_any _).mono ?_
              rintro e w7 ⟨rfl, hb7⟩
              have hb8 := hbX.trans (hb7.mono hbX.size)
              go_wp2_with fail
              refine (WD.out _).mono ?_
              rintro e w8 ⟨rfl, hb9⟩
              have hbE := hb8.trans (hb9.mono hb8.size)
              clear hb7 hb8 hb9 hbX
              go_wp2
              go_ret
              exact ⟨rfl, hbE⟩
            · obtain ⟨k, rfl⟩ : ∃ k : Nat, n = (k : Int) := ⟨n.toNat, by omega⟩
              have hk : k < 6 := by omega
              have hv : [Value.string ⟨#[97, 112, 97, 114, 116]⟩, .string ⟨#[116, 111, 117, 99, 104]⟩, .string ⟨#[116, 101, 101]⟩, .string ⟨#[99, 114, 111, 115, 115]⟩, .string ⟨#[111, 118, 101, 114, 108, 97, 112]⟩, .string ⟨#[115, 97, 109, 101]⟩][k]? = some (.string (wordF k)) := by
                obtain rfl | rfl | rfl | rfl | rfl | rfl : k = 0 ∨ k = 1 ∨ k = 2 ∨ k = 3 ∨ k = 4 ∨ k = 5 := by omega
                all_goals rfl
              generalize wordF (k : Int) = WK at *
              have hn55 : (k : Int) ≤ 5 := by omega
              have hk6 : (k : Int) < 6 := by omega
              obtain ⟨b7, o7, e7, q7, -⟩ := (Rd.new wX [Value.string ⟨#[97, 112, 97, 114, 116]⟩, .string ⟨#[116, 111, 117, 99, 104]⟩, .string ⟨#[116, 101, 101]⟩, .string ⟨#[99, 114, 111, 115, 115]⟩, .string ⟨#[111, 118, 101, 114, 108, 97, 112]⟩, .string ⟨#[115, 97, 109, 101]⟩] 9).at hv
              cases e7
              rw [Nat.zero_add] at q7
              have hbY := hbX.alloc hbX.size (.cells #[.string ⟨#[97, 112, 97, 114, 116]⟩, .string ⟨#[116, 111, 117, 99, 104]⟩, .string ⟨#[116, 101, 101]⟩, .string ⟨#[99, 114, 111, 115, 115]⟩, .string ⟨#[111, 118, 101, 114, 108, 97, 112]⟩, .string ⟨#[115, 97, 109, 101]⟩] 9)
              clear hv hbX
              go_wp2_with fail
              refine (sknown_any _).mono ?_
              rintro e w7 ⟨rfl, hb7⟩
              have hb8 := hbY.trans (hb7.mono hbY.size)
              go_wp2_with fail
              refine (WD.out _).mono ?_
              rintro e w8 ⟨rfl, hb9⟩
              have hbE := hb8.trans (hb9.mono hb8.size)
              clear hb7 hb8 hb9 hbY
              go_wp2
              go_ret
              exact ⟨rfl, hbE⟩
    ·
      by_cases hcx : cx = dx
      · by_cases hcy : cy = dy
        · have hR := hR1.out (.inr ⟨hcx, hcy⟩)
          subst hcx hcy
          cases hR
          clear hR1 hR2 RC SC
          have hbX := hb2
          clear hb2
          generalize v5 = wX at *
          by_cases hn0 : n < 0
          · have hw : wordF n = ⟨#[]⟩ := by unfold wordF; rw [if_neg (by omega), if_neg (by omega), if_neg (by omega), if_neg (by omega), if_neg (by omega), if_neg (by omega)]
            rw [hw] at WD
            have hn00 : ¬ 0 ≤ n := by omega
            clear hw
            go_wp2_with fail
            refine (sknown_any _).mono ?_
            rintro e w7 ⟨rfl, hb7⟩
            have hb8 := hbX.trans (hb7.mono hbX.size)
            go_wp2_with fail
            refine (WD.out _).mono ?_
            rintro e w8 ⟨rfl, hb9⟩
            have hbE := hb8.trans (hb9.mono hb8.size)
            clear hb7 hb8 hb9 hbX
            go_wp2
            go_ret
            exact ⟨rfl, hbE⟩
          · by_cases hn5 : 5 < n
            · have hw : wordF n = ⟨#[]⟩ := by unfold wordF; rw [if_neg (by omega), if_neg (by omega), if_neg (by omega), if_neg (by omega), if_neg (by omega), if_neg (by omega)]
              rw [hw] at WD
              have hn00 : 0 ≤ n := by omega
              have hn55 : ¬ n ≤ 5 := by omega
              clear hw
              go_wp2_with fail
              refine (sknown_any _).mono ?_
              rintro e w7 ⟨rfl, hb7⟩
              have hb8 := hbX.trans (hb7.mono hbX.size)
              go_wp2_with fail
              refine (WD.out _).mono ?_
              rintro e w8 ⟨rfl, hb9⟩
              have hbE := hb8.trans (hb9.mono hb8.size)
              clear hb7 hb8 hb9 hbX
              go_wp2
              go_ret
              exact ⟨rfl, hbE⟩
            · obtain ⟨k, rfl⟩ : ∃ k : Nat, n = (k : Int) := ⟨n.toNat, by omega⟩
              have hk : k < 6 := by omega
              have hv : [Value.string ⟨#[97, 112, 97, 114, 116]⟩, .string ⟨#[116, 111, 117, 99, 104]⟩, .string ⟨#[116, 101, 101]⟩, .string ⟨#[99, 114, 111, 115, 115]⟩, .string ⟨#[111, 118, 101, 114, 108, 97, 112]⟩, .string ⟨#[115, 97, 109, 101]⟩][k]? = some (.string (wordF k)) := by
                obtain rfl | rfl | rfl | rfl | rfl | rfl : k = 0 ∨ k = 1 ∨ k = 2 ∨ k = 3 ∨ k = 4 ∨ k = 5 := by omega
                all_goals rfl
              generalize wordF (k : Int) = WK at *
              have hn55 : (k : Int) ≤ 5 := by omega
              have hk6 : (k : Int) < 6 := by omega
              obtain ⟨b7, o7, e7, q7, -⟩ := (Rd.new wX [Value.string ⟨#[97, 112, 97, 114, 116]⟩, .string ⟨#[116, 111, 117, 99, 104]⟩, .string ⟨#[116, 101, 101]⟩, .string ⟨#[99, 114, 111, 115, 115]⟩, .string ⟨#[111, 118, 101, 114, 108, 97, 112]⟩, .string ⟨#[115, 97, 109, 101]⟩] 9).at hv
              cases e7
              rw [Nat.zero_add] at q7
              have hbY := hbX.alloc hbX.size (.cells #[.string ⟨#[97, 112, 97, 114, 116]⟩, .string ⟨#[116, 111, 117, 99, 104]⟩, .string ⟨#[116, 101, 101]⟩, .string ⟨#[99, 114, 111, 115, 115]⟩, .string ⟨#[111, 118, 101, 114, 108, 97, 112]⟩, .string ⟨#[115, 97, 109, 101]⟩] 9)
              clear hv hbX
              go_wp2_with fail
              refine (sknown_any _).mono ?_
              rintro e w7 ⟨rfl, hb7⟩
              have hb8 := hbY.trans (hb7.mono hbY.size)
              go_wp2_with fail
              refine (WD.out _).mono ?_
              rintro e w8 ⟨rfl, hb9⟩
              have hbE := hb8.trans (hb9.mono hb8.size)
              clear hb7 hb8 hb9 hbY
              go_wp2
              go_ret
              exact ⟨rfl, hbE⟩
        · have hne : ¬ ((ax = bx ∧ ay = bY) ∨ (cx = dx ∧ cy = dy)) := by omega
          have hR := hR2.out hne
          subst hcx
          cases hR
          have RC2 := Lib.hid (RC1.out hne)
          clear RC1 RC
          clear hR1 hR2 SC
          go_wp2_with fail
          have hrr := (Below.refl v5.heap.size v5)
          have hrr : Below v5.heap.size v5 v5.drew := hrr.drew
          refine wp_region_lit_txt [0, 2, 4, 6, 9] (fun W => Below v5.heap.size v5 W) (by kernel_rfl) (by kernel_rfl) (by kernel_rfl) hrr ?_
          refine txt_light (.agg #[.int .i64 ax, .int .i64 ay]) rfl rfl ?_ ?_
          · intro w' hS
            have c0 := (k0.keep hS).cell 0 rfl
            have c1 := (k0.keep hS).cell 1 rfl
            go_simp
          try simp only [Act.put, List.setIfInBounds_toArray, List.set_cons_zero, List.set_cons_succ]
          refine txt_call [.agg #[.int .i64 ax, .int .i64 ay]] Try.f9 rfl rfl Try.func9 (by kernel_rfl) (by kernel_rfl) rfl ((LA.out _).mono ?_)
          rintro e v0 ⟨rfl, hy0⟩
          have hz0 := Below.trans hrr (hy0.mono (Below.size hrr))
          refine ⟨_, rfl, hz0, ?_⟩
          try simp only [Act.put, List.setIfInBounds_toArray, List.set_cons_zero, List.set_cons_succ]
          refine txt_light (.agg #[.int .i64 bx, .int .i64 bY]) rfl rfl ?_ ?_
          · intro w' hS
            have c0 := (k1.keep hS).cell 0 rfl
            have c1 := (k1.keep hS).cell 1 rfl
            go_simp
          try simp only [Act.put, List.setIfInBounds_toArray, List.set_cons_zero, List.set_cons_succ]
          refine txt_call [.agg #[.int .i64 bx, .int .i64 bY]] Try.f9 rfl rfl Try.func9 (by kernel_rfl) (by kernel_rfl) rfl ((LB.out _).mono ?_)
          rintro e v1 ⟨rfl, hy1⟩
          have hz1 := Below.trans hz0 (hy1.mono (Below.size hz0))
          refine ⟨_, rfl, hz1, ?_⟩
          try simp only [Act.put, List.setIfInBounds_toArray, List.set_cons_zero, List.set_cons_succ]
          refine txt_light (.agg #[.int .i64 cx, .int .i64 cy]) rfl rfl ?_ ?_
          · intro w' hS
            have c0 := (k2.keep hS).cell 0 rfl
            have c1 := (k2.keep hS).cell 1 rfl
            go_simp
          try simp only [Act.put, List.setIfInBounds_toArray, List.set_cons_zero, List.set_cons_succ]
          refine txt_call [.agg #[.int .i64 cx, .int .i64 cy]] Try.f9 rfl rfl Try.func9 (by kernel_rfl) (by kernel_rfl) rfl ((LC.out _).mono ?_)
          rintro e v2 ⟨rfl, hy2⟩
          have hz2 := Below.trans hz1 (hy2.mono (Below.size hz1))
          refine ⟨_, rfl, hz2, ?_⟩
          try simp only [Act.put, List.setIfInBounds_toArray, List.set_cons_zero, List.set_cons_succ]
          refine txt_light (.agg #[.int .i64 cx, .int .i64 dy]) rfl rfl ?_ ?_
          · intro w' hS
            have c0 := (k3.keep hS).cell 0 rfl
            have c1 := (k3.keep hS).cell 1 rfl
            go_simp
          try simp only [Act.put, List.setIfInBounds_toArray, List.set_cons_zero, List.set_cons_succ]
          refine txt_call [.agg #[.int .i64 cx, .int .i64 dy]] Try.f9 rfl rfl Try.func9 (by kernel_rfl) (by kernel_rfl) rfl ((LD.out _).mono ?_)
          rintro e v3 ⟨rfl, hy3⟩
          have hz3 := Below.trans hz2 (hy3.mono (Below.size hz2))
          refine ⟨_, rfl, hz3, ?_⟩
          try simp only [Act.put, List.setIfInBounds_toArray, List.set_cons_zero, List.set_cons_succ]
          refine txt_call [.agg #[.int .i64 ax, .int .i64 ay], .agg #[.int .i64 bx, .int .i64 bY], .agg #[.int .i64 cx, .int .i64 cy], .agg #[.int .i64 cx, .int .i64 dy]] Try.f19 rfl rfl Try.func19 (by kernel_rfl) (by kernel_rfl) rfl ((RC2.out _).mono ?_)
          rintro e v6 ⟨rfl, hy5⟩
          have hz5 := hz3.trans (hy5.mono hz3.size)
          refine ⟨_, rfl, hz5, ?_⟩
          try simp only [Act.put, List.setIfInBounds_toArray, List.set_cons_zero, List.set_cons_succ]
          (refine txt_light ?_ rfl rfl ?_ ?_; rotate_left; · (intro w' hS; (try dsimp only at hS); go_simp; with_reducible rfl)); try simp only [Act.put, List.setIfInBounds_toArray, List.set_cons_zero, List.set_cons_succ]
          refine txt_nil ?_
          have hbX := hb2.trans (hz5.mono hs2)
          clear hz0 hz1 hz2 hz3 hz5 hy0 hy1 hy2 hy3 hy5 hrr hb2 k0 k1 k2 k3 a0 a1 b0 b1 x0 x1 y0 y1 RC2
          generalize v6 = wX at *
          by_cases hn0 : n < 0
          · have hw : wordF n = ⟨#[]⟩ := by unfold wordF; rw [if_neg (by omega), if_neg (by omega), if_neg (by omega), if_neg (by omega), if_neg (by omega), if_neg (by omega)]
            rw [hw] at WD
            have hn00 : ¬ 0 ≤ n := by omega
            clear hw
            go_wp2_with fail
            refine (sknown_any _).mono ?_
            rintro e w7 ⟨rfl, hb7⟩
            have hb8 := hbX.trans (hb7.mono hbX.size)
            go_wp2_with fail
            refine (WD.out _).mono ?_
            rintro e w8 ⟨rfl, hb9⟩
            have hbE := hb8.trans (hb9.mono hb8.size)
            clear hb7 hb8 hb9 hbX
            go_wp2
            go_ret
            exact ⟨rfl, hbE⟩
          · by_cases hn5 : 5 < n
            · have hw : wordF n = ⟨#[]⟩ := by unfold wordF; rw [if_neg (by omega), if_neg (by omega), if_neg (by omega), if_neg (by omega), if_neg (by omega), if_neg (by omega)]
              rw [hw] at WD
              have hn00 : 0 ≤ n := by omega
              have hn55 : ¬ n ≤ 5 := by omega
              clear hw
              go_wp2_with fail
              refine (sknown_any _).mono ?_
              rintro e w7 ⟨rfl, hb7⟩
              have hb8 := hbX.trans (hb7.mono hbX.size)
              go_wp2_with fail
              refine (WD.out _).mono ?_
              rintro e w8 ⟨rfl, hb9⟩
              have hbE := hb8.trans (hb9.mono hb8.size)
              clear hb7 hb8 hb9 hbX
              go_wp2
              go_ret
              exact ⟨rfl, hbE⟩
            · obtain ⟨k, rfl⟩ : ∃ k : Nat, n = (k : Int) := ⟨n.toNat, by omega⟩
              have hk : k < 6 := by omega
              have hv : [Value.string ⟨#[97, 112, 97, 114, 116]⟩, .string ⟨#[116, 111, 117, 99, 104]⟩, .string ⟨#[116, 101, 101]⟩, .string ⟨#[99, 114, 111, 115, 115]⟩, .string ⟨#[111, 118, 101, 114, 108, 97, 112]⟩, .string ⟨#[115, 97, 109, 101]⟩][k]? = some (.string (wordF k)) := by
                obtain rfl | rfl | rfl | rfl | rfl | rfl : k = 0 ∨ k = 1 ∨ k = 2 ∨ k = 3 ∨ k = 4 ∨ k = 5 := by omega
                all_goals rfl
              generalize wordF (k : Int) = WK at *
              have hn55 : (k : Int) ≤ 5 := by omega
              have hk6 : (k : Int) < 6 := by omega
              obtain ⟨b7, o7, e7, q7, -⟩ := (Rd.new wX [Value.string ⟨#[97, 112, 97, 114, 116]⟩, .string ⟨#[116, 111, 117, 99, 104]⟩, .string ⟨#[116, 101, 101]⟩, .string ⟨#[99, 114, 111, 115, 115]⟩, .string ⟨#[111, 118, 101, 114, 108, 97, 112]⟩, .string ⟨#[115, 97, 109, 101]⟩] 9).at hv
              cases e7
              rw [Nat.zero_add] at q7
              have hbY := hbX.alloc hbX.size (.cells #[.string ⟨#[97, 112, 97, 114, 116]⟩, .string ⟨#[116, 111, 117, 99, 104]⟩, .string ⟨#[116, 101, 101]⟩, .string ⟨#[99, 114, 111, 115, 115]⟩, .string ⟨#[111, 118, 101, 114, 108, 97, 112]⟩, .string ⟨#[115, 97, 109, 101]⟩] 9)
              clear hv hbX
              go_wp2_with fail
              refine (sknown_any _).mono ?_
              rintro e w7 ⟨rfl, hb7⟩
              have hb8 := hbY.trans (hb7.mono hbY.size)
              go_wp2_with fail
              refine (WD.out _).mono ?_
              rintro e w8 ⟨rfl, hb9⟩
              have hbE := hb8.trans (hb9.mono hb8.size)
              clear hb7 hb8 hb9 hbY
              go_wp2
              go_ret
              exact ⟨rfl, hbE⟩
      · have hne : ¬ ((ax = bx ∧ ay = bY) ∨ (cx = dx ∧ cy = dy)) := by omega
        have hR := hR2.out hne
        cases hR
        have RC2 := Lib.hid (RC1.out hne)
        clear RC1 RC
        clear hR1 hR2 SC
        go_wp2_with fail
        have hrr := (Below.refl v5.heap.size v5)
        have hrr : Below v5.heap.size v5 v5.drew := hrr.drew
        refine wp_region_lit_txt [0, 2, 4, 6, 9] (fun W => Below v5.heap.size v5 W) (by kernel_rfl) (by kernel_rfl) (by kernel_rfl) hrr ?_
        refine txt_light (.agg #[.int .i64 ax, .int .i64 ay]) rfl rfl ?_ ?_
        · intro w' hS
          have c0 := (k0.keep hS).cell 0 rfl
          have c1 := (k0.keep hS).cell 1 rfl
          go_simp
        try simp only [Act.put, List.setIfInBounds_toArray, List.set_cons_zero, List.set_cons_succ]
        refine txt_call [.agg #[.int .i64 ax, .int .i64 ay]] Try.f9 rfl rfl Try.func9 (by kernel_rfl) (by kernel_rfl) rfl ((LA.out _).mono ?_)
        rintro e v0 ⟨rfl, hy0⟩
        have hz0 := Below.trans hrr (hy0.mono (Below.size hrr))
        refine ⟨_, rfl, hz0, ?_⟩
        try simp only [Act.put, List.setIfInBounds_toArray, List.set_cons_zero, List.set_cons_succ]
        refine txt_light (.agg #[.int .i64 bx, .int .i64 bY]) rfl rfl ?_ ?_
        · intro w' hS
          have c0 := (k1.keep hS).cell 0 rfl
          have c1 := (k1.keep hS).cell 1 rfl
          go_simp
        try simp only [Act.put, List.setIfInBounds_toArray, List.set_cons_zero, List.set_cons_succ]
        refine txt_call [.agg #[.int .i64 bx, .int .i64 bY]] Try.f9 rfl rfl Try.func9 (by kernel_rfl) (by kernel_rfl) rfl ((LB.out _).mono ?_)
        rintro e v1 ⟨rfl, hy1⟩
        have hz1 := Below.trans hz0 (hy1.mono (Below.size hz0))
        refine ⟨_, rfl, hz1, ?_⟩
        try simp only [Act.put, List.setIfInBounds_toArray, List.set_cons_zero, List.set_cons_succ]
        refine txt_light (.agg #[.int .i64 cx, .int .i64 cy]) rfl rfl ?_ ?_
        · intro w' hS
          have c0 := (k2.keep hS).cell 0 rfl
          have c1 := (k2.keep hS).cell 1 rfl
          go_simp
        try simp only [Act.put, List.setIfInBounds_toArray, List.set_cons_zero, List.set_cons_succ]
        refine txt_call [.agg #[.int .i64 cx, .int .i64 cy]] Try.f9 rfl rfl Try.func9 (by kernel_rfl) (by kernel_rfl) rfl ((LC.out _).mono ?_)
        rintro e v2 ⟨rfl, hy2⟩
        have hz2 := Below.trans hz1 (hy2.mono (Below.size hz1))
        refine ⟨_, rfl, hz2, ?_⟩
        try simp only [Act.put, List.setIfInBounds_toArray, List.set_cons_zero, List.set_cons_succ]
        refine txt_light (.agg #[.int .i64 dx, .int .i64 dy]) rfl rfl ?_ ?_
        · intro w' hS
          have c0 := (k3.keep hS).cell 0 rfl
          have c1 := (k3.keep hS).cell 1 rfl
          go_simp
        try simp only [Act.put, List.setIfInBounds_toArray, List.set_cons_zero, List.set_cons_succ]
        refine txt_call [.agg #[.int .i64 dx, .int .i64 dy]] Try.f9 rfl rfl Try.func9 (by kernel_rfl) (by kernel_rfl) rfl ((LD.out _).mono ?_)
        rintro e v3 ⟨rfl, hy3⟩
        have hz3 := Below.trans hz2 (hy3.mono (Below.size hz2))
        refine ⟨_, rfl, hz3, ?_⟩
        try simp only [Act.put, List.setIfInBounds_toArray, List.set_cons_zero, List.set_cons_succ]
        refine txt_call [.agg #[.int .i64 ax, .int .i64 ay], .agg #[.int .i64 bx, .int .i64 bY], .agg #[.int .i64 cx, .int .i64 cy], .agg #[.int .i64 dx, .int .i64 dy]] Try.f19 rfl rfl Try.func19 (by kernel_rfl) (by kernel_rfl) rfl ((RC2.out _).mono ?_)
        rintro e v6 ⟨rfl, hy5⟩
        have hz5 := hz3.trans (hy5.mono hz3.size)
        refine ⟨_, rfl, hz5, ?_⟩
        try simp only [Act.put, List.setIfInBounds_toArray, List.set_cons_zero, List.set_cons_succ]
        (refine txt_light ?_ rfl rfl ?_ ?_; rotate_left; · (intro w' hS; (try dsimp only at hS); go_simp; with_reducible rfl)); try simp only [Act.put, List.setIfInBounds_toArray, List.set_cons_zero, List.set_cons_succ]
        refine txt_nil ?_
        have hbX := hb2.trans (hz5.mono hs2)
        clear hz0 hz1 hz2 hz3 hz5 hy0 hy1 hy2 hy3 hy5 hrr hb2 k0 k1 k2 k3 a0 a1 b0 b1 x0 x1 y0 y1 RC2
        generalize v6 = wX at *
        by_cases hn0 : n < 0
        · have hw : wordF n = ⟨#[]⟩ := by unfold wordF; rw [if_neg (by omega), if_neg (by omega), if_neg (by omega), if_neg (by omega), if_neg (by omega), if_neg (by omega)]
          rw [hw] at WD
          have hn00 : ¬ 0 ≤ n := by omega
          clear hw
          go_wp2_with fail
          refine (sknown_any _).mono ?_
          rintro e w7 ⟨rfl, hb7⟩
          have hb8 := hbX.trans (hb7.mono hbX.size)
          go_wp2_with fail
          refine (WD.out _).mono ?_
          rintro e w8 ⟨rfl, hb9⟩
          have hbE := hb8.trans (hb9.mono hb8.size)
          clear hb7 hb8 hb9 hbX
          go_wp2
          go_ret
          exact ⟨rfl, hbE⟩
        · by_cases hn5 : 5 < n
          · have hw : wordF n = ⟨#[]⟩ := by unfold wordF; rw [if_neg (by omega), if_neg (by omega), if_neg (by omega), if_neg (by omega), if_neg (by omega), if_neg (by omega)]
            rw [hw] at WD
            have hn00 : 0 ≤ n := by omega
            have hn55 : ¬ n ≤ 5 := by omega
            clear hw
            go_wp2_with fail
            refine (sknown_any _).mono ?_
            rintro e w7 ⟨rfl, hb7⟩
            have hb8 := hbX.trans (hb7.mono hbX.size)
            go_wp2_with fail
            refine (WD.out _).mono ?_
            rintro e w8 ⟨rfl, hb9⟩
            have hbE := hb8.trans (hb9.mono hb8.size)
            clear hb7 hb8 hb9 hbX
            go_wp2
            go_ret
            exact ⟨rfl, hbE⟩
          · obtain ⟨k, rfl⟩ : ∃ k : Nat, n = (k : Int) := ⟨n.toNat, by omega⟩
            have hk : k < 6 := by omega
            have hv : [Value.string ⟨#[97, 112, 97, 114, 116]⟩, .string ⟨#[116, 111, 117, 99, 104]⟩, .string ⟨#[116, 101, 101]⟩, .string ⟨#[99, 114, 111, 115, 115]⟩, .string ⟨#[111, 118, 101, 114, 108, 97, 112]⟩, .string ⟨#[115, 97, 109, 101]⟩][k]? = some (.string (wordF k)) := by
              obtain rfl | rfl | rfl | rfl | rfl | rfl : k = 0 ∨ k = 1 ∨ k = 2 ∨ k = 3 ∨ k = 4 ∨ k = 5 := by omega
              all_goals rfl
            generalize wordF (k : Int) = WK at *
            have hn55 : (k : Int) ≤ 5 := by omega
            have hk6 : (k : Int) < 6 := by omega
            obtain ⟨b7, o7, e7, q7, -⟩ := (Rd.new wX [Value.string ⟨#[97, 112, 97, 114, 116]⟩, .string ⟨#[116, 111, 117, 99, 104]⟩, .string ⟨#[116, 101, 101]⟩, .string ⟨#[99, 114, 111, 115, 115]⟩, .string ⟨#[111, 118, 101, 114, 108, 97, 112]⟩, .string ⟨#[115, 97, 109, 101]⟩] 9).at hv
            cases e7
            rw [Nat.zero_add] at q7
            have hbY := hbX.alloc hbX.size (.cells #[.string ⟨#[97, 112, 97, 114, 116]⟩, .string ⟨#[116, 111, 117, 99, 104]⟩, .string ⟨#[116, 101, 101]⟩, .string ⟨#[99, 114, 111, 115, 115]⟩, .string ⟨#[111, 118, 101, 114, 108, 97, 112]⟩, .string ⟨#[115, 97, 109, 101]⟩] 9)
            clear hv hbX
            go_wp2_with fail
            refine (sknown_any _).mono ?_
            rintro e w7 ⟨rfl, hb7⟩
            have hb8 := hbY.trans (hb7.mono hbY.size)
            go_wp2_with fail
            refine (WD.out _).mono ?_
            rintro e w8 ⟨rfl, hb9⟩
            have hbE := hb8.trans (hb9.mono hb8.size)
            clear hb7 hb8 hb9 hbY
            go_wp2
            go_ret
            exact ⟨rfl, hbE⟩

theorem sclasses_law (a : Pt) (_ : PtIn a) (b : Pt) (_ : PtIn b) (c : Pt) (_ : PtIn c) (d : Pt) (_ : PtIn d) (n : Int) (_ : (Lit.int .i64 n).wf = true) {w : World} :
    Calls Try.prog 7 #[a.val, b.val, c.val, d.val, .int .i64 n] w fun e w' => e = .returned (.bool true) ∧ Below w.heap.size w w' := sclasses_walk a b c d n w
end Go.Proofs.Ytoellhmoghgmlaa
