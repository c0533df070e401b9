/-
  seg.Class.
-/
import Derived.Test.YtmnekbnhodadcaaSline
import Derived.Test.YtmnekbnhodadcaaReg
set_option linter.unusedVariables false
set_option linter.unusedSimpArgs false
set_option maxRecDepth 100000
namespace Go
/-- The program's answer. -/
def clsR (a b c d : Pt) : Int × Int := if [a, b, c, d].all okPt = false then (0, 5) else if a = b ∨ c = d then (0, 1) else (clsF a b c d, 0)
theorem wr_sg (n m : Int) : IntKind.i64.wrap (sg n * sg m) = sg n * sg m := by
  refine IntWalk.i64_in _ ?_
  rcases Int.lt_trichotomy n 0 with h | h | h <;> rcases Int.lt_trichotomy m 0 with g | g | g
  all_goals
    first | rw [sg_pos h] | rw [sg_neg h] | rw [sg_z h]
    first | rw [sg_pos g] | rw [sg_neg g] | rw [sg_z g]
    decide
end Go
namespace Go.Proofs.Ytmnekbnhodadcaa
open Go.RowKit

set_option maxHeartbeats 3200000 in
theorem sclass_any (a b c d : Pt) (w : World) :
    Calls Try.prog 15 #[a.val, b.val, c.val, d.val] w fun e w' => e = .returned (.tuple #[.int .i64 (clsR a b c d).1, .int .i64 (clsR a b c d).2]) ∧ Below w.heap.size w w' := by
  obtain ⟨R, hR⟩ : ∃ R, clsR a b c d = R := ⟨_, rfl⟩
  rw [hR]
  have HR := Lib.hid hR
  clear hR
  have hri := fun p W h => xright_any (some p) 4 [a, b, c, d] (by simp [maxLen]) W h
  have HRI := Lib.hid hri
  clear hri
  go_enter Try.func15, Try.ntmps15
  have i0 : ∀ w, (Instr.index 60 (.agg #[.int .i64 3, .int .i64 2, .int .i64 1]) (.int .i64 0)).run Try.prog w = .ok (.int .i64 3) w := fun _ => by kernel_rfl
  have i1 : ∀ w, (Instr.index 60 (.agg #[.int .i64 3, .int .i64 2, .int .i64 1]) (.int .i64 1)).run Try.prog w = .ok (.int .i64 2) w := fun _ => by kernel_rfl
  have i2 : ∀ w, (Instr.index 60 (.agg #[.int .i64 3, .int .i64 2, .int .i64 1]) (.int .i64 2)).run Try.prog w = .ok (.int .i64 1) w := fun _ => by kernel_rfl
  cases hok : [a, b, c, d].all okPt with
  | false =>
    rw [hok] at HRI
    have HF : Hid (R = (0, 5)) := Lib.hid (by rw [← HR.out, clsR, if_pos hok])
    obtain ⟨ax, ay⟩ := a
    obtain ⟨bx, bY⟩ := b
    obtain ⟨cx, cy⟩ := c
    obtain ⟨dx, dy⟩ := d
    clear HR hok
    dsimp only [Pt.val] at *
    have k0 := ((((Blk.lit w w.heap.size [.int .i64 ax, .int .i64 ay] 23 rfl).alloc (.cells #[.int .i64 bx, .int .i64 bY] 23)).alloc (.cells #[.int .i64 cx, .int .i64 cy] 23)).alloc (.cells #[.int .i64 dx, .int .i64 dy] 23))
    have k1 := (((Blk.lit (w.alloc (.cells #[.int .i64 ax, .int .i64 ay] 23)) (w.heap.size + 1) [.int .i64 bx, .int .i64 bY] 23 (by simp)).alloc (.cells #[.int .i64 cx, .int .i64 cy] 23)).alloc (.cells #[.int .i64 dx, .int .i64 dy] 23))
    have k2 := ((Blk.lit ((w.alloc (.cells #[.int .i64 ax, .int .i64 ay] 23)).alloc (.cells #[.int .i64 bx, .int .i64 bY] 23)) (w.heap.size + 1 + 1) [.int .i64 cx, .int .i64 cy] 23 (by simp)).alloc (.cells #[.int .i64 dx, .int .i64 dy] 23))
    have k3 := (Blk.lit (((w.alloc (.cells #[.int .i64 ax, .int .i64 ay] 23)).alloc (.cells #[.int .i64 bx, .int .i64 bY] 23)).alloc (.cells #[.int .i64 cx, .int .i64 cy] 23)) (w.heap.size + 1 + 1 + 1) [.int .i64 dx, .int .i64 dy] 23 (by simp))
    have hbl := (((Below.new w (.cells #[.int .i64 ax, .int .i64 ay] 23)).alloc (by simp) (.cells #[.int .i64 bx, .int .i64 bY] 23)).alloc (by simp; omega) (.cells #[.int .i64 cx, .int .i64 cy] 23)).alloc (by simp; omega) (.cells #[.int .i64 dx, .int .i64 dy] 23)
    have hs := hbl.size
    go_wp2_with fail
    refine (HRI.out _ _ (Rd.lit _ _ [.int .i64 ax, .int .i64 ay, .int .i64 bx, .int .i64 bY, .int .i64 cx, .int .i64 cy, .int .i64 dx, .int .i64 dy] _ (by simp))).mono ?_
    rintro e w1 ⟨rfl, hx1⟩
    have k0 := (k0.alloc (.cells #[.int .i64 ax, .int .i64 ay, .int .i64 bx, .int .i64 bY, .int .i64 cx, .int .i64 cy, .int .i64 dx, .int .i64 dy] 23)).keep hx1
    have k1 := (k1.alloc (.cells #[.int .i64 ax, .int .i64 ay, .int .i64 bx, .int .i64 bY, .int .i64 cx, .int .i64 cy, .int .i64 dx, .int .i64 dy] 23)).keep hx1
    have k2 := (k2.alloc (.cells #[.int .i64 ax, .int .i64 ay, .int .i64 bx, .int .i64 bY, .int .i64 cx, .int .i64 cy, .int .i64 dx, .int .i64 dy] 23)).keep hx1
    have k3 := (k3.alloc (.cells #[.int .i64 ax, .int .i64 ay, .int .i64 bx, .int .i64 bY, .int .i64 cx, .int .i64 cy, .int .i64 dx, .int .i64 dy] 23)).keep hx1
    have hbl := (hbl.alloc hs (.cells #[.int .i64 ax, .int .i64 ay, .int .i64 bx, .int .i64 bY, .int .i64 cx, .int .i64 cy, .int .i64 dx, .int .i64 dy] 23)).trans (hx1.mono (by simp at *; omega))
    have hs2 : ∀ {W}, Below w.heap.size w W → w.heap.size ≤ W.heap.size := fun h => h.size
    have hs := hs2 hbl
    clear HRI hx1
    obtain ⟨S0, hS0⟩ : ∃ S0, w.heap.size = S0 := ⟨_, rfl⟩
    rw [hS0] at k0 k1 k2 k3
    go_wp2
    refine bodyPost_ret (v := .tuple #[.int .i64 (0), .int .i64 5]) (by simp [results, Try.results15, go_sem]) rfl ⟨?_, hbl⟩
    rw [HF.out]
  | true =>
    rw [hok] at HRI
    have hoks : okPt a = true ∧ okPt b = true ∧ okPt c = true ∧ okPt d = true := by simpa using hok
    obtain ⟨oa, ob, oc, od⟩ := hoks
    have hR2 : R = if a = b ∨ c = d then (0, 1) else (clsF a b c d, 0) := by rw [← HR.out, clsR, if_neg (by rw [hok]; simp)]
    have t1 := xturn_any a b c oa ob oc
    have t2 := xturn_any a b d oa ob od
    have t3 := xturn_any c d a oc od oa
    have t4 := xturn_any c d b oc od ob
    have t5 := sline_any a b c d
    unfold clsF at hR2
    have v1 := wr_sg (crs a b c) (crs a b d)
    have v2 := wr_sg (crs c d a) (crs c d b)
    generalize sg (crs a b c) = p at *
    generalize sg (crs a b d) = q at *
    generalize sg (crs c d a) = r at *
    generalize sg (crs c d b) = s at *
    generalize lineF a b c d = LN at *
    have T1 := Lib.hid t1
    have T2 := Lib.hid t2
    have T3 := Lib.hid t3
    have T4 := Lib.hid t4
    have T5 := Lib.hid t5
    have V1 := Lib.hid v1
    have V2 := Lib.hid v2
    clear t1 t2 t3 t4 t5 v1 v2 HR hok oa ob oc od
    obtain ⟨ax, ay⟩ := a
    obtain ⟨bx, bY⟩ := b
    obtain ⟨cx, cy⟩ := c
    obtain ⟨dx, dy⟩ := d
    simp only [Pt.mk.injEq] at hR2
    have HR2 := Lib.hid hR2
    clear hR2
    dsimp only [Pt.val] at *
    have k0 := ((((Blk.lit w w.heap.size [.int .i64 ax, .int .i64 ay] 23 rfl).alloc (.cells #[.int .i64 bx, .int .i64 bY] 23)).alloc (.cells #[.int .i64 cx, .int .i64 cy] 23)).alloc (.cells #[.int .i64 dx, .int .i64 dy] 23))
    have k1 := (((Blk.lit (w.alloc (.cells #[.int .i64 ax, .int .i64 ay] 23)) (w.heap.size + 1) [.int .i64 bx, .int .i64 bY] 23 (by simp)).alloc (.cells #[.int .i64 cx, .int .i64 cy] 23)).alloc (.cells #[.int .i64 dx, .int .i64 dy] 23))
    have k2 := ((Blk.lit ((w.alloc (.cells #[.int .i64 ax, .int .i64 ay] 23)).alloc (.cells #[.int .i64 bx, .int .i64 bY] 23)) (w.heap.size + 1 + 1) [.int .i64 cx, .int .i64 cy] 23 (by simp)).alloc (.cells #[.int .i64 dx, .int .i64 dy] 23))
    have k3 := (Blk.lit (((w.alloc (.cells #[.int .i64 ax, .int .i64 ay] 23)).alloc (.cells #[.int .i64 bx, .int .i64 bY] 23)).alloc (.cells #[.int .i64 cx, .int .i64 cy] 23)) (w.heap.size + 1 + 1 + 1) [.int .i64 dx, .int .i64 dy] 23 (by simp))
    have hbl := (((Below.new w (.cells #[.int .i64 ax, .int .i64 ay] 23)).alloc (by simp) (.cells #[.int .i64 bx, .int .i64 bY] 23)).alloc (by simp; omega) (.cells #[.int .i64 cx, .int .i64 cy] 23)).alloc (by simp; omega) (.cells #[.int .i64 dx, .int .i64 dy] 23)
    have hs := hbl.size
    go_wp2_with fail
    refine (HRI.out _ _ (Rd.lit _ _ [.int .i64 ax, .int .i64 ay, .int .i64 bx, .int .i64 bY, .int .i64 cx, .int .i64 cy, .int .i64 dx, .int .i64 dy] _ (by simp))).mono ?_
    rintro e w1 ⟨rfl, hx1⟩
    have k0 := (k0.alloc (.cells #[.int .i64 ax, .int .i64 ay, .int .i64 bx, .int .i64 bY, .int .i64 cx, .int .i64 cy, .int .i64 dx, .int .i64 dy] 23)).keep hx1
    have k1 := (k1.alloc (.cells #[.int .i64 ax, .int .i64 ay, .int .i64 bx, .int .i64 bY, .int .i64 cx, .int .i64 cy, .int .i64 dx, .int .i64 dy] 23)).keep hx1
    have k2 := (k2.alloc (.cells #[.int .i64 ax, .int .i64 ay, .int .i64 bx, .int .i64 bY, .int .i64 cx, .int .i64 cy, .int .i64 dx, .int .i64 dy] 23)).keep hx1
    have k3 := (k3.alloc (.cells #[.int .i64 ax, .int .i64 ay, .int .i64 bx, .int .i64 bY, .int .i64 cx, .int .i64 cy, .int .i64 dx, .int .i64 dy] 23)).keep hx1
    have hbl := (hbl.alloc hs (.cells #[.int .i64 ax, .int .i64 ay, .int .i64 bx, .int .i64 bY, .int .i64 cx, .int .i64 cy, .int .i64 dx, .int .i64 dy] 23)).trans (hx1.mono (by simp at *; omega))
    have hs2 : ∀ {W}, Below w.heap.size w W → w.heap.size ≤ W.heap.size := fun h => h.size
    have hs := hs2 hbl
    clear HRI hx1
    obtain ⟨S0, hS0⟩ : ∃ S0, w.heap.size = S0 := ⟨_, rfl⟩
    rw [hS0] at k0 k1 k2 k3
    rename_i K2 hK2 K1 hK1 K0 hK0
    have main : ¬ ((ax = bx ∧ ay = bY) ∨ (cx = dx ∧ cy = dy)) → ¬ (((ax = cx ∧ ay = cy) ∧ bx = dx ∧ bY = dy) ∨ ((ax = dx ∧ ay = dy) ∧ bx = cx ∧ bY = cy)) → ∀ (u23 u24 u25 u26 u27 u28 u29 u30 u31 u32 u33 u34 u35 u36 u37 u38 u39 u40 u41 u42 u43 u44 u45 u46 u47 u48 u49 u50 : Value), K2 { tmps := List.toArray ((.agg #[.int .i64 ax, .int .i64 ay]) :: (.agg #[.int .i64 bx, .int .i64 bY]) :: (.agg #[.int .i64 cx, .int .i64 cy]) :: (.agg #[.int .i64 dx, .int .i64 dy]) :: (.pointer (some ⟨S0, 0, none⟩)) :: (.pointer (some ⟨S0 + 1, 0, none⟩)) :: (.pointer (some ⟨S0 + 1 + 1, 0, none⟩)) :: (.pointer (some ⟨S0 + 1 + 1 + 1, 0, none⟩)) :: (.int .i64 0) :: (.int .i64 0) :: undef :: undef :: undef :: undef :: undef :: (.bool false) :: (.agg #[.int .i64 ax, .int .i64 ay]) :: (.agg #[.int .i64 bx, .int .i64 bY]) :: (.agg #[.int .i64 cx, .int .i64 cy]) :: (.agg #[.int .i64 dx, .int .i64 dy]) :: (.slice (some ⟨S0 + 1 + 1 + 1 + 1, 0, none⟩) 4 4) :: (.bool true) :: (.bool false) :: u23 :: u24 :: u25 :: u26 :: u27 :: u28 :: u29 :: u30 :: u31 :: u32 :: u33 :: u34 :: u35 :: u36 :: u37 :: u38 :: u39 :: u40 :: u41 :: u42 :: u43 :: u44 :: u45 :: u46 :: u47 :: u48 :: u49 :: u50 :: undef :: undef :: undef :: undef :: undef :: undef :: undef :: undef :: undef :: undef :: undef :: undef :: undef :: undef :: undef :: undef :: undef :: undef :: undef :: undef :: undef :: undef :: undef :: undef :: undef :: undef :: undef :: undef :: undef :: undef :: undef :: undef :: undef :: undef :: undef :: undef :: undef :: undef :: undef :: undef :: undef :: undef :: undef :: undef :: undef :: undef :: undef :: undef :: undef :: undef :: undef :: undef :: []), defers := [] } w1 := by
      intro ne1 ne2 u23 u24 u25 u26 u27 u28 u29 u30 u31 u32 u33 u34 u35 u36 u37 u38 u39 u40 u41 u42 u43 u44 u45 u46 u47 u48 u49 u50
      have hR3 := HR2.out
      rw [if_neg ne1, if_neg ne2] at hR3
      have HR3 := Lib.hid hR3
      clear hR3 HR2 ne1 ne2
      apply hK2
      clear hK2 hK1 hK0
      go_wp2_with fail
      refine wp_region_lit_txt [0, 1, 2, 4, 5, 6, 8, 9] (fun W => Blk W S0 [.int .i64 ax, .int .i64 ay] ∧ Blk W (S0 + 1) [.int .i64 bx, .int .i64 bY] ∧ Blk W (S0 + 1 + 1) [.int .i64 cx, .int .i64 cy] ∧ Blk W (S0 + 1 + 1 + 1) [.int .i64 dx, .int .i64 dy]) (by kernel_rfl) (by kernel_rfl) (by kernel_rfl) ⟨k0.drew, k1.drew, k2.drew, k3.drew⟩ ?_
      have k0 := k0.drew
      have k1 := k1.drew
      have k2 := k2.drew
      have k3 := k3.drew
      have hbl := hbl.drew
      refine txt_light (.agg #[.int .i64 ax, .int .i64 ay]) rfl rfl ?_ ?_
      · intro w' hS
        have c0 := hS.1.cell 0 rfl
        have c1 := hS.1.cell 1 rfl
        go_simp
      try simp only [Act.put, List.setIfInBounds_toArray, List.set_cons_zero, List.set_cons_succ]
      refine txt_light (.agg #[.int .i64 bx, .int .i64 bY]) rfl rfl ?_ ?_
      · intro w' hS
        have c0 := hS.2.1.cell 0 rfl
        have c1 := hS.2.1.cell 1 rfl
        go_simp
      try simp only [Act.put, List.setIfInBounds_toArray, List.set_cons_zero, List.set_cons_succ]
      refine txt_light (.agg #[.int .i64 cx, .int .i64 cy]) rfl rfl ?_ ?_
      · intro w' hS
        have c0 := hS.2.2.1.cell 0 rfl
        have c1 := hS.2.2.1.cell 1 rfl
        go_simp
      try simp only [Act.put, List.setIfInBounds_toArray, List.set_cons_zero, List.set_cons_succ]
      refine txt_call [.agg #[.int .i64 ax, .int .i64 ay], .agg #[.int .i64 bx, .int .i64 bY], .agg #[.int .i64 cx, .int .i64 cy]] Try.f26 rfl rfl Try.func26 (by kernel_rfl) (by kernel_rfl) rfl ((T1.out _).mono ?_)
      rintro e w2 ⟨rfl, hx2⟩
      have k0 := k0.keep hx2
      have k1 := k1.keep hx2
      have k2 := k2.keep hx2
      have k3 := k3.keep hx2
      have hbl := hbl.trans (hx2.mono hs)
      have hs := hs2 hbl
      refine ⟨_, rfl, ⟨k0, k1, k2, k3⟩, ?_⟩
      try simp only [Act.put, List.setIfInBounds_toArray, List.set_cons_zero, List.set_cons_succ]
      refine txt_light (.agg #[.int .i64 ax, .int .i64 ay]) rfl rfl ?_ ?_
      · intro w' hS
        have c0 := hS.1.cell 0 rfl
        have c1 := hS.1.cell 1 rfl
        go_simp
      try simp only [Act.put, List.setIfInBounds_toArray, List.set_cons_zero, List.set_cons_succ]
      refine txt_light (.agg #[.int .i64 bx, .int .i64 bY]) rfl rfl ?_ ?_
      · intro w' hS
        have c0 := hS.2.1.cell 0 rfl
        have c1 := hS.2.1.cell 1 rfl
        go_simp
      try simp only [Act.put, List.setIfInBounds_toArray, List.set_cons_zero, List.set_cons_succ]
      refine txt_light (.agg #[.int .i64 dx, .int .i64 dy]) rfl rfl ?_ ?_
      · intro w' hS
        have c0 := hS.2.2.2.cell 0 rfl
        have c1 := hS.2.2.2.cell 1 rfl
        go_simp
      try simp only [Act.put, List.setIfInBounds_toArray, List.set_cons_zero, List.set_cons_succ]
      refine txt_call [.agg #[.int .i64 ax, .int .i64 ay], .agg #[.int .i64 bx, .int .i64 bY], .agg #[.int .i64 dx, .int .i64 dy]] Try.f26 rfl rfl Try.func26 (by kernel_rfl) (by kernel_rfl) rfl ((T2.out _).mono ?_)
      rintro e w3 ⟨rfl, hx3⟩
      have k0 := k0.keep hx3
      have k1 := k1.keep hx3
      have k2 := k2.keep hx3
      have k3 := k3.keep hx3
      have hbl := hbl.trans (hx3.mono hs)
      have hs := hs2 hbl
      refine ⟨_, rfl, ⟨k0, k1, k2, k3⟩, ?_⟩
      try simp only [Act.put, List.setIfInBounds_toArray, List.set_cons_zero, List.set_cons_succ]
      (refine txt_light ?_ rfl rfl ?_ ?_; rotate_left; · (intro w' hS; (try dsimp only at hS); go_simp; with_reducible rfl)); try simp only [Act.put, List.setIfInBounds_toArray, List.set_cons_zero, List.set_cons_succ]
      (refine txt_light ?_ rfl rfl ?_ ?_; rotate_left; · (intro w' hS; (try dsimp only at hS); go_simp; with_reducible rfl)); try simp only [Act.put, List.setIfInBounds_toArray, List.set_cons_zero, List.set_cons_succ]
      refine txt_nil ?_
      clear T1 T2 hx2 hx3
      go_wp2_with fail
      refine wp_region_lit_txt [0, 1, 2, 4, 5, 6, 8, 9] (fun W => Blk W S0 [.int .i64 ax, .int .i64 ay] ∧ Blk W (S0 + 1) [.int .i64 bx, .int .i64 bY] ∧ Blk W (S0 + 1 + 1) [.int .i64 cx, .int .i64 cy] ∧ Blk W (S0 + 1 + 1 + 1) [.int .i64 dx, .int .i64 dy]) (by kernel_rfl) (by kernel_rfl) (by kernel_rfl) ⟨k0.drew, k1.drew, k2.drew, k3.drew⟩ ?_
      have k0 := k0.drew
      have k1 := k1.drew
      have k2 := k2.drew
      have k3 := k3.drew
      have hbl := hbl.drew
      refine txt_light (.agg #[.int .i64 cx, .int .i64 cy]) rfl rfl ?_ ?_
      · intro w' hS
        have c0 := hS.2.2.1.cell 0 rfl
        have c1 := hS.2.2.1.cell 1 rfl
        go_simp
      try simp only [Act.put, List.setIfInBounds_toArray, List.set_cons_zero, List.set_cons_succ]
      refine txt_light (.agg #[.int .i64 dx, .int .i64 dy]) rfl rfl ?_ ?_
      · intro w' hS
        have c0 := hS.2.2.2.cell 0 rfl
        have c1 := hS.2.2.2.cell 1 rfl
        go_simp
      try simp only [Act.put, List.setIfInBounds_toArray, List.set_cons_zero, List.set_cons_succ]
      refine txt_light (.agg #[.int .i64 ax, .int .i64 ay]) rfl rfl ?_ ?_
      · intro w' hS
        have c0 := hS.1.cell 0 rfl
        have c1 := hS.1.cell 1 rfl
        go_simp
      try simp only [Act.put, List.setIfInBounds_toArray, List.set_cons_zero, List.set_cons_succ]
      refine txt_call [.agg #[.int .i64 cx, .int .i64 cy], .agg #[.int .i64 dx, .int .i64 dy], .agg #[.int .i64 ax, .int .i64 ay]] Try.f26 rfl rfl Try.func26 (by kernel_rfl) (by kernel_rfl) rfl ((T3.out _).mono ?_)
      rintro e w4 ⟨rfl, hx4⟩
      have k0 := k0.keep hx4
      have k1 := k1.keep hx4
      have k2 := k2.keep hx4
      have k3 := k3.keep hx4
      have hbl := hbl.trans (hx4.mono hs)
      have hs := hs2 hbl
      refine ⟨_, rfl, ⟨k0, k1, k2, k3⟩, ?_⟩
      try simp only [Act.put, List.setIfInBounds_toArray, List.set_cons_zero, List.set_cons_succ]
      refine txt_light (.agg #[.int .i64 cx, .int .i64 cy]) rfl rfl ?_ ?_
      · intro w' hS
        have c0 := hS.2.2.1.cell 0 rfl
        have c1 := hS.2.2.1.cell 1 rfl
        go_simp
      try simp only [Act.put, List.setIfInBounds_toArray, List.set_cons_zero, List.set_cons_succ]
      refine txt_light (.agg #[.int .i64 dx, .int .i64 dy]) rfl rfl ?_ ?_
      · intro w' hS
        have c0 := hS.2.2.2.cell 0 rfl
        have c1 := hS.2.2.2.cell 1 rfl
        go_simp
      try simp only [Act.put, List.setIfInBounds_toArray, List.set_cons_zero, List.set_cons_succ]
      refine txt_light (.agg #[.int .i64 bx, .int .i64 bY]) rfl rfl ?_ ?_
      · intro w' hS
        have c0 := hS.2.1.cell 0 rfl
        have c1 := hS.2.1.cell 1 rfl
        go_simp
      try simp only [Act.put, List.setIfInBounds_toArray, List.set_cons_zero, List.set_cons_succ]
      refine txt_call [.agg #[.int .i64 cx, .int .i64 cy], .agg #[.int .i64 dx, .int .i64 dy], .agg #[.int .i64 bx, .int .i64 bY]] Try.f26 rfl rfl Try.func26 (by kernel_rfl) (by kernel_rfl) rfl ((T4.out _).mono ?_)
      rintro e w5 ⟨rfl, hx5⟩
      have k0 := k0.keep hx5
      have k1 := k1.keep hx5
      have k2 := k2.keep hx5
      have k3 := k3.keep hx5
      have hbl := hbl.trans (hx5.mono hs)
      have hs := hs2 hbl
      refine ⟨_, rfl, ⟨k0, k1, k2, k3⟩, ?_⟩
      try simp only [Act.put, List.setIfInBounds_toArray, List.set_cons_zero, List.set_cons_succ]
      (refine txt_light ?_ rfl rfl ?_ ?_; rotate_left; · (intro w' hS; (try dsimp only at hS); go_simp; with_reducible rfl)); try simp only [Act.put, List.setIfInBounds_toArray, List.set_cons_zero, List.set_cons_succ]
      (refine txt_light ?_ rfl rfl ?_ ?_; rotate_left; · (intro w' hS; (try dsimp only at hS); go_simp; with_reducible rfl)); try simp only [Act.put, List.setIfInBounds_toArray, List.set_cons_zero, List.set_cons_succ]
      refine txt_nil ?_
      clear T3 T4 hx4 hx5
      have a0 := k0.cell 0 rfl
      have a1 := k0.cell 1 rfl
      have b0 := k1.cell 0 rfl
      have b1 := k1.cell 1 rfl
      have x0 := k2.cell 0 rfl
      have x1 := k2.cell 1 rfl
      have y0 := k3.cell 0 rfl
      have y1 := k3.cell 1 rfl
      by_cases hcol : p = 0 ∧ q = 0
      · have HF : Hid (R = (LN, 0)) := Lib.hid (by rw [HR3.out, if_pos hcol])
        obtain ⟨rfl, rfl⟩ := hcol
        clear HR3 V1 V2
        go_wp2_with fail
        refine (T5.out _).mono ?_
        rintro e w6 ⟨rfl, hx6⟩
        have hbl := hbl.trans (hx6.mono hs)
        go_wp2
        refine bodyPost_ret (v := .tuple #[.int .i64 (LN), .int .i64 0]) (by simp [results, Try.results15, go_sem]) rfl ⟨?_, hbl⟩
        rw [HF.out]
      · have hR4 := HR3.out
        rw [if_neg hcol] at hR4
        clear HR3 T5
        obtain ⟨P, hP⟩ : ∃ P, p * q = P := ⟨_, rfl⟩
        obtain ⟨Q, hQ⟩ : ∃ Q, r * s = Q := ⟨_, rfl⟩
        have v1 := V1.out
        have v2 := V2.out
        rw [hP] at v1 hR4
        rw [hQ] at v2 hR4
        clear V1 V2
        have HR4 := Lib.hid hR4
        clear hR4
        have hpq : p = 0 ∧ (q == 0) = false ∨ (p == 0) = false := by
          by_cases h : p = 0
          · exact .inl ⟨h, by simpa using fun h2 => hcol ⟨h, h2⟩⟩
          · exact .inr (by simpa using h)
        clear hcol
        rcases hpq with ⟨rfl, hq⟩ | hp
        · have hP0 : P = 0 := by rw [← hP, Int.zero_mul]
          subst hP0
          rcases Int.lt_trichotomy Q 0 with hQ0 | hQ0 | hQ0
          · have HF : Hid (R = (2, 0)) := Lib.hid (by rw [HR4.out]; first | rw [if_pos (by omega)] | (rw [if_neg (by omega)]; first | rw [if_pos (by omega), if_pos (by omega)] | rw [if_pos (by omega), if_neg (by omega)] | rw [if_neg (by omega), if_pos (by omega)] | rw [if_neg (by omega), if_neg (by omega)]))
            clear HR4
            try (have hPz : (P == 0) = false := by simp; omega)
            try (have hQz : (Q == 0) = false := by simp; omega)
            try (have hPd : decide (0 < P) = false := by simp; omega)
            try (have hQd : decide (0 < Q) = false := by simp; omega)
            go_wp2
            refine bodyPost_ret (v := .tuple #[.int .i64 (2), .int .i64 0]) (by simp [results, Try.results15, go_sem]) rfl ⟨?_, hbl⟩
            rw [HF.out]
          · have HF : Hid (R = (1, 0)) := Lib.hid (by rw [HR4.out]; first | rw [if_pos (by omega)] | (rw [if_neg (by omega)]; first | rw [if_pos (by omega), if_pos (by omega)] | rw [if_pos (by omega), if_neg (by omega)] | rw [if_neg (by omega), if_pos (by omega)] | rw [if_neg (by omega), if_neg (by omega)]))
            clear HR4
            try (have hPz : (P == 0) = false := by simp; omega)
            try (have hQz : (Q == 0) = false := by simp; omega)
            try (have hPd : decide (0 < P) = false := by simp; omega)
            try (have hQd : decide (0 < Q) = false := by simp; omega)
            subst hQ0
            go_wp2
            refine bodyPost_ret (v := .tuple #[.int .i64 (1), .int .i64 0]) (by simp [results, Try.results15, go_sem]) rfl ⟨?_, hbl⟩
            rw [HF.out]
          · have HF : Hid (R = (0, 0)) := Lib.hid (by rw [HR4.out]; first | rw [if_pos (by omega)] | (rw [if_neg (by omega)]; first | rw [if_pos (by omega), if_pos (by omega)] | rw [if_pos (by omega), if_neg (by omega)] | rw [if_neg (by omega), if_pos (by omega)] | rw [if_neg (by omega), if_neg (by omega)]))
            clear HR4
            try (have hPz : (P == 0) = false := by simp; omega)
            try (have hQz : (Q == 0) = false := by simp; omega)
            try (have hPd : decide (0 < P) = false := by simp; omega)
            try (have hQd : decide (0 < Q) = false := by simp; omega)
            go_wp2
            refine bodyPost_ret (v := .tuple #[.int .i64 (0), .int .i64 0]) (by simp [results, Try.results15, go_sem]) rfl ⟨?_, hbl⟩
            rw [HF.out]
        · skip
          rcases Int.lt_trichotomy P 0 with hP0 | hP0 | hP0 <;> rcases Int.lt_trichotomy Q 0 with hQ0 | hQ0 | hQ0
          · have HF : Hid (R = (3, 0)) := Lib.hid (by rw [HR4.out]; first | rw [if_pos (by omega)] | (rw [if_neg (by omega)]; first | rw [if_pos (by omega), if_pos (by omega)] | rw [if_pos (by omega), if_neg (by omega)] | rw [if_neg (by omega), if_pos (by omega)] | rw [if_neg (by omega), if_neg (by omega)]))
            clear HR4
            try (have hPz : (P == 0) = false := by simp; omega)
            try (have hQz : (Q == 0) = false := by simp; omega)
            try (have hPd : decide (0 < P) = false := by simp; omega)
            try (have hQd : decide (0 < Q) = false := by simp; omega)
            go_wp2
            refine bodyPost_ret (v := .tuple #[.int .i64 (3), .int .i64 0]) (by simp [results, Try.results15, go_sem]) rfl ⟨?_, hbl⟩
            rw [HF.out]
          · have HF : Hid (R = (2, 0)) := Lib.hid (by rw [HR4.out]; first | rw [if_pos (by omega)] | (rw [if_neg (by omega)]; first | rw [if_pos (by omega), if_pos (by omega)] | rw [if_pos (by omega), if_neg (by omega)] | rw [if_neg (by omega), if_pos (by omega)] | rw [if_neg (by omega), if_neg (by omega)]))
            clear HR4
            try (have hPz : (P == 0) = false := by simp; omega)
            try (have hQz : (Q == 0) = false := by simp; omega)
            try (have hPd : decide (0 < P) = false := by simp; omega)
            try (have hQd : decide (0 < Q) = false := by simp; omega)
            subst hQ0
            go_wp2
            refine bodyPost_ret (v := .tuple #[.int .i64 (2), .int .i64 0]) (by simp [results, Try.results15, go_sem]) rfl ⟨?_, hbl⟩
            rw [HF.out]
          · have HF : Hid (R = (0, 0)) := Lib.hid (by rw [HR4.out]; first | rw [if_pos (by omega)] | (rw [if_neg (by omega)]; first | rw [if_pos (by omega), if_pos (by omega)] | rw [if_pos (by omega), if_neg (by omega)] | rw [if_neg (by omega), if_pos (by omega)] | rw [if_neg (by omega), if_neg (by omega)]))
            clear HR4
            try (have hPz : (P == 0) = false := by simp; omega)
            try (have hQz : (Q == 0) = false := by simp; omega)
            try (have hPd : decide (0 < P) = false := by simp; omega)
            try (have hQd : decide (0 < Q) = false := by simp; omega)
            go_wp2
            refine bodyPost_ret (v := .tuple #[.int .i64 (0), .int .i64 0]) (by simp [results, Try.results15, go_sem]) rfl ⟨?_, hbl⟩
            rw [HF.out]
          · have HF : Hid (R = (2, 0)) := Lib.hid (by rw [HR4.out]; first | rw [if_pos (by omega)] | (rw [if_neg (by omega)]; first | rw [if_pos (by omega), if_pos (by omega)] | rw [if_pos (by omega), if_neg (by omega)] | rw [if_neg (by omega), if_pos (by omega)] | rw [if_neg (by omega), if_neg (by omega)]))
            clear HR4
            try (have hPz : (P == 0) = false := by simp; omega)
            try (have hQz : (Q == 0) = false := by simp; omega)
            try (have hPd : decide (0 < P) = false := by simp; omega)
            try (have hQd : decide (0 < Q) = false := by simp; omega)
            subst hP0
            go_wp2
            refine bodyPost_ret (v := .tuple #[.int .i64 (2), .int .i64 0]) (by simp [results, Try.results15, go_sem]) rfl ⟨?_, hbl⟩
            rw [HF.out]
          · have HF : Hid (R = (1, 0)) := Lib.hid (by rw [HR4.out]; first | rw [if_pos (by omega)] | (rw [if_neg (by omega)]; first | rw [if_pos (by omega), if_pos (by omega)] | rw [if_pos (by omega), if_neg (by omega)] | rw [if_neg (by omega), if_pos (by omega)] | rw [if_neg (by omega), if_neg (by omega)]))
            clear HR4
            try (have hPz : (P == 0) = false := by simp; omega)
            try (have hQz : (Q == 0) = false := by simp; omega)
            try (have hPd : decide (0 < P) = false := by simp; omega)
            try (have hQd : decide (0 < Q) = false := by simp; omega)
            subst hP0
            subst hQ0
            go_wp2
            refine bodyPost_ret (v := .tuple #[.int .i64 (1), .int .i64 0]) (by simp [results, Try.results15, go_sem]) rfl ⟨?_, hbl⟩
            rw [HF.out]
          · have HF : Hid (R = (0, 0)) := Lib.hid (by rw [HR4.out]; first | rw [if_pos (by omega)] | (rw [if_neg (by omega)]; first | rw [if_pos (by omega), if_pos (by omega)] | rw [if_pos (by omega), if_neg (by omega)] | rw [if_neg (by omega), if_pos (by omega)] | rw [if_neg (by omega), if_neg (by omega)]))
            clear HR4
            try (have hPz : (P == 0) = false := by simp; omega)
            try (have hQz : (Q == 0) = false := by simp; omega)
            try (have hPd : decide (0 < P) = false := by simp; omega)
            try (have hQd : decide (0 < Q) = false := by simp; omega)
            subst hP0
            go_wp2
            refine bodyPost_ret (v := .tuple #[.int .i64 (0), .int .i64 0]) (by simp [results, Try.results15, go_sem]) rfl ⟨?_, hbl⟩
            rw [HF.out]
          · have HF : Hid (R = (0, 0)) := Lib.hid (by rw [HR4.out]; first | rw [if_pos (by omega)] | (rw [if_neg (by omega)]; first | rw [if_pos (by omega), if_pos (by omega)] | rw [if_pos (by omega), if_neg (by omega)] | rw [if_neg (by omega), if_pos (by omega)] | rw [if_neg (by omega), if_neg (by omega)]))
            clear HR4
            try (have hPz : (P == 0) = false := by simp; omega)
            try (have hQz : (Q == 0) = false := by simp; omega)
            try (have hPd : decide (0 < P) = false := by simp; omega)
            try (have hQd : decide (0 < Q) = false := by simp; omega)
            go_wp2
            refine bodyPost_ret (v := .tuple #[.int .i64 (0), .int .i64 0]) (by simp [results, Try.results15, go_sem]) rfl ⟨?_, hbl⟩
            rw [HF.out]
          · have HF : Hid (R = (0, 0)) := Lib.hid (by rw [HR4.out]; first | rw [if_pos (by omega)] | (rw [if_neg (by omega)]; first | rw [if_pos (by omega), if_pos (by omega)] | rw [if_pos (by omega), if_neg (by omega)] | rw [if_neg (by omega), if_pos (by omega)] | rw [if_neg (by omega), if_neg (by omega)]))
            clear HR4
            try (have hPz : (P == 0) = false := by simp; omega)
            try (have hQz : (Q == 0) = false := by simp; omega)
            try (have hPd : decide (0 < P) = false := by simp; omega)
            try (have hQd : decide (0 < Q) = false := by simp; omega)
            subst hQ0
            go_wp2
            refine bodyPost_ret (v := .tuple #[.int .i64 (0), .int .i64 0]) (by simp [results, Try.results15, go_sem]) rfl ⟨?_, hbl⟩
            rw [HF.out]
          · have HF : Hid (R = (0, 0)) := Lib.hid (by rw [HR4.out]; first | rw [if_pos (by omega)] | (rw [if_neg (by omega)]; first | rw [if_pos (by omega), if_pos (by omega)] | rw [if_pos (by omega), if_neg (by omega)] | rw [if_neg (by omega), if_pos (by omega)] | rw [if_neg (by omega), if_neg (by omega)]))
            clear HR4
            try (have hPz : (P == 0) = false := by simp; omega)
            try (have hQz : (Q == 0) = false := by simp; omega)
            try (have hPd : decide (0 < P) = false := by simp; omega)
            try (have hQd : decide (0 < Q) = false := by simp; omega)
            go_wp2
            refine bodyPost_ret (v := .tuple #[.int .i64 (0), .int .i64 0]) (by simp [results, Try.results15, go_sem]) rfl ⟨?_, hbl⟩
            rw [HF.out]
    clear hK2 T1 T2 T3 T4 T5 V1 V2
    have a0 := k0.cell 0 rfl
    have a1 := k0.cell 1 rfl
    have b0 := k1.cell 0 rfl
    have b1 := k1.cell 1 rfl
    have x0 := k2.cell 0 rfl
    have x1 := k2.cell 1 rfl
    have y0 := k3.cell 0 rfl
    have y1 := k3.cell 1 rfl
    go_wp2
    all_goals try subst_vars
    all_goals first
      | exact main (by omega) (by omega) _ _ _ _ _ _ _ _ _ _ _ _ _ _ _ _ _ _ _ _ _ _ _ _ _ _ _ _
      | (refine bodyPost_ret (v := .tuple #[.int .i64 0, .int .i64 1]) (by simp [results, Try.results15, go_sem]) rfl ⟨?_, by assumption⟩
         first | rw [HR2.out, if_pos (by omega)] | rw [if_pos (by omega)])
      | (refine bodyPost_ret (v := .tuple #[.int .i64 5, .int .i64 0]) (by simp [results, Try.results15, go_sem]) rfl ⟨?_, by assumption⟩
         first | rw [HR2.out, if_neg (by omega), if_pos (by omega)] | rw [if_neg (by omega), if_pos (by omega)])
end Go.Proofs.Ytmnekbnhodadcaa
