/-
  seg.Class. How edges may meet (plain). cover.twice. A call of a function value, inside a region that draws its order.
-/
import Derived.Test.YtccamjnomjcchaaPk10
import Derived.Test.YtccamjnomjcchaaPk2
import Derived.Test.YtccamjnomjcchaaPk6
import Derived.Test.YtccamjnomjcchaaPk8
/- seg.Class. -/
set_option linter.unusedVariables false
set_option linter.unusedSimpArgs false
set_option maxRecDepth 100000
namespace Go
def clsR (a b c d : Pt) : Int × Int := if [a, b, c, d].all okPt = false then (0, 5) else if a = b ∨ c = d then (0, 1) else (clsF a b c d, 0)
theorem wr_sg (n m : Int) : IntKind.i64.wrap (sg n * sg m) = sg n * sg m := by
  refine IntWalk.i64_in _ ?_
  rcases Int.lt_trichotomy n 0 with h | h | h <;> rcases Int.lt_trichotomy m 0 with g | g | g
  all_goals
    first | rw [sg_pos h] | rw [sg_neg h] | rw [sg_z h]
    first | rw [sg_pos g] | rw [sg_neg g] | rw [sg_z g]
    decide
end Go
namespace Go.Proofs.Ytccamjnomjcchaa
open Go.RowKit

set_option maxHeartbeats 3200000 in
theorem sclass_any (a b c d : Pt) (w : World) :
    Calls Try.prog 60 #[a.val, b.val, c.val, d.val] w fun e w' => e = .returned (.tuple #[.int .i64 (clsR a b c d).1, .int .i64 (clsR a b c d).2]) ∧ Below w.heap.size w w' := by
  obtain ⟨R, hR⟩ : ∃ R, clsR a b c d = R := ⟨_, rfl⟩; rw [hR]; have HR := Lib.hid hR; clear hR; have hri := fun p W h => xright_any (some p) 4 [a, b, c, d] (by simp [maxLen]) W h; have HRI := Lib.hid hri; clear hri
  go_enter Try.func60, Try.ntmps60
  have i0 : ∀ w, (Instr.index 156 (.agg #[.int .i64 3, .int .i64 2, .int .i64 1]) (.int .i64 0)).run Try.prog w = .ok (.int .i64 3) w := fun _ => by kernel_rfl
  have i1 : ∀ w, (Instr.index 156 (.agg #[.int .i64 3, .int .i64 2, .int .i64 1]) (.int .i64 1)).run Try.prog w = .ok (.int .i64 2) w := fun _ => by kernel_rfl
  have i2 : ∀ w, (Instr.index 156 (.agg #[.int .i64 3, .int .i64 2, .int .i64 1]) (.int .i64 2)).run Try.prog w = .ok (.int .i64 1) w := fun _ => by kernel_rfl
  cases hok : [a, b, c, d].all okPt with
  | false =>
    rw [hok] at HRI; have HF : Hid (R = (0, 5)) := Lib.hid (by rw [← HR.out, clsR, if_pos hok]); obtain ⟨ax, ay⟩ := a; obtain ⟨bx, bY⟩ := b; obtain ⟨cx, cy⟩ := c; obtain ⟨dx, dy⟩ := d; clear HR hok; dsimp only [Pt.val] at *; have k0 := ((((Blk.lit w w.heap.size [.int .i64 ax, .int .i64 ay] 46 rfl).alloc (.cells #[.int .i64 bx, .int .i64 bY] 46)).alloc (.cells #[.int .i64 cx, .int .i64 cy] 46)).alloc (.cells #[.int .i64 dx, .int .i64 dy] 46)); have k1 := (((Blk.lit (w.alloc (.cells #[.int .i64 ax, .int .i64 ay] 46)) (w.heap.size + 1) [.int .i64 bx, .int .i64 bY] 46 (by simp)).alloc (.cells #[.int .i64 cx, .int .i64 cy] 46)).alloc (.cells #[.int .i64 dx, .int .i64 dy] 46)); have k2 := ((Blk.lit ((w.alloc (.cells #[.int .i64 ax, .int .i64 ay] 46)).alloc (.cells #[.int .i64 bx, .int .i64 bY] 46)) (w.heap.size + 1 + 1) [.int .i64 cx, .int .i64 cy] 46 (by simp)).alloc (.cells #[.int .i64 dx, .int .i64 dy] 46)); have k3 := (Blk.lit (((w.alloc (.cells #[.int .i64 ax, .int .i64 ay] 46)).alloc (.cells #[.int .i64 bx, .int .i64 bY] 46)).alloc (.cells #[.int .i64 cx, .int .i64 cy] 46)) (w.heap.size + 1 + 1 + 1) [.int .i64 dx, .int .i64 dy] 46 (by simp)); have hbl := (((Below.new w (.cells #[.int .i64 ax, .int .i64 ay] 46)).alloc (by simp) (.cells #[.int .i64 bx, .int .i64 bY] 46)).alloc (by simp; omega) (.cells #[.int .i64 cx, .int .i64 cy] 46)).alloc (by simp; omega) (.cells #[.int .i64 dx, .int .i64 dy] 46); have hs := hbl.size
    go_wp2_with fail
    refine (HRI.out _ _ (Rd.lit _ _ [.int .i64 ax, .int .i64 ay, .int .i64 bx, .int .i64 bY, .int .i64 cx, .int .i64 cy, .int .i64 dx, .int .i64 dy] _ (by simp))).mono ?_; rintro e w1 ⟨rfl, hx1⟩; have k0 := (k0.alloc (.cells #[.int .i64 ax, .int .i64 ay, .int .i64 bx, .int .i64 bY, .int .i64 cx, .int .i64 cy, .int .i64 dx, .int .i64 dy] 46)).keep hx1; have k1 := (k1.alloc (.cells #[.int .i64 ax, .int .i64 ay, .int .i64 bx, .int .i64 bY, .int .i64 cx, .int .i64 cy, .int .i64 dx, .int .i64 dy] 46)).keep hx1; have k2 := (k2.alloc (.cells #[.int .i64 ax, .int .i64 ay, .int .i64 bx, .int .i64 bY, .int .i64 cx, .int .i64 cy, .int .i64 dx, .int .i64 dy] 46)).keep hx1; have k3 := (k3.alloc (.cells #[.int .i64 ax, .int .i64 ay, .int .i64 bx, .int .i64 bY, .int .i64 cx, .int .i64 cy, .int .i64 dx, .int .i64 dy] 46)).keep hx1; have hbl := (hbl.alloc hs (.cells #[.int .i64 ax, .int .i64 ay, .int .i64 bx, .int .i64 bY, .int .i64 cx, .int .i64 cy, .int .i64 dx, .int .i64 dy] 46)).trans (hx1.mono (by simp at *; omega)); have hs2 : ∀ {W}, Below w.heap.size w W → w.heap.size ≤ W.heap.size := fun h => h.size; have hs := hs2 hbl; clear HRI hx1; obtain ⟨S0, hS0⟩ : ∃ S0, w.heap.size = S0 := ⟨_, rfl⟩; rw [hS0] at k0 k1 k2 k3; go_wp2; refine bodyPost_ret (v := .tuple #[.int .i64 (0), .int .i64 5]) (by simp [results, Try.results60, go_sem]) rfl ⟨?_, hbl⟩; rw [HF.out]
  | true =>
    rw [hok] at HRI; have hoks : okPt a = true ∧ okPt b = true ∧ okPt c = true ∧ okPt d = true := by simpa using hok
    obtain ⟨oa, ob, oc, od⟩ := hoks; have hR2 : R = if a = b ∨ c = d then (0, 1) else (clsF a b c d, 0) := by rw [← HR.out, clsR, if_neg (by rw [hok]; simp)]
    have t1 := xturn_any a b c oa ob oc; have t2 := xturn_any a b d oa ob od; have t3 := xturn_any c d a oc od oa; have t4 := xturn_any c d b oc od ob; have t5 := sline_any a b c d; unfold clsF at hR2; have v1 := wr_sg (crs a b c) (crs a b d); have v2 := wr_sg (crs c d a) (crs c d b); generalize sg (crs a b c) = p at *; generalize sg (crs a b d) = q at *; generalize sg (crs c d a) = r at *; generalize sg (crs c d b) = s at *; generalize lineF a b c d = LN at *; have T1 := Lib.hid t1; have T2 := Lib.hid t2; have T3 := Lib.hid t3; have T4 := Lib.hid t4; have T5 := Lib.hid t5; have V1 := Lib.hid v1; have V2 := Lib.hid v2; clear t1 t2 t3 t4 t5 v1 v2 HR hok oa ob oc od; obtain ⟨ax, ay⟩ := a; obtain ⟨bx, bY⟩ := b; obtain ⟨cx, cy⟩ := c; obtain ⟨dx, dy⟩ := d; simp only [Pt.mk.injEq] at hR2; have HR2 := Lib.hid hR2; clear hR2; dsimp only [Pt.val] at *; have k0 := ((((Blk.lit w w.heap.size [.int .i64 ax, .int .i64 ay] 46 rfl).alloc (.cells #[.int .i64 bx, .int .i64 bY] 46)).alloc (.cells #[.int .i64 cx, .int .i64 cy] 46)).alloc (.cells #[.int .i64 dx, .int .i64 dy] 46)); have k1 := (((Blk.lit (w.alloc (.cells #[.int .i64 ax, .int .i64 ay] 46)) (w.heap.size + 1) [.int .i64 bx, .int .i64 bY] 46 (by simp)).alloc (.cells #[.int .i64 cx, .int .i64 cy] 46)).alloc (.cells #[.int .i64 dx, .int .i64 dy] 46)); have k2 := ((Blk.lit ((w.alloc (.cells #[.int .i64 ax, .int .i64 ay] 46)).alloc (.cells #[.int .i64 bx, .int .i64 bY] 46)) (w.heap.size + 1 + 1) [.int .i64 cx, .int .i64 cy] 46 (by simp)).alloc (.cells #[.int .i64 dx, .int .i64 dy] 46))
    have k3 := (Blk.lit (((w.alloc (.cells #[.int .i64 ax, .int .i64 ay] 46)).alloc (.cells #[.int .i64 bx, .int .i64 bY] 46)).alloc (.cells #[.int .i64 cx, .int .i64 cy] 46)) (w.heap.size + 1 + 1 + 1) [.int .i64 dx, .int .i64 dy] 46 (by simp)); have hbl := (((Below.new w (.cells #[.int .i64 ax, .int .i64 ay] 46)).alloc (by simp) (.cells #[.int .i64 bx, .int .i64 bY] 46)).alloc (by simp; omega) (.cells #[.int .i64 cx, .int .i64 cy] 46)).alloc (by simp; omega) (.cells #[.int .i64 dx, .int .i64 dy] 46); have hs := hbl.size
    go_wp2_with fail
    refine (HRI.out _ _ (Rd.lit _ _ [.int .i64 ax, .int .i64 ay, .int .i64 bx, .int .i64 bY, .int .i64 cx, .int .i64 cy, .int .i64 dx, .int .i64 dy] _ (by simp))).mono ?_; rintro e w1 ⟨rfl, hx1⟩; have k0 := (k0.alloc (.cells #[.int .i64 ax, .int .i64 ay, .int .i64 bx, .int .i64 bY, .int .i64 cx, .int .i64 cy, .int .i64 dx, .int .i64 dy] 46)).keep hx1; have k1 := (k1.alloc (.cells #[.int .i64 ax, .int .i64 ay, .int .i64 bx, .int .i64 bY, .int .i64 cx, .int .i64 cy, .int .i64 dx, .int .i64 dy] 46)).keep hx1; have k2 := (k2.alloc (.cells #[.int .i64 ax, .int .i64 ay, .int .i64 bx, .int .i64 bY, .int .i64 cx, .int .i64 cy, .int .i64 dx, .int .i64 dy] 46)).keep hx1; have k3 := (k3.alloc (.cells #[.int .i64 ax, .int .i64 ay, .int .i64 bx, .int .i64 bY, .int .i64 cx, .int .i64 cy, .int .i64 dx, .int .i64 dy] 46)).keep hx1; have hbl := (hbl.alloc hs (.cells #[.int .i64 ax, .int .i64 ay, .int .i64 bx, .int .i64 bY, .int .i64 cx, .int .i64 cy, .int .i64 dx, .int .i64 dy] 46)).trans (hx1.mono (by simp at *; omega)); have hs2 : ∀ {W}, Below w.heap.size w W → w.heap.size ≤ W.heap.size := fun h => h.size; have hs := hs2 hbl; clear HRI hx1; obtain ⟨S0, hS0⟩ : ∃ S0, w.heap.size = S0 := ⟨_, rfl⟩; rw [hS0] at k0 k1 k2 k3; rename_i K2 hK2 K1 hK1 K0 hK0; have main : ¬ ((ax = bx ∧ ay = bY) ∨ (cx = dx ∧ cy = dy)) → ¬ (((ax = cx ∧ ay = cy) ∧ bx = dx ∧ bY = dy) ∨ ((ax = dx ∧ ay = dy) ∧ bx = cx ∧ bY = cy)) → ∀ (u23 u24 u25 u26 u27 u28 u29 u30 u31 u32 u33 u34 u35 u36 u37 u38 u39 u40 u41 u42 u43 u44 u45 u46 u47 u48 u49 u50 : Value), K2 { tmps := List.toArray ((.agg #[.int .i64 ax, .int .i64 ay]) :: (.agg #[.int .i64 bx, .int .i64 bY]) :: (.agg #[.int .i64 cx, .int .i64 cy]) :: (.agg #[.int .i64 dx, .int .i64 dy]) :: (.pointer (some ⟨S0, 0, none⟩)) :: (.pointer (some ⟨S0 + 1, 0, none⟩)) :: (.pointer (some ⟨S0 + 1 + 1, 0, none⟩)) :: (.pointer (some ⟨S0 + 1 + 1 + 1, 0, none⟩)) :: (.int .i64 0) :: (.int .i64 0) :: undef :: undef :: undef :: undef :: undef :: (.bool false) :: (.agg #[.int .i64 ax, .int .i64 ay]) :: (.agg #[.int .i64 bx, .int .i64 bY]) :: (.agg #[.int .i64 cx, .int .i64 cy]) :: (.agg #[.int .i64 dx, .int .i64 dy]) :: (.slice (some ⟨S0 + 1 + 1 + 1 + 1, 0, none⟩) 4 4) :: (.bool true) :: (.bool false) :: u23 :: u24 :: u25 :: u26 :: u27 :: u28 :: u29 :: u30 :: u31 :: u32 :: u33 :: u34 :: u35 :: u36 :: u37 :: u38 :: u39 :: u40 :: u41 :: u42 :: u43 :: u44 :: u45 :: u46 :: u47 :: u48 :: u49 :: u50 :: undef :: undef :: undef :: undef :: undef :: undef :: undef :: undef :: undef :: undef :: undef :: undef :: undef :: undef :: undef :: undef :: undef :: undef :: undef :: undef :: undef :: undef :: undef :: undef :: undef :: undef :: undef :: undef :: undef :: undef :: undef :: undef :: undef :: undef :: undef :: undef :: undef :: undef :: undef :: undef :: undef :: undef :: undef :: undef :: undef :: undef :: undef :: undef :: undef :: undef :: undef :: undef :: []), defers := [] } w1 := by
      intro ne1 ne2 u23 u24 u25 u26 u27 u28 u29 u30 u31 u32 u33 u34 u35 u36 u37 u38 u39 u40 u41 u42 u43 u44 u45 u46 u47 u48 u49 u50; have hR3 := HR2.out; rw [if_neg ne1, if_neg ne2] at hR3; have HR3 := Lib.hid hR3; clear hR3 HR2 ne1 ne2; apply hK2; clear hK2 hK1 hK0
      go_wp2_with fail
      refine wp_region_lit_txt [0, 1, 2, 4, 5, 6, 8, 9] (fun W => Blk W S0 [.int .i64 ax, .int .i64 ay] ∧ Blk W (S0 + 1) [.int .i64 bx, .int .i64 bY] ∧ Blk W (S0 + 1 + 1) [.int .i64 cx, .int .i64 cy] ∧ Blk W (S0 + 1 + 1 + 1) [.int .i64 dx, .int .i64 dy]) (by kernel_rfl) (by kernel_rfl) (by kernel_rfl) ⟨k0.drew, k1.drew, k2.drew, k3.drew⟩ ?_; have k0 := k0.drew; have k1 := k1.drew; have k2 := k2.drew; have k3 := k3.drew; have hbl := hbl.drew; refine txt_light (.agg #[.int .i64 ax, .int .i64 ay]) rfl rfl ?_ ?_
      · intro w' hS; have c0 := hS.1.cell 0 rfl; have c1 := hS.1.cell 1 rfl; go_simp
      try simp only [Act.put, List.setIfInBounds_toArray, List.set_cons_zero, List.set_cons_succ]
      refine txt_light (.agg #[.int .i64 bx, .int .i64 bY]) rfl rfl ?_ ?_
      · intro w' hS; have c0 := hS.2.1.cell 0 rfl; have c1 := hS.2.1.cell 1 rfl; go_simp
      try simp only [Act.put, List.setIfInBounds_toArray, List.set_cons_zero, List.set_cons_succ]
      refine txt_light (.agg #[.int .i64 cx, .int .i64 cy]) rfl rfl ?_ ?_
      · intro w' hS; have c0 := hS.2.2.1.cell 0 rfl; have c1 := hS.2.2.1.cell 1 rfl; go_simp
      try simp only [Act.put, List.setIfInBounds_toArray, List.set_cons_zero, List.set_cons_succ]
      refine txt_call [.agg #[.int .i64 ax, .int .i64 ay], .agg #[.int .i64 bx, .int .i64 bY], .agg #[.int .i64 cx, .int .i64 cy]] Try.f79 rfl rfl Try.func79 (by kernel_rfl) (by kernel_rfl) rfl ((T1.out _).mono ?_); rintro e w2 ⟨rfl, hx2⟩; have k0 := k0.keep hx2; have k1 := k1.keep hx2; have k2 := k2.keep hx2; have k3 := k3.keep hx2; have hbl := hbl.trans (hx2.mono hs); have hs := hs2 hbl; refine ⟨_, rfl, ⟨k0, k1, k2, k3⟩, ?_⟩
      try simp only [Act.put, List.setIfInBounds_toArray, List.set_cons_zero, List.set_cons_succ]
      refine txt_light (.agg #[.int .i64 ax, .int .i64 ay]) rfl rfl ?_ ?_
      · intro w' hS; have c0 := hS.1.cell 0 rfl; have c1 := hS.1.cell 1 rfl; go_simp
      try simp only [Act.put, List.setIfInBounds_toArray, List.set_cons_zero, List.set_cons_succ]
      refine txt_light (.agg #[.int .i64 bx, .int .i64 bY]) rfl rfl ?_ ?_
      · intro w' hS; have c0 := hS.2.1.cell 0 rfl; have c1 := hS.2.1.cell 1 rfl; go_simp
      try simp only [Act.put, List.setIfInBounds_toArray, List.set_cons_zero, List.set_cons_succ]
      refine txt_light (.agg #[.int .i64 dx, .int .i64 dy]) rfl rfl ?_ ?_
      · intro w' hS; have c0 := hS.2.2.2.cell 0 rfl; have c1 := hS.2.2.2.cell 1 rfl; go_simp
      try simp only [Act.put, List.setIfInBounds_toArray, List.set_cons_zero, List.set_cons_succ]
      refine txt_call [.agg #[.int .i64 ax, .int .i64 ay], .agg #[.int .i64 bx, .int .i64 bY], .agg #[.int .i64 dx, .int .i64 dy]] Try.f79 rfl rfl Try.func79 (by kernel_rfl) (by kernel_rfl) rfl ((T2.out _).mono ?_); rintro e w3 ⟨rfl, hx3⟩; have k0 := k0.keep hx3; have k1 := k1.keep hx3; have k2 := k2.keep hx3; have k3 := k3.keep hx3; have hbl := hbl.trans (hx3.mono hs); have hs := hs2 hbl; refine ⟨_, rfl, ⟨k0, k1, k2, k3⟩, ?_⟩
      try simp only [Act.put, List.setIfInBounds_toArray, List.set_cons_zero, List.set_cons_succ]
      iterate 2 ((refine txt_light ?_ rfl rfl ?_ ?_; rotate_left; · (intro w' hS; (try dsimp only at hS); go_simp; with_reducible rfl)); try simp only [Act.put, List.setIfInBounds_toArray, List.set_cons_zero, List.set_cons_succ])
      refine txt_nil ?_; clear T1 T2 hx2 hx3
      go_wp2_with fail
      refine wp_region_lit_txt [0, 1, 2, 4, 5, 6, 8, 9] (fun W => Blk W S0 [.int .i64 ax, .int .i64 ay] ∧ Blk W (S0 + 1) [.int .i64 bx, .int .i64 bY] ∧ Blk W (S0 + 1 + 1) [.int .i64 cx, .int .i64 cy] ∧ Blk W (S0 + 1 + 1 + 1) [.int .i64 dx, .int .i64 dy]) (by kernel_rfl) (by kernel_rfl) (by kernel_rfl) ⟨k0.drew, k1.drew, k2.drew, k3.drew⟩ ?_; have k0 := k0.drew; have k1 := k1.drew; have k2 := k2.drew; have k3 := k3.drew; have hbl := hbl.drew; refine txt_light (.agg #[.int .i64 cx, .int .i64 cy]) rfl rfl ?_ ?_
      · intro w' hS; have c0 := hS.2.2.1.cell 0 rfl; have c1 := hS.2.2.1.cell 1 rfl; go_simp
      try simp only [Act.put, List.setIfInBounds_toArray, List.set_cons_zero, List.set_cons_succ]
      refine txt_light (.agg #[.int .i64 dx, .int .i64 dy]) rfl rfl ?_ ?_
      · intro w' hS; have c0 := hS.2.2.2.cell 0 rfl; have c1 := hS.2.2.2.cell 1 rfl; go_simp
      try simp only [Act.put, List.setIfInBounds_toArray, List.set_cons_zero, List.set_cons_succ]
      refine txt_light (.agg #[.int .i64 ax, .int .i64 ay]) rfl rfl ?_ ?_
      · intro w' hS; have c0 := hS.1.cell 0 rfl; have c1 := hS.1.cell 1 rfl; go_simp
      try simp only [Act.put, List.setIfInBounds_toArray, List.set_cons_zero, List.set_cons_succ]
      refine txt_call [.agg #[.int .i64 cx, .int .i64 cy], .agg #[.int .i64 dx, .int .i64 dy], .agg #[.int .i64 ax, .int .i64 ay]] Try.f79 rfl rfl Try.func79 (by kernel_rfl) (by kernel_rfl) rfl ((T3.out _).mono ?_); rintro e w4 ⟨rfl, hx4⟩; have k0 := k0.keep hx4; have k1 := k1.keep hx4; have k2 := k2.keep hx4; have k3 := k3.keep hx4; have hbl := hbl.trans (hx4.mono hs); have hs := hs2 hbl; refine ⟨_, rfl, ⟨k0, k1, k2, k3⟩, ?_⟩
      try simp only [Act.put, List.setIfInBounds_toArray, List.set_cons_zero, List.set_cons_succ]
      refine txt_light (.agg #[.int .i64 cx, .int .i64 cy]) rfl rfl ?_ ?_
      · intro w' hS; have c0 := hS.2.2.1.cell 0 rfl; have c1 := hS.2.2.1.cell 1 rfl; go_simp
      try simp only [Act.put, List.setIfInBounds_toArray, List.set_cons_zero, List.set_cons_succ]
      refine txt_light (.agg #[.int .i64 dx, .int .i64 dy]) rfl rfl ?_ ?_
      · intro w' hS; have c0 := hS.2.2.2.cell 0 rfl; have c1 := hS.2.2.2.cell 1 rfl; go_simp
      try simp only [Act.put, List.setIfInBounds_toArray, List.set_cons_zero, List.set_cons_succ]
      refine txt_light (.agg #[.int .i64 bx, .int .i64 bY]) rfl rfl ?_ ?_
      · intro w' hS; have c0 := hS.2.1.cell 0 rfl; have c1 := hS.2.1.cell 1 rfl; go_simp
      try simp only [Act.put, List.setIfInBounds_toArray, List.set_cons_zero, List.set_cons_succ]
      refine txt_call [.agg #[.int .i64 cx, .int .i64 cy], .agg #[.int .i64 dx, .int .i64 dy], .agg #[.int .i64 bx, .int .i64 bY]] Try.f79 rfl rfl Try.func79 (by kernel_rfl) (by kernel_rfl) rfl ((T4.out _).mono ?_); rintro e w5 ⟨rfl, hx5⟩; have k0 := k0.keep hx5; have k1 := k1.keep hx5; have k2 := k2.keep hx5; have k3 := k3.keep hx5; have hbl := hbl.trans (hx5.mono hs); have hs := hs2 hbl; refine ⟨_, rfl, ⟨k0, k1, k2, k3⟩, ?_⟩
      try simp only [Act.put, List.setIfInBounds_toArray, List.set_cons_zero, List.set_cons_succ]
      iterate 2 ((refine txt_light ?_ rfl rfl ?_ ?_; rotate_left; · (intro w' hS; (try dsimp only at hS); go_simp; with_reducible rfl)); try simp only [Act.put, List.setIfInBounds_toArray, List.set_cons_zero, List.set_cons_succ])
      refine txt_nil ?_; clear T3 T4 hx4 hx5; have a0 := k0.cell 0 rfl; have a1 := k0.cell 1 rfl; have b0 := k1.cell 0 rfl; have b1 := k1.cell 1 rfl; have x0 := k2.cell 0 rfl; have x1 := k2.cell 1 rfl; have y0 := k3.cell 0 rfl; have y1 := k3.cell 1 rfl
      by_cases hcol : p = 0 ∧ q = 0
      · have HF : Hid (R = (LN, 0)) := Lib.hid (by rw [HR3.out, if_pos hcol]); obtain ⟨rfl, rfl⟩ := hcol; clear HR3 V1 V2
        go_wp2_with fail
        refine (T5.out _).mono ?_; rintro e w6 ⟨rfl, hx6⟩; have hbl := hbl.trans (hx6.mono hs); go_wp2; refine bodyPost_ret (v := .tuple #[.int .i64 (LN), .int .i64 0]) (by simp [results, Try.results60, go_sem]) rfl ⟨?_, hbl⟩; rw [HF.out]
      · have hR4 := HR3.out; rw [if_neg hcol] at hR4; clear HR3 T5; obtain ⟨P, hP⟩ : ∃ P, p * q = P := ⟨_, rfl⟩; obtain ⟨Q, hQ⟩ : ∃ Q, r * s = Q := ⟨_, rfl⟩; have v1 := V1.out; have v2 := V2.out; rw [hP] at v1 hR4; rw [hQ] at v2 hR4; clear V1 V2; have HR4 := Lib.hid hR4; clear hR4; have hpq : p = 0 ∧ (q == 0) = false ∨ (p == 0) = false := by
          by_cases h : p = 0
          · exact .inl ⟨h, by simpa using fun h2 => hcol ⟨h, h2⟩⟩
          · exact .inr (by simpa using h)
        clear hcol
        rcases hpq with ⟨rfl, hq⟩ | hp
        · have hP0 : P = 0 := by rw [← hP, Int.zero_mul]
          subst hP0
          rcases Int.lt_trichotomy Q 0 with hQ0 | hQ0 | hQ0
          · have HF : Hid (R = (2, 0)) := Lib.hid (by rw [HR4.out]; first | rw [if_pos (by omega)] | (rw [if_neg (by omega)]; first | rw [if_pos (by omega), if_pos (by omega)] | rw [if_pos (by omega), if_neg (by omega)] | rw [if_neg (by omega), if_pos (by omega)] | rw [if_neg (by omega), if_neg (by omega)])); clear HR4
            try (have hPz : (P == 0) = false := by simp; omega)
            try (have hQz : (Q == 0) = false := by simp; omega)
            try (have hPd : decide (0 < P) = false := by simp; omega)
            try (have hQd : decide (0 < Q) = false := by simp; omega)
            go_wp2; refine bodyPost_ret (v := .tuple #[.int .i64 (2), .int .i64 0]) (by simp [results, Try.results60, go_sem]) rfl ⟨?_, hbl⟩; rw [HF.out]
          · have HF : Hid (R = (1, 0)) := Lib.hid (by rw [HR4.out]; first | rw [if_pos (by omega)] | (rw [if_neg (by omega)]; first | rw [if_pos (by omega), if_pos (by omega)] | rw [if_pos (by omega), if_neg (by omega)] | rw [if_neg (by omega), if_pos (by omega)] | rw [if_neg (by omega), if_neg (by omega)])); clear HR4
            try (have hPz : (P == 0) = false := by simp; omega)
            try (have hQz : (Q == 0) = false := by simp; omega)
            try (have hPd : decide (0 < P) = false := by simp; omega)
            try (have hQd : decide (0 < Q) = false := by simp; omega)
            subst hQ0; go_wp2; refine bodyPost_ret (v := .tuple #[.int .i64 (1), .int .i64 0]) (by simp [results, Try.results60, go_sem]) rfl ⟨?_, hbl⟩; rw [HF.out]
          · have HF : Hid (R = (0, 0)) := Lib.hid (by rw [HR4.out]; first | rw [if_pos (by omega)] | (rw [if_neg (by omega)]; first | rw [if_pos (by omega), if_pos (by omega)] | rw [if_pos (by omega), if_neg (by omega)] | rw [if_neg (by omega), if_pos (by omega)] | rw [if_neg (by omega), if_neg (by omega)])); clear HR4
            try (have hPz : (P == 0) = false := by simp; omega)
            try (have hQz : (Q == 0) = false := by simp; omega)
            try (have hPd : decide (0 < P) = false := by simp; omega)
            try (have hQd : decide (0 < Q) = false := by simp; omega)
            go_wp2; refine bodyPost_ret (v := .tuple #[.int .i64 (0), .int .i64 0]) (by simp [results, Try.results60, go_sem]) rfl ⟨?_, hbl⟩; rw [HF.out]
        · skip
          rcases Int.lt_trichotomy P 0 with hP0 | hP0 | hP0 <;> rcases Int.lt_trichotomy Q 0 with hQ0 | hQ0 | hQ0
          · have HF : Hid (R = (3, 0)) := Lib.hid (by rw [HR4.out]; first | rw [if_pos (by omega)] | (rw [if_neg (by omega)]; first | rw [if_pos (by omega), if_pos (by omega)] | rw [if_pos (by omega), if_neg (by omega)] | rw [if_neg (by omega), if_pos (by omega)] | rw [if_neg (by omega), if_neg (by omega)])); clear HR4
            try (have hPz : (P == 0) = false := by simp; omega)
            try (have hQz : (Q == 0) = false := by simp; omega)
            try (have hPd : decide (0 < P) = false := by simp; omega)
            try (have hQd : decide (0 < Q) = false := by simp; omega)
            go_wp2; refine bodyPost_ret (v := .tuple #[.int .i64 (3), .int .i64 0]) (by simp [results, Try.results60, go_sem]) rfl ⟨?_, hbl⟩; rw [HF.out]
          · have HF : Hid (R = (2, 0)) := Lib.hid (by rw [HR4.out]; first | rw [if_pos (by omega)] | (rw [if_neg (by omega)]; first | rw [if_pos (by omega), if_pos (by omega)] | rw [if_pos (by omega), if_neg (by omega)] | rw [if_neg (by omega), if_pos (by omega)] | rw [if_neg (by omega), if_neg (by omega)])); clear HR4
            try (have hPz : (P == 0) = false := by simp; omega)
            try (have hQz : (Q == 0) = false := by simp; omega)
            try (have hPd : decide (0 < P) = false := by simp; omega)
            try (have hQd : decide (0 < Q) = false := by simp; omega)
            subst hQ0; go_wp2; refine bodyPost_ret (v := .tuple #[.int .i64 (2), .int .i64 0]) (by simp [results, Try.results60, go_sem]) rfl ⟨?_, hbl⟩; rw [HF.out]
          · have HF : Hid (R = (0, 0)) := Lib.hid (by rw [HR4.out]; first | rw [if_pos (by omega)] | (rw [if_neg (by omega)]; first | rw [if_pos (by omega), if_pos (by omega)] | rw [if_pos (by omega), if_neg (by omega)] | rw [if_neg (by omega), if_pos (by omega)] | rw [if_neg (by omega), if_neg (by omega)])); clear HR4
            try (have hPz : (P == 0) = false := by simp; omega)
            try (have hQz : (Q == 0) = false := by simp; omega)
            try (have hPd : decide (0 < P) = false := by simp; omega)
            try (have hQd : decide (0 < Q) = false := by simp; omega)
            go_wp2; refine bodyPost_ret (v := .tuple #[.int .i64 (0), .int .i64 0]) (by simp [results, Try.results60, go_sem]) rfl ⟨?_, hbl⟩; rw [HF.out]
          · have HF : Hid (R = (2, 0)) := Lib.hid (by rw [HR4.out]; first | rw [if_pos (by omega)] | (rw [if_neg (by omega)]; first | rw [if_pos (by omega), if_pos (by omega)] | rw [if_pos (by omega), if_neg (by omega)] | rw [if_neg (by omega), if_pos (by omega)] | rw [if_neg (by omega), if_neg (by omega)])); clear HR4
            try (have hPz : (P == 0) = false := by simp; omega)
            try (have hQz : (Q == 0) = false := by simp; omega)
            try (have hPd : decide (0 < P) = false := by simp; omega)
            try (have hQd : decide (0 < Q) = false := by simp; omega)
            subst hP0; go_wp2; refine bodyPost_ret (v := .tuple #[.int .i64 (2), .int .i64 0]) (by simp [results, Try.results60, go_sem]) rfl ⟨?_, hbl⟩; rw [HF.out]
          · have HF : Hid (R = (1, 0)) := Lib.hid (by rw [HR4.out]; first | rw [if_pos (by omega)] | (rw [if_neg (by omega)]; first | rw [if_pos (by omega), if_pos (by omega)] | rw [if_pos (by omega), if_neg (by omega)] | rw [if_neg (by omega), if_pos (by omega)] | rw [if_neg (by omega), if_neg (by omega)])); clear HR4
            try (have hPz : (P == 0) = false := by simp; omega)
            try (have hQz : (Q == 0) = false := by simp; omega)
            try (have hPd : decide (0 < P) = false := by simp; omega)
            try (have hQd : decide (0 < Q) = false := by simp; omega)
            subst hP0; subst hQ0; go_wp2; refine bodyPost_ret (v := .tuple #[.int .i64 (1), .int .i64 0]) (by simp [results, Try.results60, go_sem]) rfl ⟨?_, hbl⟩; rw [HF.out]
          · have HF : Hid (R = (0, 0)) := Lib.hid (by rw [HR4.out]; first | rw [if_pos (by omega)] | (rw [if_neg (by omega)]; first | rw [if_pos (by omega), if_pos (by omega)] | rw [if_pos (by omega), if_neg (by omega)] | rw [if_neg (by omega), if_pos (by omega)] | rw [if_neg (by omega), if_neg (by omega)])); clear HR4
            try (have hPz : (P == 0) = false := by simp; omega)
            try (have hQz : (Q == 0) = false := by simp; omega)
            try (have hPd : decide (0 < P) = false := by simp; omega)
            try (have hQd : decide (0 < Q) = false := by simp; omega)
            subst hP0; go_wp2; refine bodyPost_ret (v := .tuple #[.int .i64 (0), .int .i64 0]) (by simp [results, Try.results60, go_sem]) rfl ⟨?_, hbl⟩; rw [HF.out]
          · have HF : Hid (R = (0, 0)) := Lib.hid (by rw [HR4.out]; first | rw [if_pos (by omega)] | (rw [if_neg (by omega)]; first | rw [if_pos (by omega), if_pos (by omega)] | rw [if_pos (by omega), if_neg (by omega)] | rw [if_neg (by omega), if_pos (by omega)] | rw [if_neg (by omega), if_neg (by omega)])); clear HR4
            try (have hPz : (P == 0) = false := by simp; omega)
            try (have hQz : (Q == 0) = false := by simp; omega)
            try (have hPd : decide (0 < P) = false := by simp; omega)
            try (have hQd : decide (0 < Q) = false := by simp; omega)
            go_wp2; refine bodyPost_ret (v := .tuple #[.int .i64 (0), .int .i64 0]) (by simp [results, Try.results60, go_sem]) rfl ⟨?_, hbl⟩; rw [HF.out]
          · have HF : Hid (R = (0, 0)) := Lib.hid (by rw [HR4.out]; first | rw [if_pos (by omega)] | (rw [if_neg (by omega)]; first | rw [if_pos (by omega), if_pos (by omega)] | rw [if_pos (by omega), if_neg (by omega)] | rw [if_neg (by omega), if_pos (by omega)] | rw [if_neg (by omega), if_neg (by omega)])); clear HR4
            try (have hPz : (P == 0) = false := by simp; omega)
            try (have hQz : (Q == 0) = false := by simp; omega)
            try (have hPd : decide (0 < P) = false := by simp; omega)
            try (have hQd : decide (0 < Q) = false := by simp; omega)
            subst hQ0; go_wp2; refine bodyPost_ret (v := .tuple #[.int .i64 (0), .int .i64 0]) (by simp [results, Try.results60, go_sem]) rfl ⟨?_, hbl⟩; rw [HF.out]
          · have HF : Hid (R = (0, 0)) := Lib.hid (by rw [HR4.out]; first | rw [if_pos (by omega)] | (rw [if_neg (by omega)]; first | rw [if_pos (by omega), if_pos (by omega)] | rw [if_pos (by omega), if_neg (by omega)] | rw [if_neg (by omega), if_pos (by omega)] | rw [if_neg (by omega), if_neg (by omega)])); clear HR4
            try (have hPz : (P == 0) = false := by simp; omega)
            try (have hQz : (Q == 0) = false := by simp; omega)
            try (have hPd : decide (0 < P) = false := by simp; omega)
            try (have hQd : decide (0 < Q) = false := by simp; omega)
            go_wp2; refine bodyPost_ret (v := .tuple #[.int .i64 (0), .int .i64 0]) (by simp [results, Try.results60, go_sem]) rfl ⟨?_, hbl⟩; rw [HF.out]
    clear hK2 T1 T2 T3 T4 T5 V1 V2; have a0 := k0.cell 0 rfl; have a1 := k0.cell 1 rfl; have b0 := k1.cell 0 rfl; have b1 := k1.cell 1 rfl; have x0 := k2.cell 0 rfl; have x1 := k2.cell 1 rfl; have y0 := k3.cell 0 rfl; have y1 := k3.cell 1 rfl; go_wp2
    all_goals try subst_vars
    all_goals first
      | exact main (by omega) (by omega) _ _ _ _ _ _ _ _ _ _ _ _ _ _ _ _ _ _ _ _ _ _ _ _ _ _ _ _
      | (refine bodyPost_ret (v := .tuple #[.int .i64 0, .int .i64 1]) (by simp [results, Try.results60, go_sem]) rfl ⟨?_, by assumption⟩
         first | rw [HR2.out, if_pos (by omega)] | rw [if_pos (by omega)])
      | (refine bodyPost_ret (v := .tuple #[.int .i64 5, .int .i64 0]) (by simp [results, Try.results60, go_sem]) rfl ⟨?_, by assumption⟩
         first | rw [HR2.out, if_neg (by omega), if_pos (by omega)] | rw [if_neg (by omega), if_pos (by omega)])
end Go.Proofs.Ytccamjnomjcchaa
/- How edges may meet (plain). -/
set_option linter.unusedVariables false
set_option linter.unusedSimpArgs false
namespace Go
open Go.RowKit
def edBx (e : Ed) : Bx := boxOf e.s.a e.s.b
def clsE (a b : Ed) : Int := (clsR a.s.a a.s.b b.s.a b.s.b).1
def badR (a b : Ed) : Prop := (nextF a b = true ∧ clsE a b ≠ 1) ∨ (nextF a b = false ∧ a.g = b.g ∧ clsE a b ≠ 0)
def badM (a b : Ed) : Prop := nextF a b = false ∧ a.g ≠ b.g ∧ clsE a b ≠ 0 ∧ clsE a b ≠ 1 ∧ clsE a b ≠ 5
theorem badR_next {a b : Ed} (h : nextF a b = true) : badR a b ↔ clsE a b ≠ 1 := by
  unfold badR; rw [h]; simp
theorem badR_ring {a b : Ed} (h : nextF a b = false) (hg : a.g = b.g) : badR a b ↔ clsE a b ≠ 0 := by
  unfold badR; rw [h]; simp [hg]
theorem badR_two {a b : Ed} (h : nextF a b = false) (hg : a.g ≠ b.g) : ¬ badR a b := by
  unfold badR; rw [h]; simp [hg]
theorem badM_next {a b : Ed} (h : nextF a b = true) : ¬ badM a b := by
  unfold badM; rw [h]; simp
theorem badM_ring {a b : Ed} (hg : a.g = b.g) : ¬ badM a b := by
  unfold badM; simp [hg]
theorem badM_two {a b : Ed} (h : nextF a b = false) (hg : a.g ≠ b.g) : badM a b ↔ clsE a b ≠ 0 ∧ clsE a b ≠ 1 ∧ clsE a b ≠ 5 := by
  unfold badM; rw [h]; simp [hg]
def somePair (L : List Ed) (P : Ed → Ed → Prop) : Prop := ∃ i j : Nat, i < j ∧ ∃ (hi : i < L.length) (hj : j < L.length), meetF (edBx L[i]) (edBx L[j]) = true ∧ P L[i] L[j]
def MeetsIs (L : List Ed) (x : Int) : Prop := (x = 9 ∧ somePair L badR) ∨ (x = 10 ∧ ¬ somePair L badR ∧ somePair L badM) ∨ (x = 0 ∧ ¬ somePair L badR ∧ ¬ somePair L badM)
def PairAt (L : List Ed) (Lp : List (Int × Int)) (k : Nat) (o : Int) : Prop :=
  (∀ p ∈ Lp.take k, ¬ badR L[p.1.toNat]! L[p.2.toNat]!) ∧ ((o = 10 ∧ ∃ p ∈ Lp.take k, badM L[p.1.toNat]! L[p.2.toNat]!) ∨ (o = 0 ∧ ∀ p ∈ Lp.take k, ¬ badM L[p.1.toNat]! L[p.2.toNat]!))
theorem PairAt.zero (L : List Ed) (Lp : List (Int × Int)) : PairAt L Lp 0 0 := ⟨by simp, .inr ⟨rfl, by simp⟩⟩
theorem PairAt.good {L : List Ed} {Lp : List (Int × Int)} {k : Nat} {o : Int} (h : PairAt L Lp k o) {p : Int × Int} (hp : Lp[k]? = some p) (h1 : ¬ badR L[p.1.toNat]! L[p.2.toNat]!) (h2 : ¬ badM L[p.1.toNat]! L[p.2.toNat]!) : PairAt L Lp (k + 1) o := by
  obtain ⟨hk, rfl⟩ := List.getElem?_eq_some_iff.1 hp; unfold PairAt; rw [List.take_succ_eq_append_getElem hk]; refine ⟨fun q hq => ?_, ?_⟩
  · rcases List.mem_append.1 hq with hq | hq
    · exact h.1 q hq
    · rw [List.mem_singleton.1 hq]; exact h1
  · rcases h.2 with ⟨h3, q, hq, h4⟩ | ⟨h3, h4⟩
    · exact .inl ⟨h3, q, List.mem_append_left _ hq, h4⟩
    · refine .inr ⟨h3, fun q hq => ?_⟩
      rcases List.mem_append.1 hq with hq | hq
      · exact h4 q hq
      · rw [List.mem_singleton.1 hq]; exact h2
theorem PairAt.bad {L : List Ed} {Lp : List (Int × Int)} {k : Nat} {o : Int} (h : PairAt L Lp k o) {p : Int × Int} (hp : Lp[k]? = some p) (h1 : ¬ badR L[p.1.toNat]! L[p.2.toNat]!) (h2 : badM L[p.1.toNat]! L[p.2.toNat]!) : PairAt L Lp (k + 1) 10 := by
  obtain ⟨hk, rfl⟩ := List.getElem?_eq_some_iff.1 hp; unfold PairAt; rw [List.take_succ_eq_append_getElem hk]; refine ⟨fun q hq => ?_, .inl ⟨rfl, _, List.mem_append_right _ (List.mem_singleton_self _), h2⟩⟩
  rcases List.mem_append.1 hq with hq | hq
  · exact h.1 q hq
  · rw [List.mem_singleton.1 hq]; exact h1
theorem pair_some {L : List Ed} {Lp : List (Int × Int)} (hP : PairsTo (L.map edBx) (L.map edBx).length Lp) (P : Ed → Ed → Prop) : (∃ p ∈ Lp, P L[p.1.toNat]! L[p.2.toNat]!) ↔ somePair L P := by
  constructor
  · rintro ⟨p, hp, h⟩; obtain ⟨i, j, rfl, -, h1, hi, hj, hm⟩ := (hP p).1 hp; rw [List.length_map] at hi hj; simp only [Int.toNat_natCast] at h; rw [getElem!_pos L i hi, getElem!_pos L j hj] at h; simp only [List.getElem_map] at hm; exact ⟨i, j, h1, hi, hj, hm, h⟩
  · rintro ⟨i, j, h1, hi, hj, hm, h⟩; refine ⟨((i : Int), (j : Int)), (hP _).2 ⟨i, j, rfl, by rw [List.length_map]; exact hi, h1, by rw [List.length_map]; exact hi, by rw [List.length_map]; exact hj, by simp only [List.getElem_map]; exact hm⟩, ?_⟩; simp only [Int.toNat_natCast]; rw [getElem!_pos L i hi, getElem!_pos L j hj]; exact h
theorem PairAt.done {L : List Ed} {Lp : List (Int × Int)} {o : Int} (hP : PairsTo (L.map edBx) (L.map edBx).length Lp) (h : PairAt L Lp Lp.length o) : MeetsIs L o := by
  obtain ⟨h1, h2⟩ := h; rw [List.take_length] at h1 h2; have hr : ¬ somePair L badR := fun hs => by
    obtain ⟨p, hp, hb⟩ := (pair_some hP badR).2 hs; exact h1 p hp hb
  rcases h2 with ⟨rfl, p, hp, hb⟩ | ⟨rfl, h2⟩
  · exact .inr (.inl ⟨rfl, hr, (pair_some hP badM).1 ⟨p, hp, hb⟩⟩)
  · refine .inr (.inr ⟨rfl, hr, fun hs => ?_⟩); obtain ⟨p, hp, hb⟩ := (pair_some hP badM).2 hs; exact h2 p hp hb
theorem pair_ring {L : List Ed} {Lp : List (Int × Int)} {k : Nat} {p : Int × Int} (hP : PairsTo (L.map edBx) (L.map edBx).length Lp) (hp : Lp[k]? = some p) (h : badR L[p.1.toNat]! L[p.2.toNat]!) : MeetsIs L 9 :=
  .inl ⟨rfl, (pair_some hP badR).1 ⟨p, List.mem_of_getElem? hp, h⟩⟩
theorem pair_idx {L : List Ed} {Lp : List (Int × Int)} {k : Nat} {p : Int × Int} (hP : PairsTo (L.map edBx) (L.map edBx).length Lp) (hp : Lp[k]? = some p) : ∃ i j : Nat, p = ((i : Int), (j : Int)) ∧ i < L.length ∧ j < L.length := by
  obtain ⟨i, j, rfl, -, h1, hi, hj, -⟩ := (hP p).1 (List.mem_of_getElem? hp); rw [List.length_map] at hi hj; exact ⟨i, j, rfl, hi, hj⟩
theorem edBx_ok {L : List Ed} (hok : ∀ e ∈ L, okPt e.s.a = true ∧ okPt e.s.b = true) : ∀ b ∈ L.map edBx, b.Ok := by
  intro b hb; obtain ⟨e, he, rfl⟩ := List.mem_map.1 hb; exact boxOf_ok _ _ (hok e he).1 (hok e he).2
theorem p2s_get {L : List (Int × Int)} {k : Nat} {p : Int × Int} (h : L[k]? = some p) : (L.flatMap fun p => [Value.int .i64 p.1, .int .i64 p.2])[k * 2]? = some (.int .i64 p.1) ∧ (L.flatMap fun p => [Value.int .i64 p.1, .int .i64 p.2])[k * 2 + 1]? = some (.int .i64 p.2) := by
  obtain ⟨hk, rfl⟩ := List.getElem?_eq_some_iff.1 h; have h0 := flatMap_get (fun p : Int × Int => [Value.int .i64 p.1, .int .i64 p.2]) 2 (fun _ => rfl) L k 0 hk (by omega); have h1 := flatMap_get (fun p : Int × Int => [Value.int .i64 p.1, .int .i64 p.2]) 2 (fun _ => rfl) L k 1 hk (by omega); exact ⟨h0, h1⟩
end Go
/- cover.twice. -/
set_option linter.unusedVariables false
set_option linter.unusedSimpArgs false
set_option maxRecDepth 100000
namespace Go
open Go.RowKit
def Ed.key (e : Ed) : Pt × Pt := (e.s.a, e.s.b)
def Ed.Wf (e : Ed) : Prop := e.s.a.Wf ∧ e.s.b.Wf
def twiceF (l : List Ed) : Bool := !decide (l.map Ed.key).Nodup
theorem Rd.ed {w : World} {a : Option Addr} {l : List Ed} (h : Rd w a (eds l)) (i : Nat) (hi : i < l.length) :
    ∃ b off, a = some ⟨b, off, none⟩ ∧ b < w.heap.size ∧ w.cell? ⟨b, off + i * 9, none⟩ = some (.int .i64 l[i].s.f) ∧ w.cell? ⟨b, off + i * 9 + 1, none⟩ = some (.int .i64 l[i].s.r) ∧ w.cell? ⟨b, off + i * 9 + 2, none⟩ = some (.int .i64 l[i].s.a.x) ∧ w.cell? ⟨b, off + i * 9 + 3, none⟩ = some (.int .i64 l[i].s.a.y) ∧ w.cell? ⟨b, off + i * 9 + 4, none⟩ = some (.int .i64 l[i].s.b.x) ∧ w.cell? ⟨b, off + i * 9 + 5, none⟩ = some (.int .i64 l[i].s.b.y) ∧ w.cell? ⟨b, off + i * 9 + 6, none⟩ = some (.int .i64 l[i].g) ∧ w.cell? ⟨b, off + i * 9 + 7, none⟩ = some (.int .i64 l[i].n) ∧ w.cell? ⟨b, off + i * 9 + 8, none⟩ = some (.int .i64 l[i].m) := by
  have g : ∀ j, j < 9 → (eds l)[i * 9 + j]? = (l[i]).cells[j]? := fun j hj => flatMap_get Ed.cells 9 (fun _ => rfl) l i j hi hj; obtain ⟨b, off, rfl, h0, hb⟩ := h.at (i := i * 9 + 0) (v := .int .i64 l[i].s.f) (by rw [g 0 (by omega)]; rfl); obtain ⟨b', off', e, h1, -⟩ := h.at (i := i * 9 + 1) (v := .int .i64 l[i].s.r) (by rw [g 1 (by omega)]; rfl)
  cases e
  obtain ⟨b', off', e, h2, -⟩ := h.at (i := i * 9 + 2) (v := .int .i64 l[i].s.a.x) (by rw [g 2 (by omega)]; rfl)
  cases e
  obtain ⟨b', off', e, h3, -⟩ := h.at (i := i * 9 + 3) (v := .int .i64 l[i].s.a.y) (by rw [g 3 (by omega)]; rfl)
  cases e
  obtain ⟨b', off', e, h4, -⟩ := h.at (i := i * 9 + 4) (v := .int .i64 l[i].s.b.x) (by rw [g 4 (by omega)]; rfl)
  cases e
  obtain ⟨b', off', e, h5, -⟩ := h.at (i := i * 9 + 5) (v := .int .i64 l[i].s.b.y) (by rw [g 5 (by omega)]; rfl)
  cases e
  obtain ⟨b', off', e, h6, -⟩ := h.at (i := i * 9 + 6) (v := .int .i64 l[i].g) (by rw [g 6 (by omega)]; rfl)
  cases e
  obtain ⟨b', off', e, h7, -⟩ := h.at (i := i * 9 + 7) (v := .int .i64 l[i].n) (by rw [g 7 (by omega)]; rfl)
  cases e
  obtain ⟨b', off', e, h8, -⟩ := h.at (i := i * 9 + 8) (v := .int .i64 l[i].m) (by rw [g 8 (by omega)]; rfl)
  cases e
  refine ⟨b, off, rfl, hb, h0, ?_, ?_, ?_, ?_, ?_, ?_, ?_, ?_⟩ <;> (rw [Nat.add_assoc]; assumption)
end Go
namespace Go.Proofs.Ytccamjnomjcchaa
open Go.RowKit
set_option maxHeartbeats 3200000 in
theorem twice_any (a : Option Addr) (c : Nat) (l : List Ed) (hlen : l.length ≤ 1000000) (hwf : ∀ e ∈ l, e.Wf) (w : World) (hr : Rd w a (eds l)) :
    Calls Try.prog 33 #[.slice a l.length c] w fun e w' => e = .returned (.bool (twiceF l)) ∧ Below w.heap.size w w' := by
  have HR := Lib.hid hr; have HWF := Lib.hid hwf; obtain ⟨SF, hSF⟩ : ∃ S, twiceF l = S := ⟨_, rfl⟩; have HSF := Lib.hid hSF; rw [hSF]; obtain ⟨N, hN⟩ : ∃ N, l.length = N := ⟨_, rfl⟩; have HN := Lib.hid hN; rw [hN] at hlen ⊢; have hmm := @run_makeMap Try.prog; have hS0 := VSet.made Try.prog 83 Pt2.val w _ rfl; have hb0 := (Below.refl w.heap.size w).alloc (Nat.le_refl _) (.map #[] 0); obtain ⟨KS, hKS⟩ : ∃ K, l.map Ed.key = K := ⟨_, rfl⟩; have HKS := Lib.hid hKS; have hKN : KS.length = N := by rw [← hKS, List.length_map, hN]
  clear hr hwf hSF hN hKS
  go_enter Try.func33, Try.ntmps33
  go_wp2; generalize w.alloc (.map #[] 0) = w0 at *
  go_loopw [9] (fun i wr => ∃ (k : Nat), k ≤ N ∧ i = .int .i64 k ∧ Hid (VSet Try.prog 83 Pt2.val wr w.heap.size (KS.take k)) ∧ Below w.heap.size w wr) (fun i _ => N - (intOf i).toNat)
  case atStart => exact ⟨0, by omega, rfl, Lib.hid hS0, hb0⟩
  case round =>
    obtain ⟨k, hk, rfl, HS, hbl⟩ := hrel
    by_cases h1 : k < N
    · have h1' : (k : Int) < (N : Int) := by omega
      have hkl : k < l.length := by rw [HN.out]; exact h1
      obtain ⟨b, off, rfl, hbb, c0, c1, c2, c3, c4, c5, c6, c7, c8⟩ := (HR.out.keep hbl).ed k hkl; have HT : Hid (KS.take (k + 1) = KS.take k ++ [l[k].key]) := Lib.hid (by rw [List.take_succ_eq_append_getElem (by omega)]; simp only [← HKS.out, List.getElem_map]); obtain ⟨hwa, hwb⟩ := HWF.out _ (List.getElem_mem hkl); have HKEY := Lib.hid (k13.pt2Key l[k].key hwa hwb); have HKL : Hid ((KS.take k).length = k) := Lib.hid (by rw [List.length_take]; omega); generalize l[k] = p at *; obtain ⟨⟨f1, r1, ⟨x1, y1⟩, ⟨x2, y2⟩⟩, g1, n1, m1⟩ := p; dsimp only [Ed.key] at c0 c1 c2 c3 c4 c5 c6 c7 c8 HKEY HT; have hs := hbl.size; clear hwa hwb
      go_wp2_with (first | (at_mapUpdate; refine wpList_vset_put _ rfl _ _ _ rfl k13.pt2 Pt2.inj Try.underlying114 rfl (b := w.heap.size) (l := KS.take k) ?_ (by rw [HKL.out]; unfold maxLen; omega) (⟨x1, y1⟩, ⟨x2, y2⟩) rfl HKEY.out rfl ?_) | fail)
      · exact HS.out.kept (World.grownBy_alloc wr _ none) (by simp)
      · intro w' hS' hg'; have hb2 := (hbl.alloc hs (.cells #[.int .i64 f1, .int .i64 r1, .int .i64 x1, .int .i64 y1, .int .i64 x2, .int .i64 y2, .int .i64 g1, .int .i64 n1, .int .i64 m1] 100)).grown hg' (by simp; omega) (fun j hj => by cases hj; exact Nat.le_refl _); rw [← HT.out] at hS'; clear HT HKEY HS hbl hg' c0 c1 c2 c3 c4 c5 c6 c7 c8; go_wp2; exact ⟨⟨k + 1, by omega, by go_num, Lib.hid hS', hb2⟩, by simp [intOf]; omega⟩
    · have h1' : ¬ (k : Int) < (N : Int) := by omega
      have hall : Hid (KS.take k = KS) := Lib.hid (List.take_of_length_le (by omega)); obtain ⟨m, hV, hm, hiff⟩ := HS.out; rw [hall.out] at hV hm hiff; rw [hKN] at hm hiff; have hlq := hV.len Try.underlying114 3; rw [← HKS.out] at hiff; clear hV HS hall hKN
      by_cases h3 : m = N
      · have h3' : ¬ (m : Int) < (N : Int) := by omega
        have hnd : decide (l.map Ed.key).Nodup = true := decide_eq_true (hiff.1 h3); have HSV : Hid (SF = false) := Lib.hid (by rw [← HSF.out]; unfold twiceF; rw [hnd]; rfl); clear hiff hnd; go_wp2; go_ret; exact ⟨ret_bool (by rw [HSV.out]), hbl⟩
      · have h3' : (m : Int) < (N : Int) := by omega
        have HSV : Hid (SF = true) := Lib.hid (by
          rw [← HSF.out]; unfold twiceF; rw [decide_eq_false (fun h => h3 (hiff.2 h))]; rfl)
        clear hiff; go_wp2; go_ret; exact ⟨ret_bool (by rw [HSV.out]), hbl⟩
end Go.Proofs.Ytccamjnomjcchaa
/- A call of a function value, inside a region that draws its order. -/
set_option linter.unusedVariables false
set_option linter.unusedSimpArgs false
namespace Go
open Go.RowKit
section
variable {P : Program} {ops : Array Oper} {lt : Nat → Bool} {Q : Exit → Act → World → Prop} {S : World → Prop} {z : Option Nat}
theorem txt_callv {k : Nat} {rest : List Oper} {a : Act} {w : World} {dst : Option Tmp} {ty : TypeId} {pos : String} {after : Array Edge} {guard : Option (Nat × Bool)} {x : Operand} {f : FuncId} {args : Array Operand} {ats : Array TypeId} (bs : List Value) (vs : List Value) (fn : Func) (hl : lt k = false)
    (hw : Region.wanted { dst := dst, op := .call { callee := .value x, args := args, argTypes := ats }, type := ty, pos := pos, after := after, guard := guard } (yielded ops a.tmps) = true)
    (hx : a.eval x = .func (.func f) #[] bs.toArray) (hfn : P.funcs[f]? = some fn) (hn : (fn.name == "runtime.NumGoroutine") = false) (hb : fn.body.isNone = false) (hvs : args.toList.map a.eval = vs)
    (h : Calls P f (vs ++ bs).toArray w fun e w' => ∃ v, e = .returned v ∧ S w' ∧ wpTxtL P ops lt Q S z (k + 1) rest (a.put dst v) w') :
    wpTxtL P ops lt Q S z k ({ dst := dst, op := .call { callee := .value x, args := args, argTypes := ats }, type := ty, pos := pos, after := after, guard := guard } :: rest) a w := by
  refine txt_heavy hl hw (fun K hK => ?_); unfold Oper.wp; have e : execOp a.eval { dst := dst, op := .call { callee := .value x, args := args, argTypes := ats }, type := ty, pos := pos, after := after, guard := guard } = callFunc f (vs ++ bs).toArray := by
    have e1 : args.map a.eval = vs.toArray := by rw [← hvs]; apply Array.ext'; simp
    unfold execOp; simp only [resolve, hx, Deferred.ofValue, invoke, e1]; simp
  rw [e, run_callFunc _ _ hfn hn hb]; rw [Oper.upon_enter]; refine Calls.mono h ?_; rintro e w' ⟨v, rfl, hS, hn⟩; exact hK.out _ _ hS hn
end
end Go
