/-
  SegTurned: the walk.
-/
import Derived.Test.YtoellhmoghgmlaaSword
import Derived.Test.YtoellhmoghgmlaaSturnp
import Derived.Test.YtoellhmoghgmlaaOpenP
set_option linter.unusedVariables false
set_option linter.unusedSimpArgs false
set_option maxRecDepth 100000
namespace Go.Proofs.Ytoellhmoghgmlaa
open Go.RowKit
set_option maxHeartbeats 3200000 in
theorem sturned_walk (a b c d : Pt) (xa ya : Option Addr) (xc yc : Nat) (XS YS : List Int) (hxl : XS.length ≤ xc) (hyl : YS.length ≤ yc) (hxm : xc ≤ maxLen) (hym : yc ≤ maxLen) (w : World) (hxr : Rd w xa (XS.map (Value.int .i64))) (hyr : Rd w ya (YS.map (Value.int .i64))) :
    Calls Try.prog 4 #[a.val, b.val, c.val, d.val, .slice xa XS.length xc, .slice ya YS.length yc] w fun e w' => e = .returned (.bool true) ∧ Below w.heap.size w w' := by
  have s1 := sclass_any a b c d
  have s2 := sclass_any c d a b
  have s3 := sclass_any b a c d
  rw [clsR_segs] at s2
  rw [clsR_ends] at s3
  generalize clsR a b c d = R at *
  have hxt : Rd w xa ((XS.take 20).map (Value.int .i64)) := by rw [List.map_take]; exact hxr.take 20
  have hyt : Rd w ya ((YS.take 20).map (Value.int .i64)) := by rw [List.map_take]; exact hyr.take 20
  have hxn : (XS.take 20).length = min XS.length 20 := by simp; omega
  have hyn : (YS.take 20).length = min YS.length 20 := by simp; omega
  generalize XS.take 20 = xs at *
  generalize YS.take 20 = ys at *
  generalize XS.length = nx at *
  generalize YS.length = ny at *
  have hzx : (if (20 : Int) < (nx : Int) then (20 : Int) else (nx : Int)) = (xs.length : Int) := by split <;> omega
  have hzy : (if (20 : Int) < (ny : Int) then (20 : Int) else (ny : Int)) = (ys.length : Int) := by split <;> omega
  have hlx : xs.length ≤ xc := by omega
  have hly : ys.length ≤ yc := by omega
  have CT1 := Lib.hid (fun w hx hy => cuts_any a b xa ya xc yc xs ys (by unfold sortMax; omega) w hx hy)
  have CT2 := Lib.hid (fun w hx hy => cuts_any b a xa ya xc yc xs ys (by unfold sortMax; omega) w hx hy)
  have CT2 := Lib.hid (fun w hx hy => by have := CT2.out w hx hy; rw [cutsF_ends] at this; exact this)
  have hclen : (cutsF a b xs ys).length ≤ 40 := by have := cutsF_len a b xs ys; omega
  generalize cutsF a b xs ys = CU at *
  obtain ⟨lx, hlxe⟩ : ∃ n, xs.length = n := ⟨_, rfl⟩
  obtain ⟨ly, hlye⟩ : ∃ n, ys.length = n := ⟨_, rfl⟩
  rw [hlxe] at hzx hlx CT1 CT2
  rw [hlye] at hzy hly CT1 CT2
  clear hxn hyn hlxe hlye hxl hyl
  obtain ⟨ax, ay⟩ := a
  obtain ⟨bx, bY⟩ := b
  obtain ⟨cx, cy⟩ := c
  obtain ⟨dx, dy⟩ := d
  obtain ⟨R1, R2⟩ := R
  dsimp only [Pt.val] at *
  have S1 := Lib.hid s1
  have S2 := Lib.hid s2
  have S3 := Lib.hid s3
  clear s1 s2 s3 hxr hyr
  have ka := ((((Blk.lit w w.heap.size [.int .i64 ax, .int .i64 ay] 23 rfl).alloc (.cells #[.int .i64 bx, .int .i64 bY] 23)).alloc (.cells #[.int .i64 cx, .int .i64 cy] 23)).alloc (.cells #[.int .i64 dx, .int .i64 dy] 23))
  have kb := (((Blk.lit (w.alloc (.cells #[.int .i64 ax, .int .i64 ay] 23)) (w.heap.size + 1) [.int .i64 bx, .int .i64 bY] 23 (by simp)).alloc (.cells #[.int .i64 cx, .int .i64 cy] 23)).alloc (.cells #[.int .i64 dx, .int .i64 dy] 23))
  have kc := ((Blk.lit ((w.alloc (.cells #[.int .i64 ax, .int .i64 ay] 23)).alloc (.cells #[.int .i64 bx, .int .i64 bY] 23)) (w.heap.size + 1 + 1) [.int .i64 cx, .int .i64 cy] 23 (by simp)).alloc (.cells #[.int .i64 dx, .int .i64 dy] 23))
  have kd := (Blk.lit (((w.alloc (.cells #[.int .i64 ax, .int .i64 ay] 23)).alloc (.cells #[.int .i64 bx, .int .i64 bY] 23)).alloc (.cells #[.int .i64 cx, .int .i64 cy] 23)) (w.heap.size + 1 + 1 + 1) [.int .i64 dx, .int .i64 dy] 23 (by simp))
  have hb0 := ((((Below.new w (.cells #[.int .i64 ax, .int .i64 ay] 23)).alloc (by simp) (.cells #[.int .i64 bx, .int .i64 bY] 23)).alloc (by simp; omega) (.cells #[.int .i64 cx, .int .i64 cy] 23)).alloc (by simp; omega) (.cells #[.int .i64 dx, .int .i64 dy] 23))
  go_enter Try.func4, Try.ntmps4
  obtain ⟨wA, hwA⟩ : ∃ wA, ((((w.alloc (.cells #[.int .i64 ax, .int .i64 ay] 23)).alloc (.cells #[.int .i64 bx, .int .i64 bY] 23)).alloc (.cells #[.int .i64 cx, .int .i64 cy] 23)).alloc (.cells #[.int .i64 dx, .int .i64 dy] 23)) = wA := ⟨_, rfl⟩
  rw [hwA] at ka kb kc kd hb0
  have hs0 := hb0.size
  go_step
  go_step
  rename_i K0 hK0
  replace hK0 := Lib.hid hK0
  go_wp2
  refine hK0.out _ _ ?_
  clear hK0
  try rw [hwA]
  clear hwA
  have ca0 := ka.cell 0 rfl
  have ca1 := ka.cell 1 rfl
  have cb0 := kb.cell 0 rfl
  have cb1 := kb.cell 1 rfl
  have cc0 := kc.cell 0 rfl
  have cc1 := kc.cell 1 rfl
  have cd0 := kd.cell 0 rfl
  have cd1 := kd.cell 1 rfl
  go_wp2_with fail
  refine (S1.out _).mono ?_
  rintro e w1 ⟨rfl, hx1⟩
  have hb1 := hb0.trans (hx1.mono hb0.size)
  clear ca0 ca1 cb0 cb1 cc0 cc1 cd0 cd1
  have ka := ka.keep hx1
  have kb := kb.keep hx1
  have kc := kc.keep hx1
  have kd := kd.keep hx1
  clear hx1 S1
  have ca0 := ka.cell 0 rfl
  have ca1 := ka.cell 1 rfl
  have cb0 := kb.cell 0 rfl
  have cb1 := kb.cell 1 rfl
  have cc0 := kc.cell 0 rfl
  have cc1 := kc.cell 1 rfl
  have cd0 := kd.cell 0 rfl
  have cd1 := kd.cell 1 rfl
  go_wp2_with fail
  refine (S2.out _).mono ?_
  rintro e w2 ⟨rfl, hx2⟩
  have hb2 := hb1.trans (hx2.mono hb1.size)
  clear ca0 ca1 cb0 cb1 cc0 cc1 cd0 cd1
  have ka := ka.keep hx2
  have kb := kb.keep hx2
  have kc := kc.keep hx2
  have kd := kd.keep hx2
  clear hx2 S2
  have ca0 := ka.cell 0 rfl
  have ca1 := ka.cell 1 rfl
  have cb0 := kb.cell 0 rfl
  have cb1 := kb.cell 1 rfl
  have cc0 := kc.cell 0 rfl
  have cc1 := kc.cell 1 rfl
  have cd0 := kd.cell 0 rfl
  have cd1 := kd.cell 1 rfl
  go_wp2_with fail
  refine (S3.out _).mono ?_
  rintro e w3 ⟨rfl, hx3⟩
  have hb3 := hb2.trans (hx3.mono hb2.size)
  clear ca0 ca1 cb0 cb1 cc0 cc1 cd0 cd1
  have ka := ka.keep hx3
  have kb := kb.keep hx3
  have kc := kc.keep hx3
  have kd := kd.keep hx3
  clear hx3 S3
  have hs3 := hb3.size
  go_wp2_with fail
  go_quiet (fail)
  have hb4 := below_drewN hb3 nq
  have ka := ka.drewN nq
  have kb := kb.drewN nq
  generalize w3.drewN nq = w4 at *
  have hs4 := hb4.size
  clear hb3 hs3 hzx hzy
  go_wp2_with fail
  have hrr : Below w4.heap.size w4 w4.drew := (Below.refl _ _).drew
  refine wp_region_lit_txt [0, 1, 2, 3, 5, 6, 7, 8, 10, 11] (fun W => Below w4.heap.size w4 W) (by kernel_rfl) (by kernel_rfl) (by kernel_rfl) hrr ?_
  refine txt_light (.agg #[.int .i64 ax, .int .i64 ay]) rfl rfl ?_ ?_
  · intro w' hS
    have c0 := (ka.keep hS).cell 0 rfl
    have c1 := (ka.keep hS).cell 1 rfl
    go_simp
  try simp only [Act.put, List.setIfInBounds_toArray, List.set_cons_zero, List.set_cons_succ]
  refine txt_light (.agg #[.int .i64 bx, .int .i64 bY]) rfl rfl ?_ ?_
  · intro w' hS
    have c0 := (kb.keep hS).cell 0 rfl
    have c1 := (kb.keep hS).cell 1 rfl
    go_simp
  try simp only [Act.put, List.setIfInBounds_toArray, List.set_cons_zero, List.set_cons_succ]
  (refine txt_light ?_ rfl rfl ?_ ?_; rotate_left; · (intro w' hS; (try dsimp only at hS); go_simp; with_reducible rfl)); try simp only [Act.put, List.setIfInBounds_toArray, List.set_cons_zero, List.set_cons_succ]
  (refine txt_light ?_ rfl rfl ?_ ?_; rotate_left; · (intro w' hS; (try dsimp only at hS); go_simp; with_reducible rfl)); try simp only [Act.put, List.setIfInBounds_toArray, List.set_cons_zero, List.set_cons_succ]
  refine txt_call [.agg #[.int .i64 ax, .int .i64 ay], .agg #[.int .i64 bx, .int .i64 bY], .slice xa lx xc, .slice ya ly yc] Try.f13 rfl rfl Try.func13 (by kernel_rfl) (by kernel_rfl) rfl ((CT1.out _ (hxt.keep (hb4.trans (hrr.mono hs4))) (hyt.keep (hb4.trans (hrr.mono hs4)))).mono ?_)
  rintro e w5 ⟨v1, rfl, ho1, hx5⟩
  have hb5 := hrr.trans (hx5.mono hrr.size)
  refine ⟨_, rfl, hb5, ?_⟩
  try simp only [Act.put, List.setIfInBounds_toArray, List.set_cons_zero, List.set_cons_succ]
  refine txt_light (.agg #[.int .i64 bx, .int .i64 bY]) rfl rfl ?_ ?_
  · intro w' hS
    have c0 := (kb.keep hS).cell 0 rfl
    have c1 := (kb.keep hS).cell 1 rfl
    go_simp
  try simp only [Act.put, List.setIfInBounds_toArray, List.set_cons_zero, List.set_cons_succ]
  refine txt_light (.agg #[.int .i64 ax, .int .i64 ay]) rfl rfl ?_ ?_
  · intro w' hS
    have c0 := (ka.keep hS).cell 0 rfl
    have c1 := (ka.keep hS).cell 1 rfl
    go_simp
  try simp only [Act.put, List.setIfInBounds_toArray, List.set_cons_zero, List.set_cons_succ]
  (refine txt_light ?_ rfl rfl ?_ ?_; rotate_left; · (intro w' hS; (try dsimp only at hS); go_simp; with_reducible rfl)); try simp only [Act.put, List.setIfInBounds_toArray, List.set_cons_zero, List.set_cons_succ]
  (refine txt_light ?_ rfl rfl ?_ ?_; rotate_left; · (intro w' hS; (try dsimp only at hS); go_simp; with_reducible rfl)); try simp only [Act.put, List.setIfInBounds_toArray, List.set_cons_zero, List.set_cons_succ]
  refine txt_call [.agg #[.int .i64 bx, .int .i64 bY], .agg #[.int .i64 ax, .int .i64 ay], .slice xa lx xc, .slice ya ly yc] Try.f13 rfl rfl Try.func13 (by kernel_rfl) (by kernel_rfl) rfl ((CT2.out _ (hxt.keep (hb4.trans (hb5.mono hs4))) (hyt.keep (hb4.trans (hb5.mono hs4)))).mono ?_)
  rintro e w6 ⟨v2, rfl, ho2, hx6⟩
  have hb6 := hb5.trans (hx6.mono hb5.size)
  refine ⟨_, rfl, hb6, ?_⟩
  try simp only [Act.put, List.setIfInBounds_toArray, List.set_cons_zero, List.set_cons_succ]
  (refine txt_light ?_ rfl rfl ?_ ?_; rotate_left; · (intro w' hS; (try dsimp only at hS); go_simp; with_reducible rfl)); try simp only [Act.put, List.setIfInBounds_toArray, List.set_cons_zero, List.set_cons_succ]
  (refine txt_light ?_ rfl rfl ?_ ?_; rotate_left; · (intro w' hS; (try dsimp only at hS); go_simp; with_reducible rfl)); try simp only [Act.put, List.setIfInBounds_toArray, List.set_cons_zero, List.set_cons_succ]
  refine txt_nil ?_
  have hb7 := hb4.trans (hb6.mono hs4)
  have hs7 := hb7.size
  obtain ⟨p1, c1, rfl, -, -, -, hr1, -⟩ := ho1.form
  obtain ⟨p2, c2, rfl, -, -, -, hr2, -⟩ := ho2.form
  have hr1 := hr1.keep hx6
  have HRL : Hid (CU.reverse.length = CU.length) := Lib.hid List.length_reverse
  rw [HRL.out]
  clear ho1 ho2 hx5 hx6 hb4 hb5 hb6 hrr hs4 ka kb kc kd CT1 CT2 hxt hyt
  go_wp2
  go_loopw [21] (fun ii wr => ∃ k n : Nat, k ≤ CU.length ∧ ii = .int .i64 (k : Int) ∧ wr = w6.drewN n) (fun ii _ => CU.length - (intOf ii).toNat)
  case atStart => exact ⟨0, 0, Nat.zero_le _, rfl, rfl⟩
  case round =>
    obtain ⟨k, n, hk, rfl, rfl⟩ := hrel
    by_cases hlt : k < CU.length
    · obtain ⟨b1, o1, rfl, hbb1, q0, q1⟩ := hr1.pt k hlt
      obtain ⟨Z, hZ⟩ : ∃ Z, CU.length - 1 - k = Z := ⟨_, rfl⟩
      have hZl : Z < CU.reverse.length := by rw [HRL.out]; omega
      obtain ⟨b2, o2, rfl, hbb2, t0, t1⟩ := hr2.pt Z hZl
      have hwz0 : IntKind.i64.wrap ((CU.length : Int) - 1) = (CU.length : Int) - 1 := IntWalk.i64_in _ (by omega)
      have hwz : IntKind.i64.wrap ((CU.length : Int) - 1 - (k : Int)) = (Z : Int) := by
        rw [show (CU.length : Int) - 1 - (k : Int) = (Z : Int) by omega]; exact IntWalk.i64_in _ (by omega)
      have hge : CU.reverse[Z] = CU[k] := by
        rw [List.getElem_reverse]; congr 1; omega
      rw [hge] at t0 t1
      generalize CU[k] = pk at *
      obtain ⟨px, py⟩ := pk
      dsimp only at q0 q1 t0 t1
      have hz1 : (Z : Int) < (CU.length : Int) := by rw [HRL.out] at hZl; omega
      have hz0 : (0 : Int) ≤ (Z : Int) := by omega
      have q0 : (w6.drewN n).cell? _ = _ := q0
      have q1 : (w6.drewN n).cell? _ = _ := q1
      have t0 : (w6.drewN n).cell? _ = _ := t0
      have t1 : (w6.drewN n).cell? _ = _ := t1
      clear hge hZ hZl
      go_wp2
      go_quiet (fail)
      go_wp2
      go_roundw
      case rel => exact ⟨k + 1, n + nq, by omega, by go_num, by simp⟩
      case measure => simp [intOf]; omega
    · have hlt' : ¬ (k : Int) < (CU.length : Int) := by omega
      have hb8 := below_drewN hb7 n
      generalize w6.drewN n = w7 at *
      go_wp2_with fail
      refine (sknown_any _).mono ?_
      rintro e w8 ⟨rfl, hb9⟩
      have hbE := hb8.trans (hb9.mono hb8.size)
      go_wp2
      go_ret
      exact ⟨rfl, hbE⟩
  
  theorem sturned_law {w : World} (a : Pt) (_ : PtIn a) (b : Pt) (_ : PtIn b) (c : Pt) (_ : PtIn c) (d : Pt) (_ : PtIn d) (xa : Option Addr) (xc : Nat) (X : List Int) (hxl : X.length ≤ xc) (hxm : xc ≤ maxLen) (_ : xa = none → xc = 0) (hxr : Rd w xa (X.map (Value.int .i64))) (_ : ∀ n ∈ X, (Lit.int .i64 n).wf = true)
      (ya : Option Addr) (yc : Nat) (Y : List Int) (hyl : Y.length ≤ yc) (hym : yc ≤ maxLen) (_ : ya = none → yc = 0) (hyr : Rd w ya (Y.map (Value.int .i64))) (_ : ∀ n ∈ Y, (Lit.int .i64 n).wf = true) :
      Calls Try.prog 4 #[a.val, b.val, c.val, d.val, .slice xa X.length xc, .slice ya Y.length yc] w fun e w' => e = .returned (.bool true) ∧ Below w.heap.size w w' :=
    sturned_walk a b c d xa ya xc yc X Y hxl hyl hxm hym w hxr hyr
  end Go.Proofs.Ytoellhmoghgmlaa
