/-
  SegCuts: the walk.
-/
import Derived.Test.YtmnekbnhodadcaaSknown
import Derived.Test.YtmnekbnhodadcaaRcuts
import Derived.Test.YtmnekbnhodadcaaOpenP
set_option linter.unusedVariables false
set_option linter.unusedSimpArgs false
set_option maxRecDepth 100000
namespace Go
open Go.RowKit
theorem at_not {a b : Pt} (h : okPt a = false ∨ okPt b = false) (c : Int) : atF a b c = (0, false) := by
  unfold atF
  rw [if_pos]
  left
  by_cases hs : b.x < a.x <;> simp only [hs, if_true, if_false, List.all_cons, List.all_nil, Bool.and_true] <;> rcases h with h | h <;> simp [h]
theorem okPt_flip (a : Pt) : okPt ⟨a.y, a.x⟩ = okPt a := by
  rw [Bool.eq_iff_iff, okPt_iff, okPt_iff]
  exact And.comm
theorem cutsF_not {a b : Pt} (h : okPt a = false ∨ okPt b = false) (xs ys : List Int) : cutsF a b xs ys = [] := by
  have h1 : cutRow a b xs ys = [] := by
    unfold cutRow
    have e1 : cutX a b = fun _ => none := by funext c; unfold cutX; rw [at_not h]; rfl
    have e2 : cutY a b = fun _ => none := by funext c; unfold cutY; rw [at_not (by rw [okPt_flip, okPt_flip]; exact h)]; rfl
    rw [e1, e2]
    have : ∀ l : List Int, l.filterMap (fun _ => (none : Option Cu)) = [] := by intro l; induction l with | nil => rfl | cons x l ih => rw [List.filterMap_cons]; exact ih
    rw [this, this]; rfl
  have := cutsF_len a b [] []
  unfold cutsF cutPts
  rw [h1]
  rfl
end Go
namespace Go.Proofs.Ytmnekbnhodadcaa
open Go.RowKit

set_option maxHeartbeats 3200000 in
theorem scuts_na (a b : Pt) (c : Int) (ha : okPt a = false) (xa ya : Option Addr) (xc yc : Nat) (XS YS : List Int) (hxl : XS.length ≤ xc) (hyl : YS.length ≤ yc) (hxm : xc ≤ maxLen) (hym : yc ≤ maxLen) (w : World) (hxr : Rd w xa (XS.map (Value.int .i64))) (hyr : Rd w ya (YS.map (Value.int .i64))) :
    Calls Try.prog 3 #[a.val, b.val, .int .i64 c, .slice xa XS.length xc, .slice ya YS.length yc] w fun e w' => e = .returned (.bool true) ∧ Below w.heap.size w w' := by
  have hxt : Rd w xa ((XS.take 20).map (Value.int .i64)) := by rw [List.map_take]; exact hxr.take 20
  have hyt : Rd w ya ((YS.take 20).map (Value.int .i64)) := by rw [List.map_take]; exact hyr.take 20
  have hxn : (XS.take 20).length = min XS.length 20 := by simp; omega
  have hyn : (YS.take 20).length = min YS.length 20 := by simp; omega
  generalize XS.take 20 = xs at *
  generalize YS.take 20 = ys at *
  generalize XS.length = nx at *
  generalize YS.length = ny at *
  have hzx : (if (20 : Int) < (nx : Int) then (20 : Int) else (nx : Int)) = (xs.length : Int) := by split <;> omega
  have hzy : (if (20 : Int) < (ny : Int) then (20 : Int) else (ny : Int)) = (ys.length : Int) := by split <;> omega
  have hlx : xs.length ≤ xc := by omega
  have hly : ys.length ≤ yc := by omega
  have CT1 := Lib.hid (fun w hx hy => cuts_any a b xa ya xc yc xs ys (by unfold sortMax; omega) w hx hy)
  have LA := Lib.hid (lof_any a)
  have LB := Lib.hid (lof_any b)
  have MA := Lib.hid (rmay_any a)
  have MB := Lib.hid (rmay_any b)
  have AX := Lib.hid (atx_any a b c)
  have AY := Lib.hid (aty_any a b c)
  have hn : okPt a = false ∨ okPt b = false := .inl ha
  rw [ha] at MA
  rw [at_not hn] at AX
  rw [at_not (by rw [okPt_flip, okPt_flip]; exact hn)] at AY
  rw [cutsF_not hn] at CT1
  clear hn
  obtain ⟨lx, hlxe⟩ : ∃ n, xs.length = n := ⟨_, rfl⟩
  obtain ⟨ly, hlye⟩ : ∃ n, ys.length = n := ⟨_, rfl⟩
  rw [hlxe] at hzx hlx CT1
  rw [hlye] at hzy hly CT1
  clear hxn hyn hlxe hlye hxl hyl
  obtain ⟨ax, ay⟩ := a
  obtain ⟨bx, bY⟩ := b
  dsimp only [Pt.val] at *
  clear hxr hyr
  have ka := ((Blk.lit w w.heap.size [.int .i64 ax, .int .i64 ay] 23 rfl).alloc (.cells #[.int .i64 bx, .int .i64 bY] 23))
  have kb := (Blk.lit (w.alloc (.cells #[.int .i64 ax, .int .i64 ay] 23)) (w.heap.size + 1) [.int .i64 bx, .int .i64 bY] 23 (by simp))
  have hb0 := ((Below.new w (.cells #[.int .i64 ax, .int .i64 ay] 23)).alloc (by simp) (.cells #[.int .i64 bx, .int .i64 bY] 23))
  go_enter Try.func3, Try.ntmps3
  obtain ⟨wA, hwA⟩ : ∃ wA, ((w.alloc (.cells #[.int .i64 ax, .int .i64 ay] 23)).alloc (.cells #[.int .i64 bx, .int .i64 bY] 23)) = wA := ⟨_, rfl⟩
  rw [hwA] at ka kb hb0
  have hs0 := hb0.size
  go_step
  go_step
  rename_i K0 hK0
  replace hK0 := Lib.hid hK0
  go_wp2
  refine hK0.out _ _ ?_
  clear hK0
  try rw [hwA]
  clear hwA
  go_wp2_with fail
  go_quiet (fail)
  have hb0 := below_drewN hb0 nq
  have ka := ka.drewN nq
  have kb := kb.drewN nq
  generalize wA.drewN nq = w0 at *
  clear hs0 hzx hzy
  have ca0 := ka.cell 0 rfl
  have ca1 := ka.cell 1 rfl
  have cb0 := kb.cell 0 rfl
  have cb1 := kb.cell 1 rfl
  go_wp2_with fail
  refine (LA.out _).mono ?_
  rintro e w1 ⟨rfl, hx1⟩
  have hb1 := hb0.trans (hx1.mono hb0.size)
  clear ca0 ca1 cb0 cb1
  have ka := ka.keep hx1
  have kb := kb.keep hx1
  clear hx1 hb0
  have ca0 := ka.cell 0 rfl
  have ca1 := ka.cell 1 rfl
  have cb0 := kb.cell 0 rfl
  have cb1 := kb.cell 1 rfl
  go_wp2_with fail
  refine (MA.out _).mono ?_
  rintro e w2 ⟨rfl, hx2⟩
  have hb2 := hb1.trans (hx2.mono hb1.size)
  clear ca0 ca1 cb0 cb1
  have ka := ka.keep hx2
  have kb := kb.keep hx2
  clear hx2 hb1
  have ca0 := ka.cell 0 rfl
  have ca1 := ka.cell 1 rfl
  have cb0 := kb.cell 0 rfl
  have cb1 := kb.cell 1 rfl
  go_wp2_with fail
  refine (AX.out _).mono ?_
  rintro e w3 ⟨rfl, hx3⟩
  have hb3 := hb2.trans (hx3.mono hb2.size)
  clear ca0 ca1 cb0 cb1
  have ka := ka.keep hx3
  have kb := kb.keep hx3
  clear hx3 hb2
  have ca0 := ka.cell 0 rfl
  have ca1 := ka.cell 1 rfl
  have cb0 := kb.cell 0 rfl
  have cb1 := kb.cell 1 rfl
  go_wp2_with fail
  refine (AY.out _).mono ?_
  rintro e w4 ⟨rfl, hx4⟩
  have hb4 := hb3.trans (hx4.mono hb3.size)
  clear ca0 ca1 cb0 cb1
  have ka := ka.keep hx4
  have kb := kb.keep hx4
  clear hx4 hb3
  go_wp2_with fail
  refine (sknown_any _).mono ?_
  rintro e wK ⟨rfl, hxK⟩
  have hbK := hb4.trans (hxK.mono hb4.size)
  have ka := ka.keep hxK
  have kb := kb.keep hxK
  clear hxK hb4
  have ca0 := ka.cell 0 rfl
  have ca1 := ka.cell 1 rfl
  have cb0 := kb.cell 0 rfl
  have cb1 := kb.cell 1 rfl
  go_wp2_with fail
  refine (CT1.out _ (hxt.keep hbK) (hyt.keep hbK)).mono ?_
  rintro e wL ⟨v1, rfl, ho1, hx5⟩
  have hbL := hbK.trans (hx5.mono hbK.size)
  obtain ⟨p1, c1, rfl, -⟩ := ho1.form
  clear ho1
  go_wp2
  go_ret
  exact ⟨rfl, hbL⟩

set_option maxHeartbeats 3200000 in
theorem scuts_nb (a b : Pt) (c : Int) (ha : okPt a = true) (hb : okPt b = false) (xa ya : Option Addr) (xc yc : Nat) (XS YS : List Int) (hxl : XS.length ≤ xc) (hyl : YS.length ≤ yc) (hxm : xc ≤ maxLen) (hym : yc ≤ maxLen) (w : World) (hxr : Rd w xa (XS.map (Value.int .i64))) (hyr : Rd w ya (YS.map (Value.int .i64))) :
    Calls Try.prog 3 #[a.val, b.val, .int .i64 c, .slice xa XS.length xc, .slice ya YS.length yc] w fun e w' => e = .returned (.bool true) ∧ Below w.heap.size w w' := by
  have hxt : Rd w xa ((XS.take 20).map (Value.int .i64)) := by rw [List.map_take]; exact hxr.take 20
  have hyt : Rd w ya ((YS.take 20).map (Value.int .i64)) := by rw [List.map_take]; exact hyr.take 20
  have hxn : (XS.take 20).length = min XS.length 20 := by simp; omega
  have hyn : (YS.take 20).length = min YS.length 20 := by simp; omega
  generalize XS.take 20 = xs at *
  generalize YS.take 20 = ys at *
  generalize XS.length = nx at *
  generalize YS.length = ny at *
  have hzx : (if (20 : Int) < (nx : Int) then (20 : Int) else (nx : Int)) = (xs.length : Int) := by split <;> omega
  have hzy : (if (20 : Int) < (ny : Int) then (20 : Int) else (ny : Int)) = (ys.length : Int) := by split <;> omega
  have hlx : xs.length ≤ xc := by omega
  have hly : ys.length ≤ yc := by omega
  have CT1 := Lib.hid (fun w hx hy => cuts_any a b xa ya xc yc xs ys (by unfold sortMax; omega) w hx hy)
  have LA := Lib.hid (lof_any a)
  have LB := Lib.hid (lof_any b)
  have MA := Lib.hid (rmay_any a)
  have MB := Lib.hid (rmay_any b)
  have AX := Lib.hid (atx_any a b c)
  have AY := Lib.hid (aty_any a b c)
  have hn : okPt a = false ∨ okPt b = false := .inr hb
  rw [ha] at MA
  rw [hb] at MB
  rw [at_not hn] at AX
  rw [at_not (by rw [okPt_flip, okPt_flip]; exact hn)] at AY
  rw [cutsF_not hn] at CT1
  clear hn
  obtain ⟨lx, hlxe⟩ : ∃ n, xs.length = n := ⟨_, rfl⟩
  obtain ⟨ly, hlye⟩ : ∃ n, ys.length = n := ⟨_, rfl⟩
  rw [hlxe] at hzx hlx CT1
  rw [hlye] at hzy hly CT1
  clear hxn hyn hlxe hlye hxl hyl
  obtain ⟨ax, ay⟩ := a
  obtain ⟨bx, bY⟩ := b
  dsimp only [Pt.val] at *
  clear hxr hyr
  have ka := ((Blk.lit w w.heap.size [.int .i64 ax, .int .i64 ay] 23 rfl).alloc (.cells #[.int .i64 bx, .int .i64 bY] 23))
  have kb := (Blk.lit (w.alloc (.cells #[.int .i64 ax, .int .i64 ay] 23)) (w.heap.size + 1) [.int .i64 bx, .int .i64 bY] 23 (by simp))
  have hb0 := ((Below.new w (.cells #[.int .i64 ax, .int .i64 ay] 23)).alloc (by simp) (.cells #[.int .i64 bx, .int .i64 bY] 23))
  go_enter Try.func3, Try.ntmps3
  obtain ⟨wA, hwA⟩ : ∃ wA, ((w.alloc (.cells #[.int .i64 ax, .int .i64 ay] 23)).alloc (.cells #[.int .i64 bx, .int .i64 bY] 23)) = wA := ⟨_, rfl⟩
  rw [hwA] at ka kb hb0
  have hs0 := hb0.size
  go_step
  go_step
  rename_i K0 hK0
  replace hK0 := Lib.hid hK0
  go_wp2
  refine hK0.out _ _ ?_
  clear hK0
  try rw [hwA]
  clear hwA
  go_wp2_with fail
  go_quiet (fail)
  have hb0 := below_drewN hb0 nq
  have ka := ka.drewN nq
  have kb := kb.drewN nq
  generalize wA.drewN nq = w0 at *
  clear hs0 hzx hzy
  have ca0 := ka.cell 0 rfl
  have ca1 := ka.cell 1 rfl
  have cb0 := kb.cell 0 rfl
  have cb1 := kb.cell 1 rfl
  go_wp2_with fail
  refine (LA.out _).mono ?_
  rintro e w1 ⟨rfl, hx1⟩
  have hb1 := hb0.trans (hx1.mono hb0.size)
  clear ca0 ca1 cb0 cb1
  have ka := ka.keep hx1
  have kb := kb.keep hx1
  clear hx1 hb0
  have ca0 := ka.cell 0 rfl
  have ca1 := ka.cell 1 rfl
  have cb0 := kb.cell 0 rfl
  have cb1 := kb.cell 1 rfl
  go_wp2_with fail
  refine (MA.out _).mono ?_
  rintro e w2 ⟨rfl, hx2⟩
  have hb2 := hb1.trans (hx2.mono hb1.size)
  clear ca0 ca1 cb0 cb1
  have ka := ka.keep hx2
  have kb := kb.keep hx2
  clear hx2 hb1
  have ca0 := ka.cell 0 rfl
  have ca1 := ka.cell 1 rfl
  have cb0 := kb.cell 0 rfl
  have cb1 := kb.cell 1 rfl
  go_wp2_with fail
  refine (LB.out _).mono ?_
  rintro e w3 ⟨rfl, hx3⟩
  have hb3 := hb2.trans (hx3.mono hb2.size)
  clear ca0 ca1 cb0 cb1
  have ka := ka.keep hx3
  have kb := kb.keep hx3
  clear hx3 hb2
  have ca0 := ka.cell 0 rfl
  have ca1 := ka.cell 1 rfl
  have cb0 := kb.cell 0 rfl
  have cb1 := kb.cell 1 rfl
  go_wp2_with fail
  refine (MB.out _).mono ?_
  rintro e w4 ⟨rfl, hx4⟩
  have hb4 := hb3.trans (hx4.mono hb3.size)
  clear ca0 ca1 cb0 cb1
  have ka := ka.keep hx4
  have kb := kb.keep hx4
  clear hx4 hb3
  have ca0 := ka.cell 0 rfl
  have ca1 := ka.cell 1 rfl
  have cb0 := kb.cell 0 rfl
  have cb1 := kb.cell 1 rfl
  go_wp2_with fail
  refine (AX.out _).mono ?_
  rintro e w5 ⟨rfl, hx5⟩
  have hb5 := hb4.trans (hx5.mono hb4.size)
  clear ca0 ca1 cb0 cb1
  have ka := ka.keep hx5
  have kb := kb.keep hx5
  clear hx5 hb4
  have ca0 := ka.cell 0 rfl
  have ca1 := ka.cell 1 rfl
  have cb0 := kb.cell 0 rfl
  have cb1 := kb.cell 1 rfl
  go_wp2_with fail
  refine (AY.out _).mono ?_
  rintro e w6 ⟨rfl, hx6⟩
  have hb6 := hb5.trans (hx6.mono hb5.size)
  clear ca0 ca1 cb0 cb1
  have ka := ka.keep hx6
  have kb := kb.keep hx6
  clear hx6 hb5
  go_wp2_with fail
  refine (sknown_any _).mono ?_
  rintro e wK ⟨rfl, hxK⟩
  have hbK := hb6.trans (hxK.mono hb6.size)
  have ka := ka.keep hxK
  have kb := kb.keep hxK
  clear hxK hb6
  have ca0 := ka.cell 0 rfl
  have ca1 := ka.cell 1 rfl
  have cb0 := kb.cell 0 rfl
  have cb1 := kb.cell 1 rfl
  go_wp2_with fail
  refine (CT1.out _ (hxt.keep hbK) (hyt.keep hbK)).mono ?_
  rintro e wL ⟨v1, rfl, ho1, hx5⟩
  have hbL := hbK.trans (hx5.mono hbK.size)
  obtain ⟨p1, c1, rfl, -⟩ := ho1.form
  clear ho1
  go_wp2
  go_ret
  exact ⟨rfl, hbL⟩

set_option maxHeartbeats 3200000 in
theorem scuts_ok (a b : Pt) (c : Int) (ha : okPt a = true) (hb : okPt b = true) (xa ya : Option Addr) (xc yc : Nat) (XS YS : List Int) (hxl : XS.length ≤ xc) (hyl : YS.length ≤ yc) (hxm : xc ≤ maxLen) (hym : yc ≤ maxLen) (w : World) (hxr : Rd w xa (XS.map (Value.int .i64))) (hyr : Rd w ya (YS.map (Value.int .i64))) :
    Calls Try.prog 3 #[a.val, b.val, .int .i64 c, .slice xa XS.length xc, .slice ya YS.length yc] w fun e w' => e = .returned (.bool true) ∧ Below w.heap.size w w' := by
  have hxt : Rd w xa ((XS.take 20).map (Value.int .i64)) := by rw [List.map_take]; exact hxr.take 20
  have hyt : Rd w ya ((YS.take 20).map (Value.int .i64)) := by rw [List.map_take]; exact hyr.take 20
  have hxn : (XS.take 20).length = min XS.length 20 := by simp; omega
  have hyn : (YS.take 20).length = min YS.length 20 := by simp; omega
  generalize XS.take 20 = xs at *
  generalize YS.take 20 = ys at *
  generalize XS.length = nx at *
  generalize YS.length = ny at *
  have hzx : (if (20 : Int) < (nx : Int) then (20 : Int) else (nx : Int)) = (xs.length : Int) := by split <;> omega
  have hzy : (if (20 : Int) < (ny : Int) then (20 : Int) else (ny : Int)) = (ys.length : Int) := by split <;> omega
  have hlx : xs.length ≤ xc := by omega
  have hly : ys.length ≤ yc := by omega
  have CT1 := Lib.hid (fun w hx hy => cuts_any a b xa ya xc yc xs ys (by unfold sortMax; omega) w hx hy)
  have LA := Lib.hid (lof_any a)
  have LB := Lib.hid (lof_any b)
  have MA := Lib.hid (rmay_any a)
  have MB := Lib.hid (rmay_any b)
  have AX := Lib.hid (atx_any a b c)
  have AY := Lib.hid (aty_any a b c)
  rw [ha] at MA
  rw [hb] at MB
  have RX := Lib.hid (rat_any a b c ha hb)
  have RY := Lib.hid (rat_any ⟨a.y, a.x⟩ ⟨b.y, b.x⟩ c (by rw [okPt_flip]; exact ha) (by rw [okPt_flip]; exact hb))
  have CT2 := Lib.hid (fun w hx hy => rcuts_any a b ha hb xa ya xc yc xs ys (by omega) (by omega) w hx hy)
  have hclen : (cutsF a b xs ys).length ≤ 40 := by have := cutsF_len a b xs ys; omega
  generalize cutsF a b xs ys = CU at *
  generalize atF a b c = T at *
  dsimp only at RY
  generalize atF ⟨a.y, a.x⟩ ⟨b.y, b.x⟩ c = U at *
  obtain ⟨t1, t2⟩ := T
  obtain ⟨s1, s2⟩ := U
  dsimp only at AX AY RX RY
  clear ha hb
  obtain ⟨lx, hlxe⟩ : ∃ n, xs.length = n := ⟨_, rfl⟩
  obtain ⟨ly, hlye⟩ : ∃ n, ys.length = n := ⟨_, rfl⟩
  rw [hlxe] at hzx hlx CT1 CT2
  rw [hlye] at hzy hly CT1 CT2
  clear hxn hyn hlxe hlye hxl hyl
  obtain ⟨ax, ay⟩ := a
  obtain ⟨bx, bY⟩ := b
  dsimp only [Pt.val] at *
  clear hxr hyr
  have ka := ((Blk.lit w w.heap.size [.int .i64 ax, .int .i64 ay] 23 rfl).alloc (.cells #[.int .i64 bx, .int .i64 bY] 23))
  have kb := (Blk.lit (w.alloc (.cells #[.int .i64 ax, .int .i64 ay] 23)) (w.heap.size + 1) [.int .i64 bx, .int .i64 bY] 23 (by simp))
  have hb0 := ((Below.new w (.cells #[.int .i64 ax, .int .i64 ay] 23)).alloc (by simp) (.cells #[.int .i64 bx, .int .i64 bY] 23))
  go_enter Try.func3, Try.ntmps3
  obtain ⟨wA, hwA⟩ : ∃ wA, ((w.alloc (.cells #[.int .i64 ax, .int .i64 ay] 23)).alloc (.cells #[.int .i64 bx, .int .i64 bY] 23)) = wA := ⟨_, rfl⟩
  rw [hwA] at ka kb hb0
  have hs0 := hb0.size
  go_step
  go_step
  rename_i K0 hK0
  replace hK0 := Lib.hid hK0
  go_wp2
  refine hK0.out _ _ ?_
  clear hK0
  try rw [hwA]
  clear hwA
  go_wp2_with fail
  go_quiet (fail)
  have hb0 := below_drewN hb0 nq
  have ka := ka.drewN nq
  have kb := kb.drewN nq
  generalize wA.drewN nq = w0 at *
  clear hs0 hzx hzy
  have ca0 := ka.cell 0 rfl
  have ca1 := ka.cell 1 rfl
  have cb0 := kb.cell 0 rfl
  have cb1 := kb.cell 1 rfl
  go_wp2_with fail
  refine (LA.out _).mono ?_
  rintro e w1 ⟨rfl, hx1⟩
  have hb1 := hb0.trans (hx1.mono hb0.size)
  clear ca0 ca1 cb0 cb1
  have ka := ka.keep hx1
  have kb := kb.keep hx1
  clear hx1 hb0
  have ca0 := ka.cell 0 rfl
  have ca1 := ka.cell 1 rfl
  have cb0 := kb.cell 0 rfl
  have cb1 := kb.cell 1 rfl
  go_wp2_with fail
  refine (MA.out _).mono ?_
  rintro e w2 ⟨rfl, hx2⟩
  have hb2 := hb1.trans (hx2.mono hb1.size)
  clear ca0 ca1 cb0 cb1
  have ka := ka.keep hx2
  have kb := kb.keep hx2
  clear hx2 hb1
  have ca0 := ka.cell 0 rfl
  have ca1 := ka.cell 1 rfl
  have cb0 := kb.cell 0 rfl
  have cb1 := kb.cell 1 rfl
  go_wp2_with fail
  refine (LB.out _).mono ?_
  rintro e w3 ⟨rfl, hx3⟩
  have hb3 := hb2.trans (hx3.mono hb2.size)
  clear ca0 ca1 cb0 cb1
  have ka := ka.keep hx3
  have kb := kb.keep hx3
  clear hx3 hb2
  have ca0 := ka.cell 0 rfl
  have ca1 := ka.cell 1 rfl
  have cb0 := kb.cell 0 rfl
  have cb1 := kb.cell 1 rfl
  go_wp2_with fail
  refine (MB.out _).mono ?_
  rintro e w4 ⟨rfl, hx4⟩
  have hb4 := hb3.trans (hx4.mono hb3.size)
  clear ca0 ca1 cb0 cb1
  have ka := ka.keep hx4
  have kb := kb.keep hx4
  clear hx4 hb3
  have ca0 := ka.cell 0 rfl
  have ca1 := ka.cell 1 rfl
  have cb0 := kb.cell 0 rfl
  have cb1 := kb.cell 1 rfl
  go_wp2_with fail
  refine (AX.out _).mono ?_
  rintro e w5 ⟨rfl, hx5⟩
  have hb5 := hb4.trans (hx5.mono hb4.size)
  clear ca0 ca1 cb0 cb1
  have ka := ka.keep hx5
  have kb := kb.keep hx5
  clear hx5 hb4
  have ca0 := ka.cell 0 rfl
  have ca1 := ka.cell 1 rfl
  have cb0 := kb.cell 0 rfl
  have cb1 := kb.cell 1 rfl
  go_wp2_with fail
  refine (AY.out _).mono ?_
  rintro e w6 ⟨rfl, hx6⟩
  have hb6 := hb5.trans (hx6.mono hb5.size)
  clear ca0 ca1 cb0 cb1
  have ka := ka.keep hx6
  have kb := kb.keep hx6
  clear hx6 hb5
  have ca0 := ka.cell 0 rfl
  have ca1 := ka.cell 1 rfl
  have cb0 := kb.cell 0 rfl
  have cb1 := kb.cell 1 rfl
  go_wp2_with fail
  refine (RX.out _).mono ?_
  rintro e w7 ⟨rfl, rfl⟩
  go_wp2_with fail
  refine (RY.out _).mono ?_
  rintro e w7 ⟨rfl, rfl⟩
  clear ca0 ca1 cb0 cb1
  clear AX AY RX RY
  have hs4 := hb6.size
  go_wp2_with fail
  have hrr : Below w6.heap.size w6 w6.drew := (Below.refl _ _).drew
  refine wp_region_lit_txt [0, 1, 2, 3, 5, 7, 9, 10, 12, 13] (fun W => Below w6.heap.size w6 W) (by kernel_rfl) (by kernel_rfl) (by kernel_rfl) hrr ?_
  refine txt_light (.agg #[.int .i64 ax, .int .i64 ay]) rfl rfl ?_ ?_
  · intro w' hS
    have c0 := (ka.keep hS).cell 0 rfl
    have c1 := (ka.keep hS).cell 1 rfl
    go_simp
  try simp only [Act.put, List.setIfInBounds_toArray, List.set_cons_zero, List.set_cons_succ]
  refine txt_light (.agg #[.int .i64 bx, .int .i64 bY]) rfl rfl ?_ ?_
  · intro w' hS
    have c0 := (kb.keep hS).cell 0 rfl
    have c1 := (kb.keep hS).cell 1 rfl
    go_simp
  try simp only [Act.put, List.setIfInBounds_toArray, List.set_cons_zero, List.set_cons_succ]
  (refine txt_light ?_ rfl rfl ?_ ?_; rotate_left; · (intro w' hS; (try dsimp only at hS); go_simp; with_reducible rfl)); try simp only [Act.put, List.setIfInBounds_toArray, List.set_cons_zero, List.set_cons_succ]
  (refine txt_light ?_ rfl rfl ?_ ?_; rotate_left; · (intro w' hS; (try dsimp only at hS); go_simp; with_reducible rfl)); try simp only [Act.put, List.setIfInBounds_toArray, List.set_cons_zero, List.set_cons_succ]
  refine txt_call [.agg #[.int .i64 ax, .int .i64 ay], .agg #[.int .i64 bx, .int .i64 bY], .slice xa lx xc, .slice ya ly yc] Try.f11 rfl rfl Try.func11 (by kernel_rfl) (by kernel_rfl) rfl ((CT1.out _ (hxt.keep (hb6.trans (hrr.mono hs4))) (hyt.keep (hb6.trans (hrr.mono hs4)))).mono ?_)
  rintro e w7 ⟨v1, rfl, ho1, hx7⟩
  have hb7 := hrr.trans (hx7.mono hrr.size)
  refine ⟨_, rfl, hb7, ?_⟩
  try simp only [Act.put, List.setIfInBounds_toArray, List.set_cons_zero, List.set_cons_succ]
  refine txt_light (.agg #[.int .i64 ax, .int .i64 ay]) rfl rfl ?_ ?_
  · intro w' hS
    have c0 := (ka.keep hS).cell 0 rfl
    have c1 := (ka.keep hS).cell 1 rfl
    go_simp
  try simp only [Act.put, List.setIfInBounds_toArray, List.set_cons_zero, List.set_cons_succ]
  refine txt_call [.agg #[.int .i64 ax, .int .i64 ay]] Try.f7 rfl rfl Try.func7 (by kernel_rfl) (by kernel_rfl) rfl ((LA.out _).mono ?_)
  rintro e w8 ⟨rfl, hx8⟩
  have hb8 := hb7.trans (hx8.mono hb7.size)
  refine ⟨_, rfl, hb8, ?_⟩
  try simp only [Act.put, List.setIfInBounds_toArray, List.set_cons_zero, List.set_cons_succ]
  refine txt_light (.agg #[.int .i64 bx, .int .i64 bY]) rfl rfl ?_ ?_
  · intro w' hS
    have c0 := (kb.keep hS).cell 0 rfl
    have c1 := (kb.keep hS).cell 1 rfl
    go_simp
  try simp only [Act.put, List.setIfInBounds_toArray, List.set_cons_zero, List.set_cons_succ]
  refine txt_call [.agg #[.int .i64 bx, .int .i64 bY]] Try.f7 rfl rfl Try.func7 (by kernel_rfl) (by kernel_rfl) rfl ((LB.out _).mono ?_)
  rintro e w9 ⟨rfl, hx9⟩
  have hb9 := hb8.trans (hx9.mono hb8.size)
  refine ⟨_, rfl, hb9, ?_⟩
  try simp only [Act.put, List.setIfInBounds_toArray, List.set_cons_zero, List.set_cons_succ]
  (refine txt_light ?_ rfl rfl ?_ ?_; rotate_left; · (intro w' hS; (try dsimp only at hS); go_simp; with_reducible rfl)); try simp only [Act.put, List.setIfInBounds_toArray, List.set_cons_zero, List.set_cons_succ]
  (refine txt_light ?_ rfl rfl ?_ ?_; rotate_left; · (intro w' hS; (try dsimp only at hS); go_simp; with_reducible rfl)); try simp only [Act.put, List.setIfInBounds_toArray, List.set_cons_zero, List.set_cons_succ]
  refine txt_call [.agg #[.int .i64 ax, .int .i64 ay], .agg #[.int .i64 bx, .int .i64 bY], .slice xa lx xc, .slice ya ly yc] Try.f13 rfl rfl Try.func13 (by kernel_rfl) (by kernel_rfl) rfl ((CT2.out _ (hxt.keep (hb6.trans (hb9.mono hs4))) (hyt.keep (hb6.trans (hb9.mono hs4)))).mono ?_)
  rintro e wA ⟨a2, c2, rfl, hr2, hxA⟩
  have hbA := hb9.trans (hxA.mono hb9.size)
  refine ⟨_, rfl, hbA, ?_⟩
  try simp only [Act.put, List.setIfInBounds_toArray, List.set_cons_zero, List.set_cons_succ]
  (refine txt_light ?_ rfl rfl ?_ ?_; rotate_left; · (intro w' hS; (try dsimp only at hS); go_simp; with_reducible rfl)); try simp only [Act.put, List.setIfInBounds_toArray, List.set_cons_zero, List.set_cons_succ]
  (refine txt_light ?_ rfl rfl ?_ ?_; rotate_left; · (intro w' hS; (try dsimp only at hS); go_simp; with_reducible rfl)); try simp only [Act.put, List.setIfInBounds_toArray, List.set_cons_zero, List.set_cons_succ]
  refine txt_nil ?_
  have hbB := hb6.trans (hbA.mono hs4)
  have hsB := hbB.size
  obtain ⟨p1, c1, rfl, -, -, -, hr1, -⟩ := ho1.form
  have hr1 := ((hr1.keep hx8).keep hx9).keep hxA
  clear ho1 hx7 hx8 hx9 hxA hb6 hb7 hb8 hb9 hbA hrr hs4 ka kb CT1 CT2 hxt hyt LA LB
  go_wp2
  go_loopw [22] (fun ii wr => ∃ k : Nat, k ≤ CU.length ∧ ii = .int .i64 (k : Int) ∧ Below wA.heap.size wA wr) (fun ii _ => CU.length - (intOf ii).toNat)
  case atStart => exact ⟨0, Nat.zero_le _, rfl, Below.refl _ _⟩
  case round =>
    obtain ⟨k, hk, rfl, hbr⟩ := hrel
    by_cases hlt : k < CU.length
    · obtain ⟨b1, o1, e1, hbb1, q0, q1⟩ := (hr1.keep hbr).pt k hlt
      obtain ⟨b2, o2, e2, hbb2, t0, t1⟩ := (hr2.keep hbr).pt k hlt
      subst e1 e2
      have HR1 := Lib.hid (fun W (h : Below wr.heap.size wr W) => (hr1.keep (hbr.trans (h.mono hbr.size))).pt k hlt)
      have HR2 := Lib.hid (fun W (h : Below wr.heap.size wr W) => (hr2.keep (hbr.trans (h.mono hbr.size))).pt k hlt)
      generalize CU[k] = pk at *
      obtain ⟨px, py⟩ := pk
      dsimp only at q0 q1 t0 t1 HR1 HR2
      have LP := Lib.hid (lof_any ⟨px, py⟩)
      dsimp only [Pt.val] at LP
      go_wp2_with fail
      have hrr : Below wr.heap.size wr wr.drew := (Below.refl _ _).drew
      refine wp_region_lit_txt [0, 1, 2, 3, 5, 6, 7, 8, 9] (fun W => Below wr.heap.size wr W) (by kernel_rfl) (by kernel_rfl) (by kernel_rfl) hrr ?_
  
      (refine txt_light ?_ rfl rfl ?_ ?_; rotate_left; · (intro w' hS; (try dsimp only at hS); go_simp; with_reducible rfl)); try simp only [Act.put, List.setIfInBounds_toArray, List.set_cons_zero, List.set_cons_succ]
      (refine txt_light ?_ rfl rfl ?_ ?_; rotate_left; · (intro w' hS; (try dsimp only at hS); go_simp; with_reducible rfl)); try simp only [Act.put, List.setIfInBounds_toArray, List.set_cons_zero, List.set_cons_succ]
      (refine txt_light ?_ rfl rfl ?_ ?_; rotate_left; · (intro w' hS; (try dsimp only at hS); go_simp; with_reducible rfl)); try simp only [Act.put, List.setIfInBounds_toArray, List.set_cons_zero, List.set_cons_succ]
      refine txt_light (.agg #[.int .i64 px, .int .i64 py]) rfl rfl ?_ ?_
      · intro w' hS
        obtain ⟨_, _, e1, -, c0, c1⟩ := HR1.out _ hS
        cases e1
        go_simp
      try simp only [Act.put, List.setIfInBounds_toArray, List.set_cons_zero, List.set_cons_succ]
      refine txt_call [.agg #[.int .i64 px, .int .i64 py]] Try.f7 rfl rfl Try.func7 (by kernel_rfl) (by kernel_rfl) rfl ((LP.out _).mono ?_)
      rintro e w8 ⟨rfl, hx8⟩
      have hb8 := hrr.trans (hx8.mono hrr.size)
      refine ⟨_, rfl, hb8, ?_⟩
      try simp only [Act.put, List.setIfInBounds_toArray, List.set_cons_zero, List.set_cons_succ]
      (refine txt_light ?_ rfl rfl ?_ ?_; rotate_left; · (intro w' hS; (try dsimp only at hS); go_simp; with_reducible rfl)); try simp only [Act.put, List.setIfInBounds_toArray, List.set_cons_zero, List.set_cons_succ]
      (refine txt_light ?_ rfl rfl ?_ ?_; rotate_left; · (intro w' hS; (try dsimp only at hS); go_simp; with_reducible rfl)); try simp only [Act.put, List.setIfInBounds_toArray, List.set_cons_zero, List.set_cons_succ]
      (refine txt_light ?_ rfl rfl ?_ ?_; rotate_left; · (intro w' hS; (try dsimp only at hS); go_simp; with_reducible rfl)); try simp only [Act.put, List.setIfInBounds_toArray, List.set_cons_zero, List.set_cons_succ]
      refine txt_light (.agg #[.int .i64 px, .int .i64 py]) rfl rfl ?_ ?_
      · intro w' hS
        obtain ⟨_, _, e1, -, c0, c1⟩ := HR2.out _ hS
        cases e1
        go_simp
      try simp only [Act.put, List.setIfInBounds_toArray, List.set_cons_zero, List.set_cons_succ]
      (refine txt_light ?_ rfl rfl ?_ ?_; rotate_left; · (intro w' hS; (try dsimp only at hS); go_simp; with_reducible rfl)); try simp only [Act.put, List.setIfInBounds_toArray, List.set_cons_zero, List.set_cons_succ]
      refine txt_nil ?_
      have hb9 := hbr.trans (hb8.mono hbr.size)
      go_wp2
      refine ⟨⟨k + 1, by omega, by go_num, hb9⟩, by simp [intOf]; omega⟩
    · have hlt' : ¬ (k : Int) < (CU.length : Int) := by omega
      have hb8 := hbB.trans (hbr.mono hsB)
      go_wp2_with fail
      refine (sknown_any _).mono ?_
      rintro e w8 ⟨rfl, hb9⟩
      have hbE := hb8.trans (hb9.mono hb8.size)
      go_wp2
      go_ret
      exact ⟨rfl, hbE⟩
  
  theorem scuts_walk (a b : Pt) (c : Int) (xa ya : Option Addr) (xc yc : Nat) (XS YS : List Int) (hxl : XS.length ≤ xc) (hyl : YS.length ≤ yc) (hxm : xc ≤ maxLen) (hym : yc ≤ maxLen) (w : World) (hxr : Rd w xa (XS.map (Value.int .i64))) (hyr : Rd w ya (YS.map (Value.int .i64))) :
      Calls Try.prog 3 #[a.val, b.val, .int .i64 c, .slice xa XS.length xc, .slice ya YS.length yc] w fun e w' => e = .returned (.bool true) ∧ Below w.heap.size w w' := by
    cases ha : okPt a with
    | false => exact scuts_na a b c ha xa ya xc yc XS YS hxl hyl hxm hym w hxr hyr
    | true =>
      cases hb : okPt b with
      | false => exact scuts_nb a b c ha hb xa ya xc yc XS YS hxl hyl hxm hym w hxr hyr
      | true => exact scuts_ok a b c ha hb xa ya xc yc XS YS hxl hyl hxm hym w hxr hyr
  
  theorem scuts_law {w : World} (a : Pt) (_ : PtIn a) (b : Pt) (_ : PtIn b) (c : Int) (_ : (Lit.int .i64 c).wf = true) (xa : Option Addr) (xc : Nat) (X : List Int) (hxl : X.length ≤ xc) (hxm : xc ≤ maxLen) (_ : xa = none → xc = 0) (hxr : Rd w xa (X.map (Value.int .i64))) (_ : ∀ n ∈ X, (Lit.int .i64 n).wf = true)
      (ya : Option Addr) (yc : Nat) (Y : List Int) (hyl : Y.length ≤ yc) (hym : yc ≤ maxLen) (_ : ya = none → yc = 0) (hyr : Rd w ya (Y.map (Value.int .i64))) (_ : ∀ n ∈ Y, (Lit.int .i64 n).wf = true) :
      Calls Try.prog 3 #[a.val, b.val, .int .i64 c, .slice xa X.length xc, .slice ya Y.length yc] w fun e w' => e = .returned (.bool true) ∧ Below w.heap.size w w' :=
    scuts_walk a b c xa ya xc yc X Y hxl hyl hxm hym w hxr hyr
  end Go.Proofs.Ytmnekbnhodadcaa
