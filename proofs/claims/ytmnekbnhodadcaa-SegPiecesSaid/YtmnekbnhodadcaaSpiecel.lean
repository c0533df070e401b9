/-
  SegPieces: the walk.
-/
import Derived.Test.YtmnekbnhodadcaaSknown
import Derived.Test.YtmnekbnhodadcaaSpiecep
import Derived.Test.YtmnekbnhodadcaaRmay
import Derived.Test.YtmnekbnhodadcaaRcross
import Derived.Test.YtmnekbnhodadcaaOpenP
import Derived.Test.YtmnekbnhodadcaaAppL
import Derived.Test.YtmnekbnhodadcaaSched
set_option linter.unusedVariables false
set_option linter.unusedSimpArgs false
set_option maxRecDepth 100000
namespace Go
open Go.RowKit
theorem wp_call_at {P : Program} {K : Act → World → Prop} {Q : Exit → Act → World → Prop} {a : Act} {w : World} {dst : Option Tmp} {ty : TypeId} {pos : String} {after : Array Edge} {guard : Option (Nat × Bool)} {f : FuncId} {args : Array Operand} {ats : Array TypeId} (vs : List Value) (fn : Func)
    (hfn : P.funcs[f]? = some fn) (hn : (fn.name == "runtime.NumGoroutine") = false) (hb : fn.body.isNone = false) (hvs : args.toList.map a.eval = vs)
    (h : Calls P f vs.toArray w fun e w' => ∃ v, e = .returned v ∧ K (a.put dst v) w') :
    Oper.wp P { dst := dst, op := .call { callee := .value (.func f), args := args, argTypes := ats }, type := ty, pos := pos, after := after, guard := guard } a w K Q := by
  unfold Oper.wp
  have e : #[] ++ args.map a.eval ++ #[] = vs.toArray := by
    rw [← hvs]; simp only [Array.empty_append, Array.append_empty]; apply Array.ext'; simp
  rw [execOp_call_go, run_callFunc _ _ hfn hn hb, e]
  rw [Oper.upon_enter]
  refine Calls.mono h ?_
  rintro e w' ⟨v, rfl, hn⟩
  exact hn
theorem max_no {C A B : Int} (h : 2 * (C.natAbs : Int) ≤ max (A.natAbs : Int) (B.natAbs : Int)) : ¬ (if (if A < -A then -A else A) < (if B < -B then -B else B) then (if B < -B then -B else B) else (if A < -A then -A else A)) < 2 * (if C < -C then -C else C) := by
  have e : ∀ x : Int, (if x < -x then -x else x) = (x.natAbs : Int) := fun x => by split <;> omega
  rw [e A, e B, e C]
  split <;> omega
theorem abs_bd {C N M : Int} (h : (if C < -C then -C else C) = N) (hb : -M ≤ C ∧ C ≤ M) : 0 ≤ N ∧ N ≤ M := by
  subst h; split <;> omega
theorem box_ok {a b p : Pt} (ha : okPt a = true) (hb : okPt b = true) (h : InBox a b p) : okPt p = true := by
  rw [okPt_iff] at *; unfold InBox at h; omega
theorem piece_x2 {a b : Pt} {xs ys : List Int} (ha : okPt a = true) (hb : okPt b = true) (i : Nat) (p q : Pt) (hp : (allPts a b xs ys)[i]? = some p) (hq : (allPts a b xs ys)[i + 1]? = some q) (c : Int) (hc : c ∈ xs) : ¬ (p.x < c ∧ c < q.x) ∧ ¬ (q.x < c ∧ c < p.x) := by
  obtain ⟨h1, rfl⟩ := List.getElem?_eq_some_iff.1 hp
  obtain ⟨h2, rfl⟩ := List.getElem?_eq_some_iff.1 hq
  exact piece_x ha hb h2 hc
theorem piece_y2 {a b : Pt} {xs ys : List Int} (ha : okPt a = true) (hb : okPt b = true) (i : Nat) (p q : Pt) (hp : (allPts a b xs ys)[i]? = some p) (hq : (allPts a b xs ys)[i + 1]? = some q) (c : Int) (hc : c ∈ ys) : ¬ (p.y < c ∧ c < q.y) ∧ ¬ (q.y < c ∧ c < p.y) := by
  obtain ⟨h1, rfl⟩ := List.getElem?_eq_some_iff.1 hp
  obtain ⟨h2, rfl⟩ := List.getElem?_eq_some_iff.1 hq
  exact piece_y ha hb h2 hc
end Go
namespace Go.Proofs.Ytmnekbnhodadcaa
open Go.RowKit

set_option maxHeartbeats 40000000 in
theorem spiece_na (a b : Pt) (ha : okPt a = false) (xa ya : Option Addr) (xc yc : Nat) (XS YS : List Int) (hxl : XS.length ≤ xc) (hyl : YS.length ≤ yc) (hxm : xc ≤ maxLen) (hym : yc ≤ maxLen) (w : World) (hxr : Rd w xa (XS.map (Value.int .i64))) (hyr : Rd w ya (YS.map (Value.int .i64))) :
    Calls Try.prog 4 #[a.val, b.val, .slice xa XS.length xc, .slice ya YS.length yc] w fun e w' => e = .returned (.bool true) ∧ Below w.heap.size w w' := by
  have hxt : Rd w xa ((XS.take 20).map (Value.int .i64)) := by rw [List.map_take]; exact hxr.take 20
  have hyt : Rd w ya ((YS.take 20).map (Value.int .i64)) := by rw [List.map_take]; exact hyr.take 20
  have hxn : (XS.take 20).length = min XS.length 20 := by simp; omega
  have hyn : (YS.take 20).length = min YS.length 20 := by simp; omega
  generalize XS.take 20 = xs at *
  generalize YS.take 20 = ys at *
  generalize XS.length = nx at *
  generalize YS.length = ny at *
  have hzx : (if (20 : Int) < (nx : Int) then (20 : Int) else (nx : Int)) = (xs.length : Int) := by split <;> omega
  have hzy : (if (20 : Int) < (ny : Int) then (20 : Int) else (ny : Int)) = (ys.length : Int) := by split <;> omega
  have hlx : xs.length ≤ xc := by omega
  have hly : ys.length ≤ yc := by omega
  have CT1 := Lib.hid (fun w hx hy => cuts_any a b xa ya xc yc xs ys (by unfold sortMax; omega) w hx hy)
  have LA := Lib.hid (lof_any a)
  have LB := Lib.hid (lof_any b)
  have MA := Lib.hid (rmay_any a)
  have MB := Lib.hid (rmay_any b)
  rw [ha] at MA
  obtain ⟨lx, hlxe⟩ : ∃ n, xs.length = n := ⟨_, rfl⟩
  obtain ⟨ly, hlye⟩ : ∃ n, ys.length = n := ⟨_, rfl⟩
  rw [hlxe] at hzx hlx CT1
  rw [hlye] at hzy hly CT1
  obtain ⟨ax, ay⟩ := a
  obtain ⟨bx, bY⟩ := b
  dsimp only [Pt.val] at *
  clear hxr hyr
  have ka := ((Blk.lit w w.heap.size [.int .i64 ax, .int .i64 ay] 23 rfl).alloc (.cells #[.int .i64 bx, .int .i64 bY] 23))
  have kb := (Blk.lit (w.alloc (.cells #[.int .i64 ax, .int .i64 ay] 23)) (w.heap.size + 1) [.int .i64 bx, .int .i64 bY] 23 (by simp))
  have hb0 := ((Below.new w (.cells #[.int .i64 ax, .int .i64 ay] 23)).alloc (by simp) (.cells #[.int .i64 bx, .int .i64 bY] 23))
  go_enter Try.func4, Try.ntmps4
  obtain ⟨wA, hwA⟩ : ∃ wA, ((w.alloc (.cells #[.int .i64 ax, .int .i64 ay] 23)).alloc (.cells #[.int .i64 bx, .int .i64 bY] 23)) = wA := ⟨_, rfl⟩
  rw [hwA] at ka kb hb0
  have hs0 := hb0.size
  go_step
  go_step
  rename_i K0 hK0
  replace hK0 := Lib.hid hK0
  go_wp2
  refine hK0.out _ _ ?_
  clear hK0
  try rw [hwA]
  clear hwA
  go_wp2_with fail
  go_quiet (fail)
  have hb0 := below_drewN hb0 nq
  have ka := ka.drewN nq
  have kb := kb.drewN nq
  generalize wA.drewN nq = w0 at *
  clear hs0 hzx hzy
  have ca0 := ka.cell 0 rfl
  have ca1 := ka.cell 1 rfl
  have cb0 := kb.cell 0 rfl
  have cb1 := kb.cell 1 rfl
  go_wp2_with fail
  refine (LA.out _).mono ?_
  rintro e w1 ⟨rfl, hx1⟩
  have hb1 := hb0.trans (hx1.mono hb0.size)
  clear ca0 ca1 cb0 cb1
  have ka := ka.keep hx1
  have kb := kb.keep hx1
  clear hx1 hb0
  have ca0 := ka.cell 0 rfl
  have ca1 := ka.cell 1 rfl
  have cb0 := kb.cell 0 rfl
  have cb1 := kb.cell 1 rfl
  go_wp2_with fail
  refine (MA.out _).mono ?_
  rintro e w2 ⟨rfl, hx2⟩
  have hb2 := hb1.trans (hx2.mono hb1.size)
  clear ca0 ca1 cb0 cb1
  have ka := ka.keep hx2
  have kb := kb.keep hx2
  clear hx2 hb1
  go_wp2_with fail
  refine (sknown_any _).mono ?_
  rintro e wK ⟨rfl, hxK⟩
  have hbK := hb2.trans (hxK.mono hb2.size)
  go_wp2
  go_ret
  exact ⟨rfl, hbK⟩

set_option maxHeartbeats 40000000 in
theorem spiece_nb (a b : Pt) (ha : okPt a = true) (hb : okPt b = false) (xa ya : Option Addr) (xc yc : Nat) (XS YS : List Int) (hxl : XS.length ≤ xc) (hyl : YS.length ≤ yc) (hxm : xc ≤ maxLen) (hym : yc ≤ maxLen) (w : World) (hxr : Rd w xa (XS.map (Value.int .i64))) (hyr : Rd w ya (YS.map (Value.int .i64))) :
    Calls Try.prog 4 #[a.val, b.val, .slice xa XS.length xc, .slice ya YS.length yc] w fun e w' => e = .returned (.bool true) ∧ Below w.heap.size w w' := by
  have hxt : Rd w xa ((XS.take 20).map (Value.int .i64)) := by rw [List.map_take]; exact hxr.take 20
  have hyt : Rd w ya ((YS.take 20).map (Value.int .i64)) := by rw [List.map_take]; exact hyr.take 20
  have hxn : (XS.take 20).length = min XS.length 20 := by simp; omega
  have hyn : (YS.take 20).length = min YS.length 20 := by simp; omega
  generalize XS.take 20 = xs at *
  generalize YS.take 20 = ys at *
  generalize XS.length = nx at *
  generalize YS.length = ny at *
  have hzx : (if (20 : Int) < (nx : Int) then (20 : Int) else (nx : Int)) = (xs.length : Int) := by split <;> omega
  have hzy : (if (20 : Int) < (ny : Int) then (20 : Int) else (ny : Int)) = (ys.length : Int) := by split <;> omega
  have hlx : xs.length ≤ xc := by omega
  have hly : ys.length ≤ yc := by omega
  have CT1 := Lib.hid (fun w hx hy => cuts_any a b xa ya xc yc xs ys (by unfold sortMax; omega) w hx hy)
  have LA := Lib.hid (lof_any a)
  have LB := Lib.hid (lof_any b)
  have MA := Lib.hid (rmay_any a)
  have MB := Lib.hid (rmay_any b)
  rw [ha] at MA
  rw [hb] at MB
  obtain ⟨lx, hlxe⟩ : ∃ n, xs.length = n := ⟨_, rfl⟩
  obtain ⟨ly, hlye⟩ : ∃ n, ys.length = n := ⟨_, rfl⟩
  rw [hlxe] at hzx hlx CT1
  rw [hlye] at hzy hly CT1
  obtain ⟨ax, ay⟩ := a
  obtain ⟨bx, bY⟩ := b
  dsimp only [Pt.val] at *
  clear hxr hyr
  have ka := ((Blk.lit w w.heap.size [.int .i64 ax, .int .i64 ay] 23 rfl).alloc (.cells #[.int .i64 bx, .int .i64 bY] 23))
  have kb := (Blk.lit (w.alloc (.cells #[.int .i64 ax, .int .i64 ay] 23)) (w.heap.size + 1) [.int .i64 bx, .int .i64 bY] 23 (by simp))
  have hb0 := ((Below.new w (.cells #[.int .i64 ax, .int .i64 ay] 23)).alloc (by simp) (.cells #[.int .i64 bx, .int .i64 bY] 23))
  go_enter Try.func4, Try.ntmps4
  obtain ⟨wA, hwA⟩ : ∃ wA, ((w.alloc (.cells #[.int .i64 ax, .int .i64 ay] 23)).alloc (.cells #[.int .i64 bx, .int .i64 bY] 23)) = wA := ⟨_, rfl⟩
  rw [hwA] at ka kb hb0
  have hs0 := hb0.size
  go_step
  go_step
  rename_i K0 hK0
  replace hK0 := Lib.hid hK0
  go_wp2
  refine hK0.out _ _ ?_
  clear hK0
  try rw [hwA]
  clear hwA
  go_wp2_with fail
  go_quiet (fail)
  have hb0 := below_drewN hb0 nq
  have ka := ka.drewN nq
  have kb := kb.drewN nq
  generalize wA.drewN nq = w0 at *
  clear hs0 hzx hzy
  have ca0 := ka.cell 0 rfl
  have ca1 := ka.cell 1 rfl
  have cb0 := kb.cell 0 rfl
  have cb1 := kb.cell 1 rfl
  go_wp2_with fail
  refine (LA.out _).mono ?_
  rintro e w1 ⟨rfl, hx1⟩
  have hb1 := hb0.trans (hx1.mono hb0.size)
  clear ca0 ca1 cb0 cb1
  have ka := ka.keep hx1
  have kb := kb.keep hx1
  clear hx1 hb0
  have ca0 := ka.cell 0 rfl
  have ca1 := ka.cell 1 rfl
  have cb0 := kb.cell 0 rfl
  have cb1 := kb.cell 1 rfl
  go_wp2_with fail
  refine (MA.out _).mono ?_
  rintro e w2 ⟨rfl, hx2⟩
  have hb2 := hb1.trans (hx2.mono hb1.size)
  clear ca0 ca1 cb0 cb1
  have ka := ka.keep hx2
  have kb := kb.keep hx2
  clear hx2 hb1
  have ca0 := ka.cell 0 rfl
  have ca1 := ka.cell 1 rfl
  have cb0 := kb.cell 0 rfl
  have cb1 := kb.cell 1 rfl
  go_wp2_with fail
  refine (LB.out _).mono ?_
  rintro e w3 ⟨rfl, hx3⟩
  have hb3 := hb2.trans (hx3.mono hb2.size)
  clear ca0 ca1 cb0 cb1
  have ka := ka.keep hx3
  have kb := kb.keep hx3
  clear hx3 hb2
  have ca0 := ka.cell 0 rfl
  have ca1 := ka.cell 1 rfl
  have cb0 := kb.cell 0 rfl
  have cb1 := kb.cell 1 rfl
  go_wp2_with fail
  refine (MB.out _).mono ?_
  rintro e w4 ⟨rfl, hx4⟩
  have hb4 := hb3.trans (hx4.mono hb3.size)
  clear ca0 ca1 cb0 cb1
  have ka := ka.keep hx4
  have kb := kb.keep hx4
  clear hx4 hb3
  go_wp2_with fail
  refine (sknown_any _).mono ?_
  rintro e wK ⟨rfl, hxK⟩
  have hbK := hb4.trans (hxK.mono hb4.size)
  go_wp2
  go_ret
  exact ⟨rfl, hbK⟩

set_option maxHeartbeats 40000000 in
theorem spiece_ok (a b : Pt) (ha : okPt a = true) (hb : okPt b = true) (xa ya : Option Addr) (xc yc : Nat) (XS YS : List Int) (hxl : XS.length ≤ xc) (hyl : YS.length ≤ yc) (hxm : xc ≤ maxLen) (hym : yc ≤ maxLen) (w : World) (hxr : Rd w xa (XS.map (Value.int .i64))) (hyr : Rd w ya (YS.map (Value.int .i64))) :
    Calls Try.prog 4 #[a.val, b.val, .slice xa XS.length xc, .slice ya YS.length yc] w fun e w' => e = .returned (.bool true) ∧ Below w.heap.size w w' := by
  have hxt : Rd w xa ((XS.take 20).map (Value.int .i64)) := by rw [List.map_take]; exact hxr.take 20
  have hyt : Rd w ya ((YS.take 20).map (Value.int .i64)) := by rw [List.map_take]; exact hyr.take 20
  have hxn : (XS.take 20).length = min XS.length 20 := by simp; omega
  have hyn : (YS.take 20).length = min YS.length 20 := by simp; omega
  generalize XS.take 20 = xs at *
  generalize YS.take 20 = ys at *
  generalize XS.length = nx at *
  generalize YS.length = ny at *
  have hzx : (if (20 : Int) < (nx : Int) then (20 : Int) else (nx : Int)) = (xs.length : Int) := by split <;> omega
  have hzy : (if (20 : Int) < (ny : Int) then (20 : Int) else (ny : Int)) = (ys.length : Int) := by split <;> omega
  have hlx : xs.length ≤ xc := by omega
  have hly : ys.length ≤ yc := by omega
  have CT1 := Lib.hid (fun w hx hy => cuts_any a b xa ya xc yc xs ys (by unfold sortMax; omega) w hx hy)
  have LA := Lib.hid (lof_any a)
  have LB := Lib.hid (lof_any b)
  have MA := Lib.hid (rmay_any a)
  have MB := Lib.hid (rmay_any b)
  rw [ha] at MA
  rw [hb] at MB
  have PX := Lib.hid (piece_x2 (xs := xs) (ys := ys) ha hb)
  have PY := Lib.hid (piece_y2 (xs := xs) (ys := ys) ha hb)
  have PN := Lib.hid (fun p h => near_all (a := a) (b := b) (p := p) (xs := xs) (ys := ys) h)
  have PB := Lib.hid (fun p h => box_ok ha hb (all_box (a := a) (b := b) (p := p) (xs := xs) (ys := ys) h))
  have PC := Lib.hid (fun p hp => rcross_any a b p ha hb hp)
  have hclen : (cutsF a b xs ys).length ≤ 40 := by have := cutsF_len a b xs ys; omega
  have HALL : Hid (allPts a b xs ys = a :: cutsF a b xs ys ++ [b]) := Lib.hid rfl
  generalize allPts a b xs ys = ALL at *
  generalize cutsF a b xs ys = CU at *
  rw [okPt_iff] at ha hb
  obtain ⟨lx, hlxe⟩ : ∃ n, xs.length = n := ⟨_, rfl⟩
  obtain ⟨ly, hlye⟩ : ∃ n, ys.length = n := ⟨_, rfl⟩
  rw [hlxe] at hzx hlx CT1
  rw [hlye] at hzy hly CT1
  obtain ⟨ax, ay⟩ := a
  obtain ⟨bx, bY⟩ := b
  dsimp only [Pt.val] at *
  clear hxr hyr
  have ka := ((Blk.lit w w.heap.size [.int .i64 ax, .int .i64 ay] 23 rfl).alloc (.cells #[.int .i64 bx, .int .i64 bY] 23))
  have kb := (Blk.lit (w.alloc (.cells #[.int .i64 ax, .int .i64 ay] 23)) (w.heap.size + 1) [.int .i64 bx, .int .i64 bY] 23 (by simp))
  have hb0 := ((Below.new w (.cells #[.int .i64 ax, .int .i64 ay] 23)).alloc (by simp) (.cells #[.int .i64 bx, .int .i64 bY] 23))
  go_enter Try.func4, Try.ntmps4
  obtain ⟨wA, hwA⟩ : ∃ wA, ((w.alloc (.cells #[.int .i64 ax, .int .i64 ay] 23)).alloc (.cells #[.int .i64 bx, .int .i64 bY] 23)) = wA := ⟨_, rfl⟩
  rw [hwA] at ka kb hb0
  have hs0 := hb0.size
  go_step
  go_step
  rename_i K0 hK0
  replace hK0 := Lib.hid hK0
  go_wp2
  refine hK0.out _ _ ?_
  clear hK0
  try rw [hwA]
  clear hwA
  go_wp2_with fail
  go_quiet (fail)
  have hb0 := below_drewN hb0 nq
  have ka := ka.drewN nq
  have kb := kb.drewN nq
  generalize wA.drewN nq = w0 at *
  clear hs0 hzx hzy
  have hx20 : lx ≤ 20 := by omega
  have hy20 : ly ≤ 20 := by omega
  clear hxn hyn hxl hyl
  have ca0 := ka.cell 0 rfl
  have ca1 := ka.cell 1 rfl
  have cb0 := kb.cell 0 rfl
  have cb1 := kb.cell 1 rfl
  go_wp2_with fail
  refine (LA.out _).mono ?_
  rintro e w1 ⟨rfl, hx1⟩
  have hb1 := hb0.trans (hx1.mono hb0.size)
  clear ca0 ca1 cb0 cb1
  have ka := ka.keep hx1
  have kb := kb.keep hx1
  clear hx1 hb0
  have ca0 := ka.cell 0 rfl
  have ca1 := ka.cell 1 rfl
  have cb0 := kb.cell 0 rfl
  have cb1 := kb.cell 1 rfl
  go_wp2_with fail
  refine (MA.out _).mono ?_
  rintro e w2 ⟨rfl, hx2⟩
  have hb2 := hb1.trans (hx2.mono hb1.size)
  clear ca0 ca1 cb0 cb1
  have ka := ka.keep hx2
  have kb := kb.keep hx2
  clear hx2 hb1
  have ca0 := ka.cell 0 rfl
  have ca1 := ka.cell 1 rfl
  have cb0 := kb.cell 0 rfl
  have cb1 := kb.cell 1 rfl
  go_wp2_with fail
  refine (LB.out _).mono ?_
  rintro e w3 ⟨rfl, hx3⟩
  have hb3 := hb2.trans (hx3.mono hb2.size)
  clear ca0 ca1 cb0 cb1
  have ka := ka.keep hx3
  have kb := kb.keep hx3
  clear hx3 hb2
  have ca0 := ka.cell 0 rfl
  have ca1 := ka.cell 1 rfl
  have cb0 := kb.cell 0 rfl
  have cb1 := kb.cell 1 rfl
  go_wp2_with fail
  refine (MB.out _).mono ?_
  rintro e w4 ⟨rfl, hx4⟩
  have hb4 := hb3.trans (hx4.mono hb3.size)
  clear ca0 ca1 cb0 cb1
  have ka := ka.keep hx4
  have kb := kb.keep hx4
  clear hx4 hb3
  have hs4 := hb4.size
  generalize w4 = wB at *
  go_wp2_with fail
  rename_i K5 hK5
  replace hK5 := Lib.hid hK5
  have main5 : ∀ {t0 t1 t6 t7 t10 t11 t12 t13 t14 t15 t16 t17 t18 t19 t20 t21 t22 t23 t24 t25 t26 t27 t28 t29 t30 t31 t32 t33 t34 t35 t36 t37 t38 t39 t40 t41 t42 t43 t44 t45 t46 t47 t48 t49 t50 t51 t52 t53 t54 t55 t56 t57 t58 t59 t60 t61 t62 t63 t64 t65 t66 t67 t68 t69 t70 t71 t72 t73 t74 t75 t76 t77 t78 t79 t80 t81 t82 t83 t84 t85 t86 t87 t88 t89 t90 t91 t92 t93 t94 t95 t96 t97 t98 t99 t100 t101 t102 t103 t104 t105 t106 t107 t108 t109 t110 t111 t112 t113 t114 t115 t116 t117 t118 t119 t120 t121 t122 t123 t124 t125 t126 t127 t128 t129 t130 t131 t132 t133 t134 t135 t136 t137 t138 t139 t140 t141 t142 t143 t144 t145 t146 t147 t148 t149 t150 t151 t152 t153 t154 t155 t156 t157 t158 t159 t160 t161 t162 t163 t164 t165 t166 t167 t168 t169 t170 t171 t172 t173 t174 t175 t176 t177 t178 t179 t180 t181 t182 t183 t184 vF : Value} {W : World}, Below wB.heap.size wB W → W.ownsRow wB.heap.size 23 2 vF (1 + CU.length + 1) ([.int .i64 ax, .int .i64 ay] ++ pts CU ++ [.int .i64 bx, .int .i64 bY]) → K5 { tmps := List.toArray (t0 :: t1 :: (.slice xa lx xc) :: (.slice ya ly yc) :: (.pointer (some ⟨w.heap.size, 0, none⟩)) :: (.pointer (some ⟨w.heap.size + 1, 0, none⟩)) :: t6 :: t7 :: (.bool false) :: (vF) :: t10 :: t11 :: t12 :: t13 :: t14 :: t15 :: t16 :: t17 :: t18 :: t19 :: t20 :: t21 :: t22 :: t23 :: t24 :: t25 :: t26 :: t27 :: t28 :: t29 :: t30 :: t31 :: t32 :: t33 :: t34 :: t35 :: t36 :: t37 :: t38 :: t39 :: t40 :: t41 :: t42 :: t43 :: t44 :: t45 :: t46 :: t47 :: t48 :: t49 :: t50 :: t51 :: t52 :: t53 :: t54 :: t55 :: t56 :: t57 :: t58 :: t59 :: t60 :: t61 :: t62 :: t63 :: t64 :: t65 :: t66 :: t67 :: t68 :: t69 :: t70 :: t71 :: t72 :: t73 :: t74 :: t75 :: t76 :: t77 :: t78 :: t79 :: t80 :: t81 :: t82 :: t83 :: t84 :: t85 :: t86 :: t87 :: t88 :: t89 :: t90 :: t91 :: t92 :: t93 :: t94 :: t95 :: t96 :: t97 :: t98 :: t99 :: t100 :: t101 :: t102 :: t103 :: t104 :: t105 :: t106 :: t107 :: t108 :: t109 :: t110 :: t111 :: t112 :: t113 :: t114 :: t115 :: t116 :: t117 :: t118 :: t119 :: t120 :: t121 :: t122 :: t123 :: t124 :: t125 :: t126 :: t127 :: t128 :: t129 :: t130 :: t131 :: t132 :: t133 :: t134 :: t135 :: t136 :: t137 :: t138 :: t139 :: t140 :: t141 :: t142 :: t143 :: t144 :: t145 :: t146 :: t147 :: t148 :: t149 :: t150 :: t151 :: t152 :: t153 :: t154 :: t155 :: t156 :: t157 :: t158 :: t159 :: t160 :: t161 :: t162 :: t163 :: t164 :: t165 :: t166 :: t167 :: t168 :: t169 :: t170 :: t171 :: t172 :: t173 :: t174 :: t175 :: t176 :: t177 :: t178 :: t179 :: t180 :: t181 :: t182 :: t183 :: t184 :: []), defers := [] } W := by
    as_aux_lemma =>
    intro t0 t1 t6 t7 t10 t11 t12 t13 t14 t15 t16 t17 t18 t19 t20 t21 t22 t23 t24 t25 t26 t27 t28 t29 t30 t31 t32 t33 t34 t35 t36 t37 t38 t39 t40 t41 t42 t43 t44 t45 t46 t47 t48 t49 t50 t51 t52 t53 t54 t55 t56 t57 t58 t59 t60 t61 t62 t63 t64 t65 t66 t67 t68 t69 t70 t71 t72 t73 t74 t75 t76 t77 t78 t79 t80 t81 t82 t83 t84 t85 t86 t87 t88 t89 t90 t91 t92 t93 t94 t95 t96 t97 t98 t99 t100 t101 t102 t103 t104 t105 t106 t107 t108 t109 t110 t111 t112 t113 t114 t115 t116 t117 t118 t119 t120 t121 t122 t123 t124 t125 t126 t127 t128 t129 t130 t131 t132 t133 t134 t135 t136 t137 t138 t139 t140 t141 t142 t143 t144 t145 t146 t147 t148 t149 t150 t151 t152 t153 t154 t155 t156 t157 t158 t159 t160 t161 t162 t163 t164 t165 t166 t167 t168 t169 t170 t171 t172 t173 t174 t175 t176 t177 t178 t179 t180 t181 t182 t183 t184 vF WF hbF hoF
    refine hK5.out _ _ ?_
    clear hK5
    have hbG := hb4.trans (hbF.mono hs4)
    have ka := ka.keep hbF
    have kb := kb.keep hbF
    have hsG := hbG.size
    have hAL : [.int .i64 ax, .int .i64 ay] ++ pts CU ++ [.int .i64 bx, .int .i64 bY] = pts ALL := by rw [HALL.out]; simp [pts, Pt.cells]
    have e2 : 1 + CU.length + 1 = ALL.length := by rw [HALL.out]; simp; omega
    have hAb : 2 ≤ ALL.length ∧ ALL.length ≤ 50 := by omega
    rw [hAL, e2] at hoF
    obtain ⟨pa, pc, rfl, -, -, -, hrA, -⟩ := hoF.form
    have hxt := hxt.keep hbG
    have hyt := hyt.keep hbG
    clear hoF hAL e2 HALL hclen hbF CT1 hb4 hs4 MA MB
    go_wp2
    go_loopw [10] (fun ii wr => ∃ k : Nat, 1 ≤ k ∧ k ≤ ALL.length ∧ ii = .int .i64 (k : Int) ∧ Below WF.heap.size WF wr) (fun ii _ => ALL.length - (intOf ii).toNat)
    case atStart => exact ⟨1, Nat.le_refl _, by omega, rfl, Below.refl _ _⟩
    case round =>
      obtain ⟨k, hk1, hk, rfl, hbr⟩ := hrel
      have ka := ka.keep hbr
      have kb := kb.keep hbr
      have hxt := hxt.keep hbr
      have hyt := hyt.keep hbr
      by_cases hlt : k < ALL.length
      · obtain ⟨j, rfl⟩ : ∃ j, k = j + 1 := ⟨k - 1, by omega⟩
        have hjl : j < ALL.length := by omega
        have HP1 := Lib.hid (fun W (h : Below wr.heap.size wr W) => (hrA.keep (hbr.trans (h.mono hbr.size))).pt j hjl)
        have HQ1 := Lib.hid (fun W (h : Below wr.heap.size wr W) => (hrA.keep (hbr.trans (h.mono hbr.size))).pt (j + 1) hlt)
        obtain ⟨B1, O1, rfl, -⟩ := HP1.out wr (Below.refl _ _)
        have hpx := PX.out j ALL[j] ALL[j + 1] (List.getElem?_eq_getElem hjl) (List.getElem?_eq_getElem hlt)
        have hpy := PY.out j ALL[j] ALL[j + 1] (List.getElem?_eq_getElem hjl) (List.getElem?_eq_getElem hlt)
        have hmem : ALL[j] ∈ ALL := List.getElem_mem hjl
        have hpn := PN.out _ hmem
        have hpb := PB.out _ hmem
        have hpc := PC.out _ hpb
        have hpl := lof_any ALL[j]
        have hpm := rmay_any ALL[j]
        rw [hpb] at hpm
        generalize ALL[j] = p at *
        generalize ALL[j + 1] = q at *
        have hpb := (okPt_iff p).1 hpb
        have hCb := crs_bd ⟨ax, ay⟩ ⟨bx, bY⟩ p (by rw [okPt_iff]; exact ha) (by rw [okPt_iff]; exact hb) (by rw [okPt_iff]; exact hpb)
        obtain ⟨px, py⟩ := p
        obtain ⟨qx, qy⟩ := q
        dsimp only [Pt.val] at *
        obtain ⟨C, hC⟩ : ∃ C, crs ⟨ax, ay⟩ ⟨bx, bY⟩ ⟨px, py⟩ = C := ⟨_, rfl⟩
        rw [hC] at hpc hpn hCb
        clear hC hmem
        have HPN := Lib.hid hpn
        have HCB := Lib.hid hCb
        clear hpn hCb
        have HPX := Lib.hid hpx
        have HPY := Lib.hid hpy
        have LP := Lib.hid hpl
        have MP := Lib.hid hpm
        have CP := Lib.hid hpc
        clear hpx hpy hpl hpm hpc
        have wq : IntKind.i64.wrap ((j : Int) + 1 - 1) = (j : Int) := by
          rw [show (j : Int) + 1 - 1 = (j : Int) by omega]; exact IntWalk.i64_in _ (by omega)
        have wj : IntKind.i64.wrap (j : Int) = (j : Int) := IntWalk.i64_in _ (by omega)
        have g0 : (0 : Int) ≤ (j : Int) := by omega
        have g3 : (0 : Int) ≤ (j : Int) + 1 := by omega
        have g1 : (j : Int) < (ALL.length : Int) := by omega
        have g2 : (j : Int) + 1 < (ALL.length : Int) := by omega
        go_wp2_with fail
        rename_i K8 hK8
        replace hK8 := Lib.hid hK8
        have main8 : ∀ {t8 t13 t14 t15 t48 t49 t50 t51 t52 t53 t54 t55 t56 t57 t58 t59 t60 t61 t62 t63 t64 t65 t66 t67 t68 t69 t70 t71 t72 t73 t74 t75 t76 t77 t78 t79 t80 t81 t82 t83 t84 t85 t86 t87 t88 t89 t90 t91 t92 t93 t94 t95 t96 t97 t98 t99 t100 t101 t102 t103 t104 t105 t106 t107 t108 t109 t110 t111 t112 t113 t114 t115 t116 t117 t118 t119 t120 t121 t122 t123 t124 t125 t126 t127 t128 t129 t130 t131 t132 t133 t134 t135 t136 t137 t138 t139 t140 t141 t142 t143 t144 t145 t146 t147 t148 t149 t150 t151 t152 t153 t154 t155 t156 t157 t158 t159 t160 t161 t162 t163 t164 t165 t166 t167 t168 t169 t170 t171 t172 t173 t174 t175 t176 t177 t178 t179 t180 t181 t182 t183 : Value} {NA NB : Nat} {W : World}, Below wr.heap.size wr W → Blk W NA [.int .i64 px, .int .i64 py] → Blk W NB [.int .i64 qx, .int .i64 qy] → K8 { tmps := List.toArray ((t0) :: (t1) :: (.slice xa lx xc) :: (.slice ya ly yc) :: (.pointer (some ⟨w.heap.size, 0, none⟩)) :: (.pointer (some ⟨w.heap.size + 1, 0, none⟩)) :: (t6) :: (t7) :: t8 :: (.slice (some ⟨B1, O1, none⟩) ALL.length pc) :: (.int .i64 ((j : Int) + 1)) :: (.pointer (some ⟨NA, 0, none⟩)) :: (.pointer (some ⟨NB, 0, none⟩)) :: t13 :: t14 :: t15 :: (t16) :: (t17) :: (t18) :: (t19) :: (t20) :: (t21) :: (t22) :: (t23) :: (t24) :: (t25) :: (t26) :: (t27) :: (t28) :: (t29) :: (t30) :: (t31) :: (t32) :: (t33) :: (t34) :: (t35) :: (t36) :: (t37) :: (t38) :: (t39) :: (t40) :: (t41) :: (t42) :: (t43) :: (t44) :: (t45) :: (t46) :: (t47) :: t48 :: t49 :: t50 :: t51 :: t52 :: t53 :: t54 :: t55 :: t56 :: t57 :: t58 :: t59 :: t60 :: t61 :: t62 :: t63 :: t64 :: t65 :: t66 :: t67 :: t68 :: t69 :: t70 :: t71 :: t72 :: t73 :: t74 :: t75 :: t76 :: t77 :: t78 :: t79 :: t80 :: t81 :: t82 :: t83 :: t84 :: t85 :: t86 :: t87 :: t88 :: t89 :: t90 :: t91 :: t92 :: t93 :: t94 :: t95 :: t96 :: t97 :: t98 :: t99 :: t100 :: t101 :: t102 :: t103 :: t104 :: t105 :: t106 :: t107 :: t108 :: t109 :: t110 :: t111 :: t112 :: t113 :: t114 :: t115 :: t116 :: t117 :: t118 :: t119 :: t120 :: t121 :: t122 :: t123 :: t124 :: t125 :: t126 :: t127 :: t128 :: t129 :: t130 :: t131 :: t132 :: t133 :: t134 :: t135 :: t136 :: t137 :: t138 :: t139 :: t140 :: t141 :: t142 :: t143 :: t144 :: t145 :: t146 :: t147 :: t148 :: t149 :: t150 :: t151 :: t152 :: t153 :: t154 :: t155 :: t156 :: t157 :: t158 :: t159 :: t160 :: t161 :: t162 :: t163 :: t164 :: t165 :: t166 :: t167 :: t168 :: t169 :: t170 :: t171 :: t172 :: t173 :: t174 :: t175 :: t176 :: t177 :: t178 :: t179 :: t180 :: t181 :: t182 :: t183 :: (t184) :: []), defers := [] } W := by
          as_aux_lemma =>
          intro t8 t13 t14 t15 t48 t49 t50 t51 t52 t53 t54 t55 t56 t57 t58 t59 t60 t61 t62 t63 t64 t65 t66 t67 t68 t69 t70 t71 t72 t73 t74 t75 t76 t77 t78 t79 t80 t81 t82 t83 t84 t85 t86 t87 t88 t89 t90 t91 t92 t93 t94 t95 t96 t97 t98 t99 t100 t101 t102 t103 t104 t105 t106 t107 t108 t109 t110 t111 t112 t113 t114 t115 t116 t117 t118 t119 t120 t121 t122 t123 t124 t125 t126 t127 t128 t129 t130 t131 t132 t133 t134 t135 t136 t137 t138 t139 t140 t141 t142 t143 t144 t145 t146 t147 t148 t149 t150 t151 t152 t153 t154 t155 t156 t157 t158 t159 t160 t161 t162 t163 t164 t165 t166 t167 t168 t169 t170 t171 t172 t173 t174 t175 t176 t177 t178 t179 t180 t181 t182 t183 NA NB W8 hb8 kp kq
          refine hK8.out _ _ ?_
          clear hK8 HP1 HQ1
          have ka := ka.keep hb8
          have kb := kb.keep hb8
          have hxt := hxt.keep hb8
          have hyt := hyt.keep hb8
          have hb9 := hbr.trans (hb8.mono hbr.size)
          have hs9 := hb9.size
          clear hrA hb8 hbr
          go_wp2
          go_loopw [13] (fun ii wv => ∃ m n : Nat, m ≤ lx ∧ ii = .int .i64 (m : Int) ∧ wv = W8.drewN n) (fun ii _ => lx - (intOf ii).toNat)
          case atStart => exact ⟨0, 0, Nat.zero_le _, rfl, rfl⟩
          case round =>
            obtain ⟨m, n, hm, rfl, rfl⟩ := hrel
            by_cases hml : m < lx
            · obtain ⟨b3, o3, e3, c0, -⟩ := hxt.at (i := m) (v := .int .i64 (xs[m]'(by omega))) (by simp [show m < xs.length by omega])
              subst e3
              have hcc := HPX.out (xs[m]'(by omega)) (List.getElem_mem _)
              generalize xs[m]'(by omega) = c at *
              have p0 := kp.cell 0 rfl
              have q0 := kq.cell 0 rfl
              have gm : (m : Int) < (lx : Int) := by omega
              by_cases h1 : px < c
              · have h2 : ¬ c < qx := fun h => hcc.1 ⟨h1, h⟩
                by_cases h3 : qx < c
                ·
                  as_aux_lemma =>
                  clear hcc
                  go_wp2
                  have n0 : ¬ c < qx := by omega
                  have n1 : ¬ c < px := by omega
                  go_quiet (fail)
                  go_wp2
                  go_roundw
                  case rel => exact ⟨m + 1, n + nq, by omega, by go_num, by simp⟩
                  case measure => simp [intOf]; omega
                ·
                  as_aux_lemma =>
                  clear hcc
                  go_wp2
                  have n0 : ¬ c < qx := by omega
                  have n1 : ¬ c < px := by omega
                  have n2 : ¬ qx < c := by omega
                  go_quiet (fail)
                  go_wp2
                  go_roundw
                  case rel => exact ⟨m + 1, n + nq, by omega, by go_num, by simp⟩
                  case measure => simp [intOf]; omega
              · by_cases h3 : qx < c
                · have h4 : ¬ c < px := fun h => hcc.2 ⟨h3, h⟩
                  clear hcc
                  go_wp2
                  have n0 : ¬ px < c := by omega
                  have n1 : ¬ c < px := by omega
                  go_quiet (fail)
                  go_wp2
                  go_roundw
                  case rel => exact ⟨m + 1, n + nq, by omega, by go_num, by simp⟩
                  case measure => simp [intOf]; omega
                ·
                  as_aux_lemma =>
                  clear hcc
                  go_wp2
                  have n0 : ¬ px < c := by omega
                  have n1 : ¬ qx < c := by omega
                  go_quiet (fail)
                  go_wp2
                  go_roundw
                  case rel => exact ⟨m + 1, n + nq, by omega, by go_num, by simp⟩
                  case measure => simp [intOf]; omega
            · obtain rfl : lx = m := by omega
              have gm : ¬ (lx : Int) < (lx : Int) := by omega
              have ka := ka.drewN n
              have kb := kb.drewN n
              have kp := kp.drewN n
              have kq := kq.drewN n
              have hyt := hyt.drewN n
              have hb9 := below_drewN hb9 n
              generalize W8.drewN n = Wx at *
              clear hxt HPX hml
              go_wp2
              go_loopw [14] (fun ii wv => ∃ m n : Nat, m ≤ ly ∧ ii = .int .i64 (m : Int) ∧ wv = Wx.drewN n) (fun ii _ => ly - (intOf ii).toNat)
              case atStart => exact ⟨0, 0, Nat.zero_le _, rfl, rfl⟩
              case round =>
                obtain ⟨m, n, hm, rfl, rfl⟩ := hrel
                by_cases hml : m < ly
                · obtain ⟨b3, o3, e3, c0, -⟩ := hyt.at (i := m) (v := .int .i64 (ys[m]'(by omega))) (by simp [show m < ys.length by omega])
                  subst e3
                  have hcc := HPY.out (ys[m]'(by omega)) (List.getElem_mem _)
                  generalize ys[m]'(by omega) = c at *
                  have p0 := kp.cell 1 rfl
                  have q0 := kq.cell 1 rfl
                  have gm : (m : Int) < (ly : Int) := by omega
                  by_cases h1 : py < c
                  · have h2 : ¬ c < qy := fun h => hcc.1 ⟨h1, h⟩
                    by_cases h3 : qy < c
                    ·
                      as_aux_lemma =>
                      clear hcc
                      go_wp2
                      have n0 : ¬ c < qy := by omega
                      have n1 : ¬ c < py := by omega
                      go_quiet (fail)
                      go_wp2
                      go_roundw
                      case rel => exact ⟨m + 1, n + nq, by omega, by go_num, by simp⟩
                      case measure => simp [intOf]; omega
                    ·
                      as_aux_lemma =>
                      clear hcc
                      go_wp2
                      have n0 : ¬ c < qy := by omega
                      have n1 : ¬ c < py := by omega
                      have n2 : ¬ qy < c := by omega
                      go_quiet (fail)
                      go_wp2
                      go_roundw
                      case rel => exact ⟨m + 1, n + nq, by omega, by go_num, by simp⟩
                      case measure => simp [intOf]; omega
                  · by_cases h3 : qy < c
                    · have h4 : ¬ c < py := fun h => hcc.2 ⟨h3, h⟩
                      clear hcc
                      go_wp2
                      have n0 : ¬ py < c := by omega
                      have n1 : ¬ c < py := by omega
                      go_quiet (fail)
                      go_wp2
                      go_roundw
                      case rel => exact ⟨m + 1, n + nq, by omega, by go_num, by simp⟩
                      case measure => simp [intOf]; omega
                    ·
                      as_aux_lemma =>
                      clear hcc
                      go_wp2
                      have n0 : ¬ py < c := by omega
                      have n1 : ¬ qy < c := by omega
                      go_quiet (fail)
                      go_wp2
                      go_roundw
                      case rel => exact ⟨m + 1, n + nq, by omega, by go_num, by simp⟩
                      case measure => simp [intOf]; omega
                · obtain rfl : ly = m := by omega
                  have gm : ¬ (ly : Int) < (ly : Int) := by omega
                  have ka := ka.drewN n
                  have kb := kb.drewN n
                  have kp := kp.drewN n
                  have kq := kq.drewN n
                  have hyt := hyt.drewN n
                  have hb9 := below_drewN hb9 n
                  generalize Wx.drewN n = Wy at *
                  clear hyt HPY kq hml
                  have p0 := kp.cell 0 rfl
                  have p1 := kp.cell 1 rfl
                  go_wp2_with fail
                  refine (LP.out _).mono ?_
                  rintro e wc1 ⟨rfl, hc1⟩
                  clear p0 p1
                  go_wp2_with fail
                  refine (MP.out _).mono ?_
                  rintro e wc2 ⟨rfl, hc2⟩
                  have hc3 := hc1.trans (hc2.mono hc1.size)
                  have ka := ka.keep hc3
                  have kb := kb.keep hc3
                  have kp := kp.keep hc3
                  have hb9 := hb9.trans (hc3.mono hb9.size)
                  clear hc1 hc2 hc3
                  have hs9 := hb9.size
                  go_wp2_with fail
                  have hrr : Below wc2.heap.size wc2 wc2.drew := (Below.refl _ _).drew
                  refine wp_region_lit_txt [0, 2, 4, 7] (fun W => Below wc2.heap.size wc2 W) (by as_aux_lemma => kernel_rfl) (by as_aux_lemma => kernel_rfl) (by as_aux_lemma => kernel_rfl) hrr ?_
                  refine txt_light (.agg #[.int .i64 ax, .int .i64 ay]) rfl rfl ?_ ?_
                  · intro w' hS
                    have c0 := (ka.keep hS).cell 0 rfl
                    have c1 := (ka.keep hS).cell 1 rfl
                    go_simp
                  try simp only [Act.put, List.setIfInBounds_toArray, List.set_cons_zero, List.set_cons_succ]
                  refine txt_call [.agg #[.int .i64 ax, .int .i64 ay]] Try.f7 rfl rfl Try.func7 (by as_aux_lemma => kernel_rfl) (by as_aux_lemma => kernel_rfl) rfl ((LA.out _).mono ?_)
                  rintro e wd1 ⟨rfl, hd1⟩
                  have hr1 := hrr.trans (hd1.mono hrr.size)
                  refine ⟨_, rfl, hr1, ?_⟩
                  try simp only [Act.put, List.setIfInBounds_toArray, List.set_cons_zero, List.set_cons_succ]
                  refine txt_light (.agg #[.int .i64 bx, .int .i64 bY]) rfl rfl ?_ ?_
                  · intro w' hS
                    have c0 := (kb.keep hS).cell 0 rfl
                    have c1 := (kb.keep hS).cell 1 rfl
                    go_simp
                  try simp only [Act.put, List.setIfInBounds_toArray, List.set_cons_zero, List.set_cons_succ]
                  refine txt_call [.agg #[.int .i64 bx, .int .i64 bY]] Try.f7 rfl rfl Try.func7 (by as_aux_lemma => kernel_rfl) (by as_aux_lemma => kernel_rfl) rfl ((LB.out _).mono ?_)
                  rintro e wd2 ⟨rfl, hd2⟩
                  have hr2 := hr1.trans (hd2.mono hr1.size)
                  refine ⟨_, rfl, hr2, ?_⟩
                  try simp only [Act.put, List.setIfInBounds_toArray, List.set_cons_zero, List.set_cons_succ]
                  refine txt_light (.agg #[.int .i64 px, .int .i64 py]) rfl rfl ?_ ?_
                  · intro w' hS
                    have c0 := (kp.keep hS).cell 0 rfl
                    have c1 := (kp.keep hS).cell 1 rfl
                    go_simp
                  try simp only [Act.put, List.setIfInBounds_toArray, List.set_cons_zero, List.set_cons_succ]
                  refine txt_call [.agg #[.int .i64 px, .int .i64 py]] Try.f7 rfl rfl Try.func7 (by as_aux_lemma => kernel_rfl) (by as_aux_lemma => kernel_rfl) rfl ((LP.out _).mono ?_)
                  rintro e wd3 ⟨rfl, hd3⟩
                  have hr3 := hr2.trans (hd3.mono hr2.size)
                  refine ⟨_, rfl, hr3, ?_⟩
                  try simp only [Act.put, List.setIfInBounds_toArray, List.set_cons_zero, List.set_cons_succ]
                  refine txt_call [.agg #[.int .i64 ax, .int .i64 ay], .agg #[.int .i64 bx, .int .i64 bY], .agg #[.int .i64 px, .int .i64 py]] Try.f14 rfl rfl Try.func14 (by as_aux_lemma => kernel_rfl) (by as_aux_lemma => kernel_rfl) rfl ((CP.out _).mono ?_)
                  rintro e wd4 ⟨rfl, hd4⟩
                  have hr4 := hr3.trans (hd4.mono hr3.size)
                  refine ⟨_, rfl, hr4, ?_⟩
                  try simp only [Act.put, List.setIfInBounds_toArray, List.set_cons_zero, List.set_cons_succ]
                  (refine txt_light ?_ rfl rfl ?_ ?_; rotate_left; · (intro w' hS; (try dsimp only at hS); go_simp; with_reducible rfl)); try simp only [Act.put, List.setIfInBounds_toArray, List.set_cons_zero, List.set_cons_succ]
                  refine txt_nil ?_
                  have ka := ka.keep hr4
                  have kb := kb.keep hr4
                  have hb9 := hb9.trans (hr4.mono hs9)
                  clear hd1 hd2 hd3 hd4 hr1 hr2 hr3 hr4 hrr kp
                  have hpn := HPN.out
                  have hCb := HCB.out
                  obtain ⟨C2, hC2⟩ : ∃ D, -C = D := ⟨_, rfl⟩
                  obtain ⟨X1, hX1⟩ : ∃ D, ax - bx = D := ⟨_, rfl⟩
                  obtain ⟨X2, hX2⟩ : ∃ D, bx - ax = D := ⟨_, rfl⟩
                  obtain ⟨Y1, hY1⟩ : ∃ D, ay - bY = D := ⟨_, rfl⟩
                  obtain ⟨Y2, hY2⟩ : ∃ D, bY - ay = D := ⟨_, rfl⟩
                  have wC : IntKind.i64.wrap (-C) = C2 := by rw [hC2]; exact IntWalk.i64_in _ (by omega)
                  have wX1 : IntKind.i64.wrap (ax - bx) = X1 := by rw [hX1]; exact IntWalk.i64_in _ (by omega)
                  have wX2 : IntKind.i64.wrap (bx - ax) = X2 := by rw [hX2]; exact IntWalk.i64_in _ (by omega)
                  have wY1 : IntKind.i64.wrap (ay - bY) = Y1 := by rw [hY1]; exact IntWalk.i64_in _ (by omega)
                  have wY2 : IntKind.i64.wrap (bY - ay) = Y2 := by rw [hY2]; exact IntWalk.i64_in _ (by omega)
                  obtain ⟨N, hN⟩ : ∃ N, (if C < C2 then C2 else C) = N := ⟨_, rfl⟩
                  obtain ⟨MX, hMX⟩ : ∃ N, (if X1 < X2 then X2 else X1) = N := ⟨_, rfl⟩
                  obtain ⟨MY, hMY⟩ : ∃ N, (if Y1 < Y2 then Y2 else Y1) = N := ⟨_, rfl⟩
                  obtain ⟨MM, hMM⟩ : ∃ N, (if MX < MY then MY else MX) = N := ⟨_, rfl⟩
                  have hfin : ¬ MM < 2 * N := by
                    rw [hX1, hY1] at hpn
                    have hX2' : X2 = -X1 := by omega
                    have hY2' : Y2 = -Y1 := by omega
                    have := max_no hpn
                    rw [← hMM, ← hMX, ← hMY, ← hN, ← hC2]
                    simp only [hX2', hY2']
                    exact this
                  have hNb : 0 ≤ N ∧ N ≤ 2251799813685248 := by
                    rw [← hC2] at hN
                    exact abs_bd hN hCb
                  have wN : IntKind.i64.wrap (2 * N) = 2 * N := IntWalk.i64_in _ (by omega)
                  clear hpn hCb hC2 hX1 hX2 hY1 hY2 hNb HPN HCB
                  have a0 := ka.cell 0 rfl
                  have a1 := ka.cell 1 rfl
                  have b0 := kb.cell 0 rfl
                  have b1 := kb.cell 1 rfl
                  go_wp2
                  go_roundw
                  case rel => exact ⟨j + 1 + 1, by omega, by omega, by go_num, hb9⟩
                  case measure => simp [intOf]; omega
        refine wp_region_sched 13 [0, 1, 2, 3, 4, 5, 6, 7, 8] (fun W => Below wr.heap.size wr W) rfl (by as_aux_lemma => kernel_rfl) (by as_aux_lemma => kernel_rfl) ?_
        have hb_0 : Below wr.heap.size wr wr.drew := (Below.refl _ _).drew
        generalize wr.drew = W0 at *
        (refine sched_light 0 _ ?_ (by as_aux_lemma => kernel_rfl) (by as_aux_lemma => kernel_rfl) rfl rfl ?_ hb_0 ?_; rotate_left; · (intro w' hS; (try dsimp only at hS); go_simp; with_reducible rfl)); try simp only [Act.put, List.setIfInBounds_toArray, List.set_cons_zero, List.set_cons_succ]
        (refine sched_light 1 _ ?_ (by as_aux_lemma => kernel_rfl) (by as_aux_lemma => kernel_rfl) rfl rfl ?_ hb_0 ?_; rotate_left; · (intro w' hS; (try dsimp only at hS); go_simp; with_reducible rfl)); try simp only [Act.put, List.setIfInBounds_toArray, List.set_cons_zero, List.set_cons_succ]
        (refine sched_light 2 _ ?_ (by as_aux_lemma => kernel_rfl) (by as_aux_lemma => kernel_rfl) rfl rfl ?_ hb_0 ?_; rotate_left; · (intro w' hS; (try dsimp only at hS); go_simp; with_reducible rfl)); try simp only [Act.put, List.setIfInBounds_toArray, List.set_cons_zero, List.set_cons_succ]
        (refine sched_light 3 _ ?_ (by as_aux_lemma => kernel_rfl) (by as_aux_lemma => kernel_rfl) rfl rfl ?_ hb_0 ?_; rotate_left; · (intro w' hS; (try dsimp only at hS); go_simp; with_reducible rfl)); try simp only [Act.put, List.setIfInBounds_toArray, List.set_cons_zero, List.set_cons_succ]
        refine sched_light 4 _ (.agg #[.int .i64 px, .int .i64 py]) (by as_aux_lemma => kernel_rfl) (by as_aux_lemma => kernel_rfl) rfl rfl ?_ hb_0 ?_
        · intro w' hS
          obtain ⟨_, _, e1, -, c0, c1⟩ := HP1.out _ hS
          cases e1
          go_simp
        try simp only [Act.put, List.setIfInBounds_toArray, List.set_cons_zero, List.set_cons_succ]
        (refine sched_light 5 _ ?_ (by as_aux_lemma => kernel_rfl) (by as_aux_lemma => kernel_rfl) rfl rfl ?_ hb_0 ?_; rotate_left; · (intro w' hS; (try dsimp only at hS); go_simp; with_reducible rfl)); try simp only [Act.put, List.setIfInBounds_toArray, List.set_cons_zero, List.set_cons_succ]
        (refine sched_light 6 _ ?_ (by as_aux_lemma => kernel_rfl) (by as_aux_lemma => kernel_rfl) rfl rfl ?_ hb_0 ?_; rotate_left; · (intro w' hS; (try dsimp only at hS); go_simp; with_reducible rfl)); try simp only [Act.put, List.setIfInBounds_toArray, List.set_cons_zero, List.set_cons_succ]
        (refine sched_light 7 _ ?_ (by as_aux_lemma => kernel_rfl) (by as_aux_lemma => kernel_rfl) rfl rfl ?_ hb_0 ?_; rotate_left; · (intro w' hS; (try dsimp only at hS); go_simp; with_reducible rfl)); try simp only [Act.put, List.setIfInBounds_toArray, List.set_cons_zero, List.set_cons_succ]
        refine sched_light 8 _ (.agg #[.int .i64 qx, .int .i64 qy]) (by as_aux_lemma => kernel_rfl) (by as_aux_lemma => kernel_rfl) rfl rfl ?_ hb_0 ?_
        · intro w' hS
          obtain ⟨_, _, e1, -, c0, c1⟩ := HQ1.out _ hS
          cases e1
          go_simp
        try simp only [Act.put, List.setIfInBounds_toArray, List.set_cons_zero, List.set_cons_succ]
        refine sched_fork [9, 10] (by as_aux_lemma => kernel_rfl) (by as_aux_lemma => kernel_rfl) (by decide) ?_
        intro i hi
        simp only [List.mem_cons, List.not_mem_nil, or_false] at hi
        rcases hi with rfl | rfl
        ·
          as_aux_lemma =>
          refine sched_heavy 9 _ rfl rfl (fun K hK => ?_)
          go_step
          have hb_1 := hb_0.alloc hb_0.size (.cells #[.int .i64 0, .int .i64 0] 23)
          have hz_1 : W0.heap.size + 1 ≤ (W0.alloc (.cells #[.int .i64 0, .int .i64 0] 23)).heap.size := by simp
          have k1 := Blk.lit W0 W0.heap.size [.int .i64 0, .int .i64 0] 23 rfl
          refine hK.out _ _ hb_1 ?_
          clear hK K
          generalize W0.alloc (.cells #[.int .i64 0, .int .i64 0] 23) = W1 at *
          try simp only [Act.put, List.setIfInBounds_toArray, List.set_cons_zero, List.set_cons_succ]
          refine sched_fork [10] (by as_aux_lemma => kernel_rfl) (by as_aux_lemma => kernel_rfl) (by decide) ?_
          intro i hi
          simp only [List.mem_cons, List.not_mem_nil, or_false] at hi
          subst hi
          refine sched_heavy 10 _ rfl rfl (fun K hK => ?_)
          go_step
          have hb_2 := hb_1.alloc hb_1.size (.cells #[.int .i64 0, .int .i64 0] 23)
          have hz_2 : W1.heap.size + 1 ≤ (W1.alloc (.cells #[.int .i64 0, .int .i64 0] 23)).heap.size := by simp
          have k2 := Blk.lit W1 W1.heap.size [.int .i64 0, .int .i64 0] 23 rfl
          have k1 := k1.alloc (.cells #[.int .i64 0, .int .i64 0] 23)
          refine hK.out _ _ hb_2 ?_
          clear hK K
          generalize W1.alloc (.cells #[.int .i64 0, .int .i64 0] 23) = W2 at *
          try simp only [Act.put, List.setIfInBounds_toArray, List.set_cons_zero, List.set_cons_succ]
          refine sched_fork [11] (by as_aux_lemma => kernel_rfl) (by as_aux_lemma => kernel_rfl) (by decide) ?_
          intro i hi
          simp only [List.mem_cons, List.not_mem_nil, or_false] at hi
          subst hi
          refine sched_heavy 11 _ rfl rfl (fun K hK => ?_)
          have c0 := k1.cell 0 rfl
          have c1 := k1.cell 1 rfl
          have f0 := k1.free 0
          have f1 := k1.free 1
          have hlt1 := k1.lt
          go_step
          have hb_3 := (hb_2.set_at (b := W0.heap.size) (o := 0) (by have := hb_0.size; omega) (.int .i64 px)).set_at (b := W0.heap.size) (o := 1) (by have := hb_0.size; omega) (.int .i64 py)
          have k1 := ((k1.set 0 (.int .i64 px)).set 1 (.int .i64 py) : Blk _ _ [.int .i64 px, .int .i64 py])
          have k2 := (k2.set_at (b' := W0.heap.size) (o := 0) (by omega) (.int .i64 px)).set_at (b' := W0.heap.size) (o := 1) (by omega) (.int .i64 py)
          refine hK.out _ _ hb_3 ?_
          clear hK K c0 c1 f0 f1 hlt1
          generalize ((W2.setCell ⟨W0.heap.size, 0, none⟩ (.int .i64 px)).setCell ⟨W0.heap.size, 1, none⟩ (.int .i64 py)) = W3 at *
          try simp only [Act.put, List.setIfInBounds_toArray, List.set_cons_zero, List.set_cons_succ]
          refine sched_fork [12] (by as_aux_lemma => kernel_rfl) (by as_aux_lemma => kernel_rfl) (by decide) ?_
          intro i hi
          simp only [List.mem_cons, List.not_mem_nil, or_false] at hi
          subst hi
          refine sched_heavy 12 _ rfl rfl (fun K hK => ?_)
          have c0 := k2.cell 0 rfl
          have c1 := k2.cell 1 rfl
          have f0 := k2.free 0
          have f1 := k2.free 1
          have hlt1 := k2.lt
          go_step
          have hb_4 := (hb_3.set_at (b := W1.heap.size) (o := 0) (by have := hb_0.size; omega) (.int .i64 qx)).set_at (b := W1.heap.size) (o := 1) (by have := hb_0.size; omega) (.int .i64 qy)
          have k2 := ((k2.set 0 (.int .i64 qx)).set 1 (.int .i64 qy) : Blk _ _ [.int .i64 qx, .int .i64 qy])
          have k1 := (k1.set_at (b' := W1.heap.size) (o := 0) (by omega) (.int .i64 qx)).set_at (b' := W1.heap.size) (o := 1) (by omega) (.int .i64 qy)
          refine hK.out _ _ hb_4 ?_
          clear hK K c0 c1 f0 f1 hlt1
          generalize ((W3.setCell ⟨W1.heap.size, 0, none⟩ (.int .i64 qx)).setCell ⟨W1.heap.size, 1, none⟩ (.int .i64 qy)) = W4 at *
          try simp only [Act.put, List.setIfInBounds_toArray, List.set_cons_zero, List.set_cons_succ]
          refine sched_end (by as_aux_lemma => kernel_rfl) ?_
          exact main8 hb_4 k1 k2
        ·
          as_aux_lemma =>
          refine sched_heavy 10 _ rfl rfl (fun K hK => ?_)
          go_step
          have hb_1 := hb_0.alloc hb_0.size (.cells #[.int .i64 0, .int .i64 0] 23)
          have hz_1 : W0.heap.size + 1 ≤ (W0.alloc (.cells #[.int .i64 0, .int .i64 0] 23)).heap.size := by simp
          have k1 := Blk.lit W0 W0.heap.size [.int .i64 0, .int .i64 0] 23 rfl
          refine hK.out _ _ hb_1 ?_
          clear hK K
          generalize W0.alloc (.cells #[.int .i64 0, .int .i64 0] 23) = W1 at *
          try simp only [Act.put, List.setIfInBounds_toArray, List.set_cons_zero, List.set_cons_succ]
          refine sched_fork [9] (by as_aux_lemma => kernel_rfl) (by as_aux_lemma => kernel_rfl) (by decide) ?_
          intro i hi
          simp only [List.mem_cons, List.not_mem_nil, or_false] at hi
          subst hi
          refine sched_heavy 9 _ rfl rfl (fun K hK => ?_)
          go_step
          have hb_2 := hb_1.alloc hb_1.size (.cells #[.int .i64 0, .int .i64 0] 23)
          have hz_2 : W1.heap.size + 1 ≤ (W1.alloc (.cells #[.int .i64 0, .int .i64 0] 23)).heap.size := by simp
          have k2 := Blk.lit W1 W1.heap.size [.int .i64 0, .int .i64 0] 23 rfl
          have k1 := k1.alloc (.cells #[.int .i64 0, .int .i64 0] 23)
          refine hK.out _ _ hb_2 ?_
          clear hK K
          generalize W1.alloc (.cells #[.int .i64 0, .int .i64 0] 23) = W2 at *
          try simp only [Act.put, List.setIfInBounds_toArray, List.set_cons_zero, List.set_cons_succ]
          refine sched_fork [11] (by as_aux_lemma => kernel_rfl) (by as_aux_lemma => kernel_rfl) (by decide) ?_
          intro i hi
          simp only [List.mem_cons, List.not_mem_nil, or_false] at hi
          subst hi
          refine sched_heavy 11 _ rfl rfl (fun K hK => ?_)
          have c0 := k2.cell 0 rfl
          have c1 := k2.cell 1 rfl
          have f0 := k2.free 0
          have f1 := k2.free 1
          have hlt1 := k2.lt
          go_step
          have hb_3 := (hb_2.set_at (b := W1.heap.size) (o := 0) (by have := hb_0.size; omega) (.int .i64 px)).set_at (b := W1.heap.size) (o := 1) (by have := hb_0.size; omega) (.int .i64 py)
          have k2 := ((k2.set 0 (.int .i64 px)).set 1 (.int .i64 py) : Blk _ _ [.int .i64 px, .int .i64 py])
          have k1 := (k1.set_at (b' := W1.heap.size) (o := 0) (by omega) (.int .i64 px)).set_at (b' := W1.heap.size) (o := 1) (by omega) (.int .i64 py)
          refine hK.out _ _ hb_3 ?_
          clear hK K c0 c1 f0 f1 hlt1
          generalize ((W2.setCell ⟨W1.heap.size, 0, none⟩ (.int .i64 px)).setCell ⟨W1.heap.size, 1, none⟩ (.int .i64 py)) = W3 at *
          try simp only [Act.put, List.setIfInBounds_toArray, List.set_cons_zero, List.set_cons_succ]
          refine sched_fork [12] (by as_aux_lemma => kernel_rfl) (by as_aux_lemma => kernel_rfl) (by decide) ?_
          intro i hi
          simp only [List.mem_cons, List.not_mem_nil, or_false] at hi
          subst hi
          refine sched_heavy 12 _ rfl rfl (fun K hK => ?_)
          have c0 := k1.cell 0 rfl
          have c1 := k1.cell 1 rfl
          have f0 := k1.free 0
          have f1 := k1.free 1
          have hlt1 := k1.lt
          go_step
          have hb_4 := (hb_3.set_at (b := W0.heap.size) (o := 0) (by have := hb_0.size; omega) (.int .i64 qx)).set_at (b := W0.heap.size) (o := 1) (by have := hb_0.size; omega) (.int .i64 qy)
          have k1 := ((k1.set 0 (.int .i64 qx)).set 1 (.int .i64 qy) : Blk _ _ [.int .i64 qx, .int .i64 qy])
          have k2 := (k2.set_at (b' := W0.heap.size) (o := 0) (by omega) (.int .i64 qx)).set_at (b' := W0.heap.size) (o := 1) (by omega) (.int .i64 qy)
          refine hK.out _ _ hb_4 ?_
          clear hK K c0 c1 f0 f1 hlt1
          generalize ((W3.setCell ⟨W0.heap.size, 0, none⟩ (.int .i64 qx)).setCell ⟨W0.heap.size, 1, none⟩ (.int .i64 qy)) = W4 at *
          try simp only [Act.put, List.setIfInBounds_toArray, List.set_cons_zero, List.set_cons_succ]
          refine sched_end (by as_aux_lemma => kernel_rfl) ?_
          exact main8 hb_4 k2 k1
      · have hlt' : ¬ (k : Int) < (ALL.length : Int) := by omega
        have hbH := hbG.trans (hbr.mono hsG)
        go_wp2_with fail
        refine (sknown_any _).mono ?_
        rintro e w8 ⟨rfl, hb9⟩
        have hbE := hbH.trans (hb9.mono hbH.size)
        go_wp2
        go_ret
        exact ⟨rfl, hbE⟩
  refine wp_region_sched 12 [0, 2, 3, 4, 5, 8, 11] (fun W => Below wB.heap.size wB W) rfl (by as_aux_lemma => kernel_rfl) (by as_aux_lemma => kernel_rfl) ?_
  have hb_0 : Below wB.heap.size wB wB.drew := (Below.refl _ _).drew
  have hz_0 : wB.heap.size ≤ wB.drew.heap.size := Nat.le_refl _
  generalize wB.drew = W0 at *
  refine sched_light 0 _ (.agg #[.int .i64 ax, .int .i64 ay]) (by as_aux_lemma => kernel_rfl) (by as_aux_lemma => kernel_rfl) rfl rfl ?_ hb_0 ?_
  · intro w' hS
    have c0 := (ka.keep hS).cell 0 rfl
    have c1 := (ka.keep hS).cell 1 rfl
    go_simp
  try simp only [Act.put, List.setIfInBounds_toArray, List.set_cons_zero, List.set_cons_succ]
  refine sched_light 2 _ (.agg #[.int .i64 ax, .int .i64 ay]) (by as_aux_lemma => kernel_rfl) (by as_aux_lemma => kernel_rfl) rfl rfl ?_ hb_0 ?_
  · intro w' hS
    have c0 := (ka.keep hS).cell 0 rfl
    have c1 := (ka.keep hS).cell 1 rfl
    go_simp
  try simp only [Act.put, List.setIfInBounds_toArray, List.set_cons_zero, List.set_cons_succ]
  refine sched_light 3 _ (.agg #[.int .i64 bx, .int .i64 bY]) (by as_aux_lemma => kernel_rfl) (by as_aux_lemma => kernel_rfl) rfl rfl ?_ hb_0 ?_
  · intro w' hS
    have c0 := (kb.keep hS).cell 0 rfl
    have c1 := (kb.keep hS).cell 1 rfl
    go_simp
  try simp only [Act.put, List.setIfInBounds_toArray, List.set_cons_zero, List.set_cons_succ]
  (refine sched_light 4 _ ?_ (by as_aux_lemma => kernel_rfl) (by as_aux_lemma => kernel_rfl) rfl rfl ?_ hb_0 ?_; rotate_left; · (intro w' hS; (try dsimp only at hS); go_simp; with_reducible rfl)); try simp only [Act.put, List.setIfInBounds_toArray, List.set_cons_zero, List.set_cons_succ]
  (refine sched_light 5 _ ?_ (by as_aux_lemma => kernel_rfl) (by as_aux_lemma => kernel_rfl) rfl rfl ?_ hb_0 ?_; rotate_left; · (intro w' hS; (try dsimp only at hS); go_simp; with_reducible rfl)); try simp only [Act.put, List.setIfInBounds_toArray, List.set_cons_zero, List.set_cons_succ]
  refine sched_light 8 _ (.agg #[.int .i64 bx, .int .i64 bY]) (by as_aux_lemma => kernel_rfl) (by as_aux_lemma => kernel_rfl) rfl rfl ?_ hb_0 ?_
  · intro w' hS
    have c0 := (kb.keep hS).cell 0 rfl
    have c1 := (kb.keep hS).cell 1 rfl
    go_simp
  try simp only [Act.put, List.setIfInBounds_toArray, List.set_cons_zero, List.set_cons_succ]
  refine sched_fork [1, 6, 9] (by as_aux_lemma => kernel_rfl) (by as_aux_lemma => kernel_rfl) (by decide) ?_
  intro i hi
  simp only [List.mem_cons, List.not_mem_nil, or_false] at hi
  rcases hi with rfl | rfl | rfl
  ·
    as_aux_lemma =>
    refine sched_heavy 1 _ rfl rfl (fun K hK => ?_)
    go_step
    have hb_1 := hb_0.alloc hb_0.size (.cells #[.int .i64 ax, .int .i64 ay] 23)
    have hz_1 : W0.heap.size + 1 ≤ (W0.alloc (.cells #[.int .i64 ax, .int .i64 ay] 23)).heap.size := by simp
    have ho_1 : (W0.alloc (.cells #[.int .i64 ax, .int .i64 ay] 23)).ownsRow wB.heap.size 23 2 (.slice (some ⟨W0.heap.size, 0, none⟩) 1 1) 1 [.int .i64 ax, .int .i64 ay] := (ownsRow_lit W0 23 2 1 [.int .i64 ax, .int .i64 ay] rfl (by decide)).mono hb_0.size
    refine hK.out _ _ hb_1 ?_
    clear hK K
    generalize W0.alloc (.cells #[.int .i64 ax, .int .i64 ay] 23) = W1 at *
    try simp only [Act.put, List.setIfInBounds_toArray, List.set_cons_zero, List.set_cons_succ]
    refine sched_fork [6, 9] (by as_aux_lemma => kernel_rfl) (by as_aux_lemma => kernel_rfl) (by decide) ?_
    intro i hi
    simp only [List.mem_cons, List.not_mem_nil, or_false] at hi
    rcases hi with rfl | rfl
    ·
      as_aux_lemma =>
      refine sched_heavy 6 _ rfl rfl (fun K hK => ?_)
      refine wp_call_at [.agg #[.int .i64 ax, .int .i64 ay], .agg #[.int .i64 bx, .int .i64 bY], .slice xa lx xc, .slice ya ly yc] Try.f11 Try.func11 (by as_aux_lemma => kernel_rfl) (by as_aux_lemma => kernel_rfl) rfl ((CT1.out _ (hxt.keep (hb4.trans (hb_1.mono hs4))) (hyt.keep (hb4.trans (hb_1.mono hs4)))).mono ?_)
      rintro e W2 ⟨v2, rfl, hc2, hx2⟩
      obtain ⟨p2, c2, rfl, -, -, hcn, rc_2, -⟩ := hc2.form
      clear hc2
      have hz_2 : W1.heap.size ≤ W2.heap.size := hx2.size
      have hb_2 := hb_1.trans (hx2.mono hb_1.size)
      have ho_2 := World.ownsRow.below ho_1 hx2
      refine ⟨_, rfl, hK.out _ _ hb_2 ?_⟩
      clear hK K hx2
      try simp only [Act.put, List.setIfInBounds_toArray, List.set_cons_zero, List.set_cons_succ]
      refine sched_fork [7, 9] (by as_aux_lemma => kernel_rfl) (by as_aux_lemma => kernel_rfl) (by decide) ?_
      intro i hi
      simp only [List.mem_cons, List.not_mem_nil, or_false] at hi
      rcases hi with rfl | rfl
      ·
        as_aux_lemma =>
        refine sched_heavy 7 _ rfl rfl (fun K hK => ?_)
        have hol := ho_2.lt
        refine wp_app (.tmp 38) (.tmp 43) 31 rfl wB.heap.size 23 (.agg #[.int .i64 0, .int .i64 0]) 2 16 Try.underlying31 Try.infoTP rfl (by decide) (.slice (some ⟨W0.heap.size, 0, none⟩) 1 1) 1 [.int .i64 ax, .int .i64 ay] rfl ho_2 p2 CU.length c2 (pts CU) rfl hcn rc_2 (pts_len CU) (pts_one CU) (by omega) (by decide) hb_2.size ?_
        intro v3 W3 ho_3 hg
        have hz_3 : W2.heap.size ≤ W3.heap.size := hg.size
        have hb_3 := hb_2.grown hg hb_2.size (fun x hx => (hol x hx).1)
        refine hK.out _ _ hb_3 ?_
        clear hK K hg hol
        try simp only [Act.put, List.setIfInBounds_toArray, List.set_cons_zero, List.set_cons_succ]
        refine sched_fork [9] (by as_aux_lemma => kernel_rfl) (by as_aux_lemma => kernel_rfl) (by decide) ?_
        intro i hi
        simp only [List.mem_cons, List.not_mem_nil, or_false] at hi
        subst hi
        refine sched_heavy 9 _ rfl rfl (fun K hK => ?_)
        go_step
        have hb_4 := hb_3.alloc hb_3.size (.cells #[.int .i64 bx, .int .i64 bY] 23)
        have hz_4 : W3.heap.size + 1 ≤ (W3.alloc (.cells #[.int .i64 bx, .int .i64 bY] 23)).heap.size := by simp
        have ho_4 := World.ownsRow.below ho_3 (Below.new W3 (.cells #[.int .i64 bx, .int .i64 bY] 23))
        have rd_4 := Rd.lit W3 W3.heap.size [.int .i64 bx, .int .i64 bY] 23 rfl
        refine hK.out _ _ hb_4 ?_
        clear hK K
        generalize W3.alloc (.cells #[.int .i64 bx, .int .i64 bY] 23) = W4 at *
        try simp only [Act.put, List.setIfInBounds_toArray, List.set_cons_zero, List.set_cons_succ]
        refine sched_fork [10] (by as_aux_lemma => kernel_rfl) (by as_aux_lemma => kernel_rfl) (by decide) ?_
        intro i hi
        simp only [List.mem_cons, List.not_mem_nil, or_false] at hi
        subst hi
        refine sched_heavy 10 _ rfl rfl (fun K hK => ?_)
        have hol := ho_4.lt
        refine wp_app_at (.tmp 44) (.tmp 46) 31 rfl wB.heap.size 23 (.agg #[.int .i64 0, .int .i64 0]) 2 16 Try.underlying31 Try.infoTP rfl (by decide) v3 (1 + CU.length) ([.int .i64 ax, .int .i64 ay] ++ pts CU) rfl ho_4 ⟨W3.heap.size, 0, none⟩ 1 1 [.int .i64 bx, .int .i64 bY] rfl rd_4 rfl (by simp [Value.oneCell']) (by omega) (by decide) hb_4.size ?_
        intro vF WF hoF hg hloc
        have hbF := hb_4.grown hg hb_4.size (fun x hx => (hol x hx).1)
        refine hK.out _ _ hbF ?_
        clear hK K hg hloc
        try simp only [Act.put, List.setIfInBounds_toArray, List.set_cons_zero, List.set_cons_succ]
        (refine sched_light 11 _ ?_ (by as_aux_lemma => kernel_rfl) (by as_aux_lemma => kernel_rfl) rfl rfl ?_ hbF ?_; rotate_left; · (intro w' hS; (try dsimp only at hS); go_simp; with_reducible rfl)); try simp only [Act.put, List.setIfInBounds_toArray, List.set_cons_zero, List.set_cons_succ]
        refine sched_end (by as_aux_lemma => kernel_rfl) ?_
        exact main5 hbF hoF
      ·
        as_aux_lemma =>
        refine sched_heavy 9 _ rfl rfl (fun K hK => ?_)
        go_step
        have hb_3 := hb_2.alloc hb_2.size (.cells #[.int .i64 bx, .int .i64 bY] 23)
        have hz_3 : W2.heap.size + 1 ≤ (W2.alloc (.cells #[.int .i64 bx, .int .i64 bY] 23)).heap.size := by simp
        have ho_3 := World.ownsRow.below ho_2 (Below.new W2 (.cells #[.int .i64 bx, .int .i64 bY] 23))
        have rd_3 := Rd.lit W2 W2.heap.size [.int .i64 bx, .int .i64 bY] 23 rfl
        have rc_3 := rc_2.alloc (.cells #[.int .i64 bx, .int .i64 bY] 23)
        refine hK.out _ _ hb_3 ?_
        clear hK K
        generalize W2.alloc (.cells #[.int .i64 bx, .int .i64 bY] 23) = W3 at *
        try simp only [Act.put, List.setIfInBounds_toArray, List.set_cons_zero, List.set_cons_succ]
        refine sched_fork [7] (by as_aux_lemma => kernel_rfl) (by as_aux_lemma => kernel_rfl) (by decide) ?_
        intro i hi
        simp only [List.mem_cons, List.not_mem_nil, or_false] at hi
        subst hi
        refine sched_heavy 7 _ rfl rfl (fun K hK => ?_)
        have hol := ho_3.lt
        refine wp_app (.tmp 38) (.tmp 43) 31 rfl wB.heap.size 23 (.agg #[.int .i64 0, .int .i64 0]) 2 16 Try.underlying31 Try.infoTP rfl (by decide) (.slice (some ⟨W0.heap.size, 0, none⟩) 1 1) 1 [.int .i64 ax, .int .i64 ay] rfl ho_3 p2 CU.length c2 (pts CU) rfl hcn rc_3 (pts_len CU) (pts_one CU) (by omega) (by decide) hb_3.size ?_
        intro v4 W4 ho_4 hg
        have hz_4 : W3.heap.size ≤ W4.heap.size := hg.size
        have hb_4 := hb_3.grown hg hb_3.size (fun x hx => (hol x hx).1)
        have rd_4 := rd_3.grown hg (fun x hx => by simp [Value.ownBlock] at hx ⊢; omega)
        refine hK.out _ _ hb_4 ?_
        clear hK K hg hol
        try simp only [Act.put, List.setIfInBounds_toArray, List.set_cons_zero, List.set_cons_succ]
        refine sched_fork [10] (by as_aux_lemma => kernel_rfl) (by as_aux_lemma => kernel_rfl) (by decide) ?_
        intro i hi
        simp only [List.mem_cons, List.not_mem_nil, or_false] at hi
        subst hi
        refine sched_heavy 10 _ rfl rfl (fun K hK => ?_)
        have hol := ho_4.lt
        refine wp_app_at (.tmp 44) (.tmp 46) 31 rfl wB.heap.size 23 (.agg #[.int .i64 0, .int .i64 0]) 2 16 Try.underlying31 Try.infoTP rfl (by decide) v4 (1 + CU.length) ([.int .i64 ax, .int .i64 ay] ++ pts CU) rfl ho_4 ⟨W2.heap.size, 0, none⟩ 1 1 [.int .i64 bx, .int .i64 bY] rfl rd_4 rfl (by simp [Value.oneCell']) (by omega) (by decide) hb_4.size ?_
        intro vF WF hoF hg hloc
        have hbF := hb_4.grown hg hb_4.size (fun x hx => (hol x hx).1)
        refine hK.out _ _ hbF ?_
        clear hK K hg hloc
        try simp only [Act.put, List.setIfInBounds_toArray, List.set_cons_zero, List.set_cons_succ]
        (refine sched_light 11 _ ?_ (by as_aux_lemma => kernel_rfl) (by as_aux_lemma => kernel_rfl) rfl rfl ?_ hbF ?_; rotate_left; · (intro w' hS; (try dsimp only at hS); go_simp; with_reducible rfl)); try simp only [Act.put, List.setIfInBounds_toArray, List.set_cons_zero, List.set_cons_succ]
        refine sched_end (by as_aux_lemma => kernel_rfl) ?_
        exact main5 hbF hoF
    ·
      as_aux_lemma =>
      refine sched_heavy 9 _ rfl rfl (fun K hK => ?_)
      go_step
      have hb_2 := hb_1.alloc hb_1.size (.cells #[.int .i64 bx, .int .i64 bY] 23)
      have hz_2 : W1.heap.size + 1 ≤ (W1.alloc (.cells #[.int .i64 bx, .int .i64 bY] 23)).heap.size := by simp
      have ho_2 := World.ownsRow.below ho_1 (Below.new W1 (.cells #[.int .i64 bx, .int .i64 bY] 23))
      have rd_2 := Rd.lit W1 W1.heap.size [.int .i64 bx, .int .i64 bY] 23 rfl
      refine hK.out _ _ hb_2 ?_
      clear hK K
      generalize W1.alloc (.cells #[.int .i64 bx, .int .i64 bY] 23) = W2 at *
      try simp only [Act.put, List.setIfInBounds_toArray, List.set_cons_zero, List.set_cons_succ]
      refine sched_fork [6] (by as_aux_lemma => kernel_rfl) (by as_aux_lemma => kernel_rfl) (by decide) ?_
      intro i hi
      simp only [List.mem_cons, List.not_mem_nil, or_false] at hi
      subst hi
      refine sched_heavy 6 _ rfl rfl (fun K hK => ?_)
      refine wp_call_at [.agg #[.int .i64 ax, .int .i64 ay], .agg #[.int .i64 bx, .int .i64 bY], .slice xa lx xc, .slice ya ly yc] Try.f11 Try.func11 (by as_aux_lemma => kernel_rfl) (by as_aux_lemma => kernel_rfl) rfl ((CT1.out _ (hxt.keep (hb4.trans (hb_2.mono hs4))) (hyt.keep (hb4.trans (hb_2.mono hs4)))).mono ?_)
      rintro e W3 ⟨v3, rfl, hc3, hx3⟩
      obtain ⟨p3, c3, rfl, -, -, hcn, rc_3, -⟩ := hc3.form
      clear hc3
      have hz_3 : W2.heap.size ≤ W3.heap.size := hx3.size
      have hb_3 := hb_2.trans (hx3.mono hb_2.size)
      have ho_3 := World.ownsRow.below ho_2 hx3
      have rd_3 := rd_2.keep hx3
      refine ⟨_, rfl, hK.out _ _ hb_3 ?_⟩
      clear hK K hx3
      try simp only [Act.put, List.setIfInBounds_toArray, List.set_cons_zero, List.set_cons_succ]
      refine sched_fork [7] (by as_aux_lemma => kernel_rfl) (by as_aux_lemma => kernel_rfl) (by decide) ?_
      intro i hi
      simp only [List.mem_cons, List.not_mem_nil, or_false] at hi
      subst hi
      refine sched_heavy 7 _ rfl rfl (fun K hK => ?_)
      have hol := ho_3.lt
      refine wp_app (.tmp 38) (.tmp 43) 31 rfl wB.heap.size 23 (.agg #[.int .i64 0, .int .i64 0]) 2 16 Try.underlying31 Try.infoTP rfl (by decide) (.slice (some ⟨W0.heap.size, 0, none⟩) 1 1) 1 [.int .i64 ax, .int .i64 ay] rfl ho_3 p3 CU.length c3 (pts CU) rfl hcn rc_3 (pts_len CU) (pts_one CU) (by omega) (by decide) hb_3.size ?_
      intro v4 W4 ho_4 hg
      have hz_4 : W3.heap.size ≤ W4.heap.size := hg.size
      have hb_4 := hb_3.grown hg hb_3.size (fun x hx => (hol x hx).1)
      have rd_4 := rd_3.grown hg (fun x hx => by simp [Value.ownBlock] at hx ⊢; omega)
      refine hK.out _ _ hb_4 ?_
      clear hK K hg hol
      try simp only [Act.put, List.setIfInBounds_toArray, List.set_cons_zero, List.set_cons_succ]
      refine sched_fork [10] (by as_aux_lemma => kernel_rfl) (by as_aux_lemma => kernel_rfl) (by decide) ?_
      intro i hi
      simp only [List.mem_cons, List.not_mem_nil, or_false] at hi
      subst hi
      refine sched_heavy 10 _ rfl rfl (fun K hK => ?_)
      have hol := ho_4.lt
      refine wp_app_at (.tmp 44) (.tmp 46) 31 rfl wB.heap.size 23 (.agg #[.int .i64 0, .int .i64 0]) 2 16 Try.underlying31 Try.infoTP rfl (by decide) v4 (1 + CU.length) ([.int .i64 ax, .int .i64 ay] ++ pts CU) rfl ho_4 ⟨W1.heap.size, 0, none⟩ 1 1 [.int .i64 bx, .int .i64 bY] rfl rd_4 rfl (by simp [Value.oneCell']) (by omega) (by decide) hb_4.size ?_
      intro vF WF hoF hg hloc
      have hbF := hb_4.grown hg hb_4.size (fun x hx => (hol x hx).1)
      refine hK.out _ _ hbF ?_
      clear hK K hg hloc
      try simp only [Act.put, List.setIfInBounds_toArray, List.set_cons_zero, List.set_cons_succ]
      (refine sched_light 11 _ ?_ (by as_aux_lemma => kernel_rfl) (by as_aux_lemma => kernel_rfl) rfl rfl ?_ hbF ?_; rotate_left; · (intro w' hS; (try dsimp only at hS); go_simp; with_reducible rfl)); try simp only [Act.put, List.setIfInBounds_toArray, List.set_cons_zero, List.set_cons_succ]
      refine sched_end (by as_aux_lemma => kernel_rfl) ?_
      exact main5 hbF hoF
  ·
    as_aux_lemma =>
    refine sched_heavy 6 _ rfl rfl (fun K hK => ?_)
    refine wp_call_at [.agg #[.int .i64 ax, .int .i64 ay], .agg #[.int .i64 bx, .int .i64 bY], .slice xa lx xc, .slice ya ly yc] Try.f11 Try.func11 (by as_aux_lemma => kernel_rfl) (by as_aux_lemma => kernel_rfl) rfl ((CT1.out _ (hxt.keep (hb4.trans (hb_0.mono hs4))) (hyt.keep (hb4.trans (hb_0.mono hs4)))).mono ?_)
    rintro e W1 ⟨v1, rfl, hc1, hx1⟩
    obtain ⟨p1, c1, rfl, -, -, hcn, rc_1, -⟩ := hc1.form
    clear hc1
    have hz_1 : W0.heap.size ≤ W1.heap.size := hx1.size
    have hb_1 := hb_0.trans (hx1.mono hb_0.size)
    refine ⟨_, rfl, hK.out _ _ hb_1 ?_⟩
    clear hK K hx1
    try simp only [Act.put, List.setIfInBounds_toArray, List.set_cons_zero, List.set_cons_succ]
    refine sched_fork [1, 9] (by as_aux_lemma => kernel_rfl) (by as_aux_lemma => kernel_rfl) (by decide) ?_
    intro i hi
    simp only [List.mem_cons, List.not_mem_nil, or_false] at hi
    rcases hi with rfl | rfl
    ·
      as_aux_lemma =>
      refine sched_heavy 1 _ rfl rfl (fun K hK => ?_)
      go_step
      have hb_2 := hb_1.alloc hb_1.size (.cells #[.int .i64 ax, .int .i64 ay] 23)
      have hz_2 : W1.heap.size + 1 ≤ (W1.alloc (.cells #[.int .i64 ax, .int .i64 ay] 23)).heap.size := by simp
      have ho_2 : (W1.alloc (.cells #[.int .i64 ax, .int .i64 ay] 23)).ownsRow wB.heap.size 23 2 (.slice (some ⟨W1.heap.size, 0, none⟩) 1 1) 1 [.int .i64 ax, .int .i64 ay] := (ownsRow_lit W1 23 2 1 [.int .i64 ax, .int .i64 ay] rfl (by decide)).mono hb_1.size
      have rc_2 := rc_1.alloc (.cells #[.int .i64 ax, .int .i64 ay] 23)
      refine hK.out _ _ hb_2 ?_
      clear hK K
      generalize W1.alloc (.cells #[.int .i64 ax, .int .i64 ay] 23) = W2 at *
      try simp only [Act.put, List.setIfInBounds_toArray, List.set_cons_zero, List.set_cons_succ]
      refine sched_fork [7, 9] (by as_aux_lemma => kernel_rfl) (by as_aux_lemma => kernel_rfl) (by decide) ?_
      intro i hi
      simp only [List.mem_cons, List.not_mem_nil, or_false] at hi
      rcases hi with rfl | rfl
      ·
        as_aux_lemma =>
        refine sched_heavy 7 _ rfl rfl (fun K hK => ?_)
        have hol := ho_2.lt
        refine wp_app (.tmp 38) (.tmp 43) 31 rfl wB.heap.size 23 (.agg #[.int .i64 0, .int .i64 0]) 2 16 Try.underlying31 Try.infoTP rfl (by decide) (.slice (some ⟨W1.heap.size, 0, none⟩) 1 1) 1 [.int .i64 ax, .int .i64 ay] rfl ho_2 p1 CU.length c1 (pts CU) rfl hcn rc_2 (pts_len CU) (pts_one CU) (by omega) (by decide) hb_2.size ?_
        intro v3 W3 ho_3 hg
        have hz_3 : W2.heap.size ≤ W3.heap.size := hg.size
        have hb_3 := hb_2.grown hg hb_2.size (fun x hx => (hol x hx).1)
        refine hK.out _ _ hb_3 ?_
        clear hK K hg hol
        try simp only [Act.put, List.setIfInBounds_toArray, List.set_cons_zero, List.set_cons_succ]
        refine sched_fork [9] (by as_aux_lemma => kernel_rfl) (by as_aux_lemma => kernel_rfl) (by decide) ?_
        intro i hi
        simp only [List.mem_cons, List.not_mem_nil, or_false] at hi
        subst hi
        refine sched_heavy 9 _ rfl rfl (fun K hK => ?_)
        go_step
        have hb_4 := hb_3.alloc hb_3.size (.cells #[.int .i64 bx, .int .i64 bY] 23)
        have hz_4 : W3.heap.size + 1 ≤ (W3.alloc (.cells #[.int .i64 bx, .int .i64 bY] 23)).heap.size := by simp
        have ho_4 := World.ownsRow.below ho_3 (Below.new W3 (.cells #[.int .i64 bx, .int .i64 bY] 23))
        have rd_4 := Rd.lit W3 W3.heap.size [.int .i64 bx, .int .i64 bY] 23 rfl
        refine hK.out _ _ hb_4 ?_
        clear hK K
        generalize W3.alloc (.cells #[.int .i64 bx, .int .i64 bY] 23) = W4 at *
        try simp only [Act.put, List.setIfInBounds_toArray, List.set_cons_zero, List.set_cons_succ]
        refine sched_fork [10] (by as_aux_lemma => kernel_rfl) (by as_aux_lemma => kernel_rfl) (by decide) ?_
        intro i hi
        simp only [List.mem_cons, List.not_mem_nil, or_false] at hi
        subst hi
        refine sched_heavy 10 _ rfl rfl (fun K hK => ?_)
        have hol := ho_4.lt
        refine wp_app_at (.tmp 44) (.tmp 46) 31 rfl wB.heap.size 23 (.agg #[.int .i64 0, .int .i64 0]) 2 16 Try.underlying31 Try.infoTP rfl (by decide) v3 (1 + CU.length) ([.int .i64 ax, .int .i64 ay] ++ pts CU) rfl ho_4 ⟨W3.heap.size, 0, none⟩ 1 1 [.int .i64 bx, .int .i64 bY] rfl rd_4 rfl (by simp [Value.oneCell']) (by omega) (by decide) hb_4.size ?_
        intro vF WF hoF hg hloc
        have hbF := hb_4.grown hg hb_4.size (fun x hx => (hol x hx).1)
        refine hK.out _ _ hbF ?_
        clear hK K hg hloc
        try simp only [Act.put, List.setIfInBounds_toArray, List.set_cons_zero, List.set_cons_succ]
        (refine sched_light 11 _ ?_ (by as_aux_lemma => kernel_rfl) (by as_aux_lemma => kernel_rfl) rfl rfl ?_ hbF ?_; rotate_left; · (intro w' hS; (try dsimp only at hS); go_simp; with_reducible rfl)); try simp only [Act.put, List.setIfInBounds_toArray, List.set_cons_zero, List.set_cons_succ]
        refine sched_end (by as_aux_lemma => kernel_rfl) ?_
        exact main5 hbF hoF
      ·
        as_aux_lemma =>
        refine sched_heavy 9 _ rfl rfl (fun K hK => ?_)
        go_step
        have hb_3 := hb_2.alloc hb_2.size (.cells #[.int .i64 bx, .int .i64 bY] 23)
        have hz_3 : W2.heap.size + 1 ≤ (W2.alloc (.cells #[.int .i64 bx, .int .i64 bY] 23)).heap.size := by simp
        have ho_3 := World.ownsRow.below ho_2 (Below.new W2 (.cells #[.int .i64 bx, .int .i64 bY] 23))
        have rd_3 := Rd.lit W2 W2.heap.size [.int .i64 bx, .int .i64 bY] 23 rfl
        have rc_3 := rc_2.alloc (.cells #[.int .i64 bx, .int .i64 bY] 23)
        refine hK.out _ _ hb_3 ?_
        clear hK K
        generalize W2.alloc (.cells #[.int .i64 bx, .int .i64 bY] 23) = W3 at *
        try simp only [Act.put, List.setIfInBounds_toArray, List.set_cons_zero, List.set_cons_succ]
        refine sched_fork [7] (by as_aux_lemma => kernel_rfl) (by as_aux_lemma => kernel_rfl) (by decide) ?_
        intro i hi
        simp only [List.mem_cons, List.not_mem_nil, or_false] at hi
        subst hi
        refine sched_heavy 7 _ rfl rfl (fun K hK => ?_)
        have hol := ho_3.lt
        refine wp_app (.tmp 38) (.tmp 43) 31 rfl wB.heap.size 23 (.agg #[.int .i64 0, .int .i64 0]) 2 16 Try.underlying31 Try.infoTP rfl (by decide) (.slice (some ⟨W1.heap.size, 0, none⟩) 1 1) 1 [.int .i64 ax, .int .i64 ay] rfl ho_3 p1 CU.length c1 (pts CU) rfl hcn rc_3 (pts_len CU) (pts_one CU) (by omega) (by decide) hb_3.size ?_
        intro v4 W4 ho_4 hg
        have hz_4 : W3.heap.size ≤ W4.heap.size := hg.size
        have hb_4 := hb_3.grown hg hb_3.size (fun x hx => (hol x hx).1)
        have rd_4 := rd_3.grown hg (fun x hx => by simp [Value.ownBlock] at hx ⊢; omega)
        refine hK.out _ _ hb_4 ?_
        clear hK K hg hol
        try simp only [Act.put, List.setIfInBounds_toArray, List.set_cons_zero, List.set_cons_succ]
        refine sched_fork [10] (by as_aux_lemma => kernel_rfl) (by as_aux_lemma => kernel_rfl) (by decide) ?_
        intro i hi
        simp only [List.mem_cons, List.not_mem_nil, or_false] at hi
        subst hi
        refine sched_heavy 10 _ rfl rfl (fun K hK => ?_)
        have hol := ho_4.lt
        refine wp_app_at (.tmp 44) (.tmp 46) 31 rfl wB.heap.size 23 (.agg #[.int .i64 0, .int .i64 0]) 2 16 Try.underlying31 Try.infoTP rfl (by decide) v4 (1 + CU.length) ([.int .i64 ax, .int .i64 ay] ++ pts CU) rfl ho_4 ⟨W2.heap.size, 0, none⟩ 1 1 [.int .i64 bx, .int .i64 bY] rfl rd_4 rfl (by simp [Value.oneCell']) (by omega) (by decide) hb_4.size ?_
        intro vF WF hoF hg hloc
        have hbF := hb_4.grown hg hb_4.size (fun x hx => (hol x hx).1)
        refine hK.out _ _ hbF ?_
        clear hK K hg hloc
        try simp only [Act.put, List.setIfInBounds_toArray, List.set_cons_zero, List.set_cons_succ]
        (refine sched_light 11 _ ?_ (by as_aux_lemma => kernel_rfl) (by as_aux_lemma => kernel_rfl) rfl rfl ?_ hbF ?_; rotate_left; · (intro w' hS; (try dsimp only at hS); go_simp; with_reducible rfl)); try simp only [Act.put, List.setIfInBounds_toArray, List.set_cons_zero, List.set_cons_succ]
        refine sched_end (by as_aux_lemma => kernel_rfl) ?_
        exact main5 hbF hoF
    ·
      as_aux_lemma =>
      refine sched_heavy 9 _ rfl rfl (fun K hK => ?_)
      go_step
      have hb_2 := hb_1.alloc hb_1.size (.cells #[.int .i64 bx, .int .i64 bY] 23)
      have hz_2 : W1.heap.size + 1 ≤ (W1.alloc (.cells #[.int .i64 bx, .int .i64 bY] 23)).heap.size := by simp
      have rd_2 := Rd.lit W1 W1.heap.size [.int .i64 bx, .int .i64 bY] 23 rfl
      have rc_2 := rc_1.alloc (.cells #[.int .i64 bx, .int .i64 bY] 23)
      refine hK.out _ _ hb_2 ?_
      clear hK K
      generalize W1.alloc (.cells #[.int .i64 bx, .int .i64 bY] 23) = W2 at *
      try simp only [Act.put, List.setIfInBounds_toArray, List.set_cons_zero, List.set_cons_succ]
      refine sched_fork [1] (by as_aux_lemma => kernel_rfl) (by as_aux_lemma => kernel_rfl) (by decide) ?_
      intro i hi
      simp only [List.mem_cons, List.not_mem_nil, or_false] at hi
      subst hi
      refine sched_heavy 1 _ rfl rfl (fun K hK => ?_)
      go_step
      have hb_3 := hb_2.alloc hb_2.size (.cells #[.int .i64 ax, .int .i64 ay] 23)
      have hz_3 : W2.heap.size + 1 ≤ (W2.alloc (.cells #[.int .i64 ax, .int .i64 ay] 23)).heap.size := by simp
      have ho_3 : (W2.alloc (.cells #[.int .i64 ax, .int .i64 ay] 23)).ownsRow wB.heap.size 23 2 (.slice (some ⟨W2.heap.size, 0, none⟩) 1 1) 1 [.int .i64 ax, .int .i64 ay] := (ownsRow_lit W2 23 2 1 [.int .i64 ax, .int .i64 ay] rfl (by decide)).mono hb_2.size
      have rd_3 := rd_2.alloc (.cells #[.int .i64 ax, .int .i64 ay] 23)
      have rc_3 := rc_2.alloc (.cells #[.int .i64 ax, .int .i64 ay] 23)
      refine hK.out _ _ hb_3 ?_
      clear hK K
      generalize W2.alloc (.cells #[.int .i64 ax, .int .i64 ay] 23) = W3 at *
      try simp only [Act.put, List.setIfInBounds_toArray, List.set_cons_zero, List.set_cons_succ]
      refine sched_fork [7] (by as_aux_lemma => kernel_rfl) (by as_aux_lemma => kernel_rfl) (by decide) ?_
      intro i hi
      simp only [List.mem_cons, List.not_mem_nil, or_false] at hi
      subst hi
      refine sched_heavy 7 _ rfl rfl (fun K hK => ?_)
      have hol := ho_3.lt
      refine wp_app (.tmp 38) (.tmp 43) 31 rfl wB.heap.size 23 (.agg #[.int .i64 0, .int .i64 0]) 2 16 Try.underlying31 Try.infoTP rfl (by decide) (.slice (some ⟨W2.heap.size, 0, none⟩) 1 1) 1 [.int .i64 ax, .int .i64 ay] rfl ho_3 p1 CU.length c1 (pts CU) rfl hcn rc_3 (pts_len CU) (pts_one CU) (by omega) (by decide) hb_3.size ?_
      intro v4 W4 ho_4 hg
      have hz_4 : W3.heap.size ≤ W4.heap.size := hg.size
      have hb_4 := hb_3.grown hg hb_3.size (fun x hx => (hol x hx).1)
      have rd_4 := rd_3.grown hg (fun x hx => by simp [Value.ownBlock] at hx ⊢; omega)
      refine hK.out _ _ hb_4 ?_
      clear hK K hg hol
      try simp only [Act.put, List.setIfInBounds_toArray, List.set_cons_zero, List.set_cons_succ]
      refine sched_fork [10] (by as_aux_lemma => kernel_rfl) (by as_aux_lemma => kernel_rfl) (by decide) ?_
      intro i hi
      simp only [List.mem_cons, List.not_mem_nil, or_false] at hi
      subst hi
      refine sched_heavy 10 _ rfl rfl (fun K hK => ?_)
      have hol := ho_4.lt
      refine wp_app_at (.tmp 44) (.tmp 46) 31 rfl wB.heap.size 23 (.agg #[.int .i64 0, .int .i64 0]) 2 16 Try.underlying31 Try.infoTP rfl (by decide) v4 (1 + CU.length) ([.int .i64 ax, .int .i64 ay] ++ pts CU) rfl ho_4 ⟨W1.heap.size, 0, none⟩ 1 1 [.int .i64 bx, .int .i64 bY] rfl rd_4 rfl (by simp [Value.oneCell']) (by omega) (by decide) hb_4.size ?_
      intro vF WF hoF hg hloc
      have hbF := hb_4.grown hg hb_4.size (fun x hx => (hol x hx).1)
      refine hK.out _ _ hbF ?_
      clear hK K hg hloc
      try simp only [Act.put, List.setIfInBounds_toArray, List.set_cons_zero, List.set_cons_succ]
      (refine sched_light 11 _ ?_ (by as_aux_lemma => kernel_rfl) (by as_aux_lemma => kernel_rfl) rfl rfl ?_ hbF ?_; rotate_left; · (intro w' hS; (try dsimp only at hS); go_simp; with_reducible rfl)); try simp only [Act.put, List.setIfInBounds_toArray, List.set_cons_zero, List.set_cons_succ]
      refine sched_end (by as_aux_lemma => kernel_rfl) ?_
      exact main5 hbF hoF
  ·
    as_aux_lemma =>
    refine sched_heavy 9 _ rfl rfl (fun K hK => ?_)
    go_step
    have hb_1 := hb_0.alloc hb_0.size (.cells #[.int .i64 bx, .int .i64 bY] 23)
    have hz_1 : W0.heap.size + 1 ≤ (W0.alloc (.cells #[.int .i64 bx, .int .i64 bY] 23)).heap.size := by simp
    have rd_1 := Rd.lit W0 W0.heap.size [.int .i64 bx, .int .i64 bY] 23 rfl
    refine hK.out _ _ hb_1 ?_
    clear hK K
    generalize W0.alloc (.cells #[.int .i64 bx, .int .i64 bY] 23) = W1 at *
    try simp only [Act.put, List.setIfInBounds_toArray, List.set_cons_zero, List.set_cons_succ]
    refine sched_fork [1, 6] (by as_aux_lemma => kernel_rfl) (by as_aux_lemma => kernel_rfl) (by decide) ?_
    intro i hi
    simp only [List.mem_cons, List.not_mem_nil, or_false] at hi
    rcases hi with rfl | rfl
    ·
      as_aux_lemma =>
      refine sched_heavy 1 _ rfl rfl (fun K hK => ?_)
      go_step
      have hb_2 := hb_1.alloc hb_1.size (.cells #[.int .i64 ax, .int .i64 ay] 23)
      have hz_2 : W1.heap.size + 1 ≤ (W1.alloc (.cells #[.int .i64 ax, .int .i64 ay] 23)).heap.size := by simp
      have ho_2 : (W1.alloc (.cells #[.int .i64 ax, .int .i64 ay] 23)).ownsRow wB.heap.size 23 2 (.slice (some ⟨W1.heap.size, 0, none⟩) 1 1) 1 [.int .i64 ax, .int .i64 ay] := (ownsRow_lit W1 23 2 1 [.int .i64 ax, .int .i64 ay] rfl (by decide)).mono hb_1.size
      have rd_2 := rd_1.alloc (.cells #[.int .i64 ax, .int .i64 ay] 23)
      refine hK.out _ _ hb_2 ?_
      clear hK K
      generalize W1.alloc (.cells #[.int .i64 ax, .int .i64 ay] 23) = W2 at *
      try simp only [Act.put, List.setIfInBounds_toArray, List.set_cons_zero, List.set_cons_succ]
      refine sched_fork [6] (by as_aux_lemma => kernel_rfl) (by as_aux_lemma => kernel_rfl) (by decide) ?_
      intro i hi
      simp only [List.mem_cons, List.not_mem_nil, or_false] at hi
      subst hi
      refine sched_heavy 6 _ rfl rfl (fun K hK => ?_)
      refine wp_call_at [.agg #[.int .i64 ax, .int .i64 ay], .agg #[.int .i64 bx, .int .i64 bY], .slice xa lx xc, .slice ya ly yc] Try.f11 Try.func11 (by as_aux_lemma => kernel_rfl) (by as_aux_lemma => kernel_rfl) rfl ((CT1.out _ (hxt.keep (hb4.trans (hb_2.mono hs4))) (hyt.keep (hb4.trans (hb_2.mono hs4)))).mono ?_)
      rintro e W3 ⟨v3, rfl, hc3, hx3⟩
      obtain ⟨p3, c3, rfl, -, -, hcn, rc_3, -⟩ := hc3.form
      clear hc3
      have hz_3 : W2.heap.size ≤ W3.heap.size := hx3.size
      have hb_3 := hb_2.trans (hx3.mono hb_2.size)
      have ho_3 := World.ownsRow.below ho_2 hx3
      have rd_3 := rd_2.keep hx3
      refine ⟨_, rfl, hK.out _ _ hb_3 ?_⟩
      clear hK K hx3
      try simp only [Act.put, List.setIfInBounds_toArray, List.set_cons_zero, List.set_cons_succ]
      refine sched_fork [7] (by as_aux_lemma => kernel_rfl) (by as_aux_lemma => kernel_rfl) (by decide) ?_
      intro i hi
      simp only [List.mem_cons, List.not_mem_nil, or_false] at hi
      subst hi
      refine sched_heavy 7 _ rfl rfl (fun K hK => ?_)
      have hol := ho_3.lt
      refine wp_app (.tmp 38) (.tmp 43) 31 rfl wB.heap.size 23 (.agg #[.int .i64 0, .int .i64 0]) 2 16 Try.underlying31 Try.infoTP rfl (by decide) (.slice (some ⟨W1.heap.size, 0, none⟩) 1 1) 1 [.int .i64 ax, .int .i64 ay] rfl ho_3 p3 CU.length c3 (pts CU) rfl hcn rc_3 (pts_len CU) (pts_one CU) (by omega) (by decide) hb_3.size ?_
      intro v4 W4 ho_4 hg
      have hz_4 : W3.heap.size ≤ W4.heap.size := hg.size
      have hb_4 := hb_3.grown hg hb_3.size (fun x hx => (hol x hx).1)
      have rd_4 := rd_3.grown hg (fun x hx => by simp [Value.ownBlock] at hx ⊢; omega)
      refine hK.out _ _ hb_4 ?_
      clear hK K hg hol
      try simp only [Act.put, List.setIfInBounds_toArray, List.set_cons_zero, List.set_cons_succ]
      refine sched_fork [10] (by as_aux_lemma => kernel_rfl) (by as_aux_lemma => kernel_rfl) (by decide) ?_
      intro i hi
      simp only [List.mem_cons, List.not_mem_nil, or_false] at hi
      subst hi
      refine sched_heavy 10 _ rfl rfl (fun K hK => ?_)
      have hol := ho_4.lt
      refine wp_app_at (.tmp 44) (.tmp 46) 31 rfl wB.heap.size 23 (.agg #[.int .i64 0, .int .i64 0]) 2 16 Try.underlying31 Try.infoTP rfl (by decide) v4 (1 + CU.length) ([.int .i64 ax, .int .i64 ay] ++ pts CU) rfl ho_4 ⟨W0.heap.size, 0, none⟩ 1 1 [.int .i64 bx, .int .i64 bY] rfl rd_4 rfl (by simp [Value.oneCell']) (by omega) (by decide) hb_4.size ?_
      intro vF WF hoF hg hloc
      have hbF := hb_4.grown hg hb_4.size (fun x hx => (hol x hx).1)
      refine hK.out _ _ hbF ?_
      clear hK K hg hloc
      try simp only [Act.put, List.setIfInBounds_toArray, List.set_cons_zero, List.set_cons_succ]
      (refine sched_light 11 _ ?_ (by as_aux_lemma => kernel_rfl) (by as_aux_lemma => kernel_rfl) rfl rfl ?_ hbF ?_; rotate_left; · (intro w' hS; (try dsimp only at hS); go_simp; with_reducible rfl)); try simp only [Act.put, List.setIfInBounds_toArray, List.set_cons_zero, List.set_cons_succ]
      refine sched_end (by as_aux_lemma => kernel_rfl) ?_
      exact main5 hbF hoF
    ·
      as_aux_lemma =>
      refine sched_heavy 6 _ rfl rfl (fun K hK => ?_)
      refine wp_call_at [.agg #[.int .i64 ax, .int .i64 ay], .agg #[.int .i64 bx, .int .i64 bY], .slice xa lx xc, .slice ya ly yc] Try.f11 Try.func11 (by as_aux_lemma => kernel_rfl) (by as_aux_lemma => kernel_rfl) rfl ((CT1.out _ (hxt.keep (hb4.trans (hb_1.mono hs4))) (hyt.keep (hb4.trans (hb_1.mono hs4)))).mono ?_)
      rintro e W2 ⟨v2, rfl, hc2, hx2⟩
      obtain ⟨p2, c2, rfl, -, -, hcn, rc_2, -⟩ := hc2.form
      clear hc2
      have hz_2 : W1.heap.size ≤ W2.heap.size := hx2.size
      have hb_2 := hb_1.trans (hx2.mono hb_1.size)
      have rd_2 := rd_1.keep hx2
      refine ⟨_, rfl, hK.out _ _ hb_2 ?_⟩
      clear hK K hx2
      try simp only [Act.put, List.setIfInBounds_toArray, List.set_cons_zero, List.set_cons_succ]
      refine sched_fork [1] (by as_aux_lemma => kernel_rfl) (by as_aux_lemma => kernel_rfl) (by decide) ?_
      intro i hi
      simp only [List.mem_cons, List.not_mem_nil, or_false] at hi
      subst hi
      refine sched_heavy 1 _ rfl rfl (fun K hK => ?_)
      go_step
      have hb_3 := hb_2.alloc hb_2.size (.cells #[.int .i64 ax, .int .i64 ay] 23)
      have hz_3 : W2.heap.size + 1 ≤ (W2.alloc (.cells #[.int .i64 ax, .int .i64 ay] 23)).heap.size := by simp
      have ho_3 : (W2.alloc (.cells #[.int .i64 ax, .int .i64 ay] 23)).ownsRow wB.heap.size 23 2 (.slice (some ⟨W2.heap.size, 0, none⟩) 1 1) 1 [.int .i64 ax, .int .i64 ay] := (ownsRow_lit W2 23 2 1 [.int .i64 ax, .int .i64 ay] rfl (by decide)).mono hb_2.size
      have rd_3 := rd_2.alloc (.cells #[.int .i64 ax, .int .i64 ay] 23)
      have rc_3 := rc_2.alloc (.cells #[.int .i64 ax, .int .i64 ay] 23)
      refine hK.out _ _ hb_3 ?_
      clear hK K
      generalize W2.alloc (.cells #[.int .i64 ax, .int .i64 ay] 23) = W3 at *
      try simp only [Act.put, List.setIfInBounds_toArray, List.set_cons_zero, List.set_cons_succ]
      refine sched_fork [7] (by as_aux_lemma => kernel_rfl) (by as_aux_lemma => kernel_rfl) (by decide) ?_
      intro i hi
      simp only [List.mem_cons, List.not_mem_nil, or_false] at hi
      subst hi
      refine sched_heavy 7 _ rfl rfl (fun K hK => ?_)
      have hol := ho_3.lt
      refine wp_app (.tmp 38) (.tmp 43) 31 rfl wB.heap.size 23 (.agg #[.int .i64 0, .int .i64 0]) 2 16 Try.underlying31 Try.infoTP rfl (by decide) (.slice (some ⟨W2.heap.size, 0, none⟩) 1 1) 1 [.int .i64 ax, .int .i64 ay] rfl ho_3 p2 CU.length c2 (pts CU) rfl hcn rc_3 (pts_len CU) (pts_one CU) (by omega) (by decide) hb_3.size ?_
      intro v4 W4 ho_4 hg
      have hz_4 : W3.heap.size ≤ W4.heap.size := hg.size
      have hb_4 := hb_3.grown hg hb_3.size (fun x hx => (hol x hx).1)
      have rd_4 := rd_3.grown hg (fun x hx => by simp [Value.ownBlock] at hx ⊢; omega)
      refine hK.out _ _ hb_4 ?_
      clear hK K hg hol
      try simp only [Act.put, List.setIfInBounds_toArray, List.set_cons_zero, List.set_cons_succ]
      refine sched_fork [10] (by as_aux_lemma => kernel_rfl) (by as_aux_lemma => kernel_rfl) (by decide) ?_
      intro i hi
      simp only [List.mem_cons, List.not_mem_nil, or_false] at hi
      subst hi
      refine sched_heavy 10 _ rfl rfl (fun K hK => ?_)
      have hol := ho_4.lt
      refine wp_app_at (.tmp 44) (.tmp 46) 31 rfl wB.heap.size 23 (.agg #[.int .i64 0, .int .i64 0]) 2 16 Try.underlying31 Try.infoTP rfl (by decide) v4 (1 + CU.length) ([.int .i64 ax, .int .i64 ay] ++ pts CU) rfl ho_4 ⟨W0.heap.size, 0, none⟩ 1 1 [.int .i64 bx, .int .i64 bY] rfl rd_4 rfl (by simp [Value.oneCell']) (by omega) (by decide) hb_4.size ?_
      intro vF WF hoF hg hloc
      have hbF := hb_4.grown hg hb_4.size (fun x hx => (hol x hx).1)
      refine hK.out _ _ hbF ?_
      clear hK K hg hloc
      try simp only [Act.put, List.setIfInBounds_toArray, List.set_cons_zero, List.set_cons_succ]
      (refine sched_light 11 _ ?_ (by as_aux_lemma => kernel_rfl) (by as_aux_lemma => kernel_rfl) rfl rfl ?_ hbF ?_; rotate_left; · (intro w' hS; (try dsimp only at hS); go_simp; with_reducible rfl)); try simp only [Act.put, List.setIfInBounds_toArray, List.set_cons_zero, List.set_cons_succ]
      refine sched_end (by as_aux_lemma => kernel_rfl) ?_
      exact main5 hbF hoF

theorem spiece_walk (a b : Pt) (xa ya : Option Addr) (xc yc : Nat) (XS YS : List Int) (hxl : XS.length ≤ xc) (hyl : YS.length ≤ yc) (hxm : xc ≤ maxLen) (hym : yc ≤ maxLen) (w : World) (hxr : Rd w xa (XS.map (Value.int .i64))) (hyr : Rd w ya (YS.map (Value.int .i64))) :
    Calls Try.prog 4 #[a.val, b.val, .slice xa XS.length xc, .slice ya YS.length yc] w fun e w' => e = .returned (.bool true) ∧ Below w.heap.size w w' := by
  cases ha : okPt a with
  | false => exact spiece_na a b ha xa ya xc yc XS YS hxl hyl hxm hym w hxr hyr
  | true =>
    cases hb : okPt b with
    | false => exact spiece_nb a b ha hb xa ya xc yc XS YS hxl hyl hxm hym w hxr hyr
    | true => exact spiece_ok a b ha hb xa ya xc yc XS YS hxl hyl hxm hym w hxr hyr

theorem spiece_law {w : World} (a : Pt) (_ : PtIn a) (b : Pt) (_ : PtIn b) (xa : Option Addr) (xc : Nat) (X : List Int) (hxl : X.length ≤ xc) (hxm : xc ≤ maxLen) (_ : xa = none → xc = 0) (hxr : Rd w xa (X.map (Value.int .i64))) (_ : ∀ n ∈ X, (Lit.int .i64 n).wf = true)
    (ya : Option Addr) (yc : Nat) (Y : List Int) (hyl : Y.length ≤ yc) (hym : yc ≤ maxLen) (_ : ya = none → yc = 0) (hyr : Rd w ya (Y.map (Value.int .i64))) (_ : ∀ n ∈ Y, (Lit.int .i64 n).wf = true) :
    Calls Try.prog 4 #[a.val, b.val, .slice xa X.length xc, .slice ya Y.length yc] w fun e w' => e = .returned (.bool true) ∧ Below w.heap.size w w' :=
  spiece_walk a b xa ya xc yc X Y hxl hyl hxm hym w hxr hyr
end Go.Proofs.Ytmnekbnhodadcaa
