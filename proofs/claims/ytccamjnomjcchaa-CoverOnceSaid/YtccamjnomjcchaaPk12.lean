/-
  cover.pass: what an edge counts for the point beside a segment. append of a literal to a row of our own, that tells where the new row lies; of any base. cover.passed: edges by the rows that they pass.
-/
import Derived.Test.YtccamjnomjcchaaPk11
import Derived.Test.YtccamjnomjcchaaPk1
import Derived.Maps.AppendAt
import Derived.Test.YtccamjnomjcchaaPk5
/- cover.pass: what an edge counts for the point beside a segment. -/
set_option linter.unusedVariables false
set_option linter.unusedSimpArgs false
set_option maxRecDepth 100000
namespace Go
open Go.RowKit
def overF (my wx y : Int) : Bool := decide (my < 2 * y) || (decide (2 * y = my) && decide (wx < 0))
def sideF (p q a b : Pt) : Int :=
  let s := (q.x - p.x) * ((a.y + b.y) - 2 * p.y) - (q.y - p.y) * ((a.x + b.x) - 2 * p.x)
  if s = 0 then (q.x - p.x) * (b.x - a.x) + (q.y - p.y) * (b.y - a.y) else s
def passF (p q a b : Pt) : Int :=
  let o := overF (a.y + b.y) (b.x - a.x)
  if o p.y = o q.y then 0 else if o q.y && decide (0 < sideF p q a b) then 1 else if o p.y && decide (sideF p q a b < 0) then -1 else 0
theorem passF_bd (p q a b : Pt) : passF p q a b = 0 ∨ passF p q a b = 1 ∨ passF p q a b = -1 := by
  simp only [passF]; split <;> (try split) <;> (try split) <;> simp
end Go
namespace Go.Proofs.Ytccamjnomjcchaa
open Go.RowKit
set_option maxHeartbeats 3200000 in
theorem over_any (y mx my wx wy : Int) (Bm Bw : Nat) (hy : -16777216 ≤ y ∧ y ≤ 16777216) (w : World) (kM : Blk w Bm [.int .i64 mx, .int .i64 my]) (kW : Blk w Bw [.int .i64 wx, .int .i64 wy]) :
    Calls Try.prog 108 #[.int .i64 y, .pointer (some ⟨Bm, 0, none⟩), .pointer (some ⟨Bw, 0, none⟩)] w fun e w' => e = .returned (.bool (overF my wx y)) ∧ w' = w := by
  have m1 := kM.cell 1 rfl; have w0 := kW.cell 0 rfl; have HO : Hid (overF my wx y = (decide (my < 2 * y) || (decide (2 * y = my) && decide (wx < 0)))) := Lib.hid rfl; generalize overF my wx y = O at *; have hw2 : IntKind.i64.wrap (2 * y) = 2 * y := IntWalk.i64_in _ (by omega)
  go_enter Try.func108, Try.ntmps108
  by_cases h1 : my < 2 * y
  · go_wp2; go_ret; exact ⟨ret_bool (by rw [HO.out, decide_eq_true h1]; rfl), rfl⟩
  · by_cases h2 : 2 * y = my
    · by_cases h3 : wx < 0
      · have HO2 : Hid (O = true) := Lib.hid (by rw [HO.out, decide_eq_true h2, decide_eq_true h3]; simp); go_wp2; go_ret; exact ⟨ret_bool (by rw [HO2.out]), rfl⟩
      · have HO2 : Hid (O = false) := Lib.hid (by rw [HO.out, decide_eq_false h1, decide_eq_false h3]; simp); go_wp2; go_ret; exact ⟨ret_bool (by rw [HO2.out]), rfl⟩
    · have HO2 : Hid (O = false) := Lib.hid (by rw [HO.out, decide_eq_false h1, decide_eq_false h2]; simp); go_wp2; go_ret; exact ⟨ret_bool (by rw [HO2.out]), rfl⟩

set_option maxHeartbeats 6400000 in
theorem pass_any (x : Ed) (a b : Pt) (h1 : okPt x.s.a = true) (h2 : okPt x.s.b = true) (ha : okPt a = true) (hb : okPt b = true) (w : World) :
    Calls Try.prog 89 #[x.val, a.val, b.val] w fun e w' => e = .returned (.int .i64 (passF x.s.a x.s.b a b)) ∧ Below w.heap.size w w' := by
  obtain ⟨⟨f1, r1, ⟨x1, y1⟩, ⟨x2, y2⟩⟩, g1, n1, m1⟩ := x; obtain ⟨ax, ay⟩ := a; obtain ⟨bx, bY⟩ := b; rw [okPt_iff] at h1 h2 ha hb; dsimp only [Ed.val, Pt.val] at *; obtain ⟨PF, hPF⟩ : ∃ P, passF ⟨x1, y1⟩ ⟨x2, y2⟩ ⟨ax, ay⟩ ⟨bx, bY⟩ = P := ⟨_, rfl⟩; have HPF := Lib.hid hPF; rw [hPF]; clear hPF; have hy1 := h1.2; have hy2 := h2.2; obtain ⟨WX, hWX⟩ : ∃ z, bx - ax = z := ⟨_, rfl⟩; obtain ⟨WY, hWY⟩ : ∃ z, bY - ay = z := ⟨_, rfl⟩; obtain ⟨MX, hMX⟩ : ∃ z, ax + bx = z := ⟨_, rfl⟩; obtain ⟨MY, hMY⟩ : ∃ z, ay + bY = z := ⟨_, rfl⟩; obtain ⟨U, hU⟩ : ∃ z, x2 - x1 = z := ⟨_, rfl⟩; obtain ⟨V, hV⟩ : ∃ z, y2 - y1 = z := ⟨_, rfl⟩; obtain ⟨D1, hD1⟩ : ∃ z, MY - 2 * y1 = z := ⟨_, rfl⟩; obtain ⟨D2, hD2⟩ : ∃ z, MX - 2 * x1 = z := ⟨_, rfl⟩; have p1 := mul_bd U D1 33554432 67108864 (by omega) (by omega) (by omega) (by omega); have p2 := mul_bd V D2 33554432 67108864 (by omega) (by omega) (by omega) (by omega); have p3 := mul_bd U WX 33554432 33554432 (by omega) (by omega) (by omega) (by omega); have p4 := mul_bd V WY 33554432 33554432 (by omega) (by omega) (by omega) (by omega); obtain ⟨P1, hP1⟩ : ∃ z, U * D1 = z := ⟨_, rfl⟩; obtain ⟨P2, hP2⟩ : ∃ z, V * D2 = z := ⟨_, rfl⟩; obtain ⟨Q1, hQ1⟩ : ∃ z, U * WX = z := ⟨_, rfl⟩; obtain ⟨Q2, hQ2⟩ : ∃ z, V * WY = z := ⟨_, rfl⟩; rw [hP1] at p1; rw [hP2] at p2; rw [hQ1] at p3; rw [hQ2] at p4; obtain ⟨SD, hSD⟩ : ∃ z, P1 - P2 = z := ⟨_, rfl⟩; obtain ⟨QS, hQS⟩ : ∃ z, Q1 + Q2 = z := ⟨_, rfl⟩; obtain ⟨O1, hO1⟩ : ∃ o, overF MY WX y1 = o := ⟨_, rfl⟩; obtain ⟨O2, hO2⟩ : ∃ o, overF MY WX y2 = o := ⟨_, rfl⟩
  have HPF2 : Hid (PF = if O1 = O2 then 0 else if O2 && decide (0 < (if SD = 0 then QS else SD)) then 1 else if O1 && decide ((if SD = 0 then QS else SD) < 0) then -1 else 0) := Lib.hid (by
    rw [← HPF.out]; simp only [passF, sideF]; rw [hWX, hWY, hMX, hMY, hU, hV, hD1, hD2, hP1, hP2, hQ1, hQ2, hSD, hQS, hO1, hO2])
  have e1 : IntKind.i64.wrap (bx - ax) = WX := by rw [hWX]; exact IntWalk.i64_in _ (by omega)
  have e2 : IntKind.i64.wrap (bY - ay) = WY := by rw [hWY]; exact IntWalk.i64_in _ (by omega)
  have e3 : IntKind.i64.wrap (ax + bx) = MX := by rw [hMX]; exact IntWalk.i64_in _ (by omega)
  have e4 : IntKind.i64.wrap (ay + bY) = MY := by rw [hMY]; exact IntWalk.i64_in _ (by omega)
  have e5 : IntKind.i64.wrap (x2 - x1) = U := by rw [hU]; exact IntWalk.i64_in _ (by omega)
  have e6 : IntKind.i64.wrap (y2 - y1) = V := by rw [hV]; exact IntWalk.i64_in _ (by omega)
  have e7 : IntKind.i64.wrap (2 * y1) = 2 * y1 := IntWalk.i64_in _ (by omega); have e8 : IntKind.i64.wrap (2 * x1) = 2 * x1 := IntWalk.i64_in _ (by omega); have e9 : IntKind.i64.wrap (MY - 2 * y1) = D1 := by rw [hD1]; exact IntWalk.i64_in _ (by omega)
  have e10 : IntKind.i64.wrap (MX - 2 * x1) = D2 := by rw [hD2]; exact IntWalk.i64_in _ (by omega)
  have e11 : IntKind.i64.wrap (U * D1) = P1 := by rw [hP1]; exact IntWalk.i64_in _ (by omega)
  have e12 : IntKind.i64.wrap (V * D2) = P2 := by rw [hP2]; exact IntWalk.i64_in _ (by omega)
  have e13 : IntKind.i64.wrap (P1 - P2) = SD := by rw [hSD]; exact IntWalk.i64_in _ (by omega)
  have e14 : IntKind.i64.wrap (U * WX) = Q1 := by rw [hQ1]; exact IntWalk.i64_in _ (by omega)
  have e15 : IntKind.i64.wrap (V * WY) = Q2 := by rw [hQ2]; exact IntWalk.i64_in _ (by omega)
  have e16 : IntKind.i64.wrap (Q1 + Q2) = QS := by rw [hQS]; exact IntWalk.i64_in _ (by omega)
  have HO1 := Lib.hid hO1; have HO2 := Lib.hid hO2; have HC1 := Lib.hid (fun Bm Bw W kM kW => over_any y1 MX MY WX WY Bm Bw hy1 W kM kW); have HC2 := Lib.hid (fun Bm Bw W kM kW => over_any y2 MX MY WX WY Bm Bw hy2 W kM kW); rw [hO1] at HC1; rw [hO2] at HC2; clear hWX hWY hMX hMY hU hV hD1 hD2 hP1 hP2 hQ1 hQ2 hSD hQS hO1 hO2 p1 p2 p3 p4 HPF h1 h2 ha hb HO1 HO2
  go_enter Try.func89, Try.ntmps89
  go_wp2; have kE := ((((Blk.lit w (w.heap.size) [.int .i64 f1, .int .i64 r1, .int .i64 x1, .int .i64 y1, .int .i64 x2, .int .i64 y2, .int .i64 g1, .int .i64 n1, .int .i64 m1] 100 rfl).alloc (.cells #[.int .i64 ax, .int .i64 ay] 46)).alloc (.cells #[.int .i64 bx, .int .i64 bY] 46)).alloc (.cells #[.int .i64 WX, .int .i64 WY] 46)).alloc (.cells #[.int .i64 MX, .int .i64 MY] 46); have kW := (Blk.lit (((w.alloc (.cells #[.int .i64 f1, .int .i64 r1, .int .i64 x1, .int .i64 y1, .int .i64 x2, .int .i64 y2, .int .i64 g1, .int .i64 n1, .int .i64 m1] 100)).alloc (.cells #[.int .i64 ax, .int .i64 ay] 46)).alloc (.cells #[.int .i64 bx, .int .i64 bY] 46)) (w.heap.size + 1 + 1 + 1) [.int .i64 WX, .int .i64 WY] 46 (by simp)).alloc (.cells #[.int .i64 MX, .int .i64 MY] 46); have kM := Blk.lit ((((w.alloc (.cells #[.int .i64 f1, .int .i64 r1, .int .i64 x1, .int .i64 y1, .int .i64 x2, .int .i64 y2, .int .i64 g1, .int .i64 n1, .int .i64 m1] 100)).alloc (.cells #[.int .i64 ax, .int .i64 ay] 46)).alloc (.cells #[.int .i64 bx, .int .i64 bY] 46)).alloc (.cells #[.int .i64 WX, .int .i64 WY] 46)) (w.heap.size + 1 + 1 + 1 + 1) [.int .i64 MX, .int .i64 MY] 46 (by simp); have hbl := ((((Below.new w (.cells #[.int .i64 f1, .int .i64 r1, .int .i64 x1, .int .i64 y1, .int .i64 x2, .int .i64 y2, .int .i64 g1, .int .i64 n1, .int .i64 m1] 100)).alloc (by simp; try omega) (.cells #[.int .i64 ax, .int .i64 ay] 46)).alloc (by simp; try omega) (.cells #[.int .i64 bx, .int .i64 bY] 46)).alloc (by simp; try omega) (.cells #[.int .i64 WX, .int .i64 WY] 46)).alloc (by simp; try omega) (.cells #[.int .i64 MX, .int .i64 MY] 46)
  generalize ((((w.alloc (.cells #[.int .i64 f1, .int .i64 r1, .int .i64 x1, .int .i64 y1, .int .i64 x2, .int .i64 y2, .int .i64 g1, .int .i64 n1, .int .i64 m1] 100)).alloc (.cells #[.int .i64 ax, .int .i64 ay] 46)).alloc (.cells #[.int .i64 bx, .int .i64 bY] 46)).alloc (.cells #[.int .i64 WX, .int .i64 WY] 46)).alloc (.cells #[.int .i64 MX, .int .i64 MY] 46) = wA at *; have y1c := kE.cell 3 rfl; have hdr := kE.drew; have hdm := kM.drew; have hdw := kW.drew; refine wp_region_lit_txt [0, 1, 2, 3, 4, 6, 7, 8, 9, 10, 12] (fun W => W = wA.drew) (by kernel_rfl) (by kernel_rfl) (by kernel_rfl) rfl ?_; have hbd : Below w.heap.size w wA.drew := hbl.drew; generalize wA.drew = wB at *; clear hbl kE kM kW y1c; have q2 := hdr.cell 2 rfl; have q3 := hdr.cell 3 rfl; have q4 := hdr.cell 4 rfl; have q5 := hdr.cell 5 rfl; have v0 := hdw.cell 0 rfl; have v1 := hdw.cell 1 rfl; have u0 := hdm.cell 0 rfl; have u1 := hdm.cell 1 rfl
  iterate 5 ((refine txt_light ?_ rfl rfl ?_ ?_; rotate_left; · (intro w' hS; (try dsimp only at hS); rw [hS]; go_simp; with_reducible rfl)); try simp only [Act.put, List.setIfInBounds_toArray, List.set_cons_zero, List.set_cons_succ])
  refine txt_callv [.pointer (some ⟨w.heap.size + 1 + 1 + 1 + 1, 0, none⟩), .pointer (some ⟨w.heap.size + 1 + 1 + 1, 0, none⟩)] [.int .i64 y1] Try.f108 rfl rfl rfl Try.func108 (by kernel_rfl) (by kernel_rfl) rfl ((HC1.out _ _ _ hdm hdw).mono ?_); rintro e W1 ⟨rfl, rfl⟩; refine ⟨_, rfl, rfl, ?_⟩
  try simp only [Act.put, List.setIfInBounds_toArray, List.set_cons_zero, List.set_cons_succ]
  iterate 5 ((refine txt_light ?_ rfl rfl ?_ ?_; rotate_left; · (intro w' hS; (try dsimp only at hS); rw [hS]; go_simp; with_reducible rfl)); try simp only [Act.put, List.setIfInBounds_toArray, List.set_cons_zero, List.set_cons_succ])
  refine txt_callv [.pointer (some ⟨w.heap.size + 1 + 1 + 1 + 1, 0, none⟩), .pointer (some ⟨w.heap.size + 1 + 1 + 1, 0, none⟩)] [.int .i64 y2] Try.f108 rfl rfl rfl Try.func108 (by kernel_rfl) (by kernel_rfl) rfl ((HC2.out _ _ _ hdm hdw).mono ?_); rintro e W2 ⟨rfl, rfl⟩; refine ⟨_, rfl, rfl, ?_⟩
  try simp only [Act.put, List.setIfInBounds_toArray, List.set_cons_zero, List.set_cons_succ]
  cases O1 <;> cases O2
  · have hz : Hid (PF = 0) := Lib.hid (by rw [HPF2.out]; simp)
    (refine txt_light ?_ rfl rfl ?_ ?_; rotate_left; · (intro w' hS; (try dsimp only at hS); rw [hS]; go_simp; with_reducible rfl)); try simp only [Act.put, List.setIfInBounds_toArray, List.set_cons_zero, List.set_cons_succ]
    refine txt_nil ?_; go_wp2; go_ret; exact ⟨ret_int hz.out.symm, hbd⟩
  · have hz : Hid (PF = if 0 < (if SD = 0 then QS else SD) then 1 else 0) := Lib.hid (by rw [HPF2.out]; simp); clear HPF2
    (refine txt_light ?_ rfl rfl ?_ ?_; rotate_left; · (intro w' hS; (try dsimp only at hS); rw [hS]; go_simp; with_reducible rfl)); try simp only [Act.put, List.setIfInBounds_toArray, List.set_cons_zero, List.set_cons_succ]
    refine txt_nil ?_; go_wp2; refine wp_region_lit_txt (List.range 20) (fun W => W = W2.drew) (by kernel_rfl) (by kernel_rfl) (by kernel_rfl) rfl ?_; replace hdr := hdr.drew; replace hdm := hdm.drew; replace hdw := hdw.drew; replace hbd := hbd.drew; generalize W2.drew = wC at *; clear q2 q3 q4 q5 v0 v1 u0 u1; have q2 := hdr.cell 2 rfl; have q3 := hdr.cell 3 rfl; have q4 := hdr.cell 4 rfl; have q5 := hdr.cell 5 rfl; have v0 := hdw.cell 0 rfl; have v1 := hdw.cell 1 rfl; have u0 := hdm.cell 0 rfl; have u1 := hdm.cell 1 rfl
    iterate 20 ((refine txt_light ?_ rfl rfl ?_ ?_; rotate_left; · (intro w' hS; (try dsimp only at hS); rw [hS]; go_simp; with_reducible rfl)); try simp only [Act.put, List.setIfInBounds_toArray, List.set_cons_zero, List.set_cons_succ])
    refine txt_nil ?_
    by_cases h0 : SD = 0
    · rw [if_pos h0] at hz
      by_cases h3 : 0 < QS
      · rw [if_pos h3] at hz
        go_wp2_with fail
        refine (HC2.out _ _ _ hdm hdw).mono ?_; rintro e W3 ⟨rfl, rfl⟩; go_wp2; go_ret; exact ⟨ret_int hz.out.symm, hbd⟩
      · rw [if_neg h3] at hz
        go_wp2_with fail
        refine (HC2.out _ _ _ hdm hdw).mono ?_; rintro e W3 ⟨rfl, rfl⟩
        go_wp2_with fail
        refine (HC1.out _ _ _ hdm hdw).mono ?_; rintro e W4 ⟨rfl, rfl⟩; go_wp2; go_ret; exact ⟨ret_int hz.out.symm, hbd⟩
    · rw [if_neg h0] at hz
      by_cases h3 : 0 < SD
      · rw [if_pos h3] at hz
        go_wp2_with fail
        refine (HC2.out _ _ _ hdm hdw).mono ?_; rintro e W3 ⟨rfl, rfl⟩; go_wp2; go_ret; exact ⟨ret_int hz.out.symm, hbd⟩
      · rw [if_neg h3] at hz
        go_wp2_with fail
        refine (HC2.out _ _ _ hdm hdw).mono ?_; rintro e W3 ⟨rfl, rfl⟩
        go_wp2_with fail
        refine (HC1.out _ _ _ hdm hdw).mono ?_; rintro e W4 ⟨rfl, rfl⟩; go_wp2; go_ret; exact ⟨ret_int hz.out.symm, hbd⟩
  · have hz : Hid (PF = if (if SD = 0 then QS else SD) < 0 then -1 else 0) := Lib.hid (by rw [HPF2.out]; simp); clear HPF2
    (refine txt_light ?_ rfl rfl ?_ ?_; rotate_left; · (intro w' hS; (try dsimp only at hS); rw [hS]; go_simp; with_reducible rfl)); try simp only [Act.put, List.setIfInBounds_toArray, List.set_cons_zero, List.set_cons_succ]
    refine txt_nil ?_; go_wp2; refine wp_region_lit_txt (List.range 20) (fun W => W = W2.drew) (by kernel_rfl) (by kernel_rfl) (by kernel_rfl) rfl ?_; replace hdr := hdr.drew; replace hdm := hdm.drew; replace hdw := hdw.drew; replace hbd := hbd.drew; generalize W2.drew = wC at *; clear q2 q3 q4 q5 v0 v1 u0 u1; have q2 := hdr.cell 2 rfl; have q3 := hdr.cell 3 rfl; have q4 := hdr.cell 4 rfl; have q5 := hdr.cell 5 rfl; have v0 := hdw.cell 0 rfl; have v1 := hdw.cell 1 rfl; have u0 := hdm.cell 0 rfl; have u1 := hdm.cell 1 rfl
    iterate 20 ((refine txt_light ?_ rfl rfl ?_ ?_; rotate_left; · (intro w' hS; (try dsimp only at hS); rw [hS]; go_simp; with_reducible rfl)); try simp only [Act.put, List.setIfInBounds_toArray, List.set_cons_zero, List.set_cons_succ])
    refine txt_nil ?_
    by_cases h0 : SD = 0
    · rw [if_pos h0] at hz
      by_cases h3 : QS < 0
      · rw [if_pos h3] at hz
        go_wp2_with fail
        refine (HC2.out _ _ _ hdm hdw).mono ?_; rintro e W3 ⟨rfl, rfl⟩
        go_wp2_with fail
        refine (HC1.out _ _ _ hdm hdw).mono ?_; rintro e W4 ⟨rfl, rfl⟩; go_wp2; go_ret; exact ⟨ret_int hz.out.symm, hbd⟩
      · rw [if_neg h3] at hz
        go_wp2_with fail
        refine (HC2.out _ _ _ hdm hdw).mono ?_; rintro e W3 ⟨rfl, rfl⟩
        go_wp2_with fail
        refine (HC1.out _ _ _ hdm hdw).mono ?_; rintro e W4 ⟨rfl, rfl⟩; go_wp2; go_ret; exact ⟨ret_int hz.out.symm, hbd⟩
    · rw [if_neg h0] at hz
      by_cases h3 : SD < 0
      · rw [if_pos h3] at hz
        go_wp2_with fail
        refine (HC2.out _ _ _ hdm hdw).mono ?_; rintro e W3 ⟨rfl, rfl⟩
        go_wp2_with fail
        refine (HC1.out _ _ _ hdm hdw).mono ?_; rintro e W4 ⟨rfl, rfl⟩; go_wp2; go_ret; exact ⟨ret_int hz.out.symm, hbd⟩
      · rw [if_neg h3] at hz
        go_wp2_with fail
        refine (HC2.out _ _ _ hdm hdw).mono ?_; rintro e W3 ⟨rfl, rfl⟩
        go_wp2_with fail
        refine (HC1.out _ _ _ hdm hdw).mono ?_; rintro e W4 ⟨rfl, rfl⟩; go_wp2; go_ret; exact ⟨ret_int hz.out.symm, hbd⟩
  · have hz : Hid (PF = 0) := Lib.hid (by rw [HPF2.out]; simp)
    (refine txt_light ?_ rfl rfl ?_ ?_; rotate_left; · (intro w' hS; (try dsimp only at hS); rw [hS]; go_simp; with_reducible rfl)); try simp only [Act.put, List.setIfInBounds_toArray, List.set_cons_zero, List.set_cons_succ]
    refine txt_nil ?_; go_wp2; go_ret; exact ⟨ret_int hz.out.symm, hbd⟩
end Go.Proofs.Ytccamjnomjcchaa
/- append of a literal to a row of our own, that tells where the new row lies; of any base. -/
set_option linter.unusedVariables false
set_option linter.unusedSimpArgs false
namespace Go
open Go.RowKit
theorem wpList_appLitG {P : Program} {w : World} {ops : Array Oper} {rest : List Oper} {o : Oper} {a : Act} {Q : Exit → Act → World → Prop} (base : Nat) (hbase : base ≤ w.heap.size) (hgd : o.guard = none) (s x : Operand) (t : TypeId)
    (ho : o.op = .call { callee := .builtin .append, args := #[s, x], argTypes := #[t, t] })
    (e : TypeId) (z : Value) (size bytes : Nat) (ht : P.underlying t = some (.slice e)) (hinfo : (P.info? e).map (fun i => (i.zero, i.size, i.bytes)) = some (some z, size, bytes))
    (hzs : z.cells.size = size) (hsz : 0 < size) (hb1 : 0 < bytes)
    (v : Value) (n : Nat) (xs : List Value) (hs : a.eval s = v) (hown : w.ownsRow base e size v n xs)
    (m c B : Nat) (hB : w.heap.size = B) (vs : List Value) (te : TypeId) (hx : a.eval x = .slice (some ⟨B, 0, none⟩) m c) (hl : vs.length = m * size) (h1 : ∀ u ∈ vs, u.oneCell' = true)
    (hbytes : (n + m) * bytes ≤ 140737488355328)
    (h : ∀ v' w', w'.ownsRow base e size v' (n + m) (xs ++ vs) → w.grownBy w' v.ownBlock → (v'.ownBlock = v.ownBlock ∨ ∃ N, v'.ownBlock = some N ∧ w.heap.size ≤ N) → wpList P ops Q rest (a.put o.dst v') w') :
    wpList P ops Q (o :: rest) a (w.alloc (.cells vs.toArray te)) := by
  subst hB; obtain ⟨i, hi, hz, hsize, hby⟩ := info_parts hinfo; have h63 : n + m ≤ maxLen := by
    have : (n + m) * 1 ≤ (n + m) * bytes := Nat.mul_le_mul_left _ hb1; unfold maxLen; omega
  have hw1 : w.grownBy (w.alloc (.cells vs.toArray te)) v.ownBlock := World.grownBy_alloc w _ _; refine wpList_append_own_at (w.alloc (.cells vs.toArray te)) hgd s x t ho base e i z size bytes ht hi hz hsize hby hzs hsz v n xs hs (hown.below (Below.new _ _)) ⟨w.heap.size, 0, none⟩ m c vs hx hl ?_ h1 h63 hbytes (by simp; omega) ?_
  · exact (Rd.new w vs te).add
  · intro v' w' h2 h3 _ h5; exact h v' w' h2 (hw1.trans h3) (h5.imp id (fun e => ⟨_, e, by simp⟩))
end Go
/- cover.passed: edges by the rows that they pass. -/
set_option linter.unusedVariables false
set_option linter.unusedSimpArgs false
set_option maxRecDepth 100000
namespace Go
open Go.RowKit
def rowIn (y : Int) (e : Ed) : Bool := decide (min e.s.a.y e.s.b.y / 64 ≤ y) && decide (y ≤ max e.s.a.y e.s.b.y / 64)
def rowsF (l : List Ed) (y : Int) : List Ed := l.filter (rowIn y)
def rowsI (l : List Ed) (e : Ed) (lo y : Int) (y' : Int) : List Ed := rowsF l y' ++ if lo ≤ y' ∧ y' < y then [e] else []
theorem rowsI_step (l : List Ed) (e : Ed) (lo y : Int) (h : lo ≤ y) : gput (rowsI l e lo y) y (rowsI l e lo y y ++ [e]) = rowsI l e lo (y + 1) := by
  funext y'
  by_cases h1 : y' = y
  · subst h1; rw [gput_same]; unfold rowsI; rw [if_neg (by omega), if_pos (by omega)]; simp
  · rw [gput_other _ _ h1]; unfold rowsI
    by_cases h2 : lo ≤ y' ∧ y' < y
    · rw [if_pos h2, if_pos (by omega)]
    · rw [if_neg h2, if_neg (by omega)]
theorem rowsI_start (l : List Ed) (e : Ed) (lo : Int) : rowsI l e lo lo = rowsF l := by
  funext y'
  unfold rowsI; rw [if_neg (by omega)]; simp
theorem rowsI_end (l : List Ed) (e : Ed) (lo hi : Int) (h1 : min e.s.a.y e.s.b.y / 64 = lo) (h2 : max e.s.a.y e.s.b.y / 64 = hi) : rowsI l e lo (hi + 1) = rowsF (l ++ [e]) := by
  funext y'
  unfold rowsI rowsF; rw [List.filter_append]
  congr 1
  by_cases h : lo ≤ y' ∧ y' < hi + 1
  · rw [if_pos h]; have : rowIn y' e = true := by unfold rowIn; rw [h1, h2]; simp; omega
    simp [List.filter_cons, this]
  · rw [if_neg h]; have : rowIn y' e = false := by
      unfold rowIn; rw [h1, h2]
      by_cases h3 : lo ≤ y'
      · simp [h3]; omega
      · simp [h3]
    simp [List.filter_cons, this]
theorem rowsI_len (l : List Ed) (e : Ed) (lo y y' : Int) : (rowsI l e lo y y').length ≤ l.length + 1 := by
  unfold rowsI rowsF; have := List.length_filter_le (rowIn y') l; rw [List.length_append]
  split <;> simp <;> omega
end Go
namespace Go.Proofs.Ytccamjnomjcchaa
open Go.RowKit
theorem Try.zeroEs (w : World) : (zeroValue 63).run Try.prog w = .ok (.slice none 0 0) w := by kernel_rfl

set_option maxHeartbeats 6400000 in
theorem passed_any (a : Option Addr) (c : Nat) (l : List Ed) (hlen : l.length ≤ 1000000) (hwf : ∀ e ∈ l, okPt e.s.a = true ∧ okPt e.s.b = true) (w : World) (hr : Rd w a (eds l)) :
    Calls Try.prog 62 #[.slice a l.length c] w fun e w' => e = .returned (.map (some w.heap.size)) ∧ GMap Try.prog 3 In1.val 100 9 Ed.cells w' w.heap.size (w.heap.size + 1) (rowsF l) ∧ Below w.heap.size w w' := by
  have HR := Lib.hid hr; have HWF := Lib.hid hwf; obtain ⟨N, hN⟩ : ∃ N, l.length = N := ⟨_, rfl⟩; have HN := Lib.hid hN; rw [hN] at hlen ⊢; have hmm := @run_makeMap Try.prog; have hV0 := VMap.madeB Try.prog 3 In1.val w w.heap.size rfl; have hG0 := GRows.made (α := Int) 100 9 Ed.cells (w.alloc (.map #[] 0)) (w.heap.size + 1); have hb0 := (Below.refl w.heap.size w).alloc (Nat.le_refl _) (.map #[] 0); have hsz0 : w.heap.size + 1 ≤ (w.alloc (.map #[] 0)).heap.size := by simp
  clear hr hwf hN
  go_enter Try.func62, Try.ntmps62
  go_wp2; generalize w.alloc (.map #[] 0) = w0 at *
  go_loopw [10] (fun i wr => ∃ (k : Nat) (f : Int → Option Value) (m n : Nat), k ≤ N ∧ i = .int .i64 k ∧ Hid (VMap Try.prog 3 In1.val wr w.heap.size f m n) ∧ Hid (GRows 100 9 Ed.cells wr (w.heap.size + 1) f (rowsF (l.take k))) ∧ n ≤ k * 1000000 ∧ w.heap.size + 1 ≤ wr.heap.size ∧ Below w.heap.size w wr) (fun i _ => N - (intOf i).toNat)
  case atStart => exact ⟨0, _, _, _, by omega, rfl, Lib.hid hV0, Lib.hid hG0, by omega, hsz0, hb0⟩
  case round =>
    obtain ⟨k, f, m, n, hk, rfl, HV, HG, hn, hsz, hbl⟩ := hrel
    by_cases h1 : k < N
    · have h1' : (k : Int) < (N : Int) := by omega
      have hkl : k < l.length := by rw [HN.out]; exact h1
      obtain ⟨b, off, rfl, hbb, c0, c1, c2, c3, c4, c5, c6, c7, c8⟩ := (HR.out.keep hbl).ed k hkl; have HT : Hid (l.take (k + 1) = l.take k ++ [l[k]]) := Lib.hid (List.take_succ_eq_append_getElem hkl); have HTL : Hid ((l.take k).length ≤ 1000000) := Lib.hid (by rw [List.length_take]; omega); obtain ⟨p1, p2⟩ := HWF.out _ (List.getElem_mem hkl); generalize l[k] = p at *; obtain ⟨⟨f1, r1, ⟨x1, y1⟩, ⟨x2, y2⟩⟩, g1, n1, m1⟩ := p; dsimp only at c0 c1 c2 c3 c4 c5 c6 c7 c8 p1 p2; rw [okPt_iff] at p1 p2; obtain ⟨-, p3⟩ := p1; obtain ⟨-, p4⟩ := p2; dsimp only at p3 p4; obtain ⟨MN, hMN⟩ : ∃ z, min y1 y2 = z := ⟨_, rfl⟩; obtain ⟨MX, hMX⟩ : ∃ z, max y1 y2 = z := ⟨_, rfl⟩; have hmn1 : (if y1 < y2 then y1 else y2) = MN := by split <;> omega
      have hmn2 : (if y2 < y1 then y2 else y1) = MN := by split <;> omega
      have hmx1 : (if y1 < y2 then y2 else y1) = MX := by split <;> omega
      have hmx2 : (if y2 < y1 then y1 else y2) = MX := by split <;> omega
      have hmb : -16777216 ≤ MN ∧ MN ≤ MX ∧ MX ≤ 16777216 := by omega
      clear p3 p4; obtain ⟨LO, hLO⟩ : ∃ z, MN / 64 = z := ⟨_, rfl⟩; obtain ⟨HI, hHI⟩ : ∃ z, MX / 64 = z := ⟨_, rfl⟩; have hlh : -262144 ≤ LO ∧ LO ≤ HI ∧ HI ≤ 262144 := by omega
      have hlo1 : LO ≤ HI + 1 := by omega
      have HEN : Hid (rowsI (l.take k) ⟨⟨f1, r1, ⟨x1, y1⟩, ⟨x2, y2⟩⟩, g1, n1, m1⟩ LO (HI + 1) = rowsF (l.take (k + 1))) := Lib.hid (by rw [HT.out]; exact rowsI_end _ _ _ _ (by rw [← hLO, ← hMN]) (by rw [← hHI, ← hMX])); have HG1 : Hid (GRows 100 9 Ed.cells wr (w.heap.size + 1) f (rowsI (l.take k) ⟨⟨f1, r1, ⟨x1, y1⟩, ⟨x2, y2⟩⟩, g1, n1, m1⟩ LO LO)) := Lib.hid (by rw [rowsI_start]; exact HG.out); have HIS := Lib.hid (fun Y h => rowsI_step (l.take k) ⟨⟨f1, r1, ⟨x1, y1⟩, ⟨x2, y2⟩⟩, g1, n1, m1⟩ LO Y h); have HIL := Lib.hid (fun Y Y' => rowsI_len (l.take k) ⟨⟨f1, r1, ⟨x1, y1⟩, ⟨x2, y2⟩⟩, g1, n1, m1⟩ LO Y Y'); have kE := Blk.new wr [.int .i64 f1, .int .i64 r1, .int .i64 x1, .int .i64 y1, .int .i64 x2, .int .i64 y2, .int .i64 g1, .int .i64 n1, .int .i64 m1] 100; have hbE := Below.new wr (.cells #[.int .i64 f1, .int .i64 r1, .int .i64 x1, .int .i64 y1, .int .i64 x2, .int .i64 y2, .int .i64 g1, .int .i64 n1, .int .i64 m1] 100); have HV2 := Lib.hid (HV.out.keep hbE); have HG2 := Lib.hid (HG1.out.keep hbE); have HNS : Hid (∀ a v, f a = some v → v.ownBlock ≠ some wr.heap.size) := Lib.hid (fun a v hv e => by have := ((HG.out.own a v hv).lt _ e).2; omega); have hb2 := hbl.trans (hbE.mono hbl.size); have hsz2 : w.heap.size + 1 ≤ (wr.alloc (.cells #[.int .i64 f1, .int .i64 r1, .int .i64 x1, .int .i64 y1, .int .i64 x2, .int .i64 y2, .int .i64 g1, .int .i64 n1, .int .i64 m1] 100)).heap.size := by simp; omega
      obtain ⟨S, hS⟩ : ∃ S, wr.heap.size = S := ⟨_, rfl⟩; rw [hS] at kE HNS; have hSB : w.heap.size < S := by omega
      clear hMN hMX HV HG HG1 HT hbE; go_wp2; generalize wr.alloc (.cells #[.int .i64 f1, .int .i64 r1, .int .i64 x1, .int .i64 y1, .int .i64 x2, .int .i64 y2, .int .i64 g1, .int .i64 n1, .int .i64 m1] 100) = w1 at *; clear c0 c1 c2 c3 c4 c5 c6 c7 c8
      go_loopw [6] (fun y wr => ∃ (Y : Int) (f : Int → Option Value) (m n : Nat), LO ≤ Y ∧ Y ≤ HI + 1 ∧ y = .int .i64 Y ∧ Hid (VMap Try.prog 3 In1.val wr w.heap.size f m n) ∧ Hid (GRows 100 9 Ed.cells wr (w.heap.size + 1) f (rowsI (l.take k) ⟨⟨f1, r1, ⟨x1, y1⟩, ⟨x2, y2⟩⟩, g1, n1, m1⟩ LO Y)) ∧ Hid (∀ a v, f a = some v → v.ownBlock ≠ some S) ∧ n ≤ k * 1000000 + (Y - LO).toNat ∧ w.heap.size + 1 ≤ wr.heap.size ∧ Hid (Blk wr S [.int .i64 f1, .int .i64 r1, .int .i64 x1, .int .i64 y1, .int .i64 x2, .int .i64 y2, .int .i64 g1, .int .i64 n1, .int .i64 m1]) ∧ Below w.heap.size w wr) (fun y _ => (HI + 1 - intOf y).toNat)
      case atStart => exact ⟨LO, f, m, n, Int.le_refl _, hlo1, rfl, HV2, HG2, HNS, Nat.le_trans hn (Nat.le_add_right _ _), hsz2, Lib.hid kE, hb2⟩
      case round =>
        obtain ⟨Y, f, m, n, hY1, hY2, rfl, HV, HG, HNS, hn2, hsz3, KE, hb3⟩ := hrel; have kk := KE.out; have q0 := kk.cell 0 rfl; have q1 := kk.cell 1 rfl; have q2 := kk.cell 2 rfl; have q3 := kk.cell 3 rfl; have q4 := kk.cell 4 rfl; have q5 := kk.cell 5 rfl; have q6 := kk.cell 6 rfl; have q7 := kk.cell 7 rfl; have q8 := kk.cell 8 rfl
        by_cases h2 : Y ≤ HI
        · have HKY := Lib.hid (k13.in1Key Y (WalkArith.wf_i64 (by omega))); have hlen2 := HIL.out Y Y; have hlen3 := HTL.out; obtain ⟨V0, hV0⟩ : ∃ v, (f Y).getD (.slice none 0 0) = v := ⟨_, rfl⟩; have hown := HG.out.look Y; rw [hV0] at hown; have hvs : ∀ j, V0.ownBlock = some j → j ≠ S := by
            intro j hj e; subst e
            cases hf : f Y with
            | none => rw [← hV0, hf] at hj; cases hj
            | some v => rw [← hV0, hf] at hj; exact HNS.out Y v hf hj
          have hSl := kk.lt
          go_wp2_with (first | (at_lookup; refine wpList_vmap_look _ rfl _ _ rfl k13.in1 Try.underlying116 (Try.zeroEs _) rfl HV.out Y rfl HKY.out V0 hV0 ?_) | (at_builtin; refine wpList_appLitG (w.heap.size + 1) hsz3 rfl _ _ 63 rfl 100 _ 9 72 Try.underlying63 Try.infoEd rfl (by decide) (by decide) V0 _ _ rfl hown 1 1 _ rfl (Ed.cells ⟨⟨f1, r1, ⟨x1, y1⟩, ⟨x2, y2⟩⟩, g1, n1, m1⟩) 100 rfl rfl (Ed.cells_one _) (by omega) ?_; intro v' w2 hown2 hg2 hat2; have hV2 := HV.out.kept hg2 (fun e => by have := (hown.lt _ e.symm).1; omega)) | (at_mapUpdate; refine wpList_vmap_put _ rfl _ _ _ rfl k13.in1 In1.inj Try.underlying116 rfl hV2 (by unfold maxLen; omega) Y rfl HKY.out v' rfl ?_; intro w3 hV3 hg3) | fail)
          have hl2 : (rowsI (l.take k) ⟨⟨f1, r1, ⟨x1, y1⟩, ⟨x2, y2⟩⟩, g1, n1, m1⟩ LO Y Y).length + 1 = (rowsI (l.take k) ⟨⟨f1, r1, ⟨x1, y1⟩, ⟨x2, y2⟩⟩, g1, n1, m1⟩ LO Y Y ++ [(⟨⟨f1, r1, ⟨x1, y1⟩, ⟨x2, y2⟩⟩, g1, n1, m1⟩ : Ed)]).length := by simp
          have hc2 : (rowsI (l.take k) ⟨⟨f1, r1, ⟨x1, y1⟩, ⟨x2, y2⟩⟩, g1, n1, m1⟩ LO Y Y).flatMap Ed.cells ++ Ed.cells ⟨⟨f1, r1, ⟨x1, y1⟩, ⟨x2, y2⟩⟩, g1, n1, m1⟩ = (rowsI (l.take k) ⟨⟨f1, r1, ⟨x1, y1⟩, ⟨x2, y2⟩⟩, g1, n1, m1⟩ LO Y Y ++ [(⟨⟨f1, r1, ⟨x1, y1⟩, ⟨x2, y2⟩⟩, g1, n1, m1⟩ : Ed)]).flatMap Ed.cells := by simp
          rw [hl2, hc2] at hown2; rw [← hV0] at hg2 hat2; have hG3 := HG.out.step Y hg2 hown2 hat2 hg3 (Nat.lt_succ_self _); rw [HIS.out Y hY1] at hG3; rw [hV0] at hg2 hat2; have hk2 := (KE.out.grown hg2 (fun e => hvs S e.symm rfl)).grown hg3 (fun e => by cases e; omega); have hb4 := (hb3.grown hg2 hb3.size (fun j hj => by have := (hown.lt j hj).1; omega)).grown hg3 (Nat.le_trans hb3.size hg2.size) (fun j hj => by cases hj; exact Nat.le_refl _); have hsz4 : w.heap.size + 1 ≤ w3.heap.size := Nat.le_trans hsz3 (Nat.le_trans hg2.size hg3.size); have hNS2 : ∀ a v, fput f Y v' a = some v → v.ownBlock ≠ some S := by
            intro a v hv
            by_cases e : a = Y
            · subst e; rw [fput_same] at hv; cases hv; intro e2
              rcases hat2 with e3 | ⟨NN, e3, h4⟩
              · exact hvs S (e3 ▸ e2) rfl
              · rw [e2] at e3; cases e3; omega
            · rw [fput_other f v' e] at hv; exact HNS.out a v hv
          clear hl2 hc2 q0 q1 q2 q3 q4 q5 q6 q7 q8 hown hown2 hg2 hg3 hat2 HG hV2 HV; go_wp2; exact ⟨⟨Y + 1, fput f Y v', _, n + 1, by omega, by omega, by go_num, Lib.hid hV3, Lib.hid hG3, Lib.hid hNS2, by omega, hsz4, Lib.hid hk2, hb4⟩, by simp only [intOf]; omega⟩
        · have hY3 : Y = HI + 1 := by omega
          subst hY3; rw [HEN.out] at HG; have hno : ¬ (HI + 1 ≤ HI) := by omega
          go_wp2; exact ⟨⟨k + 1, f, m, n, by omega, by go_num, HV, HG, by omega, hsz3, hb3⟩, by simp [intOf]; omega⟩
    · have h1' : ¬ (k : Int) < (N : Int) := by omega
      obtain rfl : k = N := by omega
      rw [List.take_of_length_le (by rw [HN.out]; exact Nat.le_refl _)] at HG; go_wp2; exact bodyPost_ret (v := .map (some w.heap.size)) (by simp [results, Try.results62, go_sem]) rfl ⟨rfl, ⟨f, m, n, HV.out, HG.out⟩, hbl⟩
end Go.Proofs.Ytccamjnomjcchaa
