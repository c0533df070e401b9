/-
  graticuleref03.Beside. graticuleref13.round.
-/
import Derived.Test.YtccamjnomjcchaaPk33
import Derived.Test.YtccamjnomjcchaaPk6
/- graticuleref03.Beside. -/
set_option linter.unusedVariables false
set_option linter.unusedSimpArgs false
set_option maxRecDepth 100000
namespace Go
open Go.RowKit
theorem has_eq (m v a b : Pt) : (!decide ((2 * b.x - 2 * a.x) * v.y = (2 * b.y - 2 * a.y) * v.x) && onP (dblP a) (dblP b) m) = besHas m v a b := by
  rw [← onX_onP]; unfold onX besHas boxB besIn dblP; have e1 : crs ⟨2 * a.x, 2 * a.y⟩ ⟨2 * b.x, 2 * b.y⟩ m = 2 * besN m a b := by unfold crs besN; grind
  have e2 : ((2 * b.x - 2 * a.x) * v.y = (2 * b.y - 2 * a.y) * v.x) = ((b.x - a.x) * v.y = (b.y - a.y) * v.x) := by
    have h1 : (2 * b.x - 2 * a.x) * v.y = 2 * ((b.x - a.x) * v.y) := by grind
    have h2 : (2 * b.y - 2 * a.y) * v.x = 2 * ((b.y - a.y) * v.x) := by grind
    rw [h1, h2]; apply propext; omega
  have e3 : (2 * besN m a b = 0) = ((b.x - a.x) * (m.y - 2 * a.y) = (b.y - a.y) * (m.x - 2 * a.x)) := by unfold besN; apply propext; omega
  rw [e1]; simp only [e2, e3]; rw [Bool.not_or, Bool.not_not, Bool.and_assoc]
  congr 2
  rw [← Bool.decide_and, ← Bool.decide_and, ← Bool.decide_and, ← Bool.decide_and]; apply decide_eq_decide.2; omega
end Go
namespace Go.Proofs.Ytccamjnomjcchaa
open Go.RowKit
theorem set4 {W A : World} {B0 pA qA : Nat} {a0 a1 b0 b1 : Value} (kP : Blk W pA [a0, a1]) (kQ : Blk W qA [b0, b1]) (hne : pA ≠ qA) (hb : Below B0 A W) (hp : B0 ≤ pA) (hq : B0 ≤ qA) (c0 c1 d0 d1 : Value) :
    ∃ Z, Z = ((((W.setCell ⟨pA, 0, none⟩ c0).setCell ⟨pA, 1, none⟩ c1).setCell ⟨qA, 0, none⟩ d0).setCell ⟨qA, 1, none⟩ d1).drew ∧ Blk Z pA [c0, c1] ∧ Blk Z qA [d0, d1] ∧ Below B0 A Z ∧ ∀ b vs, Blk W b vs → b ≠ pA → b ≠ qA → Blk Z b vs :=
  ⟨_, rfl, ((((kP.set 0 c0).set 1 c1).set_at (o := 0) hne d0).set_at (o := 1) hne d1).drew, ((((kQ.set_at (o := 0) hne.symm c0).set_at (o := 1) hne.symm c1).set 0 d0).set 1 d1).drew,
   ((((hb.setCell (p := ⟨pA, 0, none⟩) hp c0).setCell (p := ⟨pA, 1, none⟩) hp c1).setCell (p := ⟨qA, 0, none⟩) hq d0).setCell (p := ⟨qA, 1, none⟩) hq d1).drew,
   fun b vs h h1 h2 => ((((h.set_at (o := 0) h1 c0).set_at (o := 1) h1 c1).set_at (o := 0) h2 d0).set_at (o := 1) h2 d1).drew⟩
theorem abl_alb (m v a b : Pt) : ablF (dblP a) (dblP b) m ⟨-v.y, v.x⟩ = albE m v (a, b) := rfl

set_option maxHeartbeats 6400000 in
theorem rbes3_any (a : Option Addr) (c : Nat) (L : List Pt) (hlen : L.length ≤ 1000) (hok : L.all okPt = true) (u v : Pt) (hu : okPt u = true) (hv : okPt v = true) (w : World) (hr : Rd w a (pts L)) :
    Calls Try.prog 66 #[.slice a L.length c, u.val, v.val] w fun e w' => e = .returned (.tuple #[.int .i64 (if (edges L).all (offM (besM u v) (besV u v)) = true then albT (besM u v) (besV u v) (edges L) else 0), .bool ((edges L).all (offM (besM u v) (besV u v)))]) ∧ Below w.heap.size w w' := by
  have HOK := Lib.hid hok; clear hok; rw [okPt_iff] at hu hv; obtain ⟨m, hm⟩ : ∃ m, besM u v = m := ⟨_, rfl⟩; obtain ⟨d, hd⟩ : ∃ d, besV u v = d := ⟨_, rfl⟩; have hm1 : u.x + v.x = m.x := by rw [← hm]; rfl
  have hm2 : u.y + v.y = m.y := by rw [← hm]; rfl
  have hd1 : v.x - u.x = d.x := by rw [← hd]; rfl
  have hd2 : v.y - u.y = d.y := by rw [← hd]; rfl
  have hd3 : u.y - v.y = -d.y := by omega
  rw [hm, hd]; clear hm hd; have HO := Lib.hid (fun x y (h1 : okPt x = true) (h2 : okPt y = true) W => ron_wide (dblP x) (dblP y) m (by rw [okPt_iff] at h1; unfold okW dblP; dsimp only; omega) (by rw [okPt_iff] at h2; unfold okW dblP; dsimp only; omega) (by unfold okW; omega) W); have HL := Lib.hid (fun x y (h1 : okPt x = true) (h2 : okPt y = true) W => rabl_any (dblP x) (dblP y) m ⟨-d.y, d.x⟩ (by rw [okPt_iff] at h1; unfold okW dblP; dsimp only; omega) (by rw [okPt_iff] at h2; unfold okW dblP; dsimp only; omega) (by unfold okW; omega) (by unfold okW; dsimp only; omega) W); obtain ⟨B, hB⟩ : ∃ B, w.heap.size = B := ⟨_, rfl⟩; have HBE := Lib.hid hB; obtain ⟨kA, kB, kM, hbl0⟩ := three_lit w 73 u v m; have hr0 := hr.keep hbl0; obtain ⟨AL, hAL⟩ : ∃ b, (edges L).all (offM m d) = b := ⟨_, rfl⟩; obtain ⟨RR, hRR⟩ : ∃ r, (if AL = true then albT m d (edges L) else 0) = r := ⟨_, rfl⟩; rw [hAL, hRR]; have HRR := Lib.hid hRR; clear hRR; have HALL := Lib.hid hAL; clear hAL; have HSN := Lib.hid (fun l e => albT_snoc m d l e); have HSB := Lib.hid (fun l => albT_bd m d l); have HEB := Lib.hid (fun e => albE_bd m d e); have HFIN : Hid ((edges L).take L.length = edges L) := Lib.hid (by rw [List.take_of_length_le (by rw [edges_length]; omega)]); have HH := Lib.hid (fun x y => has_eq m d x y); have HAL := Lib.hid (fun x y => abl_alb m d x y); rw [hB] at kA kB kM hbl0; have hbd : (-33554432 ≤ d.x ∧ d.x ≤ 33554432) ∧ -33554432 ≤ d.y ∧ d.y ≤ 33554432 := by omega
  obtain ⟨ux, uy⟩ := u; obtain ⟨vx, vy⟩ := v; obtain ⟨mx, my⟩ := m; obtain ⟨dx, dy⟩ := d; dsimp only at hu hv hm1 hm2 hd1 hd2 hd3 hbd; have z1 : IntKind.i64.wrap (ux + vx) = mx := by rw [hm1]; exact IntWalk.i64_in _ (by omega)
  have z2 : IntKind.i64.wrap (uy + vy) = my := by rw [hm2]; exact IntWalk.i64_in _ (by omega)
  have z3 : IntKind.i64.wrap (vx - ux) = dx := by rw [hd1]; exact IntWalk.i64_in _ (by omega)
  have z4 : IntKind.i64.wrap (vy - uy) = dy := by rw [hd2]; exact IntWalk.i64_in _ (by omega)
  have z5 : IntKind.i64.wrap (uy - vy) = -dy := by rw [hd3]; exact IntWalk.i64_in _ (by omega)
  clear hm1 hm2 hd1 hd2 hd3 hu hv; dsimp only [Pt.val, Pt.cells] at *
  go_enter Try.func66, Try.ntmps66
  go_wp2; generalize hwP : ((w.alloc (.cells #[.int .i64 ux, .int .i64 uy] 73)).alloc (.cells #[.int .i64 vx, .int .i64 vy] 73)).alloc (.cells #[.int .i64 mx, .int .i64 my] 73) = wP at *; have hsw : B + 1 + 1 < wP.heap.size := kM.lt; clear hwP hB hr
  go_loopw [9, 10] (fun o i wr => ∃ k : Nat, k ≤ L.length ∧ i = .int .i64 k ∧ o = .int .i64 (albT ⟨mx, my⟩ ⟨dx, dy⟩ ((edges L).take k)) ∧ Hid (((edges L).take k).all (offM ⟨mx, my⟩ ⟨dx, dy⟩) = true) ∧ Below wP.heap.size wP wr) (fun _ i _ => L.length - (intOf i).toNat)
  case atStart => exact ⟨0, Nat.zero_le _, rfl, rfl, Lib.hid (by simp), Below.refl _ _⟩
  case round =>
    obtain ⟨k, hk, rfl, rfl, hall, hbl⟩ := hrel
    by_cases hlt : k < L.length
    · have hst := edges_take L k hlt; have hmem := edges_mem L k hlt; obtain ⟨q, hq⟩ : ∃ q, (k + 1) % L.length = q := ⟨_, rfl⟩; have hql : q < L.length := by rw [← hq]; exact Nat.mod_lt _ (by omega)
      obtain ⟨b, off, rfl, hb, c0, c1⟩ := (hr0.keep hbl).pt k hlt; obtain ⟨b', off', e, hb', d0, d1⟩ := (hr0.keep hbl).pt q hql
      cases e
      simp only [hq] at hst hmem; have o1 := ok_get L HOK.out k hlt; have o2 := ok_get L HOK.out q hql; rw [getElem!_pos L k hlt] at o1; rw [getElem!_pos L q hql] at o2; have hrem : ((k : Int) + 1) % (L.length : Int) = (q : Int) := by rw [← hq]; simp
      have hrem2 : (IntKind.i64.wrap ((k : Int) + 1)).tmod (L.length : Int) = (q : Int) := by
        rw [IntWalk.i64_in _ (by omega), Int.tmod_eq_emod_of_nonneg (by omega)]; exact hrem
      generalize L[k] = p1 at *; generalize L[q] = p2 at *; have q0 : (0 : Int) ≤ (q : Int) ∧ (q : Int) < (L.length : Int) := by omega
      have hnil : ¬ L = [] := by intro h; rw [h] at hlt; simp at hlt
      have hln : ¬ L.length = 0 := by omega
      have hs := hbl.size; have HST : Hid (albT ⟨mx, my⟩ ⟨dx, dy⟩ ((edges L).take (k + 1)) = albT ⟨mx, my⟩ ⟨dx, dy⟩ ((edges L).take k) + albE ⟨mx, my⟩ ⟨dx, dy⟩ (p1, p2)) := Lib.hid (by rw [hst, HSN.out]); have HSA : Hid (((edges L).take (k + 1)).all (offM ⟨mx, my⟩ ⟨dx, dy⟩) = !besHas ⟨mx, my⟩ ⟨dx, dy⟩ p1 p2) := Lib.hid (by rw [hst, List.all_append, hall.out, Bool.true_and, List.all_cons, List.all_nil, Bool.and_true]; rfl); have HNO : Hid (besHas ⟨mx, my⟩ ⟨dx, dy⟩ p1 p2 = true → (edges L).all (offM ⟨mx, my⟩ ⟨dx, dy⟩) = false) := Lib.hid (fun h => by
        rw [List.all_eq_false]; exact ⟨_, hmem, by unfold offM; rw [h]; simp⟩)
      have hEB := HEB.out (p1, p2); have hSB := HSB.out ((edges L).take k); rw [List.length_take, edges_length] at hSB; have HAL := Lib.hid (HAL.out p1 p2); have HHE := HH.out p1 p2; have HO := Lib.hid (HO.out p1 p2 o1 o2); have HL := Lib.hid (HL.out p1 p2 o1 o2); have HAR := HAL.out; rw [HAR] at HL; generalize albT ⟨mx, my⟩ ⟨dx, dy⟩ ((edges L).take k) = F at *; generalize albE ⟨mx, my⟩ ⟨dx, dy⟩ (p1, p2) = EE at *; generalize besHas ⟨mx, my⟩ ⟨dx, dy⟩ p1 p2 = HAS at *; generalize onP (dblP p1) (dblP p2) ⟨mx, my⟩ = ON at *; have hF64 : -1000 ≤ F ∧ F ≤ 1000 := by omega
      have rF : IntKind.i64.wrap (F + EE) = F + EE := IntWalk.i64_in _ (by omega); rw [okPt_iff] at o1 o2; obtain ⟨x1, y1⟩ := p1; obtain ⟨x2, y2⟩ := p2; dsimp only [Pt.val, dblP] at c0 c1 d0 d1 o1 o2 HO HL HHE; have r1' : IntKind.i64.wrap (2 * x1) = 2 * x1 := IntWalk.i64_in _ (by omega); have r2' : IntKind.i64.wrap (2 * y1) = 2 * y1 := IntWalk.i64_in _ (by omega); have r3' : IntKind.i64.wrap (2 * x2) = 2 * x2 := IntWalk.i64_in _ (by omega); have r4' : IntKind.i64.wrap (2 * y2) = 2 * y2 := IntWalk.i64_in _ (by omega); obtain ⟨X1, hX1⟩ : ∃ z, 2 * x1 = z := ⟨_, rfl⟩; obtain ⟨Y1, hY1⟩ : ∃ z, 2 * y1 = z := ⟨_, rfl⟩; obtain ⟨X2, hX2⟩ : ∃ z, 2 * x2 = z := ⟨_, rfl⟩; obtain ⟨Y2, hY2⟩ : ∃ z, 2 * y2 = z := ⟨_, rfl⟩; have r1 : IntKind.i64.wrap (2 * x1) = X1 := r1'.trans hX1; have r2 : IntKind.i64.wrap (2 * y1) = Y1 := r2'.trans hY1; have r3 : IntKind.i64.wrap (2 * x2) = X2 := r3'.trans hX2; have r4 : IntKind.i64.wrap (2 * y2) = Y2 := r4'.trans hY2; have bX1 : -33554432 ≤ X1 ∧ X1 ≤ 33554432 := by omega
      have bX2 : -33554432 ≤ X2 ∧ X2 ≤ 33554432 := by omega
      have bY1 : -33554432 ≤ Y1 ∧ Y1 ≤ 33554432 := by omega
      have bY2 : -33554432 ≤ Y2 ∧ Y2 ≤ 33554432 := by omega
      rw [hX1, hX2, hY1, hY2] at HHE HO HL; clear r1' r2' r3' r4' hX1 hX2 hY1 hY2 o1 o2; obtain ⟨U, hU⟩ : ∃ z, X2 - X1 = z := ⟨_, rfl⟩; obtain ⟨V, hV⟩ : ∃ z, Y2 - Y1 = z := ⟨_, rfl⟩; have r5 : IntKind.i64.wrap (X2 - X1) = U := by rw [hU]; exact IntWalk.i64_in _ (by omega)
      have r6 : IntKind.i64.wrap (Y2 - Y1) = V := by rw [hV]; exact IntWalk.i64_in _ (by omega)
      have m1 := mul_bd U dy 67108864 33554432 (by omega) (by omega) (by omega) (by omega); have m2 := mul_bd V dx 67108864 33554432 (by omega) (by omega) (by omega) (by omega); simp only [Int.reduceMul, Int.reduceNeg] at m1 m2; rw [hU, hV] at HHE; obtain ⟨P, hP⟩ : ∃ z, U * dy = z := ⟨_, rfl⟩; obtain ⟨Q, hQ⟩ : ∃ z, V * dx = z := ⟨_, rfl⟩; rw [hP] at m1; rw [hQ] at m2; rw [hP, hQ] at HHE; have r7 : IntKind.i64.wrap (U * dy) = P := by rw [hP]; exact IntWalk.i64_in _ (by omega)
      have r8 : IntKind.i64.wrap (V * dx) = Q := by rw [hQ]; exact IntWalk.i64_in _ (by omega)
      have HHE := Lib.hid HHE; clear hU hV hP hQ m1 m2 bX1 bX2 bY1 bY2 HAR hEB hSB hst hmem HAL; have kA1 := kA.keep hbl; have kB1 := kB.keep hbl; have kM1 := kM.keep hbl; have n1 : b ≠ wr.heap.size := by omega
      have n2 : b ≠ wr.heap.size + 1 := by omega
      go_wp2; rename_i K1 hK1 K0 hK0; replace hK1 := Lib.hid hK1; replace hK0 := Lib.hid hK0; have main : ∀ (pA qA : Nat) (W : World), pA ≠ qA → B + 1 + 1 < pA → B + 1 + 1 < qA → wP.heap.size ≤ pA → wP.heap.size ≤ qA → Below wP.heap.size wP W → Blk W pA [.int .i64 x1, .int .i64 y1] → Blk W qA [.int .i64 x2, .int .i64 y2] → Blk W B [.int .i64 ux, .int .i64 uy] → Blk W (B + 1) [.int .i64 vx, .int .i64 vy] → Blk W (B + 1 + 1) [.int .i64 mx, .int .i64 my] → K0 { tmps := List.toArray ((.slice (some ⟨b, off, none⟩) L.length c) :: (.agg #[.int .i64 ux, .int .i64 uy]) :: (.agg #[.int .i64 vx, .int .i64 vy]) :: undef :: (.pointer (some ⟨B, 0, none⟩)) :: (.pointer (some ⟨(B + 1), 0, none⟩)) :: u6 :: u7 :: (.pointer (some ⟨(B + 1 + 1), 0, none⟩)) :: (.int .i64 F) :: (.int .i64 (k : Int)) :: (.pointer (some ⟨pA, 0, none⟩)) :: (.pointer (some ⟨qA, 0, none⟩)) :: u13 :: (.pointer (some ⟨B, 0, none⟩)) :: (.int .i64 ux) :: (.pointer (some ⟨(B + 1), 0, none⟩)) :: (.int .i64 vx) :: (.int .i64 mx) :: (.pointer (some ⟨B, 1, none⟩)) :: (.int .i64 uy) :: (.pointer (some ⟨(B + 1), 1, none⟩)) :: (.int .i64 vy) :: (.int .i64 my) :: (.agg #[.int .i64 mx, .int .i64 my]) :: (.int .i64 (k : Int)) :: (.slice (some ⟨b, off, none⟩) L.length c) :: (.int .i64 (L.length : Int)) :: (.bool true) :: u29 :: u30 :: (.slice (some ⟨b, off, none⟩) L.length c) :: (.int .i64 (k : Int)) :: (.pointer (some ⟨b, off + k * 2, none⟩)) :: (.agg #[.int .i64 x1, .int .i64 y1]) :: (.slice (some ⟨b, off, none⟩) L.length c) :: (.int .i64 (k : Int)) :: (.int .i64 ((k : Int) + 1)) :: (.slice (some ⟨b, off, none⟩) L.length c) :: (.int .i64 (L.length : Int)) :: (.int .i64 (((k : Int) + 1) % (L.length : Int))) :: (.pointer (some ⟨b, off + q * 2, none⟩)) :: (.agg #[.int .i64 x2, .int .i64 y2]) :: u43 :: u44 :: u45 :: u46 :: u47 :: u48 :: u49 :: u50 :: u51 :: u52 :: u53 :: u54 :: u55 :: u56 :: u57 :: u58 :: u59 :: u60 :: u61 :: u62 :: u63 :: u64 :: u65 :: u66 :: u67 :: u68 :: u69 :: u70 :: u71 :: u72 :: u73 :: u74 :: u75 :: u76 :: u77 :: u78 :: u79 :: u80 :: u81 :: u82 :: u83 :: u84 :: u85 :: u86 :: u87 :: u88 :: u89 :: u90 :: u91 :: u92 :: u93 :: u94 :: u95 :: u96 :: u97 :: u98 :: u99 :: u100 :: u101 :: u102 :: u103 :: u104 :: undef :: []), defers := [] } W := by
        intro pA qA W hne hpA hqA hpW hqW hbW kP kQ kA2 kB2 kM2; refine hK0.out _ _ ?_; clear hK0 K0 kA1 kB1 kM1 hr0 hbl hs c0 c1 d0 d1 hrem hrem2 q0 hb hb' n1 n2; have e0 := kP.cell 0 rfl; have e1 := kP.cell 1 rfl; have e2 := kQ.cell 0 rfl; have e3 := kQ.cell 1 rfl; have i0 := kP.free 0; have i1 := kP.free 1; have i2 := kQ.free 0; have i3 := kQ.free 1; have g0 := kA2.cell 0 rfl; have g1 := kA2.cell 1 rfl; have g2 := kB2.cell 0 rfl; have g3 := kB2.cell 1 rfl; go_wp2; rename_i K2 hK2; replace hK2 := Lib.hid hK2; have main2 : ∀ Z : World, Below wP.heap.size wP Z → Blk Z pA [.int .i64 X1, .int .i64 Y1] → Blk Z qA [.int .i64 X2, .int .i64 Y2] → Blk Z B [.int .i64 ux, .int .i64 uy] → Blk Z (B + 1) [.int .i64 vx, .int .i64 vy] → Blk Z (B + 1 + 1) [.int .i64 mx, .int .i64 my] → K2 { tmps := List.toArray ((.slice (some ⟨b, off, none⟩) L.length c) :: (.agg #[.int .i64 ux, .int .i64 uy]) :: (.agg #[.int .i64 vx, .int .i64 vy]) :: undef :: (.pointer (some ⟨B, 0, none⟩)) :: (.pointer (some ⟨(B + 1), 0, none⟩)) :: u6 :: u7 :: (.pointer (some ⟨(B + 1 + 1), 0, none⟩)) :: (.int .i64 F) :: (.int .i64 (k : Int)) :: (.pointer (some ⟨pA, 0, none⟩)) :: (.pointer (some ⟨qA, 0, none⟩)) :: u13 :: (.pointer (some ⟨B, 0, none⟩)) :: (.int .i64 ux) :: (.pointer (some ⟨(B + 1), 0, none⟩)) :: (.int .i64 vx) :: (.int .i64 mx) :: (.pointer (some ⟨B, 1, none⟩)) :: (.int .i64 uy) :: (.pointer (some ⟨(B + 1), 1, none⟩)) :: (.int .i64 vy) :: (.int .i64 my) :: (.agg #[.int .i64 mx, .int .i64 my]) :: (.int .i64 (k : Int)) :: (.slice (some ⟨b, off, none⟩) L.length c) :: (.int .i64 (L.length : Int)) :: (.bool true) :: u29 :: u30 :: (.slice (some ⟨b, off, none⟩) L.length c) :: (.int .i64 (k : Int)) :: (.pointer (some ⟨b, off + k * 2, none⟩)) :: (.agg #[.int .i64 x1, .int .i64 y1]) :: (.slice (some ⟨b, off, none⟩) L.length c) :: (.int .i64 (k : Int)) :: (.int .i64 ((k : Int) + 1)) :: (.slice (some ⟨b, off, none⟩) L.length c) :: (.int .i64 (L.length : Int)) :: (.int .i64 (((k : Int) + 1) % (L.length : Int))) :: (.pointer (some ⟨b, off + q * 2, none⟩)) :: (.agg #[.int .i64 x2, .int .i64 y2]) :: (.pointer (some ⟨pA, 0, none⟩)) :: (.int .i64 x1) :: (.int .i64 X1) :: (.pointer (some ⟨pA, 1, none⟩)) :: (.int .i64 y1) :: (.int .i64 Y1) :: (.agg #[.int .i64 X1, .int .i64 Y1]) :: (.pointer (some ⟨qA, 0, none⟩)) :: (.int .i64 x2) :: (.int .i64 X2) :: (.pointer (some ⟨qA, 1, none⟩)) :: (.int .i64 y2) :: (.int .i64 Y2) :: (.agg #[.int .i64 X2, .int .i64 Y2]) :: u57 :: u58 :: u59 :: u60 :: u61 :: u62 :: u63 :: u64 :: u65 :: u66 :: u67 :: u68 :: u69 :: u70 :: u71 :: u72 :: u73 :: u74 :: u75 :: u76 :: u77 :: u78 :: u79 :: u80 :: u81 :: u82 :: u83 :: u84 :: u85 :: u86 :: u87 :: u88 :: u89 :: u90 :: u91 :: u92 :: u93 :: u94 :: u95 :: u96 :: u97 :: u98 :: u99 :: u100 :: u101 :: u102 :: u103 :: u104 :: undef :: []), defers := [] } Z := by
          intro Z hbZ kP kQ kA3 kB3 kM3; refine hK2.out _ _ ?_; clear hK2 K2 kA2 kB2 kM2 hbW e0 e1 e2 e3 i0 i1 i2 i3; clear g0 g1 g2 g3; have s0 := kP.cell 0 rfl; have s1 := kP.cell 1 rfl; have s2 := kQ.cell 0 rfl; have s3 := kQ.cell 1 rfl; have g0 := kA3.cell 0 rfl; have g1 := kA3.cell 1 rfl; have g2 := kB3.cell 0 rfl; have g3 := kB3.cell 1 rfl; have g4 := kM3.cell 0 rfl; have g5 := kM3.cell 1 rfl
          by_cases hPQ : P = Q
          · have hPQ1 : (P == Q) = true := by simpa using hPQ
            have HH0 : Hid (HAS = false) := Lib.hid (by rw [← HHE.out]; simp [hPQ]); have hPQ := Lib.hid hPQ
            go_wp2_with fail
            refine (HL.out _).mono ?_; rintro e W2 ⟨rfl, hb2⟩; have hblf := hbZ.trans (hb2.mono hbZ.size); clear hb2 HL HO; go_wp2; refine hK1.out _ _ ?_; go_wp2; exact ⟨⟨k + 1, by omega, by go_num, by rw [HST.out], Lib.hid (by rw [HSA.out, HH0.out]; rfl), hblf⟩, by simp [intOf]; omega⟩
          · have hPQ1 : (P == Q) = false := by simpa using hPQ
            have HH0 : Hid (HAS = ON) := Lib.hid (by rw [← HHE.out]; simp [hPQ]); have hPQ := Lib.hid hPQ
            go_wp2_with fail
            refine (HO.out _).mono ?_; rintro e W2 ⟨rfl, hb2⟩; have kP := kP.keep hb2; have kQ := kQ.keep hb2; have kA3 := kA3.keep hb2; have kB3 := kB3.keep hb2; have kM3 := kM3.keep hb2; have hblf := hbZ.trans (hb2.mono hbZ.size); clear hb2 HO s0 s1 s2 s3 g0 g1 g2 g3 g4 g5; have s0 := kP.cell 0 rfl; have s1 := kP.cell 1 rfl; have s2 := kQ.cell 0 rfl; have s3 := kQ.cell 1 rfl; have g0 := kA3.cell 0 rfl; have g1 := kA3.cell 1 rfl; have g2 := kB3.cell 0 rfl; have g3 := kB3.cell 1 rfl; have g4 := kM3.cell 0 rfl; have g5 := kM3.cell 1 rfl
            cases ON with
            | true =>
              go_wp2; refine bodyPost_ret (v := .tuple #[.int .i64 0, .bool false]) (by simp [results, Try.results66, go_sem]) rfl ⟨?_, by rw [HBE.out]; exact hbl0.trans (hblf.mono (by omega))⟩; have h1 := HNO.out HH0.out; rw [HALL.out] at h1; have h2 := HRR.out; rw [h1] at h2 ⊢; rw [← h2]; rfl
            | false =>
              go_wp2_with fail
              refine (HL.out _).mono ?_; rintro e W3 ⟨rfl, hb3⟩; have hblg := hblf.trans (hb3.mono hblf.size); clear hb3 HL; go_wp2; refine hK1.out _ _ ?_; go_wp2; exact ⟨⟨k + 1, by omega, by go_num, by rw [HST.out], Lib.hid (by rw [HSA.out, HH0.out]; rfl), hblg⟩, by simp [intOf]; omega⟩
        clear hK1 HL HO HHE HST HSA HNO
        go_region
        all_goals
          clear e0 e1 e2 e3 i0 i1 i2 i3 g0 g1 g2 g3
          first
          | (obtain ⟨Z, hZ, kP, kQ, hbZ, hk⟩ := set4 kP kQ hne hbW hpW hqW (.int .i64 X1) (.int .i64 Y1) (.int .i64 X2) (.int .i64 Y2); rw [← hZ]; clear hZ)
          | (obtain ⟨Z, hZ, kQ, kP, hbZ, hk⟩ := set4 kQ kP hne.symm hbW hqW hpW (.int .i64 X2) (.int .i64 Y2) (.int .i64 X1) (.int .i64 Y1); rw [← hZ]; clear hZ)
          exact main2 Z hbZ kP kQ (hk _ _ kA2 (by omega) (by omega)) (hk _ _ kB2 (by omega) (by omega)) (hk _ _ kM2 (by omega) (by omega))
      clear hK1 hK0
      go_region
      · have kP := ((Blk.lit wr wr.heap.size [.int .i64 x1, .int .i64 y1] 73 rfl).alloc (.cells #[.int .i64 x2, .int .i64 y2] 73)).drew; have kQ := (Blk.lit (wr.alloc (.cells #[.int .i64 x1, .int .i64 y1] 73)) (wr.heap.size + 1) [.int .i64 x2, .int .i64 y2] 73 (by simp)).drew; have kA2 := ((kA1.alloc (.cells #[.int .i64 x1, .int .i64 y1] 73)).alloc (.cells #[.int .i64 x2, .int .i64 y2] 73)).drew; have kB2 := ((kB1.alloc (.cells #[.int .i64 x1, .int .i64 y1] 73)).alloc (.cells #[.int .i64 x2, .int .i64 y2] 73)).drew; have kM2 := ((kM1.alloc (.cells #[.int .i64 x1, .int .i64 y1] 73)).alloc (.cells #[.int .i64 x2, .int .i64 y2] 73)).drew; have hbW := ((hbl.alloc hs (.cells #[.int .i64 x1, .int .i64 y1] 73)).alloc (by simp; omega) (.cells #[.int .i64 x2, .int .i64 y2] 73)).drew; obtain ⟨S, hS⟩ : ∃ s, wr.heap.size = s := ⟨_, rfl⟩; rw [hS] at hs kP kQ ⊢; have hne : S ≠ S + 1 := by omega
        have hpA : B + 1 + 1 < S := by omega
        have hqA : B + 1 + 1 < S + 1 := by omega
        have hpW : wP.heap.size ≤ S := by omega
        have hqW : wP.heap.size ≤ S + 1 := by omega
        clear hS n1 n2; generalize S + 1 = qA at *; generalize S = pA at *; generalize (((wr.alloc (.cells #[.int .i64 x1, .int .i64 y1] 73)).alloc (.cells #[.int .i64 x2, .int .i64 y2] 73)).drew) = W at *; clear kA1 kB1 kM1; exact main pA qA W hne hpA hqA hpW hqW hbW kP kQ kA2 kB2 kM2
      · have kQ := ((Blk.lit wr wr.heap.size [.int .i64 x2, .int .i64 y2] 73 rfl).alloc (.cells #[.int .i64 x1, .int .i64 y1] 73)).drew; have kP := (Blk.lit (wr.alloc (.cells #[.int .i64 x2, .int .i64 y2] 73)) (wr.heap.size + 1) [.int .i64 x1, .int .i64 y1] 73 (by simp)).drew; have kA2 := ((kA1.alloc (.cells #[.int .i64 x2, .int .i64 y2] 73)).alloc (.cells #[.int .i64 x1, .int .i64 y1] 73)).drew; have kB2 := ((kB1.alloc (.cells #[.int .i64 x2, .int .i64 y2] 73)).alloc (.cells #[.int .i64 x1, .int .i64 y1] 73)).drew; have kM2 := ((kM1.alloc (.cells #[.int .i64 x2, .int .i64 y2] 73)).alloc (.cells #[.int .i64 x1, .int .i64 y1] 73)).drew; have hbW := ((hbl.alloc hs (.cells #[.int .i64 x2, .int .i64 y2] 73)).alloc (by simp; omega) (.cells #[.int .i64 x1, .int .i64 y1] 73)).drew; obtain ⟨S, hS⟩ : ∃ s, wr.heap.size = s := ⟨_, rfl⟩; rw [hS] at hs kP kQ ⊢; have hne : S + 1 ≠ S := by omega
        have hqA : B + 1 + 1 < S := by omega
        have hpA : B + 1 + 1 < S + 1 := by omega
        have hqW : wP.heap.size ≤ S := by omega
        have hpW : wP.heap.size ≤ S + 1 := by omega
        clear hS n1 n2; generalize S + 1 = pA at *; generalize S = qA at *; generalize (((wr.alloc (.cells #[.int .i64 x2, .int .i64 y2] 73)).alloc (.cells #[.int .i64 x1, .int .i64 y1] 73)).drew) = W at *; clear kA1 kB1 kM1; exact main pA qA W hne hpA hqA hpW hqW hbW kP kQ kA2 kB2 kM2
    · obtain rfl : k = L.length := by omega
      have h1 := hall.out; rw [HFIN.out] at h1 ⊢; have h1 := Lib.hid h1; go_wp2; refine bodyPost_ret (v := .tuple #[.int .i64 (albT ⟨mx, my⟩ ⟨dx, dy⟩ (edges L)), .bool true]) (by simp [results, Try.results66, go_sem]) rfl ⟨?_, by rw [HBE.out]; exact hbl0.trans (hbl.mono (by omega))⟩; have h1 := h1.out; rw [HALL.out] at h1; have h2 := HRR.out; rw [h1] at h2 ⊢; rw [← h2]; rfl
end Go.Proofs.Ytccamjnomjcchaa
/- graticuleref13.round. -/
set_option linter.unusedVariables false
set_option linter.unusedSimpArgs false
set_option maxRecDepth 100000
namespace Go
open Go.RowKit
def roundOk (R : List (List Pt)) (u v : Pt) : Bool := R.all fun r => (edges r).all (offM (besM u v) (besV u v))
def roundS (R : List (List Pt)) (u v : Pt) : Int := (R.map fun r => albT (besM u v) (besV u v) (edges r)).sum
def roundN (R : List (List Pt)) (u v : Pt) : Int := if roundOk R u v = true then roundS R u v else 0
theorem roundOk_snoc (R : List (List Pt)) (r : List Pt) (u v : Pt) : roundOk (R ++ [r]) u v = (roundOk R u v && (edges r).all (offM (besM u v) (besV u v))) := by
  unfold roundOk; rw [List.all_append]; simp
theorem roundS_snoc (R : List (List Pt)) (r : List Pt) (u v : Pt) : roundS (R ++ [r]) u v = roundS R u v + albT (besM u v) (besV u v) (edges r) := by
  unfold roundS; rw [List.map_append, List.sum_append]; simp
theorem roundS_bd (R : List (List Pt)) (h : ∀ r ∈ R, r.length ≤ 1000) (u v : Pt) : -(1000 * (R.length : Int)) ≤ roundS R u v ∧ roundS R u v ≤ 1000 * (R.length : Int) := by
  induction R with
  | nil => simp [roundS]
  | cons r R ih =>
    have h1 := ih (fun x hx => h x (List.mem_cons_of_mem _ hx)); have h2 := albT_bd (besM u v) (besV u v) (edges r); have h3 : (edges r).length = r.length := by simp [edges]
    have h4 := h r List.mem_cons_self; unfold roundS at h1 ⊢; rw [List.map_cons, List.sum_cons, List.length_cons]; rw [h3] at h2; omega
theorem roundOk_take {R : List (List Pt)} {u v : Pt} {k : Nat} (hk : k < R.length) (h : (edges R[k]).all (offM (besM u v) (besV u v)) = false) : roundOk R u v = false := by
  unfold roundOk; rw [List.all_eq_false]; exact ⟨R[k], List.getElem_mem hk, by rw [h]; simp⟩
end Go
namespace Go.Proofs.Ytccamjnomjcchaa
open Go.RowKit
set_option maxHeartbeats 3200000 in
theorem rround_any (f : Fc) (hn : f.rs.length ≤ 1000) (hl : ∀ r ∈ f.rs, r.l.length ≤ 1000 ∧ r.l.all okPt = true) (u v : Pt) (hu : okPt u = true) (hv : okPt v = true) (w : World) (hok : f.Ok w) :
    Calls Try.prog 39 #[f.val, u.val, v.val] w fun e w' => e = .returned (.tuple #[.int .i64 (roundN f.rings u v), .bool (roundOk f.rings u v)]) ∧ Below w.heap.size w w' := by
  have HLL := Lib.hid hl; have HOK := Lib.hid hok; have HBE3 := Lib.hid (fun (r : PC) (hr : r ∈ f.rs) (W : World) (h : Rd W r.p (pts r.l)) => rbes3_any r.p r.c r.l (hl r hr).1 (hl r hr).2 u v hu hv W h); have HRG : Hid (f.rings = f.rs.map PC.l) := Lib.hid rfl; have HN1 : Hid (∀ k, (h : k < f.rs.length) → (edges (f.rs[k].l)).all (offM (besM u v) (besV u v)) = false → roundOk f.rings u v = false ∧ roundN f.rings u v = 0) := Lib.hid (fun k h h2 => by
    have h3 : roundOk f.rings u v = false := roundOk_take (k := k) (by simpa [Fc.rings] using h) (by simpa [Fc.rings] using h2); exact ⟨h3, by unfold roundN; rw [h3]; rfl⟩)
  have HBD : Hid (∀ k, k ≤ f.rs.length → -(1000 * (k : Int)) ≤ roundS (f.rings.take k) u v ∧ roundS (f.rings.take k) u v ≤ 1000 * (k : Int)) := Lib.hid (fun k h => by
    have h1 := roundS_bd (f.rings.take k) (fun r hr => by
      obtain ⟨x, hx, rfl⟩ := List.mem_map.1 (List.mem_of_mem_take hr); exact (hl x hx).1) u v
    have h2 : (f.rings.take k).length = k := by rw [List.length_take]; simp [Fc.rings]; omega
    rw [h2] at h1; exact h1)
  have HST : Hid (∀ k, (h : k < f.rs.length) → roundS (f.rings.take (k + 1)) u v = roundS (f.rings.take k) u v + albT (besM u v) (besV u v) (edges f.rs[k].l) ∧ (roundOk (f.rings.take k) u v = true → (edges f.rs[k].l).all (offM (besM u v) (besV u v)) = true → roundOk (f.rings.take (k + 1)) u v = true)) := Lib.hid (fun k h => by
    have h1 : f.rings.take (k + 1) = f.rings.take k ++ [f.rs[k].l] := by
      rw [List.take_succ_eq_append_getElem (by simpa [Fc.rings] using h)]; simp [Fc.rings]
    rw [h1]; exact ⟨roundS_snoc _ _ _ _, fun a b => by rw [roundOk_snoc, a, b]; rfl⟩)
  have HEN : Hid (f.rings.take f.rs.length = f.rings) := Lib.hid (by rw [List.take_of_length_le]; simp [Fc.rings]); have HRN : Hid (roundOk f.rings u v = true → roundN f.rings u v = roundS f.rings u v) := Lib.hid (fun h => by unfold roundN; rw [if_pos h]); have HRT : Hid (roundOk f.rings u v = true → roundOk f.rings u v = true) := Lib.hid id; obtain ⟨RO, hRO⟩ : ∃ x, roundOk f.rings u v = x := ⟨_, rfl⟩; rw [hRO] at HN1 HRN ⊢; replace HRT : Hid (roundOk f.rings u v = true → RO = true) := Lib.hid (fun h => by rw [← hRO]; exact h); clear hRO; generalize roundN f.rings u v = RN at *; have HUV : Hid (∀ k, (h : k < f.rs.length) → ∃ (OB : Bool) (AL : Int), (edges f.rs[k].l).all (offM (besM u v) (besV u v)) = OB ∧ albT (besM u v) (besV u v) (edges f.rs[k].l) = AL) := Lib.hid (fun k h => ⟨_, _, rfl, rfl⟩); obtain ⟨rs, ra, rc, ls, aa, ac⟩ := f; obtain ⟨ux, uy⟩ := u; obtain ⟨vx, vy⟩ := v; have hrc := hok.1.2; dsimp only [Fc.val, Fc.rval, Fc.aval, Pt.val] at HLL hn hrc HBE3 HN1 HBD HST HEN HUV ⊢; obtain ⟨N, hN⟩ : ∃ N, rs.length = N := ⟨_, rfl⟩; have HN := Lib.hid hN; rw [hN] at hn hrc ⊢; clear hN hl hok hu hv; generalize (⟨rs, ra, rc, ls, aa, ac⟩ : Fc).rings = RR at *; generalize ls.length = NL at *; obtain ⟨B, hB⟩ : ∃ B, w.heap.size = B := ⟨_, rfl⟩; have HBQ := Lib.hid hB
  go_enter Try.func39, Try.ntmps39
  go_wp2; have kF := ((Blk.lit w w.heap.size [.slice ra N rc, .slice aa NL ac] 58 rfl).alloc (.cells #[.int .i64 ux, .int .i64 uy] 73)).alloc (.cells #[.int .i64 vx, .int .i64 vy] 73); have kU := (Blk.lit (w.alloc (.cells #[.slice ra N rc, .slice aa NL ac] 58)) (w.heap.size + 1) [.int .i64 ux, .int .i64 uy] 73 (by simp)).alloc (.cells #[.int .i64 vx, .int .i64 vy] 73); have kV := Blk.lit ((w.alloc (.cells #[.slice ra N rc, .slice aa NL ac] 58)).alloc (.cells #[.int .i64 ux, .int .i64 uy] 73)) (w.heap.size + 1 + 1) [.int .i64 vx, .int .i64 vy] 73 (by simp); have hHS := ((Below.new w (.cells #[.slice ra N rc, .slice aa NL ac] 58)).alloc (by simp) (.cells #[.int .i64 ux, .int .i64 uy] 73)).alloc (by simp; omega) (.cells #[.int .i64 vx, .int .i64 vy] 73); generalize ((w.alloc (.cells #[.slice ra N rc, .slice aa NL ac] 58)).alloc (.cells #[.int .i64 ux, .int .i64 uy] 73)).alloc (.cells #[.int .i64 vx, .int .i64 vy] 73) = wS at *; have hsz : w.heap.size ≤ wS.heap.size := hHS.size; rw [hB] at kF kU kV hsz; clear hB
  go_loopw [8, 9] (fun n i wr => ∃ k : Nat, k ≤ N ∧ i = .int .i64 k ∧ n = .int .i64 (roundS (RR.take k) ⟨ux, uy⟩ ⟨vx, vy⟩) ∧ Hid (roundOk (RR.take k) ⟨ux, uy⟩ ⟨vx, vy⟩ = true) ∧ Below wS.heap.size wS wr) (fun _ i _ => N - (intOf i).toNat)
  case atStart => exact ⟨0, by omega, rfl, rfl, Lib.hid rfl, Below.refl _ _⟩
  case round =>
    obtain ⟨k, hk, rfl, rfl, HO, hbl⟩ := hrel; have hbw := hHS.trans (hbl.mono hHS.size); obtain ⟨hbd1, hbd2⟩ := HBD.out k (by rw [HN.out]; exact hk); have q0 := (kF.keep hbl).cell 0 rfl
    by_cases h1 : k < N
    · as_aux_lemma =>
      have h1' : (k : Int) < (N : Int) := by omega
      have hkl : k < rs.length := by rw [HN.out]; exact h1
      obtain ⟨b2, o2, rfl, hb2, d0⟩ := HOK.out.1.1.rc k hkl; have d0 := (hHS.cell (p := ⟨b2, o2 + k, none⟩) hb2).trans d0; have hb3 : b2 < wS.heap.size := Nat.lt_of_lt_of_le hb2 hHS.size; have HRO := Lib.hid (HOK.out.2.1 _ (List.getElem_mem hkl)); have HB3 := Lib.hid (HBE3.out _ (List.getElem_mem hkl)); have hst := HST.out k hkl; have hn1 := HN1.out k hkl; obtain ⟨OB, AL, e1, e2⟩ := HUV.out k hkl; have habd : -(1000 : Int) ≤ AL ∧ AL ≤ 1000 := by
        have g1 := albT_bd (besM ⟨ux, uy⟩ ⟨vx, vy⟩) (besV ⟨ux, uy⟩ ⟨vx, vy⟩) (edges rs[k].l); have g2 : (edges rs[k].l).length = rs[k].l.length := by simp [edges]
        have g3 := (HLL.out _ (List.getElem_mem hkl)).1; rw [e2, g2] at g1; omega
      rw [e1, e2] at hst HB3; rw [e1] at hn1; have HST2 := Lib.hid hst; have HN2 := Lib.hid hn1; generalize rs[k] = R at *; obtain ⟨LL, Rp, Rc⟩ := R; dsimp only [PC.val] at d0 HB3 HRO; generalize LL.length = LN at *; obtain ⟨SS, hSS⟩ : ∃ s, roundS (RR.take k) ⟨ux, uy⟩ ⟨vx, vy⟩ = s := ⟨_, rfl⟩; rw [hSS] at HST2 hbd1 hbd2 ⊢; clear hst hn1 e1 e2 hSS HBE3 HST HN1 HUV HLL
      go_wp2_with fail
      refine wp_region_lit_txt [0, 1, 2, 3, 4, 5, 6, 8, 9, 10, 11, 12] (fun W => Below wS.heap.size wS W) (by kernel_rfl) (by kernel_rfl) (by kernel_rfl) hbl.drew ?_; have hbd := hbl.drew; generalize wr.drew = W0 at *
      (refine txt_light ?_ rfl rfl ?_ ?_; rotate_left; · (intro w' hS; (try dsimp only at hS); go_simp; with_reducible rfl)); try simp only [Act.put, List.getElem_toArray, List.getElem_cons_succ, List.getElem_cons_zero, List.setIfInBounds_toArray, List.set_cons_zero, List.set_cons_succ]
      refine txt_light (.slice (some ⟨b2, o2, none⟩) N rc) rfl rfl ?_ ?_
      · intro w' hS; have c7 := (kF.keep hS).cell 0 rfl; clear hS; go_simp
      try simp only [Act.put, List.getElem_toArray, List.getElem_cons_succ, List.getElem_cons_zero, List.setIfInBounds_toArray, List.set_cons_zero, List.set_cons_succ]
      iterate 2 ((refine txt_light ?_ rfl rfl ?_ ?_; rotate_left; · (intro w' hS; (try dsimp only at hS); go_simp; with_reducible rfl)); try simp only [Act.put, List.getElem_toArray, List.getElem_cons_succ, List.getElem_cons_zero, List.setIfInBounds_toArray, List.set_cons_zero, List.set_cons_succ])
      refine txt_light (.slice Rp LN Rc) rfl rfl ?_ ?_
      · intro w' hS; have c7 := (hS.cell (p := ⟨b2, o2 + k, none⟩) hb3).trans d0; clear hS; go_simp
      try simp only [Act.put, List.getElem_toArray, List.getElem_cons_succ, List.getElem_cons_zero, List.setIfInBounds_toArray, List.set_cons_zero, List.set_cons_succ]
      refine txt_light (.agg #[.int .i64 ux, .int .i64 uy]) rfl rfl ?_ ?_
      · intro w' hS; have c7 := (kU.keep hS).cell 0 rfl; have c8 := (kU.keep hS).cell 1 rfl; clear hS; go_simp
      try simp only [Act.put, List.getElem_toArray, List.getElem_cons_succ, List.getElem_cons_zero, List.setIfInBounds_toArray, List.set_cons_zero, List.set_cons_succ]
      refine txt_light (.agg #[.int .i64 vx, .int .i64 vy]) rfl rfl ?_ ?_
      · intro w' hS; have c7 := (kV.keep hS).cell 0 rfl; have c8 := (kV.keep hS).cell 1 rfl; clear hS; go_simp
      try simp only [Act.put, List.getElem_toArray, List.getElem_cons_succ, List.getElem_cons_zero, List.setIfInBounds_toArray, List.set_cons_zero, List.set_cons_succ]
      refine txt_heavy rfl rfl (fun K hK => ?_); go_step; refine (HB3.out W0 (HRO.out.1.keep (hHS.trans (hbd.mono hHS.size)))).mono ?_; rintro e W1 ⟨rfl, hx1⟩; have hbe := hbd.trans (hx1.mono hbd.size); refine hK.out _ _ hbe ?_; clear hK K
      try simp only [Act.put, List.getElem_toArray, List.getElem_cons_succ, List.getElem_cons_zero, List.setIfInBounds_toArray, List.set_cons_zero, List.set_cons_succ]
      iterate 5 ((refine txt_light ?_ rfl rfl ?_ ?_; rotate_left; · (intro w' hS; (try dsimp only at hS); go_simp; with_reducible rfl)); try simp only [Act.put, List.getElem_toArray, List.getElem_cons_succ, List.getElem_cons_zero, List.setIfInBounds_toArray, List.set_cons_zero, List.set_cons_succ])
      refine txt_nil ?_
      cases OB with
      | false =>
        obtain ⟨rfl, rfl⟩ := HN2.out rfl; go_wp2; refine bodyPost_ret (v := .tuple #[.int .i64 0, .bool false]) (by simp [results, Try.results39, go_sem]) rfl ⟨rfl, hHS.trans (hbe.mono hHS.size)⟩
      | true =>
        have HS3 : Hid (roundS (RR.take (k + 1)) ⟨ux, uy⟩ ⟨vx, vy⟩ = SS + AL) := Lib.hid HST2.out.1; have HO2 : Hid (roundOk (RR.take (k + 1)) ⟨ux, uy⟩ ⟨vx, vy⟩ = true) := Lib.hid (HST2.out.2 HO.out rfl); go_wp2; exact ⟨⟨k + 1, by omega, by go_num, by rw [HS3.out], HO2, hbe⟩, by simp [intOf]; omega⟩
    · obtain rfl : k = N := by omega
      have h2 := HEN.out; rw [HN.out] at h2; have h3 := HO.out; rw [h2] at h3 hbd1 hbd2 ⊢; have h4 := HRT.out h3; subst h4; have h5 := HRN.out rfl; obtain ⟨SS, hSS⟩ : ∃ s, roundS RR ⟨ux, uy⟩ ⟨vx, vy⟩ = s := ⟨_, rfl⟩; rw [hSS] at h5 hbd1 hbd2 ⊢; subst h5; clear h2 h3 hSS HO; go_wp2; refine bodyPost_ret (v := .tuple #[.int .i64 RN, .bool true]) (by simp [results, Try.results39, go_sem]) rfl ⟨rfl, hbw⟩
end Go.Proofs.Ytccamjnomjcchaa
