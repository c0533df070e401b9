/-
  Rows of points in a block: read, and written in place. graticulelaw12.Box: any box, either way round. table.Check of no attributes. graticuleref04.Compare, graticulelaw04.Ints of rows that are the same. The example of chapter 13 holds.
-/
import Derived.Test.YtccamjnomjcchaaPk1
import Derived.Test.YtccamjnomjcchaaPk6
import Derived.Test.YtccamjnomjcchaaPk2
import Derived.Test.YtccamjnomjcchaaProg
import Derived.Test.YtccamjnomjcchaaPk5
import Derived.Test.YtccamjnomjcchaaPk23
import Derived.Test.YtccamjnomjcchaaPk24
/- Rows of points in a block: read, and written in place. -/
/- A ring, the other way round: in plain terms. -/
namespace Go
def turnedP (l : List Pt) : List Pt := match l with | [] => [] | p :: t => p :: t.reverse
theorem turnedP_len (l : List Pt) : (turnedP l).length = l.length := by cases l <;> simp [turnedP]
theorem turnedP_map (f : Pt → Pt) (l : List Pt) : (turnedP l).map f = turnedP (l.map f) := by cases l <;> simp [turnedP]
theorem turnedP_all (f : Pt → Bool) (l : List Pt) : (turnedP l).all f = l.all f := by cases l <;> simp [turnedP]
end Go
set_option linter.unusedVariables false
set_option linter.unusedSimpArgs false
set_option maxRecDepth 100000
namespace Go
open Go.RowKit
theorem cellP {w : World} {g : Nat} {R : List Pt} {TL : List Value} {e : TypeId} (h : w.heap[g]? = some (.cells (pts R ++ TL).toArray e (0, 0))) (i : Nat) (hi : i < R.length) :
    w.cell? ⟨g, i * 2, none⟩ = some (.int .i64 R[i]!.x) ∧ w.cell? ⟨g, i * 2 + 1, none⟩ = some (.int .i64 R[i]!.y) := by
  have hb : Blk w g (pts R ++ TL) := ⟨_, h⟩; have hl := pts_len R; have g0 := pts_get R i 0 hi (by omega); have g1 := pts_get R i 1 hi (by omega); rw [getElem!_pos R i hi]; constructor
  · refine hb.cell (i * 2) ?_; rw [List.getElem?_append_left (by omega)]; exact g0
  · refine hb.cell (i * 2 + 1) ?_; rw [List.getElem?_append_left (by omega)]; exact g1
theorem blkT_set {w : World} {b : Nat} {T : TypeId} {vs : List Value} (h : w.heap[b]? = some (.cells vs.toArray T (0, 0))) (i : Nat) (u : Value) : (w.setCell ⟨b, i, none⟩ u).heap[b]? = some (.cells (vs.set i u).toArray T (0, 0)) := by
  simp [World.setCell, Array.getElem?_modify, h]
theorem row_set (C D : List Pt) (q p : Pt) (TL : List Value) (kk : Nat) (hk : C.length = kk) :
    ((pts (C ++ q :: D) ++ TL).set (kk * 2) (.int .i64 p.x)).set (kk * 2 + 1) (.int .i64 p.y) = pts ((C ++ [p]) ++ D) ++ TL := by
  have e1 : pts (C ++ q :: D) ++ TL = pts C ++ (.int .i64 q.x :: .int .i64 q.y :: (pts D ++ TL)) := by simp [pts, Pt.cells]
  have e2 : pts ((C ++ [p]) ++ D) ++ TL = pts C ++ (.int .i64 p.x :: .int .i64 p.y :: (pts D ++ TL)) := by simp [pts, Pt.cells]
  have hl : (pts C).length = kk * 2 := by rw [pts_len, hk]
  rw [e1, e2, List.set_append_right _ _ (by omega), List.set_append_right _ _ (by omega), hl]; simp
end Go
/- graticulelaw12.Box: any box, either way round. -/
set_option linter.unusedVariables false
set_option linter.unusedSimpArgs false
set_option maxRecDepth 100000
namespace Go.Proofs.Ytccamjnomjcchaa
open Go.RowKit
set_option maxHeartbeats 1600000 in
theorem boxl_any (x y d u v : Int) (hu : IntKind.i64.wrap (x + d) = u) (hv : IntKind.i64.wrap (y + d) = v) (w : World) :
    Calls Try.prog 27 #[.int .i64 x, .int .i64 y, .int .i64 d, .bool true] w fun e w' => e = .returned (.slice (some ⟨w.heap.size, 0, none⟩) 4 4) ∧ Rd w' (some ⟨w.heap.size, 0, none⟩) (pts [⟨x, y⟩, ⟨u, y⟩, ⟨u, v⟩, ⟨x, v⟩]) ∧ Below w.heap.size w w' := by
  go_enter Try.func27, Try.ntmps27
  go_wp2; go_ret; exact ⟨rfl, Rd.lit _ _ [.int .i64 x, .int .i64 y, .int .i64 u, .int .i64 y, .int .i64 u, .int .i64 v, .int .i64 x, .int .i64 v] _ (by simp), (Below.refl _ _).alloc (Nat.le_refl _) _⟩
set_option maxHeartbeats 1600000 in
theorem boxr_any (x y d u v : Int) (hu : IntKind.i64.wrap (x + d) = u) (hv : IntKind.i64.wrap (y + d) = v) (w : World) :
    Calls Try.prog 27 #[.int .i64 x, .int .i64 y, .int .i64 d, .bool false] w fun e w' => e = .returned (.slice (some ⟨w.heap.size, 0, none⟩) 4 4) ∧ Rd w' (some ⟨w.heap.size, 0, none⟩) (pts [⟨x, y⟩, ⟨x, v⟩, ⟨u, v⟩, ⟨u, y⟩]) ∧ Below w.heap.size w w' := by
  go_enter Try.func27, Try.ntmps27
  go_wp2; have HB : Below w.heap.size w (w.alloc (.cells (#[.int .i64 x, .int .i64 y, .int .i64 u, .int .i64 y, .int .i64 u, .int .i64 v, .int .i64 x, .int .i64 v] : Array Value) 46)).drew := ((Below.refl w.heap.size w).alloc (Nat.le_refl _) (.cells #[.int .i64 x, .int .i64 y, .int .i64 u, .int .i64 y, .int .i64 u, .int .i64 v, .int .i64 x, .int .i64 v] 46)).drew; have k0 : Blk (w.alloc (.cells (#[.int .i64 x, .int .i64 y, .int .i64 u, .int .i64 y, .int .i64 u, .int .i64 v, .int .i64 x, .int .i64 v] : Array Value) 46)).drew w.heap.size [.int .i64 x, .int .i64 y, .int .i64 u, .int .i64 y, .int .i64 u, .int .i64 v, .int .i64 x, .int .i64 v] := Blk.lit w _ [.int .i64 x, .int .i64 y, .int .i64 u, .int .i64 y, .int .i64 u, .int .i64 v, .int .i64 x, .int .i64 v] 46 rfl; obtain ⟨B, hBl⟩ : ∃ B, w.heap.size = B := ⟨_, rfl⟩; rw [hBl] at k0 HB ⊢; have b0 := k0.cell 6 (v := .int .i64 x) rfl; have b1 := k0.cell 7 (v := .int .i64 v) rfl; refine wp_region_lit_txtZ (some 11) [0, 1, 2, 3, 4, 5, 6, 8, 10] (fun W => W.cell? ⟨B, 6, none⟩ = some (.int .i64 x) ∧ W.cell? ⟨B, 7, none⟩ = some (.int .i64 v)) (by kernel_rfl) (by kernel_rfl) (by kernel_rfl) (by kernel_rfl) ⟨b0, b1⟩ ?_; generalize (w.alloc (.cells (#[.int .i64 x, .int .i64 y, .int .i64 u, .int .i64 y, .int .i64 u, .int .i64 v, .int .i64 x, .int .i64 v] : Array Value) 46)).drew = W0 at *; have HE := Lib.hid hBl; clear hBl hu hv
  iterate 4 ((refine txt_light ?_ rfl rfl ?_ ?_; rotate_left; · (intro w' hS; (try dsimp only at hS); go_simp; with_reducible rfl)); try simp only [Act.put, List.setIfInBounds_toArray, List.set_cons_zero, List.set_cons_succ])
  refine txt_light (.agg #[.int .i64 x, .int .i64 v]) rfl rfl ?_ ?_
  · intro w' hS; obtain ⟨s0, s1⟩ := hS; go_simp
  try simp only [Act.put, List.setIfInBounds_toArray, List.set_cons_zero, List.set_cons_succ]
  iterate 2 ((refine txt_light ?_ rfl rfl ?_ ?_; rotate_left; · (intro w' hS; (try dsimp only at hS); go_simp; with_reducible rfl)); try simp only [Act.put, List.setIfInBounds_toArray, List.set_cons_zero, List.set_cons_succ])
  have c0 := k0.cell 2 (v := .int .i64 u) rfl; have c1 := k0.cell 3 (v := .int .i64 y) rfl; refine txt_heavy rfl rfl (fun K hK => ?_); go_step; refine hK.out _ _ ⟨b0, b1⟩ ?_; clear hK K
  try simp only [Act.put, List.setIfInBounds_toArray, List.set_cons_zero, List.set_cons_succ]
  (refine txt_light ?_ rfl rfl ?_ ?_; rotate_left; · (intro w' hS; (try dsimp only at hS); go_simp; with_reducible rfl)); try simp only [Act.put, List.setIfInBounds_toArray, List.set_cons_zero, List.set_cons_succ]
  refine txt_heavy rfl rfl (fun K hK => ?_); have f0 := k0.free 2; have f1 := k0.free 3; have f1b := (k0.set 2 (.int .i64 x)).free 3; go_step; have k1 := (k0.set 2 (.int .i64 x)).set 3 (.int .i64 v); have HB1 := (HB.setCell (p := ⟨B, 2, none⟩) (Nat.le_refl B) (.int .i64 x)).setCell (p := ⟨B, 3, none⟩) (Nat.le_refl B) (.int .i64 v); have r0 := k1.cell 6 (v := .int .i64 x) rfl; have r1 := k1.cell 7 (v := .int .i64 v) rfl; refine hK.out _ _ ⟨r0, r1⟩ ?_; clear hK K f0 f1 f1b; generalize (W0.setCell ⟨B, 2, none⟩ (.int .i64 x)).setCell ⟨B, 3, none⟩ (.int .i64 v) = W1 at *
  try simp only [Act.put, List.setIfInBounds_toArray, List.set_cons_zero, List.set_cons_succ]
  (refine txt_light ?_ rfl rfl ?_ ?_; rotate_left; · (intro w' hS; (try dsimp only at hS); go_simp; with_reducible rfl)); try simp only [Act.put, List.setIfInBounds_toArray, List.set_cons_zero, List.set_cons_succ]
  have f0 := k1.free 6; have f1 := k1.free 7; have f1b := (k1.set 6 (.int .i64 u)).free 7; refine txt_last rfl rfl rfl (fun K hK => ?_); go_step; have k2 := (k1.set 6 (.int .i64 u)).set 7 (.int .i64 y); have HB2 := (HB1.setCell (p := ⟨B, 6, none⟩) (Nat.le_refl B) (.int .i64 u)).setCell (p := ⟨B, 7, none⟩) (Nat.le_refl B) (.int .i64 y); refine hK.out _ _ ?_; clear hK K; refine txt_nil ?_; generalize (W1.setCell ⟨B, 6, none⟩ (.int .i64 u)).setCell ⟨B, 7, none⟩ (.int .i64 y) = W2 at *; go_wp2; go_ret; exact ⟨by rw [HE.out]; rfl, by rw [HE.out]; exact Rd.of_blk k2, by rw [HE.out]; exact HB2⟩
end Go.Proofs.Ytccamjnomjcchaa
/- table.Check of no attributes. -/
set_option linter.unusedVariables false
set_option linter.unusedSimpArgs false
set_option maxRecDepth 100000
namespace Go.Proofs.Ytccamjnomjcchaa
open Go.RowKit
set_option maxHeartbeats 1600000 in
theorem tcheck_none (a : Option Addr) (c : Nat) (w : World) :
    Calls Try.prog 70 #[.slice a 0 c] w fun e w' => e = .returned (.int .i64 0) ∧ Below w.heap.size w w' := by
  have hmm := @run_makeMap Try.prog
  go_enter Try.func70, Try.ntmps70
  go_wp2; refine wp_loop_rounds 1 ?_; rw [rounds_succ]; go_wp2; go_ret; exact ⟨rfl, (Below.refl _ _).alloc (Nat.le_refl _) _⟩
end Go.Proofs.Ytccamjnomjcchaa
/- graticuleref04.Compare, graticulelaw04.Ints of rows that are the same. -/
set_option linter.unusedVariables false
set_option linter.unusedSimpArgs false
set_option maxRecDepth 100000
namespace Go.Proofs.Ytccamjnomjcchaa
open Go.RowKit
theorem rsign_zero (w : World) :
    Calls Try.prog 77 #[.int .i64 0] w fun e w' => e = .returned (.int .i64 0) ∧ w' = w := by
  go_enter Try.func77, Try.ntmps77
  go_wp2; go_ret; exact ⟨rfl, rfl⟩

set_option maxHeartbeats 3200000 in
theorem rcompare_same (a b : Option Addr) (c d : Nat) (l : List Int) (hl : l.length ≤ 1000000) (w : World) (ha : Rd w a (ins l)) (hb : Rd w b (ins l)) :
    Calls Try.prog 49 #[.slice a l.length c, .slice b l.length d] w fun e w' => e = .returned (.int .i64 0) ∧ ∃ q, w' = w.drewN q := by
  have HS := Lib.hid rsign_zero; obtain ⟨m, hm⟩ : ∃ m, l.length = m := ⟨_, rfl⟩; have HM := Lib.hid hm; rw [hm] at hl ⊢; clear hm; have HA := Lib.hid ha; have HB := Lib.hid hb; clear ha hb
  go_enter Try.func49, Try.ntmps49
  go_wp2
  go_loopw [5] (fun o wr => ∃ (k : Nat), k ≤ m ∧ o = .int .i64 k ∧ ∃ q, wr = w.drewN q) (fun o _ => m - (intOf o).toNat)
  case atStart => exact ⟨0, by omega, rfl, 0, rfl⟩
  case round =>
    obtain ⟨k, hk, rfl, q, rfl⟩ := hrel
    by_cases hlt : k < m
    · have hlt2 : (k : Int) < (m : Int) := by omega
      have hkl : k < l.length := by rw [HM.out]; exact hlt
      obtain ⟨b1, o1, rfl, hc, -⟩ := HA.out.at (i := k) (v := .int .i64 l[k]!) (by simp [ins, hkl]); obtain ⟨b2, o2, rfl, hd, -⟩ := HB.out.at (i := k) (v := .int .i64 l[k]!) (by simp [ins, hkl]); generalize l[k]! = x at *; go_wp2
      go_quiet (fail)
      go_wp2
      go_quiet (fail)
      go_wp2; exact ⟨⟨k + 1, by omega, val_int (by omega), _, rfl⟩, by simp [intOf]; omega⟩
    · have hk3 : k = m := by omega
      subst hk3
      go_wp2_with fail
      refine (HS.out _).mono ?_; rintro e w1 ⟨rfl, rfl⟩; go_wp2; go_ret; exact ⟨rfl, q, rfl⟩

set_option maxHeartbeats 800000 in
theorem ints_same (a b : Option Addr) (c d : Nat) (l : List Int) (hl : l.length ≤ 1000000) (w : World) (ha : Rd w a (ins l)) (hb : Rd w b (ins l)) :
    Calls Try.prog 22 #[.slice a l.length c, .slice b l.length d] w fun e w' => e = .returned (.bool true) ∧ ∃ q, w' = w.drewN q := by
  have h := rcompare_same a b c d l hl w ha hb; generalize l.length = m at *; clear ha hb
  go_enter Try.func22, Try.ntmps22
  go_wp2_with fail
  refine h.mono ?_; rintro e w1 ⟨rfl, q, rfl⟩; go_wp2; go_ret; exact ⟨rfl, q, rfl⟩
end Go.Proofs.Ytccamjnomjcchaa
/- The example of chapter 13 holds. -/
set_option linter.unusedVariables false
set_option linter.unusedSimpArgs false
set_option maxRecDepth 100000
namespace Go.Proofs.Ytccamjnomjcchaa
open Go.RowKit
theorem face_one {w1 : World} {B0 R : Nat} {l : List Pt} (hr : Rd w1 (some ⟨B0, 0, none⟩) (pts l)) (hl : l.length = 4) (hR : w1.heap.size = R) :
    ∃ W, W = (w1.alloc (.cells #[.slice (some ⟨B0, 0, none⟩) 4 4] 39)).alloc (.cells #[.slice (some ⟨R, 0, none⟩) 1 1, .slice none 0 0] 38) ∧ (Fc.mk [⟨l, some ⟨B0, 0, none⟩, 4⟩] (some ⟨R, 0, none⟩) 1 [] none 0).Ok W ∧ Blk W (R + 1) [.slice (some ⟨R, 0, none⟩) 1 1, .slice none 0 0] ∧ Below w1.heap.size w1 W := by
  refine ⟨_, rfl, ?_, Blk.lit _ _ _ _ (by simp [hR]), ((Below.refl _ _).alloc (Nat.le_refl _) _).alloc (by simp) _⟩; have h1 := (hr.alloc (.cells #[.slice (some ⟨B0, 0, none⟩) 4 4] 39)).alloc (.cells #[.slice (some ⟨R, 0, none⟩) 1 1, .slice none 0 0] 38); have h2 : Rd ((w1.alloc (.cells #[.slice (some ⟨B0, 0, none⟩) 4 4] 39)).alloc (.cells #[.slice (some ⟨R, 0, none⟩) 1 1, .slice none 0 0] 38)) (some ⟨R, 0, none⟩) [.slice (some ⟨B0, 0, none⟩) 4 4] := (Rd.lit w1 R [.slice (some ⟨B0, 0, none⟩) 4 4] 39 hR).alloc _; refine ⟨⟨?_, Nat.le_refl _, (by decide : 1 ≤ maxLen), by simp⟩, ?_, Rd.nil _ _, Nat.le_refl _, (by decide : 0 ≤ maxLen), fun _ => rfl⟩
  · simpa [rcs, PC.cells, PC.val, hl] using h2
  · intro r hr'; rw [List.mem_singleton.1 hr']; exact ⟨h1, by dsimp only; omega, (by decide : 4 ≤ maxLen), by simp⟩
theorem face_two {w1 : World} {B0 B1 R : Nat} {l m : List Pt} (hr : Rd w1 (some ⟨B0, 0, none⟩) (pts l)) (hs : Rd w1 (some ⟨B1, 0, none⟩) (pts m)) (hl : l.length = 4) (hm : m.length = 4) (hR : w1.heap.size = R) :
    ∃ W, W = (w1.alloc (.cells #[.slice (some ⟨B0, 0, none⟩) 4 4, .slice (some ⟨B1, 0, none⟩) 4 4] 39)).alloc (.cells #[.slice (some ⟨R, 0, none⟩) 2 2, .slice none 0 0] 38) ∧ (Fc.mk [⟨l, some ⟨B0, 0, none⟩, 4⟩, ⟨m, some ⟨B1, 0, none⟩, 4⟩] (some ⟨R, 0, none⟩) 2 [] none 0).Ok W ∧ Blk W (R + 1) [.slice (some ⟨R, 0, none⟩) 2 2, .slice none 0 0] ∧ Below w1.heap.size w1 W := by
  refine ⟨_, rfl, ?_, Blk.lit _ _ _ _ (by simp [hR]), ((Below.refl _ _).alloc (Nat.le_refl _) _).alloc (by simp) _⟩; have h1 := (hr.alloc (.cells #[.slice (some ⟨B0, 0, none⟩) 4 4, .slice (some ⟨B1, 0, none⟩) 4 4] 39)).alloc (.cells #[.slice (some ⟨R, 0, none⟩) 2 2, .slice none 0 0] 38); have h3 := (hs.alloc (.cells #[.slice (some ⟨B0, 0, none⟩) 4 4, .slice (some ⟨B1, 0, none⟩) 4 4] 39)).alloc (.cells #[.slice (some ⟨R, 0, none⟩) 2 2, .slice none 0 0] 38); have h2 : Rd ((w1.alloc (.cells #[.slice (some ⟨B0, 0, none⟩) 4 4, .slice (some ⟨B1, 0, none⟩) 4 4] 39)).alloc (.cells #[.slice (some ⟨R, 0, none⟩) 2 2, .slice none 0 0] 38)) (some ⟨R, 0, none⟩) [.slice (some ⟨B0, 0, none⟩) 4 4, .slice (some ⟨B1, 0, none⟩) 4 4] := (Rd.lit w1 R [.slice (some ⟨B0, 0, none⟩) 4 4, .slice (some ⟨B1, 0, none⟩) 4 4] 39 hR).alloc _; refine ⟨⟨?_, Nat.le_refl _, (by decide : 2 ≤ maxLen), by simp⟩, ?_, Rd.nil _ _, Nat.le_refl _, (by decide : 0 ≤ maxLen), fun _ => rfl⟩
  · simpa [rcs, PC.cells, PC.val, hl, hm] using h2
  · intro r hr'; simp only [List.mem_cons, List.not_mem_nil, or_false] at hr'
    rcases hr' with rfl | rfl
    · exact ⟨h1, by dsimp only; omega, (by decide : 4 ≤ maxLen), by simp⟩
    · exact ⟨h3, by dsimp only; omega, (by decide : 4 ≤ maxLen), by simp⟩
theorem ringsB {f : Fc} {A : List (List Pt)} (h : f.rings = A) (hA : A.length ≤ 2 ∧ ∀ r ∈ A, r.length ≤ 4) : f.rs.length ≤ 2 ∧ ∀ r ∈ f.rs, r.l.length ≤ 4 := by
  subst h; refine ⟨by have := hA.1; unfold Fc.rings at this; rwa [List.length_map] at this, fun r hr => hA.2 _ (List.mem_map.2 ⟨r, hr, rfl⟩)⟩
theorem check_two (f g : Fc) (A C : List (List Pt)) (hfA : f.rings = A) (hgC : g.rings = C) (hf : f.ls = []) (hg : g.ls = []) (hA : A.length ≤ 2 ∧ ∀ r ∈ A, r.length ≤ 4) (hC : C.length ≤ 2 ∧ ∀ r ∈ C, r.length ≤ 4) (v : Int) (hin : [A, C].all rIn = true) (hcr : cntR [A, C] ≤ 4) (hcp : cntP [A, C] ≤ 16) (hv : validB [A, C] = v)
    (B : Nat) (w : World) (hb : Rd w (some ⟨B, 0, none⟩) (fcs [f, g])) (hof : f.Ok w) (hog : g.Ok w) :
    Calls Try.prog 13 #[.slice (some ⟨B, 0, none⟩) 2 2] w fun e w' => e = .returned (.int .i64 v) ∧ Below w.heap.size w w' := by
  have hfr := ringsB hfA hA; have hgr := ringsB hgC hC; subst hfA; subst hgC; have h := ccheck_any (fun _ => 0) (some ⟨B, 0, none⟩) 2 [f, g] (by decide : 2 ≤ 1000000) (by show cntR [f.rings, g.rings] ≤ 1000000; omega) (by show cntP [f.rings, g.rings] ≤ 1000000; omega) (by
    intro x hx r hr; simp only [List.mem_cons, List.not_mem_nil, or_false] at hx
    rcases hx with rfl | rfl
    · have := hfr.2 r hr; omega
    · have := hgr.2 r hr; omega) (by
    intro x hx; simp only [List.mem_cons, List.not_mem_nil, or_false] at hx
    rcases hx with rfl | rfl
    · omega
    · omega) w hb (by
    intro x hx; simp only [List.mem_cons, List.not_mem_nil, or_false] at hx
    rcases hx with rfl | rfl
    · exact hof
    · exact hog) (by
    intro x hx W hW; have : x.ls = [] := by
      simp only [List.mem_cons, List.not_mem_nil, or_false] at hx
      rcases hx with rfl | rfl
      · exact hf
      · exact hg
    unfold Fc.aval; rw [this]; exact tcheck_none x.aa x.ac W)
  refine h.mono ?_; rintro e w' ⟨⟨x, rfl, hx⟩, hbb⟩; have hc : chkF (fun _ => 0) [f, g].length ([f, g].map Fc.rings) ([f, g].map Fc.ls) = 0 := by
    show chkF (fun _ => 0) 2 [f.rings, g.rings] [f.ls, g.ls] = 0; unfold chkF; rw [if_neg (by omega), hin, if_neg (by simp)]; simp [tcs]
  rcases hx with ⟨h1, -⟩ | ⟨-, h2⟩
  · exact absurd hc h1
  · have := (validIs_iff _ _).1 h2; rw [show [f, g].map Fc.rings = [f.rings, g.rings] from rfl, hv] at this; rw [this]; exact ⟨rfl, hbb⟩
theorem k13_sides : (allSd [k13a, k13b]).length ≤ 90 ∧ (∀ s ∈ allSd [k13a, k13b], s.a.Wf ∧ s.b.Wf) ∧ ∀ s ∈ allSd [k13a, k13b], s.f < 2 := by
  have h : ((allSd [k13a, k13b]).all fun s => (Lit.int .i64 s.a.x).wf && (Lit.int .i64 s.a.y).wf && (Lit.int .i64 s.b.x).wf && (Lit.int .i64 s.b.y).wf && decide (s.f < 2)) = true := by decide +kernel
  refine ⟨by decide +kernel, fun s hs => ?_, fun s hs => ?_⟩
  · have := List.all_eq_true.1 h s hs; simp only [Bool.and_eq_true] at this; exact ⟨⟨this.1.1.1.1, this.1.1.1.2⟩, this.1.1.2, this.1.2⟩
  · have := List.all_eq_true.1 h s hs; simp only [Bool.and_eq_true, decide_eq_true_eq] at this; exact this.2
theorem near_two (f g : Fc) (hf : f.rings = k13a) (hg : g.rings = k13b)
    (B : Nat) (w : World) (hb : Rd w (some ⟨B, 0, none⟩) (fcs [f, g])) (hof : f.Ok w) (hog : g.Ok w) :
    Calls Try.prog 19 #[.slice (some ⟨B, 0, none⟩) 2 2] w fun e w' => (∃ v, e = .returned v ∧ NearIs w' w.heap.size v 2 (nearG (allSd [k13a, k13b]) (allSd [k13a, k13b]))) ∧ Below w.heap.size w w' := by
  have he : [f, g].map Fc.rings = [k13a, k13b] := by simp [hf, hg]
  have hfr := ringsB hf (by decide); have hgr := ringsB hg (by decide); have h := near_any (some ⟨B, 0, none⟩) 2 [f, g] (by decide : 2 ≤ 90) (by
    intro x hx; simp only [List.mem_cons, List.not_mem_nil, or_false] at hx
    rcases hx with rfl | rfl
    · omega
    · omega) (by rw [he]; exact k13_sides.1) (by
    intro x hx r hr; simp only [List.mem_cons, List.not_mem_nil, or_false] at hx
    rcases hx with rfl | rfl
    · have := hfr.2 r hr; omega
    · have := hgr.2 r hr; omega) (by rw [he]; exact k13_sides.2.1) (by rw [he]; exact k13_sides.2.2) w hb (by
    intro x hx; simp only [List.mem_cons, List.not_mem_nil, or_false] at hx
    rcases hx with rfl | rfl
    · exact hof
    · exact hog)
  rw [he] at h; exact h
set_option maxHeartbeats 6400000 in
theorem known13 (w : World) :
    Calls Try.prog 10 #[] w fun e w' => e = .returned (.bool true) ∧ Below w.heap.size w w' := by
  have e4 : ∀ a b : Int, a + b = 4 → IntKind.i64.wrap (a + b) = 4 := fun a b h => by rw [h]; rfl
  have HBX := Lib.hid (Below.refl w.heap.size w)
  go_enter Try.func10, Try.ntmps10
  go_wp2_with fail
  refine (boxl_any 0 0 4 4 4 (by decide) (by decide) _).mono ?_; rintro e w1A ⟨rfl, hrA, hbA⟩; obtain ⟨BA, hBA⟩ : ∃ n, w.heap.size = n := ⟨_, rfl⟩; rw [hBA] at hrA ⊢; have hbbA := HBX.out.trans (hbA.mono HBX.out.size); obtain ⟨RA, hRA⟩ : ∃ n, w1A.heap.size = n := ⟨_, rfl⟩; obtain ⟨w2A, hwA, hokA, hkA, hcA⟩ := face_one hrA rfl hRA; replace HBX := Lib.hid (hbbA.trans (hcA.mono hbbA.size)); have HA := Lib.hid hokA; have KA := Lib.hid hkA; clear hrA hbA hokA hkA hcA hbbA hBA
  go_wp2_with fail
  rw [← hwA]; clear hwA; refine (boxl_any 4 0 4 8 4 (by decide) (by decide) _).mono ?_; rintro e w1B ⟨rfl, hrB, hbB⟩; obtain ⟨BB, hBB⟩ : ∃ n, w2A.heap.size = n := ⟨_, rfl⟩; rw [hBB] at hrB ⊢; have hbbB := HBX.out.trans (hbB.mono HBX.out.size); replace HA := Lib.hid (HA.out.keep hbB); replace KA := Lib.hid (KA.out.keep hbB); obtain ⟨RB, hRB⟩ : ∃ n, w1B.heap.size = n := ⟨_, rfl⟩; obtain ⟨w2B, hwB, hokB, hkB, hcB⟩ := face_one hrB rfl hRB; replace HBX := Lib.hid (hbbB.trans (hcB.mono hbbB.size)); replace HA := Lib.hid (HA.out.keep hcB); replace KA := Lib.hid (KA.out.keep hcB); have HB := Lib.hid hokB; have KB := Lib.hid hkB; clear hrB hbB hokB hkB hcB hbbB hBB
  go_wp2_with fail
  rw [← hwB]; clear hwB; refine (boxl_any 1 1 2 3 3 (by decide) (by decide) _).mono ?_; rintro e w1C ⟨rfl, hrC, hbC⟩; obtain ⟨BC, hBC⟩ : ∃ n, w2B.heap.size = n := ⟨_, rfl⟩; rw [hBC] at hrC ⊢; have hbbC := HBX.out.trans (hbC.mono HBX.out.size); replace HA := Lib.hid (HA.out.keep hbC); replace KA := Lib.hid (KA.out.keep hbC); replace HB := Lib.hid (HB.out.keep hbC); replace KB := Lib.hid (KB.out.keep hbC); obtain ⟨RC, hRC⟩ : ∃ n, w1C.heap.size = n := ⟨_, rfl⟩; obtain ⟨w2C, hwC, hokC, hkC, hcC⟩ := face_one hrC rfl hRC; replace HBX := Lib.hid (hbbC.trans (hcC.mono hbbC.size)); replace HA := Lib.hid (HA.out.keep hcC); replace KA := Lib.hid (KA.out.keep hcC); replace HB := Lib.hid (HB.out.keep hcC); replace KB := Lib.hid (KB.out.keep hcC); have HC := Lib.hid hokC; have KC := Lib.hid hkC; clear hrC hbC hokC hkC hcC hbbC hBC
  go_wp2_with fail
  rw [← hwC]; clear hwC; refine (boxl_any 0 0 4 4 4 (by decide) (by decide) _).mono ?_; rintro e w1D ⟨rfl, hrD, hbD⟩; obtain ⟨BD, hBD⟩ : ∃ n, w2C.heap.size = n := ⟨_, rfl⟩; rw [hBD] at hrD ⊢; have hbbD := HBX.out.trans (hbD.mono HBX.out.size); replace HA := Lib.hid (HA.out.keep hbD); replace KA := Lib.hid (KA.out.keep hbD); replace HB := Lib.hid (HB.out.keep hbD); replace KB := Lib.hid (KB.out.keep hbD); replace HC := Lib.hid (HC.out.keep hbD); replace KC := Lib.hid (KC.out.keep hbD); have HBX := Lib.hid hbbD; clear hbbD hBD hbD
  go_wp2_with fail
  refine (boxr_any 1 1 2 3 3 (by decide) (by decide) _).mono ?_; rintro e w1E ⟨rfl, hrE, hbE⟩; obtain ⟨BE, hBE⟩ : ∃ n, w1D.heap.size = n := ⟨_, rfl⟩; rw [hBE] at hrE ⊢; have hbbE := HBX.out.trans (hbE.mono HBX.out.size); replace HA := Lib.hid (HA.out.keep hbE); replace KA := Lib.hid (KA.out.keep hbE); replace HB := Lib.hid (HB.out.keep hbE); replace KB := Lib.hid (KB.out.keep hbE); replace HC := Lib.hid (HC.out.keep hbE); replace KC := Lib.hid (KC.out.keep hbE); obtain ⟨RD, hRD⟩ : ∃ n, w1E.heap.size = n := ⟨_, rfl⟩; obtain ⟨w2D, hwD, hokD, hkD, hcD⟩ := face_two (hrD.keep hbE) hrE rfl rfl hRD; replace HBX := Lib.hid (hbbE.trans (hcD.mono hbbE.size)); replace HA := Lib.hid (HA.out.keep hcD); replace KA := Lib.hid (KA.out.keep hcD); replace HB := Lib.hid (HB.out.keep hcD); replace KB := Lib.hid (KB.out.keep hcD); replace HC := Lib.hid (HC.out.keep hcD); replace KC := Lib.hid (KC.out.keep hcD); have HD := Lib.hid hokD; have KD := Lib.hid hkD; clear hrD hrE hbE hokD hkD hcD hbbE hBE; subst hwD; have aa0 := KA.out.cell 0 rfl; have aa1 := KA.out.cell 1 rfl; have bb0 := KB.out.cell 0 rfl; have bb1 := KB.out.cell 1 rfl
  go_wp2_with fail
  have hszD : ((w1E.alloc (.cells #[.slice (some ⟨BD, 0, none⟩) 4 4, .slice (some ⟨BE, 0, none⟩) 4 4] 39)).alloc (.cells #[.slice (some ⟨RD, 0, none⟩) 2 2, .slice none 0 0] 38)).heap.size = RD + 1 + 1 := by simp [hRD]
  generalize (w1E.alloc (.cells #[.slice (some ⟨BD, 0, none⟩) 4 4, .slice (some ⟨BE, 0, none⟩) 4 4] 39)).alloc (.cells #[.slice (some ⟨RD, 0, none⟩) 2 2, .slice none 0 0] 38) = w2D at *; have hal1 := Below.new w2D (.cells #[.slice (some ⟨RA, 0, none⟩) 1 1, .slice none 0 0, .slice (some ⟨RB, 0, none⟩) 1 1, .slice none 0 0] 38); have hrl1 := Rd.lit w2D (RD + 1 + 1) [.slice (some ⟨RA, 0, none⟩) 1 1, .slice none 0 0, .slice (some ⟨RB, 0, none⟩) 1 1, .slice none 0 0] 38 hszD; replace HBX := Lib.hid (HBX.out.trans (hal1.mono HBX.out.size)); replace HA := Lib.hid (HA.out.keep hal1); replace KA := Lib.hid (KA.out.keep hal1); replace HB := Lib.hid (HB.out.keep hal1); replace KB := Lib.hid (KB.out.keep hal1); replace HC := Lib.hid (HC.out.keep hal1); replace KC := Lib.hid (KC.out.keep hal1); replace HD := Lib.hid (HD.out.keep hal1); replace KD := Lib.hid (KD.out.keep hal1); clear aa0 aa1 bb0 bb1; generalize w2D.alloc (.cells #[.slice (some ⟨RA, 0, none⟩) 1 1, .slice none 0 0, .slice (some ⟨RB, 0, none⟩) 1 1, .slice none 0 0] 38) = w3 at *; have hne := near_two (Fc.mk [⟨[⟨0, 0⟩, ⟨4, 0⟩, ⟨4, 4⟩, ⟨0, 4⟩], some ⟨BA, 0, none⟩, 4⟩] (some ⟨RA, 0, none⟩) 1 [] none 0) (Fc.mk [⟨[⟨4, 0⟩, ⟨8, 0⟩, ⟨8, 4⟩, ⟨4, 4⟩], some ⟨BB, 0, none⟩, 4⟩] (some ⟨RB, 0, none⟩) 1 [] none 0) rfl rfl (RD + 1 + 1) w3 hrl1 HA.out HB.out; refine hne.mono ?_; rintro e w4 ⟨⟨v, rfl, OB, vals, rfl, hOB, hvl, hkO, hnr⟩, hb4⟩; obtain ⟨a0, C0, c0, hv0, hrd0, -, hp0, hm0, -⟩ := hnr 0 (by decide); have hC0 : C0 = [-1, 1] := by
    refine rising_ext _ _ hp0 (by decide) (fun x => ?_); rw [hm0 x]; show x ∈ nearG (allSd [k13a, k13b]) (allSd [k13a, k13b]) 0 ↔ _; rw [k13_near]; simp only [List.mem_cons, List.not_mem_nil, or_false]; omega
  subst hC0; have HV0 := Lib.hid hv0; have HRD0 := Lib.hid hrd0; have HKO := Lib.hid hkO; replace HBX := Lib.hid (HBX.out.trans (hb4.mono HBX.out.size)); replace HA := Lib.hid (HA.out.keep hb4); replace KA := Lib.hid (KA.out.keep hb4); replace HB := Lib.hid (HB.out.keep hb4); replace KB := Lib.hid (KB.out.keep hb4); replace HC := Lib.hid (HC.out.keep hb4); replace KC := Lib.hid (KC.out.keep hb4); replace HD := Lib.hid (HD.out.keep hb4); replace KD := Lib.hid (KD.out.keep hb4); clear hne hnr hp0 hm0 hv0 hrd0 hkO hrl1 hal1 hb4 hOB; have aa0 := KA.out.cell 0 rfl; have aa1 := KA.out.cell 1 rfl; have bb0 := KB.out.cell 0 rfl; have bb1 := KB.out.cell 1 rfl
  go_wp2_with fail
  have hal2 := Below.new w4 (.cells #[.slice (some ⟨RA, 0, none⟩) 1 1, .slice none 0 0, .slice (some ⟨RB, 0, none⟩) 1 1, .slice none 0 0] 38); have hrl2 := Rd.lit w4 (w4.heap.size) [.slice (some ⟨RA, 0, none⟩) 1 1, .slice none 0 0, .slice (some ⟨RB, 0, none⟩) 1 1, .slice none 0 0] 38 rfl; replace HBX := Lib.hid (HBX.out.trans (hal2.mono HBX.out.size)); replace HA := Lib.hid (HA.out.keep hal2); replace KA := Lib.hid (KA.out.keep hal2); replace HB := Lib.hid (HB.out.keep hal2); replace KB := Lib.hid (KB.out.keep hal2); replace HC := Lib.hid (HC.out.keep hal2); replace KC := Lib.hid (KC.out.keep hal2); replace HD := Lib.hid (HD.out.keep hal2); replace KD := Lib.hid (KD.out.keep hal2); clear aa0 aa1 bb0 bb1; generalize w4.alloc (.cells #[.slice (some ⟨RA, 0, none⟩) 1 1, .slice none 0 0, .slice (some ⟨RB, 0, none⟩) 1 1, .slice none 0 0] 38) = w5_2 at *; refine (check_two (Fc.mk [⟨[⟨0, 0⟩, ⟨4, 0⟩, ⟨4, 4⟩, ⟨0, 4⟩], some ⟨BA, 0, none⟩, 4⟩] (some ⟨RA, 0, none⟩) 1 [] none 0) (Fc.mk [⟨[⟨4, 0⟩, ⟨8, 0⟩, ⟨8, 4⟩, ⟨4, 4⟩], some ⟨BB, 0, none⟩, 4⟩] (some ⟨RB, 0, none⟩) 1 [] none 0) k13a k13b rfl rfl rfl rfl (by decide) (by decide) 0 (by decide) (by decide) (by decide) k13_ab w4.heap.size w5_2 hrl2 HA.out HB.out).mono ?_; rintro e w6_2 ⟨rfl, hb6_2⟩; replace HBX := Lib.hid (HBX.out.trans (hb6_2.mono HBX.out.size)); replace HA := Lib.hid (HA.out.keep hb6_2); replace KA := Lib.hid (KA.out.keep hb6_2); replace HB := Lib.hid (HB.out.keep hb6_2); replace KB := Lib.hid (KB.out.keep hb6_2); replace HC := Lib.hid (HC.out.keep hb6_2)
  replace KC := Lib.hid (KC.out.keep hb6_2); replace HD := Lib.hid (HD.out.keep hb6_2); replace KD := Lib.hid (KD.out.keep hb6_2); replace HKO := Lib.hid ((HKO.out.keep hal2).keep hb6_2); replace HRD0 := Lib.hid ((HRD0.out.keep hal2).keep hb6_2); have hz0 := HKO.out.cell 0 HV0.out; have hlit := Below.new w6_2 (.cells #[.int .i64 (-1), .int .i64 1] 3); have hrn := HRD0.out.keep hlit; have hrm := Rd.lit w6_2 w6_2.heap.size [.int .i64 (-1), .int .i64 1] 3 rfl; replace HBX := Lib.hid (HBX.out.trans (hlit.mono HBX.out.size)); replace HA := Lib.hid (HA.out.keep hlit); replace KA := Lib.hid (KA.out.keep hlit); replace HB := Lib.hid (HB.out.keep hlit); replace KB := Lib.hid (KB.out.keep hlit); replace HC := Lib.hid (HC.out.keep hlit); replace KC := Lib.hid (KC.out.keep hlit); replace HD := Lib.hid (HD.out.keep hlit); replace KD := Lib.hid (KD.out.keep hlit); clear hal2 hb6_2 hrl2
  go_wp2_with fail
  generalize w6_2.alloc (.cells #[.int .i64 (-1), .int .i64 1] 3) = w7 at *; refine (ints_same a0 (some ⟨w6_2.heap.size, 0, none⟩) c0 2 [-1, 1] (by decide : 2 ≤ 1000000) w7 hrn hrm).mono ?_; rintro e w8 ⟨rfl, q, rfl⟩; have hdq := below_drewN (Below.refl w7.heap.size w7) q; replace HBX := Lib.hid (HBX.out.trans (hdq.mono HBX.out.size)); replace HA := Lib.hid (HA.out.keep hdq); replace KA := Lib.hid (KA.out.keep hdq); replace HB := Lib.hid (HB.out.keep hdq); replace KB := Lib.hid (KB.out.keep hdq); replace HC := Lib.hid (HC.out.keep hdq); replace KC := Lib.hid (KC.out.keep hdq); replace HD := Lib.hid (HD.out.keep hdq); replace KD := Lib.hid (KD.out.keep hdq); clear hdq hrn hrm hlit hz0 HKO HRD0; generalize w7.drewN q = w8 at *; have aa0 := KA.out.cell 0 rfl; have aa1 := KA.out.cell 1 rfl; have cc0 := KC.out.cell 0 rfl; have cc1 := KC.out.cell 1 rfl
  go_wp2_with fail
  have hal3 := Below.new w8 (.cells #[.slice (some ⟨RA, 0, none⟩) 1 1, .slice none 0 0, .slice (some ⟨RC, 0, none⟩) 1 1, .slice none 0 0] 38); have hrl3 := Rd.lit w8 (w8.heap.size) [.slice (some ⟨RA, 0, none⟩) 1 1, .slice none 0 0, .slice (some ⟨RC, 0, none⟩) 1 1, .slice none 0 0] 38 rfl; replace HBX := Lib.hid (HBX.out.trans (hal3.mono HBX.out.size)); replace HA := Lib.hid (HA.out.keep hal3); replace KA := Lib.hid (KA.out.keep hal3); replace HB := Lib.hid (HB.out.keep hal3); replace KB := Lib.hid (KB.out.keep hal3); replace HC := Lib.hid (HC.out.keep hal3); replace KC := Lib.hid (KC.out.keep hal3); replace HD := Lib.hid (HD.out.keep hal3); replace KD := Lib.hid (KD.out.keep hal3); clear aa0 aa1 cc0 cc1; generalize w8.alloc (.cells #[.slice (some ⟨RA, 0, none⟩) 1 1, .slice none 0 0, .slice (some ⟨RC, 0, none⟩) 1 1, .slice none 0 0] 38) = w5_3 at *; refine (check_two (Fc.mk [⟨[⟨0, 0⟩, ⟨4, 0⟩, ⟨4, 4⟩, ⟨0, 4⟩], some ⟨BA, 0, none⟩, 4⟩] (some ⟨RA, 0, none⟩) 1 [] none 0) (Fc.mk [⟨[⟨1, 1⟩, ⟨3, 1⟩, ⟨3, 3⟩, ⟨1, 3⟩], some ⟨BC, 0, none⟩, 4⟩] (some ⟨RC, 0, none⟩) 1 [] none 0) k13a k13c rfl rfl rfl rfl (by decide) (by decide) 11 (by decide) (by decide) (by decide) k13_ac w8.heap.size w5_3 hrl3 HA.out HC.out).mono ?_; rintro e w6_3 ⟨rfl, hb6_3⟩; replace HBX := Lib.hid (HBX.out.trans (hb6_3.mono HBX.out.size)); replace HA := Lib.hid (HA.out.keep hb6_3); replace KA := Lib.hid (KA.out.keep hb6_3); replace HB := Lib.hid (HB.out.keep hb6_3); replace KB := Lib.hid (KB.out.keep hb6_3); replace HC := Lib.hid (HC.out.keep hb6_3)
  replace KC := Lib.hid (KC.out.keep hb6_3); replace HD := Lib.hid (HD.out.keep hb6_3); replace KD := Lib.hid (KD.out.keep hb6_3); clear hal3 hb6_3 hrl3; have dd0 := KD.out.cell 0 rfl; have dd1 := KD.out.cell 1 rfl; have cc0 := KC.out.cell 0 rfl; have cc1 := KC.out.cell 1 rfl
  go_wp2_with fail
  have hal4 := Below.new w6_3 (.cells #[.slice (some ⟨RD, 0, none⟩) 2 2, .slice none 0 0, .slice (some ⟨RC, 0, none⟩) 1 1, .slice none 0 0] 38); have hrl4 := Rd.lit w6_3 (w6_3.heap.size) [.slice (some ⟨RD, 0, none⟩) 2 2, .slice none 0 0, .slice (some ⟨RC, 0, none⟩) 1 1, .slice none 0 0] 38 rfl; replace HBX := Lib.hid (HBX.out.trans (hal4.mono HBX.out.size)); replace HA := Lib.hid (HA.out.keep hal4); replace KA := Lib.hid (KA.out.keep hal4); replace HB := Lib.hid (HB.out.keep hal4); replace KB := Lib.hid (KB.out.keep hal4); replace HC := Lib.hid (HC.out.keep hal4); replace KC := Lib.hid (KC.out.keep hal4); replace HD := Lib.hid (HD.out.keep hal4); replace KD := Lib.hid (KD.out.keep hal4); clear dd0 dd1 cc0 cc1; generalize w6_3.alloc (.cells #[.slice (some ⟨RD, 0, none⟩) 2 2, .slice none 0 0, .slice (some ⟨RC, 0, none⟩) 1 1, .slice none 0 0] 38) = w5_4 at *; refine (check_two (Fc.mk [⟨[⟨0, 0⟩, ⟨4, 0⟩, ⟨4, 4⟩, ⟨0, 4⟩], some ⟨BD, 0, none⟩, 4⟩, ⟨[⟨1, 1⟩, ⟨1, 3⟩, ⟨3, 3⟩, ⟨3, 1⟩], some ⟨BE, 0, none⟩, 4⟩] (some ⟨RD, 0, none⟩) 2 [] none 0) (Fc.mk [⟨[⟨1, 1⟩, ⟨3, 1⟩, ⟨3, 3⟩, ⟨1, 3⟩], some ⟨BC, 0, none⟩, 4⟩] (some ⟨RC, 0, none⟩) 1 [] none 0) k13d k13c rfl rfl rfl rfl (by decide) (by decide) 0 (by decide) (by decide) (by decide) k13_dc w6_3.heap.size w5_4 hrl4 HD.out HC.out).mono ?_; rintro e w6_4 ⟨rfl, hb6_4⟩; replace HBX := Lib.hid (HBX.out.trans (hb6_4.mono HBX.out.size)); replace HA := Lib.hid (HA.out.keep hb6_4); replace KA := Lib.hid (KA.out.keep hb6_4); replace HB := Lib.hid (HB.out.keep hb6_4); replace KB := Lib.hid (KB.out.keep hb6_4)
  replace HC := Lib.hid (HC.out.keep hb6_4); replace KC := Lib.hid (KC.out.keep hb6_4); replace HD := Lib.hid (HD.out.keep hb6_4); replace KD := Lib.hid (KD.out.keep hb6_4); clear hal4 hb6_4 hrl4; have HBZ := HBX.out; go_wp2; go_ret; exact ⟨rfl, HBZ⟩
end Go.Proofs.Ytccamjnomjcchaa
