/-
  Rows of points in a block: read, and written in place. The example of chapter 12. table.Check of no attributes. The values of integers. graticuleref04.Compare, graticulelaw04.Ints of rows that are the same. The example of chapter 12 holds. append inside a region that draws its order: where the row lies behind it. graticulelaw10.Cut, graticulelaw11.Cut.
-/
import Derived.Test.YtebplobagmjfeaaPk1
import Derived.Test.YtebplobagmjfeaaPk2
import Derived.Test.YtebplobagmjfeaaPk3
import Derived.Test.YtebplobagmjfeaaProg
import Derived.Test.YtebplobagmjfeaaPk9
import Derived.Maps.AppendAt
/- Rows of points in a block: read, and written in place. -/
/- A ring, the other way round: in plain terms. -/
namespace Go
/-- The other way round. -/
def turnedP (l : List Pt) : List Pt := match l with | [] => [] | p :: t => p :: t.reverse
theorem turnedP_len (l : List Pt) : (turnedP l).length = l.length := by cases l <;> simp [turnedP]
theorem turnedP_map (f : Pt → Pt) (l : List Pt) : (turnedP l).map f = turnedP (l.map f) := by cases l <;> simp [turnedP]
theorem turnedP_all (f : Pt → Bool) (l : List Pt) : (turnedP l).all f = l.all f := by cases l <;> simp [turnedP]
end Go
set_option linter.unusedVariables false
set_option linter.unusedSimpArgs false
set_option maxRecDepth 100000
namespace Go
open Go.RowKit
theorem cellP {w : World} {g : Nat} {R : List Pt} {TL : List Value} {e : TypeId} (h : w.heap[g]? = some (.cells (pts R ++ TL).toArray e (0, 0))) (i : Nat) (hi : i < R.length) :
    w.cell? ⟨g, i * 2, none⟩ = some (.int .i64 R[i]!.x) ∧ w.cell? ⟨g, i * 2 + 1, none⟩ = some (.int .i64 R[i]!.y) := by
  have hb : Blk w g (pts R ++ TL) := ⟨_, h⟩
  have hl := pts_len R
  have g0 := pts_get R i 0 hi (by omega)
  have g1 := pts_get R i 1 hi (by omega)
  rw [getElem!_pos R i hi]
  constructor
  · refine hb.cell (i * 2) ?_
    rw [List.getElem?_append_left (by omega)]
    exact g0
  · refine hb.cell (i * 2 + 1) ?_
    rw [List.getElem?_append_left (by omega)]
    exact g1
theorem blkT_set {w : World} {b : Nat} {T : TypeId} {vs : List Value} (h : w.heap[b]? = some (.cells vs.toArray T (0, 0))) (i : Nat) (u : Value) : (w.setCell ⟨b, i, none⟩ u).heap[b]? = some (.cells (vs.set i u).toArray T (0, 0)) := by
  simp [World.setCell, Array.getElem?_modify, h]
theorem row_set (C D : List Pt) (q p : Pt) (TL : List Value) (kk : Nat) (hk : C.length = kk) :
    ((pts (C ++ q :: D) ++ TL).set (kk * 2) (.int .i64 p.x)).set (kk * 2 + 1) (.int .i64 p.y) = pts ((C ++ [p]) ++ D) ++ TL := by
  have e1 : pts (C ++ q :: D) ++ TL = pts C ++ (.int .i64 q.x :: .int .i64 q.y :: (pts D ++ TL)) := by simp [pts, Pt.cells]
  have e2 : pts ((C ++ [p]) ++ D) ++ TL = pts C ++ (.int .i64 p.x :: .int .i64 p.y :: (pts D ++ TL)) := by simp [pts, Pt.cells]
  have hl : (pts C).length = kk * 2 := by rw [pts_len, hk]
  rw [e1, e2, List.set_append_right _ _ (by omega), List.set_append_right _ _ (by omega), hl]
  simp
end Go
/- The example of chapter 12. -/
set_option linter.unusedVariables false
set_option linter.unusedSimpArgs false
set_option maxRecDepth 100000
namespace Go.Proofs.Ytebplobagmjfeaa
open Go.RowKit
set_option maxHeartbeats 1600000 in
theorem box_left (w : World) :
    Calls Try.prog 33 #[.int .i64 0, .int .i64 0, .int .i64 9, .bool true] w fun e w' => ∃ p, e = .returned (.slice p 4 4) ∧ Rd w' p (pts [⟨0, 0⟩, ⟨9, 0⟩, ⟨9, 9⟩, ⟨0, 9⟩]) ∧ Below w.heap.size w w' := by
  go_enter Try.func33, Try.ntmps33
  go_wp2
  go_ret
  exact ⟨_, rfl, Rd.lit _ _ [.int .i64 0, .int .i64 0, .int .i64 9, .int .i64 0, .int .i64 9, .int .i64 9, .int .i64 0, .int .i64 9] _ (by simp), (Below.refl _ _).alloc (Nat.le_refl _) _⟩
set_option maxHeartbeats 1600000 in
theorem box_right (w : World) :
    Calls Try.prog 33 #[.int .i64 3, .int .i64 3, .int .i64 2, .bool false] w fun e w' => ∃ p, e = .returned (.slice p 4 4) ∧ Rd w' p (pts [⟨3, 3⟩, ⟨3, 5⟩, ⟨5, 5⟩, ⟨5, 3⟩]) ∧ Below w.heap.size w w' := by
  go_enter Try.func33, Try.ntmps33
  go_wp2
  have HB : Below w.heap.size w (w.alloc (.cells (#[.int .i64 3, .int .i64 3, .int .i64 5, .int .i64 3, .int .i64 5, .int .i64 5, .int .i64 3, .int .i64 5] : Array Value) 37)).drew := ((Below.refl w.heap.size w).alloc (Nat.le_refl _) (.cells #[.int .i64 3, .int .i64 3, .int .i64 5, .int .i64 3, .int .i64 5, .int .i64 5, .int .i64 3, .int .i64 5] 37)).drew
  have k0 : Blk (w.alloc (.cells (#[.int .i64 3, .int .i64 3, .int .i64 5, .int .i64 3, .int .i64 5, .int .i64 5, .int .i64 3, .int .i64 5] : Array Value) 37)).drew w.heap.size [.int .i64 3, .int .i64 3, .int .i64 5, .int .i64 3, .int .i64 5, .int .i64 5, .int .i64 3, .int .i64 5] := Blk.lit w _ [.int .i64 3, .int .i64 3, .int .i64 5, .int .i64 3, .int .i64 5, .int .i64 5, .int .i64 3, .int .i64 5] 37 rfl
  obtain ⟨B, hBl⟩ : ∃ B, w.heap.size = B := ⟨_, rfl⟩
  rw [hBl] at k0 HB ⊢
  have b0 := k0.cell 6 (v := .int .i64 3) rfl
  have b1 := k0.cell 7 (v := .int .i64 5) rfl
  refine wp_region_lit_txtZ (some 11) [0, 1, 2, 3, 4, 5, 6, 8, 10] (fun W => W.cell? ⟨B, 6, none⟩ = some (.int .i64 3) ∧ W.cell? ⟨B, 7, none⟩ = some (.int .i64 5)) (by kernel_rfl) (by kernel_rfl) (by kernel_rfl) (by kernel_rfl) ⟨b0, b1⟩ ?_
  generalize (w.alloc (.cells (#[.int .i64 3, .int .i64 3, .int .i64 5, .int .i64 3, .int .i64 5, .int .i64 5, .int .i64 3, .int .i64 5] : Array Value) 37)).drew = W0 at *
  have HE := Lib.hid hBl
  clear hBl
  (refine txt_light ?_ rfl rfl ?_ ?_; rotate_left; · (intro w' hS; (try dsimp only at hS); go_simp; with_reducible rfl)); try simp only [Act.put, List.setIfInBounds_toArray, List.set_cons_zero, List.set_cons_succ]
  (refine txt_light ?_ rfl rfl ?_ ?_; rotate_left; · (intro w' hS; (try dsimp only at hS); go_simp; with_reducible rfl)); try simp only [Act.put, List.setIfInBounds_toArray, List.set_cons_zero, List.set_cons_succ]
  (refine txt_light ?_ rfl rfl ?_ ?_; rotate_left; · (intro w' hS; (try dsimp only at hS); go_simp; with_reducible rfl)); try simp only [Act.put, List.setIfInBounds_toArray, List.set_cons_zero, List.set_cons_succ]
  (refine txt_light ?_ rfl rfl ?_ ?_; rotate_left; · (intro w' hS; (try dsimp only at hS); go_simp; with_reducible rfl)); try simp only [Act.put, List.setIfInBounds_toArray, List.set_cons_zero, List.set_cons_succ]
  refine txt_light (.agg #[.int .i64 3, .int .i64 5]) rfl rfl ?_ ?_
  · intro w' hS
    obtain ⟨s0, s1⟩ := hS
    go_simp
  try simp only [Act.put, List.setIfInBounds_toArray, List.set_cons_zero, List.set_cons_succ]
  (refine txt_light ?_ rfl rfl ?_ ?_; rotate_left; · (intro w' hS; (try dsimp only at hS); go_simp; with_reducible rfl)); try simp only [Act.put, List.setIfInBounds_toArray, List.set_cons_zero, List.set_cons_succ]
  (refine txt_light ?_ rfl rfl ?_ ?_; rotate_left; · (intro w' hS; (try dsimp only at hS); go_simp; with_reducible rfl)); try simp only [Act.put, List.setIfInBounds_toArray, List.set_cons_zero, List.set_cons_succ]
  have c0 := k0.cell 2 (v := .int .i64 5) rfl
  have c1 := k0.cell 3 (v := .int .i64 3) rfl
  refine txt_heavy rfl rfl (fun K hK => ?_)
  go_step
  refine hK.out _ _ ⟨b0, b1⟩ ?_
  clear hK K
  try simp only [Act.put, List.setIfInBounds_toArray, List.set_cons_zero, List.set_cons_succ]
  (refine txt_light ?_ rfl rfl ?_ ?_; rotate_left; · (intro w' hS; (try dsimp only at hS); go_simp; with_reducible rfl)); try simp only [Act.put, List.setIfInBounds_toArray, List.set_cons_zero, List.set_cons_succ]
  refine txt_heavy rfl rfl (fun K hK => ?_)
  have f0 := k0.free 2
  have f1 := k0.free 3
  have f1b := (k0.set 2 (.int .i64 3)).free 3
  go_step
  have k1 := (k0.set 2 (.int .i64 3)).set 3 (.int .i64 5)
  have HB1 := (HB.setCell (p := ⟨B, 2, none⟩) (Nat.le_refl B) (.int .i64 3)).setCell (p := ⟨B, 3, none⟩) (Nat.le_refl B) (.int .i64 5)
  have r0 := k1.cell 6 (v := .int .i64 3) rfl
  have r1 := k1.cell 7 (v := .int .i64 5) rfl
  refine hK.out _ _ ⟨r0, r1⟩ ?_
  clear hK K f0 f1 f1b
  generalize (W0.setCell ⟨B, 2, none⟩ (.int .i64 3)).setCell ⟨B, 3, none⟩ (.int .i64 5) = W1 at *
  try simp only [Act.put, List.setIfInBounds_toArray, List.set_cons_zero, List.set_cons_succ]
  (refine txt_light ?_ rfl rfl ?_ ?_; rotate_left; · (intro w' hS; (try dsimp only at hS); go_simp; with_reducible rfl)); try simp only [Act.put, List.setIfInBounds_toArray, List.set_cons_zero, List.set_cons_succ]
  have f0 := k1.free 6
  have f1 := k1.free 7
  have f1b := (k1.set 6 (.int .i64 5)).free 7
  refine txt_last rfl rfl rfl (fun K hK => ?_)
  go_step
  have k2 := (k1.set 6 (.int .i64 5)).set 7 (.int .i64 3)
  have HB2 := (HB1.setCell (p := ⟨B, 6, none⟩) (Nat.le_refl B) (.int .i64 5)).setCell (p := ⟨B, 7, none⟩) (Nat.le_refl B) (.int .i64 3)
  refine hK.out _ _ ?_
  clear hK K
  refine txt_nil ?_
  generalize (W1.setCell ⟨B, 6, none⟩ (.int .i64 5)).setCell ⟨B, 7, none⟩ (.int .i64 3) = W2 at *
  go_wp2
  go_ret
  exact ⟨_, rfl, Rd.of_blk k2, by rw [HE.out]; exact HB2⟩
end Go.Proofs.Ytebplobagmjfeaa
/- table.Check of no attributes. -/
set_option linter.unusedVariables false
set_option linter.unusedSimpArgs false
set_option maxRecDepth 100000
namespace Go.Proofs.Ytebplobagmjfeaa
open Go.RowKit
set_option maxHeartbeats 1600000 in
theorem tcheck_none (a : Option Addr) (c : Nat) (w : World) :
    Calls Try.prog 31 #[.slice a 0 c] w fun e w' => e = .returned (.int .i64 0) ∧ Below w.heap.size w w' := by
  have hmm := @run_makeMap Try.prog
  go_enter Try.func31, Try.ntmps31
  go_wp2
  refine wp_loop_rounds 1 ?_
  rw [rounds_succ]
  go_wp2
  go_ret
  exact ⟨rfl, (Below.refl _ _).alloc (Nat.le_refl _) _⟩
end Go.Proofs.Ytebplobagmjfeaa
/- The values of integers. -/
set_option linter.unusedVariables false
namespace Go
open Go.RowKit
def ins (l : List Int) : List Value := l.map (Value.int .i64)
theorem ins_len (l : List Int) : (ins l).length = l.length * 1 := by simp [ins]
theorem ins_one (l : List Int) : ∀ u ∈ ins l, u.oneCell' = true := ints_one .i64 l
end Go
/- graticuleref04.Compare, graticulelaw04.Ints of rows that are the same. -/
set_option linter.unusedVariables false
set_option linter.unusedSimpArgs false
set_option maxRecDepth 100000
namespace Go.Proofs.Ytebplobagmjfeaa
open Go.RowKit
theorem rsign_zero (w : World) :
    Calls Try.prog 65 #[.int .i64 0] w fun e w' => e = .returned (.int .i64 0) ∧ w' = w := by
  go_enter Try.func65, Try.ntmps65
  go_wp2
  go_ret
  exact ⟨rfl, rfl⟩

set_option maxHeartbeats 3200000 in
theorem rcompare_same (a b : Option Addr) (c d : Nat) (l : List Int) (hl : l.length ≤ 1000000) (w : World) (ha : Rd w a (ins l)) (hb : Rd w b (ins l)) :
    Calls Try.prog 44 #[.slice a l.length c, .slice b l.length d] w fun e w' => e = .returned (.int .i64 0) ∧ ∃ q, w' = w.drewN q := by
  have HS := Lib.hid rsign_zero
  obtain ⟨m, hm⟩ : ∃ m, l.length = m := ⟨_, rfl⟩
  have HM := Lib.hid hm
  rw [hm] at hl ⊢
  clear hm
  have HA := Lib.hid ha
  have HB := Lib.hid hb
  clear ha hb
  go_enter Try.func44, Try.ntmps44
  go_wp2
  go_loopw [5] (fun o wr => ∃ (k : Nat), k ≤ m ∧ o = .int .i64 k ∧ ∃ q, wr = w.drewN q) (fun o _ => m - (intOf o).toNat)
  case atStart => exact ⟨0, by omega, rfl, 0, rfl⟩
  case round =>
    obtain ⟨k, hk, rfl, q, rfl⟩ := hrel
    by_cases hlt : k < m
    · have hlt2 : (k : Int) < (m : Int) := by omega
      have hkl : k < l.length := by rw [HM.out]; exact hlt
      obtain ⟨b1, o1, rfl, hc, -⟩ := HA.out.at (i := k) (v := .int .i64 l[k]!) (by simp [ins, hkl])
      obtain ⟨b2, o2, rfl, hd, -⟩ := HB.out.at (i := k) (v := .int .i64 l[k]!) (by simp [ins, hkl])
      generalize l[k]! = x at *
      go_wp2
      go_quiet (fail)
      go_wp2
      go_quiet (fail)
      go_wp2
      exact ⟨⟨k + 1, by omega, val_int (by omega), _, rfl⟩, by simp [intOf]; omega⟩
    · have hk3 : k = m := by omega
      subst hk3
      go_wp2_with fail
      refine (HS.out _).mono ?_
      rintro e w1 ⟨rfl, rfl⟩
      go_wp2
      go_ret
      exact ⟨rfl, q, rfl⟩

set_option maxHeartbeats 800000 in
theorem ints_same (a b : Option Addr) (c d : Nat) (l : List Int) (hl : l.length ≤ 1000000) (w : World) (ha : Rd w a (ins l)) (hb : Rd w b (ins l)) :
    Calls Try.prog 22 #[.slice a l.length c, .slice b l.length d] w fun e w' => e = .returned (.bool true) ∧ ∃ q, w' = w.drewN q := by
  have h := rcompare_same a b c d l hl w ha hb
  generalize l.length = m at *
  clear ha hb
  go_enter Try.func22, Try.ntmps22
  go_wp2_with fail
  refine h.mono ?_
  rintro e w1 ⟨rfl, q, rfl⟩
  go_wp2
  go_ret
  exact ⟨rfl, q, rfl⟩
end Go.Proofs.Ytebplobagmjfeaa
/- The example of chapter 12 holds. -/
/- The example's rings (plain). -/
set_option linter.unusedVariables false
set_option linter.unusedSimpArgs false
namespace Go
def knownR : List (List Pt) := [[⟨0, 0⟩, ⟨9, 0⟩, ⟨9, 9⟩, ⟨0, 9⟩], [⟨3, 3⟩, ⟨3, 5⟩, ⟨5, 5⟩, ⟨5, 3⟩]]
theorem known_nest : nestF knownR = ([-1, 0], true) := by decide
theorem known_cnt : cntR [knownR] = 2 ∧ cntP [knownR] = 8 := by decide
theorem known_chk (tc : List At → Int) (h : tc [] = 0) : chkF tc 1 [knownR] [[]] = 0 := by
  have e1 : [knownR].all rIn = true := by decide
  unfold chkF
  rw [e1, known_cnt.1, known_cnt.2]
  simp [tcs, h]
end Go
set_option linter.unusedVariables false
set_option linter.unusedSimpArgs false
set_option maxRecDepth 100000
namespace Go.Proofs.Ytebplobagmjfeaa
open Go.RowKit
set_option maxHeartbeats 3200000 in
theorem known12 (w : World) :
    Calls Try.prog 15 #[] w fun e w' => e = .returned (.bool true) ∧ Below w.heap.size w w' := by
  obtain ⟨B, hB⟩ : ∃ B, w.heap.size = B := ⟨_, rfl⟩
  have HBE := Lib.hid hB
  have HB := Lib.hid (Below.refl B w)
  clear hB
  go_enter Try.func15, Try.ntmps15
  go_wp2_with fail
  refine (box_left _).mono ?_
  rintro e w1 ⟨p1, rfl, hr1, hb1⟩
  obtain ⟨b1, o1, rfl, -, hl1⟩ := hr1.at (i := 0) (v := .int .i64 0) rfl
  go_wp2_with fail
  refine (box_right _).mono ?_
  rintro e w2 ⟨p2, rfl, hr2, hb2⟩
  obtain ⟨b2, o2, rfl, -, hl2⟩ := hr2.at (i := 0) (v := .int .i64 3) rfl
  go_wp2_with fail
  have HB2 : Hid (Below B w w2) := Lib.hid (by
    have := hb1.trans (hb2.mono hb1.size)
    rw [HBE.out] at this; exact this)
  have hs2 : B ≤ w2.heap.size := by rw [← HBE.out]; exact Nat.le_trans hb1.size hb2.size
  have hr1 := hr1.keep hb2
  obtain ⟨R, hR⟩ : ∃ R, w2.heap.size = R := ⟨_, rfl⟩
  let F : Fc := ⟨[⟨[⟨0, 0⟩, ⟨9, 0⟩, ⟨9, 9⟩, ⟨0, 9⟩], some ⟨b1, o1, none⟩, 4⟩, ⟨[⟨3, 3⟩, ⟨3, 5⟩, ⟨5, 5⟩, ⟨5, 3⟩], some ⟨b2, o2, none⟩, 4⟩], some ⟨R, 0, none⟩, 2, [], none, 0⟩
  have HA : Rd (w2.alloc (.cells #[.slice (some ⟨b1, o1, none⟩) 4 4, .slice (some ⟨b2, o2, none⟩) 4 4] 65)) (some ⟨R, 0, none⟩) (rcs F.rs) := Rd.lit _ _ [.slice (some ⟨b1, o1, none⟩) 4 4, .slice (some ⟨b2, o2, none⟩) 4 4] _ hR
  have hr1 := hr1.alloc (.cells #[.slice (some ⟨b1, o1, none⟩) 4 4, .slice (some ⟨b2, o2, none⟩) 4 4] 65)
  have hr2 := hr2.alloc (.cells #[.slice (some ⟨b1, o1, none⟩) 4 4, .slice (some ⟨b2, o2, none⟩) 4 4] 65)
  have HBA : Below B w (w2.alloc (.cells #[.slice (some ⟨b1, o1, none⟩) 4 4, .slice (some ⟨b2, o2, none⟩) 4 4] 65)) := HB2.out.alloc hs2 _
  have HSA : (w2.alloc (.cells #[.slice (some ⟨b1, o1, none⟩) 4 4, .slice (some ⟨b2, o2, none⟩) 4 4] 65)).heap.size = R + 1 := by
    show (w2.heap.push _).size = R + 1
    rw [Array.size_push, hR]
  rw [hR]
  generalize w2.alloc (.cells #[.slice (some ⟨b1, o1, none⟩) 4 4, .slice (some ⟨b2, o2, none⟩) 4 4] 65) = wA at *
  have hr1 := hr1.alloc (.cells #[.slice (some ⟨R, 0, none⟩) 2 2, .slice none 0 0] 49)
  have hr2 := hr2.alloc (.cells #[.slice (some ⟨R, 0, none⟩) 2 2, .slice none 0 0] 49)
  have HA := HA.alloc (.cells #[.slice (some ⟨R, 0, none⟩) 2 2, .slice none 0 0] 49)
  have HBX : Rd (wA.alloc (.cells #[.slice (some ⟨R, 0, none⟩) 2 2, .slice none 0 0] 49)) (some ⟨R + 1, 0, none⟩) F.cells := Rd.lit _ _ [.slice (some ⟨R, 0, none⟩) 2 2, .slice none 0 0] _ HSA
  have HB3 := Lib.hid (HBA.alloc (by omega : B ≤ wA.heap.size) (.cells #[.slice (some ⟨R, 0, none⟩) 2 2, .slice none 0 0] 49))
  generalize wA.alloc (.cells #[.slice (some ⟨R, 0, none⟩) 2 2, .slice none 0 0] 49) = w3 at *
  have HOK : Hid (F.Ok w3) := Lib.hid ⟨⟨HA, Nat.le_refl _, (by decide : 2 ≤ maxLen), by simp [F]⟩, by
    intro r hr
    simp only [F, List.mem_cons, List.not_mem_nil, or_false] at hr
    rcases hr with rfl | rfl
    · exact ⟨hr1, Nat.le_refl _, (by decide : 4 ≤ maxLen), by simp⟩
    · exact ⟨hr2, Nat.le_refl _, (by decide : 4 ≤ maxLen), by simp⟩, Rd.nil _ _, Nat.le_refl _, (by decide : 0 ≤ maxLen), fun _ => rfl⟩
  have hs3 : B ≤ w3.heap.size := by
    have := HB3.out.size
    rw [HBE.out] at this; exact this
  have HBX := Lib.hid HBX
  clear HA HBA HSA hr1 hr2 hb1 hb2 HB2 hs2 hR hl1 hl2
  have hLL : ∀ r ∈ F.rs, r.l.length ≤ 1000000 := by
    intro r hr
    simp only [F, List.mem_cons, List.not_mem_nil, or_false] at hr
    rcases hr with rfl | rfl
    · exact (by decide : 4 ≤ 1000000)
    · exact (by decide : 4 ≤ 1000000)
  have hLS : ∀ r ∈ F.rs, r.l.length ≤ 1000 := by
    intro r hr
    simp only [F, List.mem_cons, List.not_mem_nil, or_false] at hr
    rcases hr with rfl | rfl
    · exact (by decide : 4 ≤ 1000)
    · exact (by decide : 4 ≤ 1000)
  have HNE := nest_any F (by decide : 2 ≤ 1000) hLS w3 HOK.out
  rw [show nestF F.rings = ([-1, 0], true) from known_nest] at HNE
  refine HNE.mono ?_
  clear HNE
  rintro e w4 ⟨v, rfl, ho4, hb4⟩
  obtain ⟨pv, cv, rfl⟩ : ∃ p c, v = .slice p 2 c := by
    rcases ho4.2 with ⟨h1, h2⟩ | ⟨g, cap, cur, h1, -⟩
    · cases h2
    · exact ⟨_, _, h1⟩
  have hv4 : Rd w4 pv (ins [-1, 0]) := by
    obtain ⟨a, c, e1, -, -, -, h, -⟩ := ho4.form
    cases e1; exact h
  clear ho4
  have HB4 := Lib.hid (HB3.out.trans (hb4.mono hs3))
  have HOK4 : Hid (F.Ok w4) := Lib.hid (HOK.out.keep hb4)
  have HBX4 := HBX.out.keep hb4
  have hs4 : B ≤ w4.heap.size := Nat.le_trans hs3 hb4.size
  have c0 : w4.cell? ⟨R + 1, 0, none⟩ = some (.slice (some ⟨R, 0, none⟩) 2 2) := by
    obtain ⟨b, o, e, hc, -⟩ := HBX4.at (i := 0) (v := .slice (some ⟨R, 0, none⟩) 2 2) rfl
    cases e; exact hc
  have c1 : w4.cell? ⟨R + 1, 1, none⟩ = some (.slice none 0 0) := by
    obtain ⟨b, o, e, hc, -⟩ := HBX4.at (i := 1) (v := .slice none 0 0) rfl
    cases e; exact hc
  clear hb4 HBX HB3 HOK
  dsimp only
  go_wp2_with fail
  have HA5 : Rd (w4.alloc (.cells #[.slice (some ⟨R, 0, none⟩) 2 2, .slice none 0 0] 49)) (some ⟨w4.heap.size, 0, none⟩) (fcs [F]) := Rd.lit _ _ [.slice (some ⟨R, 0, none⟩) 2 2, .slice none 0 0] _ rfl
  have HOK5 : ∀ f ∈ [F], f.Ok (w4.alloc (.cells #[.slice (some ⟨R, 0, none⟩) 2 2, .slice none 0 0] 49)) := by
    intro f hf
    rw [List.mem_singleton.1 hf]
    exact HOK4.out.keep ((Below.refl _ _).alloc (Nat.le_refl _) _)
  have HV5 := hv4.alloc (.cells #[.slice (some ⟨R, 0, none⟩) 2 2, .slice none 0 0] 49)
  have HBX5 := HBX4.alloc (.cells #[.slice (some ⟨R, 0, none⟩) 2 2, .slice none 0 0] 49)
  have HB5 := HB4.out.alloc hs4 (.cells #[.slice (some ⟨R, 0, none⟩) 2 2, .slice none 0 0] 49)
  generalize w4.alloc (.cells #[.slice (some ⟨R, 0, none⟩) 2 2, .slice none 0 0] 49) = w5 at *
  have HCO := fcount_any (some ⟨w4.heap.size, 0, none⟩) 1 [F] (by decide : 1 ≤ 1000000) (by rw [show cntR ([F].map Fc.rings) = 2 from known_cnt.1]; omega) (by rw [show cntP ([F].map Fc.rings) = 8 from known_cnt.2]; omega) w5 HA5 HOK5
  rw [show cntR ([F].map Fc.rings) = 2 from known_cnt.1, show cntP ([F].map Fc.rings) = 8 from known_cnt.2] at HCO
  rw [show ((2 : Nat) : Int) = 2 from rfl, show ((8 : Nat) : Int) = 8 from rfl] at HCO
  refine HCO.mono ?_
  clear HCO
  rintro e w6 ⟨rfl, hb6⟩
  have hs5 : B ≤ w5.heap.size := by
    have := HB5.size
    rw [HBE.out] at this; exact this
  have HV6 := (HV5.keep hb6).alloc (.cells #[.int .i64 (-1), .int .i64 0] 3)
  have HBX6 := (HBX5.keep hb6).alloc (.cells #[.int .i64 (-1), .int .i64 0] 3)
  have HA6 := (HA5.keep hb6).alloc (.cells #[.int .i64 (-1), .int .i64 0] 3)
  have HOK6 : Hid (F.Ok (w6.alloc (.cells #[.int .i64 (-1), .int .i64 0] 3))) := Lib.hid (((HOK5 F (List.mem_singleton.2 rfl)).keep hb6).keep ((Below.refl _ _).alloc (Nat.le_refl _) _))
  have HB6 := (HB5.trans (hb6.mono hs5)).alloc (Nat.le_trans hs5 hb6.size) (.cells #[.int .i64 (-1), .int .i64 0] 3)
  have HL6 : Rd (w6.alloc (.cells #[.int .i64 (-1), .int .i64 0] 3)) (some ⟨w6.heap.size, 0, none⟩) (ins [-1, 0]) := Rd.lit _ _ [.int .i64 (-1), .int .i64 0] _ rfl
  have HB6 := Lib.hid HB6
  clear HOK5 HOK4 HB5 HB4
  dsimp only
  go_wp2_with fail
  generalize w6.alloc (.cells #[.int .i64 (-1), .int .i64 0] 3) = w7 at *
  refine (ints_same pv (some ⟨w6.heap.size, 0, none⟩) cv 2 [-1, 0] (by decide : 2 ≤ 1000000) w7 HV6 HL6).mono ?_
  rintro e w8 ⟨rfl, q, rfl⟩
  have HBX8 : Rd (w7.drewN q) (some ⟨R + 1, 0, none⟩) F.cells := HBX6
  have c0 : (w7.drewN q).cell? ⟨R + 1, 0, none⟩ = some (.slice (some ⟨R, 0, none⟩) 2 2) := by
    obtain ⟨b, o, e, hc, -⟩ := HBX8.at (i := 0) (v := .slice (some ⟨R, 0, none⟩) 2 2) rfl
    cases e; exact hc
  have c1 : (w7.drewN q).cell? ⟨R + 1, 1, none⟩ = some (.slice none 0 0) := by
    obtain ⟨b, o, e, hc, -⟩ := HBX8.at (i := 1) (v := .slice none 0 0) rfl
    cases e; exact hc
  have HOK8 : Hid (F.Ok (w7.drewN q)) := Lib.hid (HOK6.out.keep (below_drewN (Below.refl _ _) q))
  have HB8 : Hid (Below B w (w7.drewN q)) := Lib.hid (below_drewN HB6.out q)
  clear HBX8 HV6 HL6 HA6 HBX6 HB6 HOK6
  generalize w7.drewN q = w8 at *
  dsimp only
  go_wp2_with fail
  have hs8 : B ≤ w8.heap.size := by
    have := HB8.out.size
    rw [HBE.out] at this; exact this
  have HA9 : Rd (w8.alloc (.cells #[.slice (some ⟨R, 0, none⟩) 2 2, .slice none 0 0] 49)) (some ⟨w8.heap.size, 0, none⟩) (fcs [F]) := Rd.lit _ _ [.slice (some ⟨R, 0, none⟩) 2 2, .slice none 0 0] _ rfl
  have HOK9 : ∀ f ∈ [F], f.Ok (w8.alloc (.cells #[.slice (some ⟨R, 0, none⟩) 2 2, .slice none 0 0] 49)) := by
    intro f hf
    rw [List.mem_singleton.1 hf]
    exact HOK8.out.keep ((Below.refl _ _).alloc (Nat.le_refl _) _)
  have HB9 := Lib.hid (HB8.out.alloc hs8 (.cells #[.slice (some ⟨R, 0, none⟩) 2 2, .slice none 0 0] 49))
  have hs9 : B ≤ (w8.alloc (.cells #[.slice (some ⟨R, 0, none⟩) 2 2, .slice none 0 0] 49)).heap.size := by
    have := HB9.out.size
    rw [HBE.out] at this; exact this
  generalize w8.alloc (.cells #[.slice (some ⟨R, 0, none⟩) 2 2, .slice none 0 0] 49) = w9 at *
  have HCK := fcheck_any (fun _ => 0) (some ⟨w8.heap.size, 0, none⟩) 1 [F] (by decide : 1 ≤ 1000000) (by rw [show cntR ([F].map Fc.rings) = 2 from known_cnt.1]; omega) (by rw [show cntP ([F].map Fc.rings) = 8 from known_cnt.2]; omega) (by
    intro f hf
    rw [List.mem_singleton.1 hf]
    exact hLL) w9 HA9 HOK9 (by
    intro f hf W _
    rw [List.mem_singleton.1 hf]
    exact tcheck_none none 0 W)
  rw [show chkF (fun _ => 0) [F].length ([F].map Fc.rings) ([F].map Fc.ls) = 0 from known_chk (fun _ => 0) rfl] at HCK
  refine HCK.mono ?_
  clear HCK
  rintro e w10 ⟨rfl, hb10⟩
  have HB10 := Lib.hid (HB9.out.trans (hb10.mono hs9))
  clear hb10 HOK9 HOK8 HB9
  dsimp only
  go_wp2
  go_ret
  exact ⟨rfl, by rw [HBE.out]; exact HB10.out⟩
end Go.Proofs.Ytebplobagmjfeaa
/- append inside a region that draws its order: where the row lies behind it. -/
/- append inside a region that draws its order. -/
namespace Go
open Go.RowKit

theorem wp_app {P : Program} {w : World} {o : Oper} {a : Act} {K : Act → World → Prop} {Q : Exit → Act → World → Prop} (s x : Operand) (t : TypeId)
    (ho : o.op = .call { callee := .builtin .append, args := #[s, x], argTypes := #[t, t] })
    (base : Nat) (e : TypeId) (z : Value) (size bytes : Nat) (ht : P.underlying t = some (.slice e)) (hinfo : (P.info? e).map (fun i => (i.zero, i.size, i.bytes)) = some (some z, size, bytes))
    (hzs : z.cells.size = size) (hsz : 0 < size)
    (v : Value) (n : Nat) (xs : List Value) (hs : a.eval s = v) (hown : w.ownsRow base e size v n xs)
    (ax : Option Addr) (m c : Nat) (vs : List Value) (hx : a.eval x = .slice ax m c) (hc0 : ax = none → c = 0) (hvs : Rd w ax vs) (hl : vs.length = m * size) (h1 : ∀ u ∈ vs, u.oneCell' = true)
    (hbytes : (n + m) * bytes ≤ 140737488355328) (hb1 : 0 < bytes) (hbase : base ≤ w.heap.size)
    (h : ∀ v' w', w'.ownsRow base e size v' (n + m) (xs ++ vs) → w.grownBy w' v.ownBlock → K (a.put o.dst v') w') : o.wp P a w K Q := by
  obtain ⟨i, hi, hz, hsize, hby⟩ := info_parts hinfo
  have h63 : n + m ≤ maxLen := by
    have : (n + m) * 1 ≤ (n + m) * bytes := Nat.mul_le_mul_left _ hb1
    unfold maxLen; omega
  cases ax with
  | none =>
    have hv0 : vs = [] := by
      rcases hvs with h | ⟨_, _, h, _⟩
      · exact h
      · cases h
    subst hv0
    have hm : m = 0 := by
      have : m * size = 0 := by simpa using hl.symm
      rcases Nat.mul_eq_zero.1 this with h | h <;> omega
    subst hm
    obtain rfl := hc0 rfl
    have hrun := run_append_owned_none (P := P) (w := w) base t o.type e i size ht hi v n xs hown
    unfold Oper.wp
    simp [execOp, ho, resolve, invoke, builtin, hs, hx, hrun, Result.andThen]
    exact h v w (by simpa using hown) (World.grownBy.refl _ _)
  | some ad =>
    refine wp_append_own w s x t ho base e i z size bytes ht hi hz hsize hby hzs hsz v n xs hs hown ad m c vs hx hl hvs.add h1 h63 hbytes hbase ?_
    intro v' w' h2 h3 _
    exact h v' w' h2 h3

theorem txt_app {P : Program} {ops : Array Oper} {lt : Nat → Bool} {Q : Exit → Act → World → Prop} {S : World → Prop} {zz : Option Nat} {k : Nat} {rest : List Oper} {a : Act} {w : World} {o : Oper} (w0 : World) (hb : Below w0.heap.size w0 w) (hlt : lt k = false) (hgd : o.guard = none) (s x : Operand) (t : TypeId)
    (ho : o.op = .call { callee := .builtin .append, args := #[s, x], argTypes := #[t, t] })
    (e : TypeId) (z : Value) (size bytes : Nat) (ht : P.underlying t = some (.slice e)) (hinfo : (P.info? e).map (fun i => (i.zero, i.size, i.bytes)) = some (some z, size, bytes))
    (hzs : z.cells.size = size) (hsz : 0 < size)
    (v : Value) (n : Nat) (xs : List Value) (hs : a.eval s = v) (hown : w.ownsRow w0.heap.size e size v n xs)
    (ax : Option Addr) (m c : Nat) (vs : List Value) (hx : a.eval x = .slice ax m c) (hc0 : ax = none → c = 0) (hvs : Rd w ax vs) (hl : vs.length = m * size) (h1 : ∀ u ∈ vs, u.oneCell' = true)
    (hbytes : (n + m) * bytes ≤ 140737488355328) (hb1 : 0 < bytes)
    (h : ∀ v' w', w'.ownsRow w0.heap.size e size v' (n + m) (xs ++ vs) → w.grownBy w' v.ownBlock → Below w0.heap.size w0 w' → S w' ∧ wpTxtL P ops lt Q S zz (k + 1) rest (a.put o.dst v') w') :
    wpTxtL P ops lt Q S zz k (o :: rest) a w := by
  have hw : Region.wanted o (yielded ops a.tmps) = true := by simp [Region.wanted, hgd]
  refine txt_heavy hlt hw (fun K hK => ?_)
  refine wp_app s x t ho w0.heap.size e z size bytes ht hinfo hzs hsz v n xs hs hown ax m c vs hx hc0 hvs hl h1 hbytes hb1 hb.size ?_
  intro v' w' h2 h3
  have := h v' w' h2 h3 (hb.grown h3 hb.size (fun k hk => (hown.lt k hk).1))
  exact hK.out _ _ this.1 this.2
end Go
set_option linter.unusedVariables false
set_option linter.unusedSimpArgs false
namespace Go
open Go.RowKit
theorem wp_app_at {P : Program} {w : World} {o : Oper} {a : Act} {K : Act → World → Prop} {Q : Exit → Act → World → Prop} (s x : Operand) (t : TypeId)
    (ho : o.op = .call { callee := .builtin .append, args := #[s, x], argTypes := #[t, t] })
    (base : Nat) (e : TypeId) (z : Value) (size bytes : Nat) (ht : P.underlying t = some (.slice e)) (hinfo : (P.info? e).map (fun i => (i.zero, i.size, i.bytes)) = some (some z, size, bytes))
    (hzs : z.cells.size = size) (hsz : 0 < size)
    (v : Value) (n : Nat) (xs : List Value) (hs : a.eval s = v) (hown : w.ownsRow base e size v n xs)
    (ad : Addr) (m c : Nat) (vs : List Value) (hx : a.eval x = .slice (some ad) m c) (hvs : Rd w (some ad) vs) (hl : vs.length = m * size) (h1 : ∀ u ∈ vs, u.oneCell' = true)
    (hbytes : (n + m) * bytes ≤ 140737488355328) (hb1 : 0 < bytes) (hbase : base ≤ w.heap.size)
    (h : ∀ v' w', w'.ownsRow base e size v' (n + m) (xs ++ vs) → w.grownBy w' v.ownBlock → (v'.ownBlock = v.ownBlock ∨ v'.ownBlock = some w.heap.size) → K (a.put o.dst v') w') : o.wp P a w K Q := by
  obtain ⟨i, hi, hz, hsize, hby⟩ := info_parts hinfo
  have h63 : n + m ≤ maxLen := by
    have : (n + m) * 1 ≤ (n + m) * bytes := Nat.mul_le_mul_left _ hb1
    unfold maxLen; omega
  obtain ⟨v', w', hr, h2, h3, h4, h5⟩ := run_append_own_at (P := P) w base t o.type e i z size bytes ht hi hz hsize hby hzs hsz v n xs hown ad m c vs hl hvs.add h1 h63 hbytes hbase
  unfold Oper.wp execOp
  simp only [ho, resolve, invoke, builtin, Sem.run_bind, Sem.run_pure, Result.andThen_ok, List.map_toArray, List.map_cons, List.map_nil, hs, hx, hr]
  exact h v' w' h2 h3 h5
/-- Rows that share nothing. -/
def Disj (v u : Value) : Prop := ∀ k, v.ownBlock = some k → u.ownBlock ≠ some k
theorem Disj.symm {v u : Value} (h : Disj v u) : Disj u v := fun k h1 h2 => h k h2 h1
theorem Disj.kept {o u : Value} (h : Disj o u) : u.ownBlock = none ∨ u.ownBlock ≠ o.ownBlock := by
  cases hu : u.ownBlock with
  | none => exact .inl rfl
  | some x => exact .inr fun e => h x e.symm hu
theorem Disj.left {o u v : Value} {N : Nat} (h : Disj o u) (hl : v.ownBlock = o.ownBlock ∨ v.ownBlock = some N) (hu : ∀ k, u.ownBlock = some k → k < N) : Disj v u := by
  intro k h1 h2
  rcases hl with e | e
  · exact h k (e.symm.trans h1) h2
  · rw [e] at h1
    cases h1
    exact absurd (hu _ h2) (Nat.lt_irrefl _)
end Go
/- graticulelaw10.Cut, graticulelaw11.Cut. -/
set_option linter.unusedVariables false
set_option linter.unusedSimpArgs false
set_option maxRecDepth 100000
namespace Go
open Go.RowKit
def cutS (s : ByteArray) : ByteArray := s.extract 0 (min s.size 100)
def cutA (a : At) : At := ⟨cutS a.key, a.kind, cutS a.text, a.n⟩
def AtOk (a : At) : Prop := a.key.size ≤ maxLen ∧ a.text.size ≤ maxLen
theorem cutS_ok (s : ByteArray) : (cutS s).size ≤ maxLen := by unfold cutS maxLen; simp; omega
theorem cutA_ok (a : At) : AtOk (cutA a) := ⟨cutS_ok _, cutS_ok _⟩
end Go
namespace Go.Proofs.Ytebplobagmjfeaa
open Go.RowKit
set_option maxHeartbeats 800000 in
theorem cut10_any (k n : Int) (s : ByteArray) (hs : s.size ≤ maxLen) (w : World) :
    Calls Try.prog 50 #[.agg #[.int .i64 k, .string s, .int .i64 n]] w fun e w' => e = .returned (.agg #[.int .i64 k, .string (cutS s), .int .i64 n]) ∧ Below w.heap.size w w' := by
  have hs2 : s.size ≤ 9223372036854775807 := by unfold maxLen at hs; omega
  obtain ⟨z0, hz0⟩ : ∃ z : Int, (if (100 : Int) < (s.size : Int) then (100 : Int) else (s.size : Int)) = z := ⟨_, rfl⟩
  have e0 : z0.toNat = min s.size 100 := by rw [← hz0]; split <;> omega
  have hz1 : 0 ≤ z0 ∧ z0 ≤ (s.size : Int) := by rw [← hz0]; split <;> omega
  have HC : Hid (cutS s = s.extract 0 (min s.size 100)) := Lib.hid rfl
  generalize cutS s = CS at *
  go_enter Try.func50, Try.ntmps50
  go_wp2
  refine bodyPost_ret (v := .agg #[.int .i64 k, .string CS, .int .i64 n]) ?_ rfl ⟨rfl, (Below.new _ _).alloc (by simp) _⟩
  rw [← HC.out]
  simp [results, Try.results50, go_sem]

set_option maxHeartbeats 3200000 in
theorem cut11_any (a : Option Addr) (c : Nat) (l : List At) (hlc : l.length ≤ c) (hcm : c ≤ maxLen) (hok : ∀ x ∈ l, AtOk x) (w : World) (hr : Rd w a (ats l)) :
    Calls Try.prog 25 #[.slice a l.length c] w fun e w' => ∃ v, e = .returned v ∧ w'.ownsRow w.heap.size 100 4 v ((l.take 10).map cutA).length (ats ((l.take 10).map cutA)) ∧ Below w.heap.size w w' := by
  have HC := Lib.hid (fun k n s hs w => cut10_any k n s hs w)
  have HOK := Lib.hid hok
  have HR := Lib.hid hr
  unfold maxLen at hcm
  obtain ⟨N, hN⟩ : ∃ N, l.length = N := ⟨_, rfl⟩
  have HN := Lib.hid hN
  rw [hN] at hlc ⊢
  have hml : ((l.take 10).map cutA).length = min 10 N := by rw [List.length_map, List.length_take, hN]
  rw [hml]
  clear hr hN hok hml
  go_enter Try.func25, Try.ntmps25
  go_wp2
  go_loopw [3, 4] (fun o i wr => ∃ k : Nat, k ≤ N ∧ k ≤ 10 ∧ i = .int .i64 k ∧ wr.ownsRow w.heap.size 100 4 o k (ats ((l.take k).map cutA)) ∧ Below w.heap.size w wr) (fun _ i _ => 10 - (intOf i).toNat)
  case atStart => exact ⟨0, by omega, by omega, rfl, World.ownsRow_nil _ _ _ _, Below.refl _ _⟩
  case round =>
    obtain ⟨i, hi, hi10, rfl, ho, hbl⟩ := hrel
    by_cases hlt : i < N ∧ i < 10
    · obtain ⟨h1, h2⟩ := hlt
      have h1' : (i : Int) < (N : Int) := by omega
      have h2' : (i : Int) < 10 := by omega
      have hil : i < l.length := by rw [HN.out]; exact h1
      obtain ⟨b1, o1, rfl, hbb, c0, c1, c2, c3⟩ := HR.out.atr i hil
      obtain ⟨k1, k2⟩ := HOK.out l[i] (List.getElem_mem hil)
      have HSN : Hid (ats ((l.take (i + 1)).map cutA) = ats ((l.take i).map cutA) ++ (cutA l[i]).cells) := Lib.hid (by
        rw [List.take_succ_eq_append_getElem hil, List.map_append, List.map_singleton, ats_snoc])
      have hcc : (cutA l[i]).cells = [.string (cutS l[i].key), .int .i64 l[i].kind, .string (cutS l[i].text), .int .i64 l[i].n] := rfl
      rw [hcc] at HSN
      have HC10 := Lib.hid (fun w => HC.out l[i].kind l[i].n l[i].text k2 w)
      generalize cutS l[i].text = T2 at *
      obtain ⟨K1, hK1⟩ : ∃ K, l[i].key = K := ⟨_, rfl⟩
      rw [hK1] at c0 HSN k1 hcc
      obtain ⟨K2, hK2⟩ : ∃ K, cutS K1 = K := ⟨_, rfl⟩
      rw [hK2] at HSN
      obtain ⟨z0, hz0⟩ : ∃ z : Int, (if (100 : Int) < (K1.size : Int) then (100 : Int) else (K1.size : Int)) = z := ⟨_, rfl⟩
      have e0 : z0.toNat = min K1.size 100 := by rw [← hz0]; split <;> omega
      have hz1 : 0 ≤ z0 ∧ z0 ≤ (K1.size : Int) := by rw [← hz0]; split <;> omega
      have hks : K1.extract 0 (min K1.size 100) = K2 := hK2
      generalize l[i].kind = kd at *
      generalize l[i].text = T1 at *
      generalize l[i].n = nn at *
      clear hK1 hK2 hcc k2
      unfold maxLen at k1
      go_wp2
      refine wp_region_lit_txt [0, 1, 2, 3, 4, 5, 6, 7, 8, 9, 10, 11, 12, 13, 14, 15, 16, 17, 18, 20, 23] (fun W => Below w.heap.size w W) (by kernel_rfl) (by kernel_rfl) (by kernel_rfl) (hbl.drew) ?_
      (refine txt_light ?_ rfl rfl ?_ ?_; rotate_left; · (intro w' hS; (try dsimp only at hS); go_simp; with_reducible rfl)); try simp only [Act.put, List.setIfInBounds_toArray, List.set_cons_zero, List.set_cons_succ]
      (refine txt_light ?_ rfl rfl ?_ ?_; rotate_left; · (intro w' hS; (try dsimp only at hS); go_simp; with_reducible rfl)); try simp only [Act.put, List.setIfInBounds_toArray, List.set_cons_zero, List.set_cons_succ]
      (refine txt_light ?_ rfl rfl ?_ ?_; rotate_left; · (intro w' hS; (try dsimp only at hS); go_simp; with_reducible rfl)); try simp only [Act.put, List.setIfInBounds_toArray, List.set_cons_zero, List.set_cons_succ]
      (refine txt_light ?_ rfl rfl ?_ ?_; rotate_left; · (intro w' hS; (try dsimp only at hS); go_simp; with_reducible rfl)); try simp only [Act.put, List.setIfInBounds_toArray, List.set_cons_zero, List.set_cons_succ]
      (refine txt_light ?_ rfl rfl ?_ ?_; rotate_left; · (intro w' hS; (try dsimp only at hS); go_simp; with_reducible rfl)); try simp only [Act.put, List.setIfInBounds_toArray, List.set_cons_zero, List.set_cons_succ]
      refine txt_light (.string K1) rfl rfl ?_ ?_
      · intro w' hS
        have e0 := (hS.cell (p := ⟨b1, o1 + i * 4, none⟩) hbb).trans c0
        go_simp
      try simp only [Act.put, List.setIfInBounds_toArray, List.set_cons_zero, List.set_cons_succ]
      (refine txt_light ?_ rfl rfl ?_ ?_; rotate_left; · (intro w' hS; (try dsimp only at hS); go_simp; with_reducible rfl)); try simp only [Act.put, List.setIfInBounds_toArray, List.set_cons_zero, List.set_cons_succ]
      (refine txt_light ?_ rfl rfl ?_ ?_; rotate_left; · (intro w' hS; (try dsimp only at hS); go_simp; with_reducible rfl)); try simp only [Act.put, List.setIfInBounds_toArray, List.set_cons_zero, List.set_cons_succ]
      (refine txt_light ?_ rfl rfl ?_ ?_; rotate_left; · (intro w' hS; (try dsimp only at hS); go_simp; with_reducible rfl)); try simp only [Act.put, List.setIfInBounds_toArray, List.set_cons_zero, List.set_cons_succ]
      (refine txt_light ?_ rfl rfl ?_ ?_; rotate_left; · (intro w' hS; (try dsimp only at hS); go_simp; with_reducible rfl)); try simp only [Act.put, List.setIfInBounds_toArray, List.set_cons_zero, List.set_cons_succ]
      refine txt_light (.string K1) rfl rfl ?_ ?_
      · intro w' hS
        have e0 := (hS.cell (p := ⟨b1, o1 + i * 4, none⟩) hbb).trans c0
        go_simp
      try simp only [Act.put, List.setIfInBounds_toArray, List.set_cons_zero, List.set_cons_succ]
      (refine txt_light ?_ rfl rfl ?_ ?_; rotate_left; · (intro w' hS; (try dsimp only at hS); go_simp; with_reducible rfl)); try simp only [Act.put, List.setIfInBounds_toArray, List.set_cons_zero, List.set_cons_succ]
      refine txt_light (.int .i64 z0) rfl rfl ?_ ?_
      · intro w' hS
        go_simp
      try simp only [Act.put, List.setIfInBounds_toArray, List.set_cons_zero, List.set_cons_succ]
      refine txt_light (.string K2) rfl rfl ?_ ?_
      · intro w' hS
        go_simp
      try simp only [Act.put, List.setIfInBounds_toArray, List.set_cons_zero, List.set_cons_succ]
      (refine txt_light ?_ rfl rfl ?_ ?_; rotate_left; · (intro w' hS; (try dsimp only at hS); go_simp; with_reducible rfl)); try simp only [Act.put, List.setIfInBounds_toArray, List.set_cons_zero, List.set_cons_succ]
      (refine txt_light ?_ rfl rfl ?_ ?_; rotate_left; · (intro w' hS; (try dsimp only at hS); go_simp; with_reducible rfl)); try simp only [Act.put, List.setIfInBounds_toArray, List.set_cons_zero, List.set_cons_succ]
      (refine txt_light ?_ rfl rfl ?_ ?_; rotate_left; · (intro w' hS; (try dsimp only at hS); go_simp; with_reducible rfl)); try simp only [Act.put, List.setIfInBounds_toArray, List.set_cons_zero, List.set_cons_succ]
      (refine txt_light ?_ rfl rfl ?_ ?_; rotate_left; · (intro w' hS; (try dsimp only at hS); go_simp; with_reducible rfl)); try simp only [Act.put, List.setIfInBounds_toArray, List.set_cons_zero, List.set_cons_succ]
      refine txt_light (.agg #[.int .i64 kd, .string T1, .int .i64 nn]) rfl rfl ?_ ?_
      · intro w' hS
        have e1 := (hS.cell (p := ⟨b1, o1 + i * 4 + 1, none⟩) hbb).trans c1
        have e2 := (hS.cell (p := ⟨b1, o1 + i * 4 + 2, none⟩) hbb).trans c2
        have e3 := (hS.cell (p := ⟨b1, o1 + i * 4 + 3, none⟩) hbb).trans c3
        go_simp
      try simp only [Act.put, List.setIfInBounds_toArray, List.set_cons_zero, List.set_cons_succ]
      have ho0 : wr.drew.ownsRow w.heap.size 100 4 u3 i (ats ((l.take i).map cutA)) := ho
      have hbd : Below w.heap.size w wr.drew := hbl.drew
      generalize wr.drew = W0 at *
      refine txt_call [.agg #[.int .i64 kd, .string T1, .int .i64 nn]] Try.f50 rfl rfl Try.func50 (by kernel_rfl) (by kernel_rfl) rfl ((HC10.out _).mono ?_)
      rintro e W1 ⟨rfl, hx1⟩
      have ho1 := ho0.below hx1
      have hb1 := hbd.trans (hx1.mono hbd.size)
      refine ⟨_, rfl, hb1, ?_⟩
      clear hx1 ho0 hbd
      try simp only [Act.put, List.setIfInBounds_toArray, List.set_cons_zero, List.set_cons_succ]
      refine txt_light (.agg #[.string K2, .int .i64 kd, .string T2, .int .i64 nn]) rfl rfl ?_ ?_
      · intro w' hS
        go_simp
      try simp only [Act.put, List.setIfInBounds_toArray, List.set_cons_zero, List.set_cons_succ]
      refine txt_heavy rfl rfl (fun K hK => ?_)
      go_step
      have ho2 := ho1.below (Below.new W1 (.cells #[.string K2, .int .i64 kd, .string T2, .int .i64 nn] 100))
      have hb2 := hb1.alloc hb1.size (.cells #[.string K2, .int .i64 kd, .string T2, .int .i64 nn] 100)
      have rd := Rd.lit W1 W1.heap.size [.string K2, .int .i64 kd, .string T2, .int .i64 nn] 100 rfl
      refine hK.out _ _ hb2 ?_
      clear hK K ho1 hb1
      generalize W1.alloc (.cells #[.string K2, .int .i64 kd, .string T2, .int .i64 nn] 100) = W2 at *
      try simp only [Act.put, List.setIfInBounds_toArray, List.set_cons_zero, List.set_cons_succ]
      refine txt_app w hb2 rfl rfl (.tmp 15) (.tmp 36) 47 rfl 100 (.agg #[.string ⟨#[]⟩, .int .i64 0, .string ⟨#[]⟩, .int .i64 0]) 4 48 Try.underlying47 Try.infoAt rfl (by decide) u3 i (ats ((l.take i).map cutA)) rfl ho2 (some ⟨W1.heap.size, 0, none⟩) 1 1 [.string K2, .int .i64 kd, .string T2, .int .i64 nn] rfl (fun h => by cases h) rd rfl (by simp [Value.oneCell']) (by omega) (by decide) ?_
      intro v3 W3 ho3 hg3 hb3
      refine ⟨hb3, ?_⟩
      try simp only [Act.put, List.setIfInBounds_toArray, List.set_cons_zero, List.set_cons_succ]
      (refine txt_light ?_ rfl rfl ?_ ?_; rotate_left; · (intro w' hS; (try dsimp only at hS); go_simp; with_reducible rfl)); try simp only [Act.put, List.setIfInBounds_toArray, List.set_cons_zero, List.set_cons_succ]
      refine txt_nil ?_
      clear c0 c1 c2 c3 ho2 hb2 hg3 rd
      have HO9 : Hid (W3.ownsRow w.heap.size 100 4 v3 (i + 1) (ats ((l.take (i + 1)).map cutA))) := Lib.hid (by rw [HSN.out]; exact ho3)
      clear ho3
      go_wp2
      exact ⟨⟨i + 1, by omega, by omega, by go_num, by have := HO9.out; simpa only [List.map_take] using this, hb3⟩, by simp [intOf]; omega⟩
    · have HML : Hid (i = min 10 N) := Lib.hid (by omega)
      have HTK : Hid (l.take i = l.take 10) := Lib.hid (by
        by_cases h10 : i = 10
        · rw [h10]
        · rw [List.take_of_length_le (by rw [HN.out]; omega), List.take_of_length_le (by rw [HN.out]; omega)])
      have HO9 : Hid (wr.ownsRow w.heap.size 100 4 u3 (min 10 N) (ats ((l.take 10).map cutA))) := Lib.hid (by rw [← HML.out, ← HTK.out]; exact ho)
      by_cases h1 : i < N
      · have h1' : (i : Int) < (N : Int) := by omega
        have h2' : ¬ (i : Int) < 10 := by omega
        go_wp2
        go_ret
        exact ⟨u3, rfl, by have := HO9.out; simpa only [List.map_take] using this, hbl⟩
      · have h1' : ¬ (i : Int) < (N : Int) := by omega
        go_wp2
        go_ret
        exact ⟨u3, rfl, by have := HO9.out; simpa only [List.map_take] using this, hbl⟩
end Go.Proofs.Ytebplobagmjfeaa
