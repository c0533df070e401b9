/-
  graticulelaw10.Cut. graticulelaw30.Cut. graticulelaw30.Of, Ofs. graticulelaw04.Ints, of the same numbers. graticulelaw30.Same, of the same items.
-/
import Derived.Test.YtkfgbjjelcigcaaGreatDoorPk2
import Derived.Test.YtkfgbjjelcigcaaGreatDoorPk3
import Derived.Test.YtkfgbjjelcigcaaGreatDoorPk12
import Derived.Test.YtkfgbjjelcigcaaGreatDoorPk13
import Derived.Test.YtkfgbjjelcigcaaGreatDoorPk7
import Derived.OneCell
import Derived.Test.YtkfgbjjelcigcaaGreatDoorPk18
import Derived.Test.YtkfgbjjelcigcaaGreatDoorPk1
import Derived.Test.YtkfgbjjelcigcaaGreatDoorProg
import Derived.Test.YtkfgbjjelcigcaaGreatDoorPk8
/- graticulelaw10.Cut. -/
set_option linter.unusedVariables false
set_option linter.unusedSimpArgs false
set_option maxRecDepth 100000
namespace Go.Proofs.YtkfgbjjelcigcaaGreatDoor
open Go.RowKit
set_option maxHeartbeats 1000000 in
theorem vcut_any (k n : Int) (t : ByteArray) (ht : t.size ≤ maxLen) (w : World) :
    Calls Tryz.prog 21 #[vVal (k, t, n)] w fun e w' => e = .returned (vVal (k, t.extract 0 (min t.size 100), n)) ∧ Below w.heap.size w w' := by
  have ht2 : t.size ≤ 9223372036854775807 := by unfold maxLen at ht; omega
  dsimp only [vVal]
  go_enter Tryz.func21, Tryz.ntmps21
  by_cases h : 100 < t.size
  · have h2 : (100 : Int) < (t.size : Int) := by omega
    have hm : min (t.size : Int) 100 = 100 := by omega
    go_wp2; refine bodyPost_ret (v := .agg #[.int .i64 k, .string (t.extract 0 (min t.size 100)), .int .i64 n]) ?_ rfl ⟨rfl, (Below.new w _).alloc (by simp) _⟩; have q := Blk.lit (w.alloc (.cells #[.int .i64 k, .string (t.extract 0 100), .int .i64 n] 44)) (w.heap.size + 1) [.int .i64 k, .string (t.extract 0 100), .int .i64 n] 44 (by simp); have q0 := q.cell 0 rfl; have q1 := q.cell 1 rfl; have q2 := q.cell 2 rfl; rw [show min t.size 100 = 100 by omega]; simp [results, Tryz.results21, go_sem, q0, q1, q2]
  · have h2 : ¬ (100 : Int) < (t.size : Int) := by omega
    have hm : min (t.size : Int) 100 = (t.size : Int) := by omega
    go_wp2; refine bodyPost_ret (v := .agg #[.int .i64 k, .string (t.extract 0 (min t.size 100)), .int .i64 n]) ?_ rfl ⟨rfl, (Below.new w _).alloc (by simp) _⟩; have q := Blk.lit (w.alloc (.cells #[.int .i64 k, .string t, .int .i64 n] 44)) (w.heap.size + 1) [.int .i64 k, .string t, .int .i64 n] 44 (by simp); have q0 := q.cell 0 rfl; have q1 := q.cell 1 rfl; have q2 := q.cell 2 rfl; rw [show min t.size 100 = t.size by omega, show t.extract 0 t.size = t by simp]; simp [results, Tryz.results21, go_sem, q0, q1, q2]
end Go.Proofs.YtkfgbjjelcigcaaGreatDoor
/- graticulelaw30.Cut. -/
set_option linter.unusedVariables false
set_option linter.unusedSimpArgs false
set_option maxRecDepth 100000
namespace Go
open Go.RowKit
def cutIt (m : Nat) (x : It) : It := ⟨x.kind, x.n.take m, x.key.extract 0 (min x.key.size 100), (x.v.1, x.v.2.1.extract 0 (min x.v.2.1.size 100), x.v.2.2), x.np, x.nc⟩
def szN (l : List It) : Nat := (l.map fun x => x.n.length).sum
def cutG (X : List It) : List It := X.foldl (fun Y x => Y ++ [cutIt (610 - szN Y) x]) []
theorem cutG_snoc (X : List It) (x : It) : cutG (X ++ [x]) = cutG X ++ [cutIt (610 - szN (cutG X)) x] := by simp [cutG, List.foldl_append]
theorem szN_snoc (X : List It) (x : It) : szN (X ++ [x]) = szN X + x.n.length := by simp [szN]
theorem list_snoc_ind {α : Type} {P : List α → Prop} (h0 : P []) (h1 : ∀ X x, P X → P (X ++ [x])) (X : List α) : P X := by
  have : ∀ Y : List α, P Y.reverse := by
    intro Y
    induction Y with
    | nil => exact h0
    | cons a Y ih => rw [List.reverse_cons]; exact h1 _ _ ih
  have h := this X.reverse
  rwa [List.reverse_reverse] at h
theorem cutG_sz (X : List It) : szN (cutG X) ≤ 610 := by
  induction X using list_snoc_ind with
  | h0 => simp [cutG, szN]
  | h1 X x ih => rw [cutG_snoc, szN_snoc]; simp only [cutIt, List.length_take]; omega
theorem cutG_len (X : List It) : (cutG X).length = X.length := by
  induction X using list_snoc_ind with
  | h0 => rfl
  | h1 X x ih => rw [cutG_snoc, List.length_append, List.length_append, ih]; rfl
theorem cutIt_ok {W : World} {x : It} (h : x.Ok W) (m : Nat) : (cutIt m x).Ok W :=
  ⟨by show Rd W x.np ((x.n.take m).map _); rw [List.map_take]; exact h.1.take m, by have := h.2.1; simp [cutIt]; omega, h.2.2.1, h.2.2.2⟩
def It.Cut (x : It) : Prop := x.key.size ≤ 100 ∧ x.v.2.1.size ≤ 100 ∧ x.n.length ≤ 610
theorem cutIt_cut (m : Nat) (hm : m ≤ 610) (x : It) : (cutIt m x).Cut := by
  refine ⟨?_, ?_, ?_⟩
  · simp [cutIt]; omega
  · simp [cutIt]; omega
  · simp [cutIt]; omega
theorem cutG_mem {P : It → Prop} (X : List It) (h : ∀ x ∈ X, ∀ m ≤ 610, P (cutIt m x)) : ∀ y ∈ cutG X, P y := by
  induction X using list_snoc_ind with
  | h0 => intro y hy; cases hy
  | h1 X x ih =>
    rw [cutG_snoc]; intro y hy
    rcases List.mem_append.1 hy with hy | hy
    · exact ih (fun z hz => h z (List.mem_append_left _ hz)) y hy
    · rw [List.mem_singleton.1 hy]; exact h x (by simp) _ (by omega)
end Go
namespace Go.Proofs.YtkfgbjjelcigcaaGreatDoor
open Go.RowKit
set_option maxHeartbeats 4000000 in
theorem icut_any (a : Option Addr) (c : Nat) (X : List It) (hlc : X.length ≤ c) (hcm : c ≤ maxLen) (w : World) (hok : ∀ x ∈ X, x.Ok w ∧ x.Sz) (hr : Rd w a (its X)) :
    Calls Tryz.prog 5 #[.slice a X.length c] w fun e w' => ∃ v, e = .returned v ∧ w'.ownsRow w.heap.size 46 6 v (cutG (X.take 40)).length (its (cutG (X.take 40))) ∧ Below w.heap.size w w' := by
  have HC := Lib.hid (fun k n s hs w => vcut_any k n s hs w); have HOK := Lib.hid hok; have HR := Lib.hid hr; unfold maxLen at hcm; obtain ⟨N, hN⟩ : ∃ N, X.length = N := ⟨_, rfl⟩; have HN := Lib.hid hN; rw [hN] at hlc ⊢; have hml : (cutG (X.take 40)).length = min 40 N := by rw [cutG_len, List.length_take, hN]
  rw [hml]; clear hr hN hok hml
  go_enter Tryz.func5, Tryz.ntmps5
  go_wp2
  go_loopw [3, 4, 5] (fun o s i wr => ∃ k : Nat, k ≤ N ∧ k ≤ 40 ∧ i = .int .i64 k ∧ s = .int .i64 (szN (cutG (X.take k)) : Nat) ∧ wr.ownsRow w.heap.size 46 6 o k (its (cutG (X.take k))) ∧ Below w.heap.size w wr) (fun _ _ i _ => 40 - (intOf i).toNat)
  case atStart => exact ⟨0, by omega, by omega, rfl, rfl, World.ownsRow_nil _ _ _ _, Below.refl _ _⟩
  case round =>
    obtain ⟨i, hi, hi10, rfl, rfl, ho, hbl⟩ := hrel
    by_cases hlt : i < N ∧ i < 40
    · obtain ⟨h1, h2⟩ := hlt; have h1' : (i : Int) < (N : Int) := by omega
      have h2' : (i : Int) < 40 := by omega
      have hil : i < X.length := by rw [HN.out]; exact h1
      obtain ⟨b1, o1, rfl, hbb, c0, c1, c2, c3, c4, c5⟩ := (HR.out.keep hbl).it i hil; obtain ⟨⟨-, k1, k2, -⟩, k3, k4⟩ := HOK.out X[i] (List.getElem_mem hil); have hsz := cutG_sz (X.take i); have HSN : Hid (its (cutG (X.take (i + 1))) = its (cutG (X.take i)) ++ (cutIt (610 - szN (cutG (X.take i))) X[i]).cells) := Lib.hid (by
        rw [List.take_succ_eq_append_getElem hil, cutG_snoc, its_snoc])
      have HSZ : Hid (szN (cutG (X.take (i + 1))) = szN (cutG (X.take i)) + min (610 - szN (cutG (X.take i))) X[i].n.length) := Lib.hid (by
        rw [List.take_succ_eq_append_getElem hil, cutG_snoc, szN_snoc]; simp [cutIt])
      generalize szN (cutG (X.take i)) = SZ at *; have hcc : (cutIt (610 - SZ) X[i]).cells = [.int .i64 X[i].kind, .slice X[i].np (min (610 - SZ) X[i].n.length) X[i].nc, .string (X[i].key.extract 0 (min X[i].key.size 100)), .int .i64 X[i].v.1, .string (X[i].v.2.1.extract 0 (min X[i].v.2.1.size 100)), .int .i64 X[i].v.2.2] := by
        simp [cutIt, It.cells, It.nval]
      rw [hcc] at HSN; have HC10 := Lib.hid (fun w => HC.out X[i].v.1 X[i].v.2.2 X[i].v.2.1 k4 w); dsimp only [vVal] at HC10; unfold It.nval at c1; clear hcc k4; generalize X[i].v.2.1.extract 0 (min X[i].v.2.1.size 100) = T2 at *; generalize X[i].kind = kd at *; generalize X[i].v.2.1 = T1 at *; generalize X[i].v.1 = v1 at *; generalize X[i].v.2.2 = v3 at *; generalize X[i].np = np at *; generalize X[i].nc = nc at *; generalize X[i].n.length = NL at *; generalize X[i].key = K1 at *; obtain ⟨K2, hK2⟩ : ∃ K, K1.extract 0 (min K1.size 100) = K := ⟨_, rfl⟩; rw [hK2] at HSN; obtain ⟨z0, hz0⟩ : ∃ z : Int, (if (100 : Int) < (K1.size : Int) then (100 : Int) else (K1.size : Int)) = z := ⟨_, rfl⟩; have e0 : z0.toNat = min K1.size 100 := by rw [← hz0]; split <;> omega
      have hz1 : 0 ≤ z0 ∧ z0 ≤ (K1.size : Int) := by rw [← hz0]; split <;> omega
      have hzm : min (K1.size : Int) 100 = z0 := by rw [← hz0]; split <;> omega
      obtain ⟨ZN, hZN⟩ : ∃ z, min (610 - SZ) NL = z := ⟨_, rfl⟩; rw [hZN] at HSN HSZ; have hy0 : (if (610 - (SZ : Int)) < (NL : Int) then (610 - (SZ : Int)) else (NL : Int)) = (ZN : Int) := by split <;> omega
      have hym : min (NL : Int) (610 - (SZ : Int)) = (ZN : Int) := by omega
      have hyn : ZN ≤ nc := by omega
      have hyl : ZN ≤ 610 := by omega
      unfold maxLen at k2 k3; go_wp2; have hb0 := hbl.alloc hbl.size (.cells #[.int .i64 kd, .slice np ZN nc, .string K1, .int .i64 v1, .string T1, .int .i64 v3] 46); have ho0 := ho.below (Below.new wr (.cells #[.int .i64 kd, .slice np ZN nc, .string K1, .int .i64 v1, .string T1, .int .i64 v3] 46)); obtain ⟨C, hC⟩ : ∃ C, wr.heap.size = C := ⟨_, rfl⟩; have bC0 := BT.lit wr C [.int .i64 kd, .slice np ZN nc, .string K1, .int .i64 v1, .string T1, .int .i64 v3] 46 hC; have hCw : w.heap.size ≤ C := by rw [← hC]; exact hbl.size
      have HCne : Hid (∀ k, u3.ownBlock = some k → k ≠ C) := Lib.hid (fun k hk => by have := (ho.lt k hk).2; omega); rw [hC]; clear c0 c1 c2 c3 c4 c5 hbb ho hbl hC; generalize wr.alloc (.cells #[.int .i64 kd, .slice np ZN nc, .string K1, .int .i64 v1, .string T1, .int .i64 v3] 46) = W9 at *; refine wp_region_stage 14 [0, 1, 2, 3, 4, 5, 6, 7, 8, 10, 12] [11, 13] [0, 2, 4, 5, 6, 7, 10, 12] (fun W => BT W C 46 [.int .i64 kd, .slice np ZN nc, .string K1, .int .i64 v1, .string T1, .int .i64 v3]) (fun _ => True) rfl (by kernel_rfl) (by kernel_rfl) ?_; have hI : True := trivial; have hS0 := bC0.drew; have ho1 : W9.drew.ownsRow w.heap.size 46 6 u3 i (its (cutG (X.take i))) := ho0; have hb1 := hb0.drew; clear bC0 ho0 hb0; generalize W9.drew = W1 at *
      (refine stg_free 0 _ ?_ (by kernel_rfl) (by kernel_rfl) (by kernel_rfl) rfl rfl ?_ hI ?_; rotate_left; · (intro w' _; go_simp; with_reducible rfl)); try simp only [Act.put, List.getElem_toArray, List.getElem_cons_succ, List.getElem_cons_zero, List.setIfInBounds_toArray, List.set_cons_zero, List.set_cons_succ]
      refine stg_light 1 _ (.string K1) (by kernel_rfl) (by kernel_rfl) (by kernel_rfl) rfl rfl ?_ hS0 hI ?_
      · intro w' hS _; have e2 := hS.blk.cell 2 rfl; clear hS; go_simp
      try simp only [Act.put, List.getElem_toArray, List.getElem_cons_succ, List.getElem_cons_zero, List.setIfInBounds_toArray, List.set_cons_zero, List.set_cons_succ]
      (refine stg_free 2 _ ?_ (by kernel_rfl) (by kernel_rfl) (by kernel_rfl) rfl rfl ?_ hI ?_; rotate_left; · (intro w' _; go_simp; with_reducible rfl)); try simp only [Act.put, List.getElem_toArray, List.getElem_cons_succ, List.getElem_cons_zero, List.setIfInBounds_toArray, List.set_cons_zero, List.set_cons_succ]
      refine stg_light 3 _ (.string K1) (by kernel_rfl) (by kernel_rfl) (by kernel_rfl) rfl rfl ?_ hS0 hI ?_
      · intro w' hS _; have e2 := hS.blk.cell 2 rfl; clear hS; go_simp
      try simp only [Act.put, List.getElem_toArray, List.getElem_cons_succ, List.getElem_cons_zero, List.setIfInBounds_toArray, List.set_cons_zero, List.set_cons_succ]
      (refine stg_free 4 _ ?_ (by kernel_rfl) (by kernel_rfl) (by kernel_rfl) rfl rfl ?_ hI ?_; rotate_left; · (intro w' _; go_simp; with_reducible rfl)); try simp only [Act.put, List.getElem_toArray, List.getElem_cons_succ, List.getElem_cons_zero, List.setIfInBounds_toArray, List.set_cons_zero, List.set_cons_succ]
      refine stg_free 5 _ (.int .i64 z0) (by kernel_rfl) (by kernel_rfl) (by kernel_rfl) rfl rfl ?_ hI ?_
      · intro w' _; go_simp
      try simp only [Act.put, List.getElem_toArray, List.getElem_cons_succ, List.getElem_cons_zero, List.setIfInBounds_toArray, List.set_cons_zero, List.set_cons_succ]
      refine stg_free 6 _ (.string K2) (by kernel_rfl) (by kernel_rfl) (by kernel_rfl) rfl rfl ?_ hI ?_
      · intro w' _; go_simp
      try simp only [Act.put, List.getElem_toArray, List.getElem_cons_succ, List.getElem_cons_zero, List.setIfInBounds_toArray, List.set_cons_zero, List.set_cons_succ]
      (refine stg_free 7 _ ?_ (by kernel_rfl) (by kernel_rfl) (by kernel_rfl) rfl rfl ?_ hI ?_; rotate_left; · (intro w' _; go_simp; with_reducible rfl)); try simp only [Act.put, List.getElem_toArray, List.getElem_cons_succ, List.getElem_cons_zero, List.setIfInBounds_toArray, List.set_cons_zero, List.set_cons_succ]
      refine stg_light 8 _ (.agg #[.int .i64 v1, .string T1, .int .i64 v3]) (by kernel_rfl) (by kernel_rfl) (by kernel_rfl) rfl rfl ?_ hS0 hI ?_
      · intro w' hS _; have e3 := hS.blk.cell 3 rfl; have e4 := hS.blk.cell 4 rfl; have e5 := hS.blk.cell 5 rfl; clear hS; go_simp
      try simp only [Act.put, List.getElem_toArray, List.getElem_cons_succ, List.getElem_cons_zero, List.setIfInBounds_toArray, List.set_cons_zero, List.set_cons_succ]
      (refine stg_free 10 _ ?_ (by kernel_rfl) (by kernel_rfl) (by kernel_rfl) rfl rfl ?_ hI ?_; rotate_left; · (intro w' _; go_simp; with_reducible rfl)); try simp only [Act.put, List.getElem_toArray, List.getElem_cons_succ, List.getElem_cons_zero, List.setIfInBounds_toArray, List.set_cons_zero, List.set_cons_succ]
      refine stg_oneS 9 _ (by kernel_rfl) (by kernel_rfl) (by kernel_rfl) rfl rfl (fun K hK => ?_); go_step; refine (HC10.out W1).mono ?_; rintro e W2 ⟨rfl, hx⟩; have bC2 := hS0.keep hx; have ho2 := ho1.below hx; have hb2 := hb1.trans (hx.mono hb1.size); refine hK.out _ _ bC2 trivial ?_; clear hK K hS0 ho1 hb1 hx HC10
      try simp only [Act.put, List.getElem_toArray, List.getElem_cons_succ, List.getElem_cons_zero, List.setIfInBounds_toArray, List.set_cons_zero, List.set_cons_succ]
      refine stg_one 11 _ (by kernel_rfl) (by kernel_rfl) (by kernel_rfl) rfl rfl (fun K hK => ?_); have e2 := bC2.blk.cell 2 rfl; have f2 := bC2.blk.free 2; go_step; have bC3 : BT (W2.setCell ⟨C, 2, none⟩ (.string K2)) C 46 [.int .i64 kd, .slice np ZN nc, .string K2, .int .i64 v1, .string T1, .int .i64 v3] := bC2.set 2 (.string K2); have ho3 := ownsRow_setCell_other ho2 (a := ⟨C, 2, none⟩) (fun h => HCne.out _ h rfl) (.string K2); have hb3 := hb2.setCell (p := ⟨C, 2, none⟩) hCw (.string K2); refine hK.out _ _ trivial ?_; clear hK K bC2 ho2 hb2 e2 f2; generalize W2.setCell ⟨C, 2, none⟩ (.string K2) = W3 at *
      try simp only [Act.put, List.getElem_toArray, List.getElem_cons_succ, List.getElem_cons_zero, List.setIfInBounds_toArray, List.set_cons_zero, List.set_cons_succ]
      (refine stg_free 12 _ ?_ (by kernel_rfl) (by kernel_rfl) (by kernel_rfl) rfl rfl ?_ hI ?_; rotate_left; · (intro w' _; go_simp; with_reducible rfl)); try simp only [Act.put, List.getElem_toArray, List.getElem_cons_succ, List.getElem_cons_zero, List.setIfInBounds_toArray, List.set_cons_zero, List.set_cons_succ]
      refine stg_one 13 _ (by kernel_rfl) (by kernel_rfl) (by kernel_rfl) rfl rfl (fun K hK => ?_); have e3 := bC3.blk.cell 3 rfl; have e4 := bC3.blk.cell 4 rfl; have e5 := bC3.blk.cell 5 rfl; have f3 := bC3.blk.free 3; have f4 := bC3.blk.free 4; have f5 := bC3.blk.free 5; go_step; have bC4 : BT (((W3.setCell ⟨C, 3, none⟩ (.int .i64 v1)).setCell ⟨C, 4, none⟩ (.string T2)).setCell ⟨C, 5, none⟩ (.int .i64 v3)) C 46 [.int .i64 kd, .slice np ZN nc, .string K2, .int .i64 v1, .string T2, .int .i64 v3] := ((bC3.set 3 (.int .i64 v1)).set 4 (.string T2)).set 5 (.int .i64 v3); have ho4 := ownsRow_setCell_other (ownsRow_setCell_other (ownsRow_setCell_other ho3 (a := ⟨C, 3, none⟩) (fun h => HCne.out _ h rfl) (.int .i64 v1)) (a := ⟨C, 4, none⟩) (fun h => HCne.out _ h rfl) (.string T2)) (a := ⟨C, 5, none⟩) (fun h => HCne.out _ h rfl) (.int .i64 v3); have hb4 := ((hb3.setCell (p := ⟨C, 3, none⟩) hCw (.int .i64 v1)).setCell (p := ⟨C, 4, none⟩) hCw (.string T2)).setCell (p := ⟨C, 5, none⟩) hCw (.int .i64 v3); refine hK.out _ _ trivial ?_; clear hK K bC3 ho3 hb3 e3 e4 e5 f3 f4 f5; generalize ((W3.setCell ⟨C, 3, none⟩ (.int .i64 v1)).setCell ⟨C, 4, none⟩ (.string T2)).setCell ⟨C, 5, none⟩ (.int .i64 v3) = W4 at *
      try simp only [Act.put, List.getElem_toArray, List.getElem_cons_succ, List.getElem_cons_zero, List.setIfInBounds_toArray, List.set_cons_zero, List.set_cons_succ]
      refine stg_end (by kernel_rfl) ?_; have c0 := bC4.blk.cell 0 rfl; have c1 := bC4.blk.cell 1 rfl; have c2 := bC4.blk.cell 2 rfl; have c3 := bC4.blk.cell 3 rfl; have c4 := bC4.blk.cell 4 rfl; have c5 := bC4.blk.cell 5 rfl; clear hz0 hz1 e0 hzm hK2 hy0 hym
      go_wp2_with (at_builtin; go_must (refine wpList_appLitAt w hb4 rfl (.tmp 48) (.tmp 50) 22 rfl 46 (.agg #[.int .i64 0, .slice none 0 0, .string ⟨#[]⟩, .int .i64 0, .string ⟨#[]⟩, .int .i64 0]) 6 80 Tryz.underlying22 Tryz.infoIt rfl (by decide) (by decide) u3 i (its (cutG (X.take i))) rfl ho4 1 1 W4.heap.size rfl [.int .i64 kd, .slice np ZN nc, .string K2, .int .i64 v1, .string T2, .int .i64 v3] _ rfl rfl (by simp [Value.oneCell']) (by omega) ?_); intro v2 w2 hown2 _ hbl2 _; clear ho4 hb4)
      go_roundw
      case rel =>
        refine ⟨i + 1, by omega, by omega, by go_num, ?_, ?_, hbl2⟩
        · rw [HSZ.out]; go_num
        · rw [HSN.out]; exact hown2
      case measure => simp [intOf]; omega
    · have HML : Hid (i = min 40 N) := Lib.hid (by omega); have HTK : Hid (X.take i = X.take 40) := Lib.hid (by
        by_cases h10 : i = 40
        · rw [h10]
        · rw [List.take_of_length_le (by rw [HN.out]; omega), List.take_of_length_le (by rw [HN.out]; omega)])
      have HO9 : Hid (wr.ownsRow w.heap.size 46 6 u3 (min 40 N) (its (cutG (X.take 40)))) := Lib.hid (by rw [← HML.out, ← HTK.out]; exact ho)
      by_cases h1 : i < N
      · have h1' : (i : Int) < (N : Int) := by omega
        have h2' : ¬ (i : Int) < 40 := by omega
        go_wp2; go_ret; exact ⟨u3, rfl, HO9.out, hbl⟩
      · have h1' : ¬ (i : Int) < (N : Int) := by omega
        go_wp2; go_ret; exact ⟨u3, rfl, HO9.out, hbl⟩
end Go.Proofs.YtkfgbjjelcigcaaGreatDoor
/- graticulelaw30.Of, Ofs. -/
set_option linter.unusedVariables false
set_option linter.unusedSimpArgs false
set_option maxRecDepth 100000
namespace Go.Proofs.YtkfgbjjelcigcaaGreatDoor
open Go.RowKit
set_option maxHeartbeats 1600000 in
theorem of30r_any (x : It) (w : World) :
    Calls Tryz.prog 14 #[x.val] w fun e w' => e = .returned x.val ∧ Below w.heap.size w w' := by
  obtain ⟨kd, n, key, ⟨v1, v2, v3⟩, np, nc⟩ := x; dsimp only [It.val, It.nval]; generalize n.length = NL
  go_enter Tryz.func14, Tryz.ntmps14
  go_wp2; refine bodyPost_ret (v := .agg #[.int .i64 kd, .slice np NL nc, .string key, .int .i64 v1, .string v2, .int .i64 v3]) ?_ rfl ⟨rfl, (Below.new w _).alloc (by simp) _⟩; have q := Blk.lit (w.alloc (.cells #[.int .i64 kd, .slice np NL nc, .string key, .int .i64 v1, .string v2, .int .i64 v3] 46)) (w.heap.size + 1) [.int .i64 kd, .slice np NL nc, .string key, .int .i64 v1, .string v2, .int .i64 v3] 50 (by simp); have q0 := q.cell 0 rfl; have q1 := q.cell 1 rfl; have q2 := q.cell 2 rfl; have q3 := q.cell 3 rfl; have q4 := q.cell 4 rfl; have q5 := q.cell 5 rfl; simp [results, Tryz.results14, go_sem, q0, q1, q2, q3, q4, q5]
set_option maxHeartbeats 3200000 in
theorem iofs_any (a : Option Addr) (c : Nat) (l : List It) (hn : l.length ≤ 100000) (w : World) (hr : Rd w a (its l)) :
    Calls Tryz.prog 8 #[.slice a l.length c] w fun e w' => ∃ v, e = .returned v ∧ w'.ownsRow w.heap.size 50 6 v l.length (its l) ∧ Below w.heap.size w w' := by
  have HR := Lib.hid hr; obtain ⟨N, hN⟩ : ∃ N, l.length = N := ⟨_, rfl⟩; have HN := Lib.hid hN; have HTA : Hid (its (l.take N) = its l) := Lib.hid (by rw [← hN, List.take_length]); rw [hN] at hn ⊢; clear hr hN
  go_enter Tryz.func8, Tryz.ntmps8
  go_wp2
  go_loopw [3, 4] (fun o i wr => ∃ k : Nat, k ≤ N ∧ i = .int .i64 k ∧ wr.ownsRow w.heap.size 50 6 o k (its (l.take k)) ∧ Below w.heap.size w wr) (fun _ i _ => N - (intOf i).toNat)
  case atStart => exact ⟨0, by omega, rfl, World.ownsRow_nil _ _ _ _, Below.refl _ _⟩
  case round =>
    obtain ⟨i, hi, rfl, ho, hbl⟩ := hrel
    by_cases h1 : i < N
    · have h1' : (i : Int) < (N : Int) := by omega
      have hil : i < l.length := by rw [HN.out]; exact h1
      obtain ⟨b1, o1, rfl, hbb, c0, c1, c2, c3, c4, c5⟩ := (HR.out.keep hbl).it i hil; have HSN : Hid (its (l.take (i + 1)) = its (l.take i) ++ l[i].cells) := Lib.hid (by
        rw [List.take_succ_eq_append_getElem hil, its_snoc])
      have HM := Lib.hid (of30r_any l[i] wr); generalize l[i] = x at *; obtain ⟨kd, n, key, ⟨v1, v2, v3⟩, np, nc⟩ := x; dsimp only [It.val, It.nval, It.cells] at HM HSN c0 c1 c2 c3 c4 c5; generalize n.length = NL at *
      go_wp2_with fail
      refine HM.out.mono ?_; rintro e w1 ⟨rfl, hb1⟩; have hbl1 := hbl.trans (hb1.mono hbl.size); have ho1 := ho.below hb1; clear ho HM hb1 hbl c0 c1 c2 c3 c4 c5
      go_wp2_with (at_builtin; go_must (refine wpList_appLitAt w hbl1 rfl (.tmp 11) (.tmp 17) 34 rfl 50 (.agg #[.int .i64 0, .slice none 0 0, .string ⟨#[]⟩, .int .i64 0, .string ⟨#[]⟩, .int .i64 0]) 6 80 Tryz.underlying34 Tryz.infoRIt rfl (by decide) (by decide) u3 i (its (l.take i)) rfl ho1 1 1 w1.heap.size rfl [.int .i64 kd, .slice np NL nc, .string key, .int .i64 v1, .string v2, .int .i64 v3] _ rfl rfl (by simp [Value.oneCell']) (by omega) ?_); intro v9 w2 hown2 _ hbl2 _; clear ho1 hbl1)
      go_roundw
      case rel =>
        refine ⟨i + 1, by omega, by go_num, ?_, hbl2⟩; rw [HSN.out]; exact hown2
      case measure => simp [intOf]; omega
    · obtain rfl : i = N := by omega
      have HO9 := Lib.hid ho; rw [HTA.out] at HO9; go_wp2; go_ret; exact ⟨u3, rfl, HO9.out, hbl⟩
end Go.Proofs.YtkfgbjjelcigcaaGreatDoor
/- graticulelaw04.Ints, of the same numbers. -/
set_option linter.unusedVariables false
set_option linter.unusedSimpArgs false
set_option maxRecDepth 100000
namespace Go.Proofs.YtkfgbjjelcigcaaGreatDoor
open Go.RowKit
set_option maxHeartbeats 800000 in
theorem sign0_any (w : World) :
    Calls Tryz.prog 62 #[.int .i64 0] w fun e w' => e = .returned (.int .i64 0) ∧ w' = w := by
  go_enter Tryz.func62, Tryz.ntmps62
  go_wp2; go_ret; exact ⟨rfl, rfl⟩
set_option maxHeartbeats 1600000 in
theorem cmp_same (a b : Option Addr) (ca cb : Nat) (l : List Int) (hl : l.length ≤ 1000000) (w : World) (hr : Rd w a (l.map (Value.int .i64))) (hs : Rd w b (l.map (Value.int .i64))) :
    Calls Tryz.prog 45 #[.slice a l.length ca, .slice b l.length cb] w fun e w' => e = .returned (.int .i64 0) ∧ Below w.heap.size w w' := by
  have HR := Lib.hid hr; have HS := Lib.hid hs; have HSG := Lib.hid (fun W => sign0_any W); obtain ⟨N, hN⟩ : ∃ N, l.length = N := ⟨_, rfl⟩; have HN := Lib.hid hN; rw [hN] at hl ⊢; clear hr hs hN
  go_enter Tryz.func45, Tryz.ntmps45
  go_wp2
  go_loopw [5] (fun i wr => ∃ k : Nat, k ≤ N ∧ i = .int .i64 k ∧ Below w.heap.size w wr) (fun i _ => N - (intOf i).toNat)
  case atStart => exact ⟨0, by omega, rfl, Below.refl _ _⟩
  case round =>
    obtain ⟨k, hk, rfl, hbl⟩ := hrel
    by_cases h1 : k < N
    · have h1' : (k : Int) < (N : Int) := by omega
      have hkl : k < l.length := by rw [HN.out]; exact h1
      obtain ⟨b1, o1, rfl, c0, hbb⟩ := (HR.out.keep hbl).at (i := k) (v := .int .i64 l[k]) (by simp [hkl]); obtain ⟨b2, o2, rfl, d0, hbb2⟩ := (HS.out.keep hbl).at (i := k) (v := .int .i64 l[k]) (by simp [hkl]); generalize l[k] = z at *; have d1 : wr.drew.cell? ⟨b1, o1 + k, none⟩ = some (.int .i64 z) := c0; have d2 : wr.drew.cell? ⟨b2, o2 + k, none⟩ = some (.int .i64 z) := d0; have hd := hbl.drew; go_wp2
      go_quiet (fail)
      go_wp2
      go_quiet (fail)
      go_wp2; exact ⟨⟨k + 1, by omega, by go_num, below_drewN hbl _⟩, by simp [intOf]; omega⟩
    · have h1' : ¬ (k : Int) < (N : Int) := by omega
      have hz : IntKind.i64.wrap ((N : Int) - (N : Int)) = 0 := by rw [Int.sub_self]; rfl
      go_wp2_with fail
      refine (HSG.out _).mono ?_; rintro e w1 ⟨rfl, rfl⟩; go_wp2; go_ret; exact ⟨rfl, hbl⟩
set_option maxHeartbeats 800000 in
theorem ints_same (a b : Option Addr) (ca cb : Nat) (l : List Int) (hl : l.length ≤ 1000000) (w : World) (hr : Rd w a (l.map (Value.int .i64))) (hs : Rd w b (l.map (Value.int .i64))) :
    Calls Tryz.prog 23 #[.slice a l.length ca, .slice b l.length cb] w fun e w' => e = .returned (.bool true) ∧ Below w.heap.size w w' := by
  have H := Lib.hid (cmp_same a b ca cb l hl w hr hs); clear hr hs
  go_enter Tryz.func23, Tryz.ntmps23
  go_wp2_with fail
  refine H.out.mono ?_; rintro e w1 ⟨rfl, hb⟩; go_wp2; go_ret; exact ⟨rfl, hb⟩
end Go.Proofs.YtkfgbjjelcigcaaGreatDoor
/- graticulelaw30.Same, of the same items. -/
set_option linter.unusedVariables false
set_option linter.unusedSimpArgs false
set_option maxRecDepth 100000
namespace Go.Proofs.YtkfgbjjelcigcaaGreatDoor
open Go.RowKit
set_option maxHeartbeats 6400000 in
theorem isame_any (a b : Option Addr) (ca cb : Nat) (X Y : List It) (hxy : X.map It.core = Y.map It.core) (hl : X.length ≤ 100000) (hn : ∀ x ∈ X, x.n.length ≤ 1000000) (w : World) (hr : Rd w a (its X)) (hs : Rd w b (its Y)) (hX : ∀ x ∈ X, x.Ok w) (hY : ∀ y ∈ Y, y.Ok w) :
    Calls Tryz.prog 11 #[.slice a X.length ca, .slice b Y.length cb] w fun e w' => e = .returned (.bool true) ∧ Below w.heap.size w w' := by
  have HLW : Hid (Below w.heap.size w w) := Lib.hid (Below.refl _ _); have HR := Lib.hid hr; have HS := Lib.hid hs; have HX := Lib.hid hX; have HY := Lib.hid hY; have HN0 := Lib.hid hn; have hlen : Y.length = X.length := by have := congrArg List.length hxy; simpa using this.symm
  have HC : Hid (∀ (i : Nat) (h1 : i < X.length) (h2 : i < Y.length), X[i].core = Y[i].core) := Lib.hid (fun i h1 h2 => by
    have h3 : (X.map It.core)[i]? = (Y.map It.core)[i]? := by rw [hxy]
    simpa [h1, h2] using h3)
  obtain ⟨N, hN⟩ : ∃ N, X.length = N := ⟨_, rfl⟩; have HN := Lib.hid hN; have HM : Hid (Y.length = N) := Lib.hid (hlen.trans hN); rw [hlen, hN]; rw [hN] at hl; clear hr hs hN hX hY hn hlen hxy
  go_enter Tryz.func11, Tryz.ntmps11
  go_wp2
  go_loopw [5] (fun i wr => ∃ k : Nat, k ≤ N ∧ i = .int .i64 k ∧ Below w.heap.size w wr) (fun i _ => N - (intOf i).toNat)
  case atStart => exact ⟨0, by omega, rfl, Below.refl _ _⟩
  case round =>
    obtain ⟨i, hi, rfl, hbl⟩ := hrel
    by_cases h1 : i < N
    · have h1' : (i : Int) < (N : Int) := by omega
      have hil : i < X.length := by rw [HN.out]; exact h1
      have hil2 : i < Y.length := by rw [HM.out]; exact h1
      obtain ⟨b1, o1, rfl, hbb, c0, c1, c2, c3, c4, c5⟩ := HR.out.it i hil; obtain ⟨b2, o2, rfl, hbb2, d0, d1, d2, d3, d4, d5⟩ := HS.out.it i hil2; have hc := HC.out i hil hil2; have hxo := HX.out X[i] (List.getElem_mem hil); have hyo := HY.out Y[i] (List.getElem_mem hil2); have hnl := HN0.out X[i] (List.getElem_mem hil); generalize X[i] = x at *; generalize Y[i] = y at *; obtain ⟨kd, n, key, ⟨v1, v2, v3⟩, np, nc⟩ := x; obtain ⟨kd', n', key', ⟨v1', v2', v3'⟩, mp, mc⟩ := y; simp only [It.core, Prod.mk.injEq] at hc; obtain ⟨rfl, rfl, rfl, rfl, rfl, rfl⟩ := hc; have HI := Lib.hid (fun (W : World) (hW : Below w.heap.size w W) => ints_same np mp nc mc n hnl W (hxo.1.keep hW) (hyo.1.keep hW)); dsimp only [It.nval] at c0 c1 c2 c3 c4 c5 d0 d1 d2 d3 d4 d5 HI; clear hxo hyo hnl; generalize n.length = NL at *; go_wp2; refine wp_region_lit_txt [0, 1, 2, 3, 4, 5, 6, 7, 8, 9, 10, 11, 12, 13, 14, 15, 16, 17, 18, 19, 20, 21, 23, 24, 25, 26, 27, 28, 29, 30, 31, 32, 33, 34, 35, 36, 37, 38, 39, 40, 41, 42, 43, 44, 45, 46, 47, 48, 49, 50] (fun W => Below w.heap.size w W) (by kernel_rfl) (by kernel_rfl) (by kernel_rfl) (hbl.drew) ?_
      iterate 4 ((refine txt_light ?_ rfl rfl ?_ ?_; rotate_left; · (intro w' hS; (try dsimp only at hS); go_simp; with_reducible rfl)); try simp only [Act.put, List.getElem_toArray, List.getElem_cons_succ, List.getElem_cons_zero, List.setIfInBounds_toArray, List.set_cons_zero, List.set_cons_succ])
      refine txt_light (.int .i64 kd) rfl rfl ?_ ?_
      · intro w' hS; have e0 := (hS.cell (p := ⟨b1, o1 + i * 6, none⟩) hbb).trans c0; clear hS; go_simp
      try simp only [Act.put, List.getElem_toArray, List.getElem_cons_succ, List.getElem_cons_zero, List.setIfInBounds_toArray, List.set_cons_zero, List.set_cons_succ]
      iterate 4 ((refine txt_light ?_ rfl rfl ?_ ?_; rotate_left; · (intro w' hS; (try dsimp only at hS); go_simp; with_reducible rfl)); try simp only [Act.put, List.getElem_toArray, List.getElem_cons_succ, List.getElem_cons_zero, List.setIfInBounds_toArray, List.set_cons_zero, List.set_cons_succ])
      refine txt_light (.int .i64 kd) rfl rfl ?_ ?_
      · intro w' hS; have e0 := (hS.cell (p := ⟨b2, o2 + i * 6, none⟩) hbb2).trans d0; clear hS; go_simp
      try simp only [Act.put, List.getElem_toArray, List.getElem_cons_succ, List.getElem_cons_zero, List.setIfInBounds_toArray, List.set_cons_zero, List.set_cons_succ]
      iterate 6 ((refine txt_light ?_ rfl rfl ?_ ?_; rotate_left; · (intro w' hS; (try dsimp only at hS); go_simp; with_reducible rfl)); try simp only [Act.put, List.getElem_toArray, List.getElem_cons_succ, List.getElem_cons_zero, List.setIfInBounds_toArray, List.set_cons_zero, List.set_cons_succ])
      refine txt_light (.slice np NL nc) rfl rfl ?_ ?_
      · intro w' hS; have e0 := (hS.cell (p := ⟨b1, o1 + i * 6 + 1, none⟩) hbb).trans c1; clear hS; go_simp
      try simp only [Act.put, List.getElem_toArray, List.getElem_cons_succ, List.getElem_cons_zero, List.setIfInBounds_toArray, List.set_cons_zero, List.set_cons_succ]
      iterate 4 ((refine txt_light ?_ rfl rfl ?_ ?_; rotate_left; · (intro w' hS; (try dsimp only at hS); go_simp; with_reducible rfl)); try simp only [Act.put, List.getElem_toArray, List.getElem_cons_succ, List.getElem_cons_zero, List.setIfInBounds_toArray, List.set_cons_zero, List.set_cons_succ])
      refine txt_light (.slice mp NL mc) rfl rfl ?_ ?_
      · intro w' hS; have e0 := (hS.cell (p := ⟨b2, o2 + i * 6 + 1, none⟩) hbb2).trans d1; clear hS; go_simp
      try simp only [Act.put, List.getElem_toArray, List.getElem_cons_succ, List.getElem_cons_zero, List.setIfInBounds_toArray, List.set_cons_zero, List.set_cons_succ]
      have hb1 := hbl.drew; generalize wr.drew = W1 at *; refine txt_call [.slice np NL nc, .slice mp NL mc] Tryz.f23 rfl rfl Tryz.func23 (by kernel_rfl) (by kernel_rfl) rfl ((HI.out W1 hb1).mono ?_); rintro e W2 ⟨rfl, hx1⟩; have hb2 := hb1.trans (hx1.mono hb1.size); refine ⟨_, rfl, hb2, ?_⟩; clear hx1 hb1
      try simp only [Act.put, List.getElem_toArray, List.getElem_cons_succ, List.getElem_cons_zero, List.setIfInBounds_toArray, List.set_cons_zero, List.set_cons_succ]
      iterate 7 ((refine txt_light ?_ rfl rfl ?_ ?_; rotate_left; · (intro w' hS; (try dsimp only at hS); go_simp; with_reducible rfl)); try simp only [Act.put, List.getElem_toArray, List.getElem_cons_succ, List.getElem_cons_zero, List.setIfInBounds_toArray, List.set_cons_zero, List.set_cons_succ])
      refine txt_light (.string key) rfl rfl ?_ ?_
      · intro w' hS; have e0 := (hS.cell (p := ⟨b1, o1 + i * 6 + 2, none⟩) hbb).trans c2; clear hS; go_simp
      try simp only [Act.put, List.getElem_toArray, List.getElem_cons_succ, List.getElem_cons_zero, List.setIfInBounds_toArray, List.set_cons_zero, List.set_cons_succ]
      iterate 4 ((refine txt_light ?_ rfl rfl ?_ ?_; rotate_left; · (intro w' hS; (try dsimp only at hS); go_simp; with_reducible rfl)); try simp only [Act.put, List.getElem_toArray, List.getElem_cons_succ, List.getElem_cons_zero, List.setIfInBounds_toArray, List.set_cons_zero, List.set_cons_succ])
      refine txt_light (.string key) rfl rfl ?_ ?_
      · intro w' hS; have e0 := (hS.cell (p := ⟨b2, o2 + i * 6 + 2, none⟩) hbb2).trans d2; clear hS; go_simp
      try simp only [Act.put, List.getElem_toArray, List.getElem_cons_succ, List.getElem_cons_zero, List.setIfInBounds_toArray, List.set_cons_zero, List.set_cons_succ]
      iterate 7 ((refine txt_light ?_ rfl rfl ?_ ?_; rotate_left; · (intro w' hS; (try dsimp only at hS); go_simp; with_reducible rfl)); try simp only [Act.put, List.getElem_toArray, List.getElem_cons_succ, List.getElem_cons_zero, List.setIfInBounds_toArray, List.set_cons_zero, List.set_cons_succ])
      refine txt_light (.agg #[.int .i64 v1, .string v2, .int .i64 v3]) rfl rfl ?_ ?_
      · intro w' hS; have e3 := (hS.cell (p := ⟨b1, o1 + i * 6 + 3, none⟩) hbb).trans c3; have e4 := (hS.cell (p := ⟨b1, o1 + i * 6 + 4, none⟩) hbb).trans c4; have e5 := (hS.cell (p := ⟨b1, o1 + i * 6 + 5, none⟩) hbb).trans c5; clear hS; go_simp
      try simp only [Act.put, List.getElem_toArray, List.getElem_cons_succ, List.getElem_cons_zero, List.setIfInBounds_toArray, List.set_cons_zero, List.set_cons_succ]
      iterate 4 ((refine txt_light ?_ rfl rfl ?_ ?_; rotate_left; · (intro w' hS; (try dsimp only at hS); go_simp; with_reducible rfl)); try simp only [Act.put, List.getElem_toArray, List.getElem_cons_succ, List.getElem_cons_zero, List.setIfInBounds_toArray, List.set_cons_zero, List.set_cons_succ])
      refine txt_light (.agg #[.int .i64 v1, .string v2, .int .i64 v3]) rfl rfl ?_ ?_
      · intro w' hS; have e3 := (hS.cell (p := ⟨b2, o2 + i * 6 + 3, none⟩) hbb2).trans d3; have e4 := (hS.cell (p := ⟨b2, o2 + i * 6 + 4, none⟩) hbb2).trans d4; have e5 := (hS.cell (p := ⟨b2, o2 + i * 6 + 5, none⟩) hbb2).trans d5; clear hS; go_simp
      try simp only [Act.put, List.getElem_toArray, List.getElem_cons_succ, List.getElem_cons_zero, List.setIfInBounds_toArray, List.set_cons_zero, List.set_cons_succ]
      iterate 2 ((refine txt_light ?_ rfl rfl ?_ ?_; rotate_left; · (intro w' hS; (try dsimp only at hS); go_simp; with_reducible rfl)); try simp only [Act.put, List.getElem_toArray, List.getElem_cons_succ, List.getElem_cons_zero, List.setIfInBounds_toArray, List.set_cons_zero, List.set_cons_succ])
      refine txt_nil ?_; clear c0 c1 c2 c3 c4 c5 d0 d1 d2 d3 d4 d5 HI; go_wp2; exact ⟨⟨i + 1, by omega, by go_num, hb2⟩, by simp [intOf]; omega⟩
    · have h1' : ¬ (i : Int) < (N : Int) := by omega
      go_wp2; go_ret; exact ⟨rfl, hbl⟩
end Go.Proofs.YtkfgbjjelcigcaaGreatDoor
