/-
  graticulelaw11.Same, graticulelaw22.Same of any rows. Layers that are the same. The store of a whole struct into a block, as one step (many cells).
-/
import Derived.Test.YtjggoajfilnfjaaGreatPk28
import Derived.Test.YtjggoajfilnfjaaGreatPk15
import Derived.Test.YtjggoajfilnfjaaGreatPk1
import Derived.Laws.Tables
set_option linter.unusedVariables false
set_option linter.unusedSimpArgs false
set_option maxRecDepth 100000
namespace Go.Proofs.YtjggoajfilnfjaaGreat
open Go.RowKit
set_option maxHeartbeats 6400000 in
theorem asame_any (a b : Option Addr) (ca cb : Nat) (L M : List At) (hl : L.length ≤ 1000000) (hm : M.length ≤ 1000000) (w : World) (hr : Rd w a (ats L)) (hs : Rd w b (ats M)) :
  Calls Tryz.prog 42 #[.slice a L.length ca, .slice b M.length cb] w fun e w' => e = .returned (.bool (decide (L = M))) ∧ Below w.heap.size w w' := by
 have HR := Lib.hid hr; have HS := Lib.hid hs; have HBF : Hid (L ≠ M → decide (L = M) = false) := Lib.hid (fun h => decide_eq_false h); have HBT : Hid (L = M → decide (L = M) = true) := Lib.hid (fun h => decide_eq_true h); have HLN : Hid (L.length ≠ M.length → decide (L = M) = false) := Lib.hid (fun h => decide_eq_false (fun e => h (by rw [e]))); generalize decide (L = M) = B at *; obtain ⟨N, hN⟩ : ∃ N, L.length = N := ⟨_, rfl⟩; obtain ⟨N2, hN2⟩ : ∃ N, M.length = N := ⟨_, rfl⟩; have HN := Lib.hid hN; have HN2 := Lib.hid hN2; rw [hN] at hl HLN ⊢; rw [hN2] at hm HLN ⊢; clear hr hs hN hN2
 by_cases hlen : N = N2
 ·subst hlen
  go_enter Tryz.func42, Tryz.ntmps42
  go_wp2
  go_loopw [5] (fun i wr => ∃ k : Nat, k ≤ N ∧ i = .int .i64 k ∧ Hid (L.take k = M.take k) ∧ Below w.heap.size w wr) (fun i _ => N - (intOf i).toNat)
  case atStart => exact ⟨0, by omega, rfl, Lib.hid rfl, Below.refl _ _⟩
  case round =>
   obtain ⟨k, hk, rfl, HE, hbl⟩ := hrel
   by_cases h1 : k < N
   ·have h1' : (k : Int) < (N : Int) := by omega
    have hkl : k < L.length := by rw [HN.out]; exact h1
    have hkm : k < M.length := by rw [HN2.out]; exact h1
    obtain ⟨b1, o1, rfl, hbb, c0, c1, c2, c3⟩ := (HR.out.keep hbl).atr k hkl; obtain ⟨b2, o2, rfl, hbb2, d0, d1, d2, d3⟩ := (HS.out.keep hbl).atr k hkm; have HST : Hid (L[k] = M[k] → L.take (k + 1) = M.take (k + 1)) := Lib.hid fun h => by rw [List.take_succ_eq_append_getElem hkl, List.take_succ_eq_append_getElem hkm, HE.out, h]
    have HNO : Hid (L[k] ≠ M[k] → B = false) := Lib.hid fun hx => HBF.out (fun h => hx (by simp [h])); generalize L[k] = p at *; generalize M[k] = q at *; obtain ⟨x0, x1, x2, x3⟩ := p; obtain ⟨y0, y1, y2, y3⟩ := q; dsimp only at c0 c1 c2 c3 d0 d1 d2 d3
    by_cases h10 : x0 = y0
    ·subst h10
     by_cases h11 : x1 = y1
     ·subst h11
      by_cases h12 : x2 = y2
      ·subst h12
       by_cases h13 : x3 = y3
       ·subst h13; go_wp2
        go_quiet (fail)
        go_wp2; exact ⟨⟨k + 1, by omega, by go_num, Lib.hid (HST.out trivial), below_drewN hbl _⟩, by simp [intOf]; omega⟩
       ·have hB : B = false := HNO.out (by simp [h13]); have hs3 := h13; have ht3 : x3 ≠ y3 := h13; clear HNO HST; subst hB; go_wp2
        go_quiet (fail)
        go_wp2; go_ret; exact ⟨rfl, below_drewN hbl _⟩
      ·have hB : B = false := HNO.out (by simp [h12]); have hs2 : ¬ x2.toList = y2.toList := fun h => h12 ((ba_injq _ _).2 h); have ht2 : x2 ≠ y2 := h12; clear HNO HST; subst hB; go_wp2
       go_quiet (fail)
       go_wp2; go_ret; exact ⟨rfl, below_drewN hbl _⟩
     ·have hB : B = false := HNO.out (by simp [h11]); have hs1 := h11; have ht1 : x1 ≠ y1 := h11; clear HNO HST; subst hB; go_wp2
      go_quiet (fail)
      go_wp2; go_ret; exact ⟨rfl, below_drewN hbl _⟩
    ·have hB : B = false := HNO.out (by simp [h10]); have hs0 : ¬ x0.toList = y0.toList := fun h => h10 ((ba_injq _ _).2 h); have ht0 : x0 ≠ y0 := h10; clear HNO HST; subst hB; go_wp2
     go_quiet (fail)
     go_wp2; go_ret; exact ⟨rfl, below_drewN hbl _⟩
   ·have h1' : ¬ (k : Int) < (N : Int) := by omega
    have hB : B = true := HBT.out (by
     have := HE.out
     rwa [List.take_of_length_le (by rw [HN.out]; omega), List.take_of_length_le (by rw [HN2.out]; omega)] at this)
    subst hB; go_wp2; go_ret; exact ⟨rfl, hbl⟩
 ·have hne : ((N : Int) != (N2 : Int)) = true := by simp; omega
  have hne2 : ¬ ((N : Int) = (N2 : Int)) := by omega
  have hB : B = false := HLN.out hlen
  go_enter Tryz.func42, Tryz.ntmps42
  subst hB; go_wp2; go_ret; exact ⟨rfl, Below.refl _ _⟩
set_option maxHeartbeats 6400000 in
theorem l22same_any (a b : Option Addr) (ca cb : Nat) (L M : List PC) (hl : L.length ≤ 1000000) (hm : M.length ≤ 1000000) (hz : ∀ x ∈ L, x.l.length ≤ 1000000) (hz2 : ∀ x ∈ M, x.l.length ≤ 1000000) (w : World) (hr : Rd w a (rcs L)) (hs : Rd w b (rcs M)) (hL : ∀ x ∈ L, x.Ok w) (hM : ∀ x ∈ M, x.Ok w) :
  Calls Tryz.prog 43 #[.slice a L.length ca, .slice b M.length cb] w fun e w' => e = .returned (.bool (decide (L.map PC.l = M.map PC.l))) ∧ Below w.heap.size w w' := by
 have HR := Lib.hid hr; have HS := Lib.hid hs; have HL := Lib.hid hL; have HM := Lib.hid hM; have HZ := Lib.hid hz; have HZ2 := Lib.hid hz2; have HBF : Hid (L.map PC.l ≠ M.map PC.l → decide (L.map PC.l = M.map PC.l) = false) := Lib.hid (fun h => decide_eq_false h); have HBT : Hid (L.map PC.l = M.map PC.l → decide (L.map PC.l = M.map PC.l) = true) := Lib.hid (fun h => decide_eq_true h); have HLN : Hid (L.length ≠ M.length → decide (L.map PC.l = M.map PC.l) = false) := Lib.hid (fun h => decide_eq_false (fun e => h (by have := congrArg List.length e; simpa using this))); generalize decide (L.map PC.l = M.map PC.l) = B at *; obtain ⟨N, hN⟩ : ∃ N, L.length = N := ⟨_, rfl⟩; obtain ⟨N2, hN2⟩ : ∃ N, M.length = N := ⟨_, rfl⟩; have HN := Lib.hid hN; have HN2 := Lib.hid hN2; rw [hN] at hl HLN ⊢; rw [hN2] at hm HLN ⊢; clear hr hs hN hN2 hL hM hz hz2
 by_cases hlen : N = N2
 ·subst hlen
  go_enter Tryz.func43, Tryz.ntmps43
  go_wp2
  go_loopw [5] (fun i wr => ∃ k : Nat, k ≤ N ∧ i = .int .i64 k ∧ Hid ((L.take k).map PC.l = (M.take k).map PC.l) ∧ Below w.heap.size w wr) (fun i _ => N - (intOf i).toNat)
  case atStart => exact ⟨0, by omega, rfl, Lib.hid rfl, Below.refl _ _⟩
  case round =>
   obtain ⟨k, hk, rfl, HE, hbl⟩ := hrel
   by_cases h1 : k < N
   ·have h1' : (k : Int) < (N : Int) := by omega
    have hkl : k < L.length := by rw [HN.out]; exact h1
    have hkm : k < M.length := by rw [HN2.out]; exact h1
    obtain ⟨b1, o1, rfl, hbb, c0⟩ := (HR.out.keep hbl).rc k hkl; obtain ⟨b2, o2, rfl, hbb2, d0⟩ := (HS.out.keep hbl).rc k hkm; have HST : Hid (PC.l L[k] = PC.l M[k] → (L.take (k + 1)).map PC.l = (M.take (k + 1)).map PC.l) := Lib.hid fun h => by rw [List.take_succ_eq_append_getElem hkl, List.take_succ_eq_append_getElem hkm, List.map_append, List.map_append, HE.out, List.map_singleton, List.map_singleton, h]
    have HNO : Hid (PC.l L[k] ≠ PC.l M[k] → B = false) := Lib.hid fun hx => HBF.out (fun h => hx (by
     have := congrArg (fun z => z[k]?) h; simp [hkl, hkm] at this; exact this))
    have hx := (HL.out _ (List.getElem_mem hkl)).keep hbl; have hy := (HM.out _ (List.getElem_mem hkm)).keep hbl; have hzx := HZ.out _ (List.getElem_mem hkl); have hzy := HZ2.out _ (List.getElem_mem hkm); generalize L[k] = x at *; generalize M[k] = y at *; have HC := Lib.hid (fun W (h : Below wr.heap.size wr W) => l3same_any x.p y.p x.c y.c x.l y.l (by omega) (by omega) W (hx.1.keep h) (hy.1.keep h)); clear hx hy hzx hzy; have hcs : PC.l x = PC.l y ∨ PC.l x ≠ PC.l y := Classical.em _
    rcases hcs with hc | hc
    ·rw [decide_eq_true hc] at HC; have HS2 := Lib.hid (HST.out hc); clear HST HNO hc; obtain ⟨xl, xp, xc⟩ := x; obtain ⟨yl, yp, yc⟩ := y; dsimp only [PC.val] at c0 d0 HC; go_wp2; have hd := (Below.refl wr.heap.size wr).drew; refine wp_region_lit_txt [0, 1, 2, 3, 4, 5, 6, 7, 9] (fun W => W.cell? ⟨b1, o1 + k, none⟩ = some (.slice xp xl.length xc) ∧ W.cell? ⟨b2, o2 + k, none⟩ = some (.slice yp yl.length yc)) (by kernel_rfl) (by kernel_rfl) (by kernel_rfl) ⟨c0, d0⟩ ?_
     iterate 3 ((refine txt_light ?_ rfl rfl ?_ ?_; rotate_left; · (intro w' hS; (try dsimp only at hS); go_simp; with_reducible rfl)); try simp only [Act.put, List.getElem_toArray, List.getElem_cons_succ, List.getElem_cons_zero, List.setIfInBounds_toArray, List.set_cons_zero, List.set_cons_succ])
     refine txt_light (.slice xp xl.length xc) rfl rfl ?_ ?_
     ·intro w' hS; have c0 := hS.1; go_simp
     try simp only [Act.put, List.getElem_toArray, List.getElem_cons_succ, List.getElem_cons_zero, List.setIfInBounds_toArray, List.set_cons_zero, List.set_cons_succ]
     iterate 3 ((refine txt_light ?_ rfl rfl ?_ ?_; rotate_left; · (intro w' hS; (try dsimp only at hS); go_simp; with_reducible rfl)); try simp only [Act.put, List.getElem_toArray, List.getElem_cons_succ, List.getElem_cons_zero, List.setIfInBounds_toArray, List.set_cons_zero, List.set_cons_succ])
     refine txt_light (.slice yp yl.length yc) rfl rfl ?_ ?_
     ·intro w' hS; have c0 := hS.2; go_simp
     try simp only [Act.put, List.getElem_toArray, List.getElem_cons_succ, List.getElem_cons_zero, List.setIfInBounds_toArray, List.set_cons_zero, List.set_cons_succ]
     refine txt_call [.slice xp xl.length xc, .slice yp yl.length yc] Tryz.f74 rfl rfl Tryz.func74 (by kernel_rfl) (by kernel_rfl) rfl ((HC.out _ hd).mono ?_); rintro e w1 ⟨rfl, hb1⟩; have hdb := hd.trans (hb1.mono hd.size); have hb3 := hbl.trans (hdb.mono hbl.size); refine ⟨_, rfl, ⟨(hdb.cell (p := ⟨b1, o1 + k, none⟩) hbb).trans c0, (hdb.cell (p := ⟨b2, o2 + k, none⟩) hbb2).trans d0⟩, ?_⟩
     try simp only [Act.put, List.getElem_toArray, List.getElem_cons_succ, List.getElem_cons_zero, List.setIfInBounds_toArray, List.set_cons_zero, List.set_cons_succ]
     (refine txt_light ?_ rfl rfl ?_ ?_; rotate_left; · (intro w' hS; (try dsimp only at hS); go_simp; with_reducible rfl)); try simp only [Act.put, List.getElem_toArray, List.getElem_cons_succ, List.getElem_cons_zero, List.setIfInBounds_toArray, List.set_cons_zero, List.set_cons_succ]
     refine txt_nil ?_; clear c0 d0 hb1 hdb hd; go_wp2; exact ⟨⟨k + 1, by omega, by go_num, HS2, hb3⟩, by simp [intOf]; omega⟩
    ·rw [decide_eq_false hc] at HC; have hB : B = false := HNO.out hc; subst hB; clear HST HNO hc; obtain ⟨xl, xp, xc⟩ := x; obtain ⟨yl, yp, yc⟩ := y; dsimp only [PC.val] at c0 d0 HC; go_wp2; have hd := (Below.refl wr.heap.size wr).drew; refine wp_region_lit_txt [0, 1, 2, 3, 4, 5, 6, 7, 9] (fun W => W.cell? ⟨b1, o1 + k, none⟩ = some (.slice xp xl.length xc) ∧ W.cell? ⟨b2, o2 + k, none⟩ = some (.slice yp yl.length yc)) (by kernel_rfl) (by kernel_rfl) (by kernel_rfl) ⟨c0, d0⟩ ?_
     iterate 3 ((refine txt_light ?_ rfl rfl ?_ ?_; rotate_left; · (intro w' hS; (try dsimp only at hS); go_simp; with_reducible rfl)); try simp only [Act.put, List.getElem_toArray, List.getElem_cons_succ, List.getElem_cons_zero, List.setIfInBounds_toArray, List.set_cons_zero, List.set_cons_succ])
     refine txt_light (.slice xp xl.length xc) rfl rfl ?_ ?_
     ·intro w' hS; have c0 := hS.1; go_simp
     try simp only [Act.put, List.getElem_toArray, List.getElem_cons_succ, List.getElem_cons_zero, List.setIfInBounds_toArray, List.set_cons_zero, List.set_cons_succ]
     iterate 3 ((refine txt_light ?_ rfl rfl ?_ ?_; rotate_left; · (intro w' hS; (try dsimp only at hS); go_simp; with_reducible rfl)); try simp only [Act.put, List.getElem_toArray, List.getElem_cons_succ, List.getElem_cons_zero, List.setIfInBounds_toArray, List.set_cons_zero, List.set_cons_succ])
     refine txt_light (.slice yp yl.length yc) rfl rfl ?_ ?_
     ·intro w' hS; have c0 := hS.2; go_simp
     try simp only [Act.put, List.getElem_toArray, List.getElem_cons_succ, List.getElem_cons_zero, List.setIfInBounds_toArray, List.set_cons_zero, List.set_cons_succ]
     refine txt_call [.slice xp xl.length xc, .slice yp yl.length yc] Tryz.f74 rfl rfl Tryz.func74 (by kernel_rfl) (by kernel_rfl) rfl ((HC.out _ hd).mono ?_); rintro e w1 ⟨rfl, hb1⟩; have hdb := hd.trans (hb1.mono hd.size); have hb3 := hbl.trans (hdb.mono hbl.size); refine ⟨_, rfl, ⟨(hdb.cell (p := ⟨b1, o1 + k, none⟩) hbb).trans c0, (hdb.cell (p := ⟨b2, o2 + k, none⟩) hbb2).trans d0⟩, ?_⟩
     try simp only [Act.put, List.getElem_toArray, List.getElem_cons_succ, List.getElem_cons_zero, List.setIfInBounds_toArray, List.set_cons_zero, List.set_cons_succ]
     (refine txt_light ?_ rfl rfl ?_ ?_; rotate_left; · (intro w' hS; (try dsimp only at hS); go_simp; with_reducible rfl)); try simp only [Act.put, List.getElem_toArray, List.getElem_cons_succ, List.getElem_cons_zero, List.setIfInBounds_toArray, List.set_cons_zero, List.set_cons_succ]
     refine txt_nil ?_; clear c0 d0 hb1 hdb hd; go_wp2; go_ret; exact ⟨rfl, hb3⟩
   ·have h1' : ¬ (k : Int) < (N : Int) := by omega
    have hB : B = true := HBT.out (by
     have := HE.out
     rwa [List.take_of_length_le (by rw [HN.out]; omega), List.take_of_length_le (by rw [HN2.out]; omega)] at this)
    subst hB; go_wp2; go_ret; exact ⟨rfl, hbl⟩
 ·have hne : ((N : Int) != (N2 : Int)) = true := by simp; omega
  have hne2 : ¬ ((N : Int) = (N2 : Int)) := by omega
  have hB : B = false := HLN.out hlen
  go_enter Tryz.func43, Tryz.ntmps43
  subst hB; go_wp2; go_ret; exact ⟨rfl, Below.refl _ _⟩
end Go.Proofs.YtjggoajfilnfjaaGreat
namespace Go
instance : DecidableEq FtC := fun a b => instDecidableEqProd a b
instance : DecidableEq LyC := fun a b => instDecidableEqProd a b
end Go
namespace Go
open Go.RowKit
theorem Blk.setRow {w : World} {b : Nat} {vs : List Value} (h : Blk w b vs) (us : List Value) : Blk (w.setRow b us.toArray) b us := by
 obtain ⟨T, h⟩ := h; exact ⟨T, setRow_heap w b _ _ T _ h⟩
theorem Blk.setRow_ne {w : World} {b c : Nat} {vs : List Value} (h : Blk w b vs) (hp : b ≠ c) (us : Array Value) : Blk (w.setRow c us) b vs :=
 h.of_block (setRow_other w c b us hp)
theorem RowKit.Below.setRow {B : Nat} {a w : World} (h : Below B a w) {b : Nat} (hp : B ≤ b) (us : Array Value) : Below B a (w.setRow b us) :=
 h.trans ⟨rfl, rfl, rfl, by simp, fun k hk => setRow_other w b k us (by omega)⟩
theorem wp_store_blk {P : Program} {o : Oper} {a : Act} {w : World} {K : Act → World → Prop} {Q : Exit → Act → World → Prop} (ty : TypeId) (x y : Operand) (ho : o.op = .store ty x y)
  (b : Nat) (vs us : List Value) (hx : a.eval x = .pointer (some ⟨b, 0, none⟩)) (hy : a.eval y = .agg us.toArray) (hb : Blk w b vs) (hi : (P.info? ty).map (·.size) = some us.toArray.size)
  (hl : vs.length = us.length) (h1 : us.all (·.oneCell') = true) (h : K (a.put o.dst undef) (w.setRow b us.toArray)) : o.wp P a w K Q := by
 obtain ⟨T, hb⟩ := hb; exact wp_store_row ty x y ho b us.toArray hx hy T vs.toArray hb hi (by simpa using hl) (by simpa using h1) h
end Go
