/-
  graticuleref03.On, above, Winding, behind, aboveLeft, Beside.
-/
import Derived.Test.YtdginfjlelpkmaaWvh
import Derived.Test.YtdginfjlelpkmaaRon
import Derived.Test.YtdginfjlelpkmaaExon
import Derived.Test.YtdginfjlelpkmaaRpts
import Derived.Test.YtdginfjlelpkmaaReg
import Derived.BigRegion
import Derived.RegionTactic
set_option linter.unusedVariables false
set_option linter.unusedSimpArgs false
set_option maxRecDepth 100000
namespace Go
open Go.RowKit
theorem edges_take (L : List Pt) (k : Nat) (hk : k < L.length) : (edges L).take (k + 1) = (edges L).take k ++ [(L[k], L[(k + 1) % L.length]'(Nat.mod_lt _ (by omega)))] := by
  have hm := Nat.mod_lt (k + 1) (show 0 < L.length by omega)
  have hek : (edges L)[k]? = some (L[k], L[(k + 1) % L.length]) := by
    unfold edges
    rw [List.getElem?_map, List.getElem?_range hk]
    simp only [Option.map_some]
    rw [getElem!_pos L k hk, getElem!_pos L _ hm]
  rw [List.take_add_one, hek]; rfl
theorem edges_mem (L : List Pt) (k : Nat) (hk : k < L.length) : (L[k], L[(k + 1) % L.length]'(Nat.mod_lt _ (by omega))) ∈ edges L := by
  have h := edges_take L k hk
  have : (L[k], L[(k + 1) % L.length]'(Nat.mod_lt _ (by omega))) ∈ (edges L).take (k + 1) := by rw [h]; simp
  exact List.mem_of_mem_take this
theorem edges_length (L : List Pt) : (edges L).length = L.length := by simp [edges]
end Go
namespace Go.Proofs.Ytdginfjlelpkmaa
open Go.RowKit

set_option maxHeartbeats 1600000 in
theorem rabove_any (a b p : Pt) (ha : okPt a = true) (hb : okPt b = true) (hp : okPt p = true) (w : World) :
    Calls Try.prog 60 #[a.val, b.val, p.val] w fun e w' => e = .returned (.int .i64 (abvE p (a, b))) ∧ Below w.heap.size w w' := by
  have HX := Lib.hid (fun w => rcross_any a b p ha hb hp w)
  obtain ⟨kA, kB, kC, hbl⟩ := three_lit w 40 a b p
  have HR : Hid (abvE p (a, b) = if a.x ≤ p.x ∧ p.x < b.x ∧ crs a b p < 0 then -1 else if b.x ≤ p.x ∧ p.x < a.x ∧ 0 < crs a b p then 1 else 0) := Lib.hid rfl
  generalize abvE p (a, b) = R at *
  generalize crs a b p = C at *
  obtain ⟨ax, ay⟩ := a
  obtain ⟨bx, bY⟩ := b
  obtain ⟨px, py⟩ := p
  dsimp only [Pt.val, Pt.cells] at *
  clear ha hb hp
  have a0 := kA.cell 0 rfl
  have a1 := kA.cell 1 rfl
  have b0 := kB.cell 0 rfl
  have b1 := kB.cell 1 rfl
  have c0 := kC.cell 0 rfl
  have c1 := kC.cell 1 rfl
  go_enter Try.func60, Try.ntmps60
  by_cases h1 : ax ≤ px <;> by_cases h2 : bx ≤ px
  · have h3 : ¬ px < bx := by omega
    have h4 : ¬ px < ax := by omega
    have h3 : decide (px < bx) = false := decide_eq_false (by omega)
    have h4 : decide (px < ax) = false := decide_eq_false (by omega)
    go_wp2
    go_ret
    exact ⟨ret_int (by rw [HR.out]; (repeat' split) <;> omega), hbl⟩
  · have h3 : px < bx := by omega
    go_wp2_with fail
    refine (HX.out _).mono ?_
    rintro e w1 ⟨rfl, hx1⟩
    have kA := kA.keep hx1
    have kB := kB.keep hx1
    have kC := kC.keep hx1
    have hbl := hbl.trans (hx1.mono hbl.size)
    clear a0 a1 b0 b1 c0 c1 hx1 HX
    have a0 := kA.cell 0 rfl
    have a1 := kA.cell 1 rfl
    have b0 := kB.cell 0 rfl
    have b1 := kB.cell 1 rfl
    have c0 := kC.cell 0 rfl
    have c1 := kC.cell 1 rfl
    by_cases h5 : C < 0
    · go_wp2
      go_ret
      exact ⟨ret_int (by rw [HR.out]; (repeat' split) <;> omega), hbl⟩
    · have h6 : decide (bx ≤ px) = false := decide_eq_false (by omega)
      go_wp2
      go_ret
      exact ⟨ret_int (by rw [HR.out]; (repeat' split) <;> omega), hbl⟩
  · have h3 : px < ax := by omega
    have h4 : decide (ax ≤ px) = false := decide_eq_false (by omega)
    go_wp2_with fail
    refine (HX.out _).mono ?_
    rintro e w1 ⟨rfl, hx1⟩
    have hbl := hbl.trans (hx1.mono hbl.size)
    clear a0 a1 b0 b1 c0 c1 hx1 HX kA kB kC
    by_cases h5 : 0 < C
    · go_wp2
      go_ret
      exact ⟨ret_int (by rw [HR.out]; (repeat' split) <;> omega), hbl⟩
    · go_wp2
      go_ret
      exact ⟨ret_int (by rw [HR.out]; (repeat' split) <;> omega), hbl⟩
  · have h4 : decide (ax ≤ px) = false := decide_eq_false (by omega)
    have h6 : decide (bx ≤ px) = false := decide_eq_false (by omega)
    go_wp2
    go_ret
    exact ⟨ret_int (by rw [HR.out]; (repeat' split) <;> omega), hbl⟩

set_option maxHeartbeats 6400000 in
theorem ron3_any (a : Option Addr) (c : Nat) (L : List Pt) (hlen : L.length ≤ 1000) (hok : L.all okPt = true) (p : Pt) (hp : okPt p = true) (w : World) (hr : Rd w a (pts L)) :
    Calls Try.prog 40 #[.slice a L.length c, p.val] w fun e w' => e = .returned (.bool (!(edges L).all (offB p))) ∧ Below w.heap.size w w' := by
  have HO := Lib.hid (fun x y (h1 : okPt x = true) (h2 : okPt y = true) W => ron_wide x y p (okW_of h1) (okW_of h2) (okW_of hp) W)
  have HOK := Lib.hid hok
  clear hok hp
  have k0 := Blk.lit w w.heap.size p.cells 40 rfl
  have hb0 := Below.new w (.cells p.cells.toArray 40)
  have hr0 := hr.keep hb0
  obtain ⟨B, hB⟩ : ∃ B, w.heap.size = B := ⟨_, rfl⟩
  have HBE := Lib.hid hB
  have HOF : ∀ x y : Pt, offB p (x, y) = !onP x y p := fun x y => by unfold offB; rw [onX_onP]
  have HOF := Lib.hid HOF
  obtain ⟨px, py⟩ := p
  dsimp only [Pt.val, Pt.cells] at *
  go_enter Try.func40, Try.ntmps40
  go_wp2
  generalize hwP : w.alloc (.cells #[.int .i64 px, .int .i64 py] 40) = wP at *
  have hsw : w.heap.size < wP.heap.size := k0.lt
  rw [hB] at hsw k0 hb0
  clear hwP hB
  go_loopw [5] (fun i wr => ∃ k : Nat, k ≤ L.length ∧ i = .int .i64 k ∧ Hid (((edges L).take k).all (offB ⟨px, py⟩) = true) ∧ Below wP.heap.size wP wr) (fun i _ => L.length - (intOf i).toNat)
  case atStart => exact ⟨0, Nat.zero_le _, rfl, Lib.hid (by simp), Below.refl _ _⟩
  case round =>
    obtain ⟨k, hk, rfl, hall, hbl⟩ := hrel
    by_cases hlt : k < L.length
    · have hst := edges_take L k hlt
      have hmem := edges_mem L k hlt
      obtain ⟨q, hq⟩ : ∃ q, (k + 1) % L.length = q := ⟨_, rfl⟩
      have hql : q < L.length := by rw [← hq]; exact Nat.mod_lt _ (by omega)
      obtain ⟨b, off, rfl, hb, c0, c1⟩ := (hr0.keep hbl).pt k hlt
      obtain ⟨b', off', e, hb', d0, d1⟩ := (hr0.keep hbl).pt q hql
      cases e
      simp only [hq] at hst hmem
      have o1 := ok_get L HOK.out k hlt
      have o2 := ok_get L HOK.out q hql
      rw [getElem!_pos L k hlt] at o1
      rw [getElem!_pos L q hql] at o2
      have hrem : ((k : Int) + 1) % (L.length : Int) = (q : Int) := by rw [← hq]; simp
      have hrem2 : (IntKind.i64.wrap ((k : Int) + 1)).tmod (L.length : Int) = (q : Int) := by
        rw [IntWalk.i64_in _ (by omega), Int.tmod_eq_emod_of_nonneg (by omega)]
        exact hrem
      generalize L[k] = p1 at *
      generalize L[q] = p2 at *
      have q0 : (0 : Int) ≤ (q : Int) ∧ (q : Int) < (L.length : Int) := by omega
      have hnil : ¬ L = [] := by intro h; rw [h] at hlt; simp at hlt
      have hln : ¬ L.length = 0 := by omega
      have hs := hbl.size
      have HON := Lib.hid (HO.out p1 p2 o1 o2)
      have HST : Hid (((edges L).take (k + 1)).all (offB ⟨px, py⟩) = !onP p1 p2 ⟨px, py⟩) := Lib.hid (by rw [hst, List.all_append, hall.out, Bool.true_and, List.all_cons, List.all_nil, Bool.and_true, HOF.out])
      have HNO : Hid (onP p1 p2 ⟨px, py⟩ = true → (edges L).all (offB ⟨px, py⟩) = false) := Lib.hid (fun h => by
        rw [List.all_eq_false]; exact ⟨_, hmem, by rw [HOF.out, h]; simp⟩)
      generalize onP p1 p2 ⟨px, py⟩ = ON at *
      obtain ⟨x1, y1⟩ := p1
      obtain ⟨x2, y2⟩ := p2
      dsimp only [Pt.val] at c0 c1 d0 d1 HON
      have f0 := (k0.keep hbl).cell 0 rfl
      have f1 := (k0.keep hbl).cell 1 rfl
      clear hst hmem hr
      go_wp2_with fail
      refine wp_region_lit_txtZ none [0, 1, 2, 3, 4, 5, 6, 7, 8, 9, 10, 11, 12] (fun W => Below wr.heap.size wr W) (by kernel_rfl) (by kernel_rfl) (by kernel_rfl) (by kernel_rfl) (Below.refl _ _).drew ?_
      (refine txt_light ?_ rfl rfl ?_ ?_; rotate_left; · (intro w' hS; (try dsimp only at hS); go_simp; with_reducible rfl)); try simp only [Act.put, List.getElem_toArray, List.getElem_cons_succ, List.getElem_cons_zero, List.setIfInBounds_toArray, List.set_cons_zero, List.set_cons_succ]
      (refine txt_light ?_ rfl rfl ?_ ?_; rotate_left; · (intro w' hS; (try dsimp only at hS); go_simp; with_reducible rfl)); try simp only [Act.put, List.getElem_toArray, List.getElem_cons_succ, List.getElem_cons_zero, List.setIfInBounds_toArray, List.set_cons_zero, List.set_cons_succ]
      (refine txt_light ?_ rfl rfl ?_ ?_; rotate_left; · (intro w' hS; (try dsimp only at hS); go_simp; with_reducible rfl)); try simp only [Act.put, List.getElem_toArray, List.getElem_cons_succ, List.getElem_cons_zero, List.setIfInBounds_toArray, List.set_cons_zero, List.set_cons_succ]
      refine txt_light (.agg #[.int .i64 x1, .int .i64 y1]) rfl rfl ?_ ?_
      · intro w' hS
        have c5 := (hS.cell (p := ⟨b, off + k * 2, none⟩) hb).trans c0
        have c6 := (hS.cell (p := ⟨b, off + k * 2 + 1, none⟩) hb).trans c1
        clear hS
        go_simp
      try simp only [Act.put, List.getElem_toArray, List.getElem_cons_succ, List.getElem_cons_zero, List.setIfInBounds_toArray, List.set_cons_zero, List.set_cons_succ]
      (refine txt_light ?_ rfl rfl ?_ ?_; rotate_left; · (intro w' hS; (try dsimp only at hS); go_simp; with_reducible rfl)); try simp only [Act.put, List.getElem_toArray, List.getElem_cons_succ, List.getElem_cons_zero, List.setIfInBounds_toArray, List.set_cons_zero, List.set_cons_succ]
      (refine txt_light ?_ rfl rfl ?_ ?_; rotate_left; · (intro w' hS; (try dsimp only at hS); go_simp; with_reducible rfl)); try simp only [Act.put, List.getElem_toArray, List.getElem_cons_succ, List.getElem_cons_zero, List.setIfInBounds_toArray, List.set_cons_zero, List.set_cons_succ]
      (refine txt_light ?_ rfl rfl ?_ ?_; rotate_left; · (intro w' hS; (try dsimp only at hS); go_simp; with_reducible rfl)); try simp only [Act.put, List.getElem_toArray, List.getElem_cons_succ, List.getElem_cons_zero, List.setIfInBounds_toArray, List.set_cons_zero, List.set_cons_succ]
      (refine txt_light ?_ rfl rfl ?_ ?_; rotate_left; · (intro w' hS; (try dsimp only at hS); go_simp; with_reducible rfl)); try simp only [Act.put, List.getElem_toArray, List.getElem_cons_succ, List.getElem_cons_zero, List.setIfInBounds_toArray, List.set_cons_zero, List.set_cons_succ]
      (refine txt_light ?_ rfl rfl ?_ ?_; rotate_left; · (intro w' hS; (try dsimp only at hS); go_simp; with_reducible rfl)); try simp only [Act.put, List.getElem_toArray, List.getElem_cons_succ, List.getElem_cons_zero, List.setIfInBounds_toArray, List.set_cons_zero, List.set_cons_succ]
      refine txt_light (.int .i64 q) rfl rfl ?_ ?_
      · intro w' hS
        clear hS
        go_simp
      try simp only [Act.put, List.getElem_toArray, List.getElem_cons_succ, List.getElem_cons_zero, List.setIfInBounds_toArray, List.set_cons_zero, List.set_cons_succ]
      (refine txt_light ?_ rfl rfl ?_ ?_; rotate_left; · (intro w' hS; (try dsimp only at hS); go_simp; with_reducible rfl)); try simp only [Act.put, List.getElem_toArray, List.getElem_cons_succ, List.getElem_cons_zero, List.setIfInBounds_toArray, List.set_cons_zero, List.set_cons_succ]
      refine txt_light (.agg #[.int .i64 x2, .int .i64 y2]) rfl rfl ?_ ?_
      · intro w' hS
        have c5 := (hS.cell (p := ⟨b, off + q * 2, none⟩) hb).trans d0
        have c6 := (hS.cell (p := ⟨b, off + q * 2 + 1, none⟩) hb).trans d1
        clear hS
        go_simp
      try simp only [Act.put, List.getElem_toArray, List.getElem_cons_succ, List.getElem_cons_zero, List.setIfInBounds_toArray, List.set_cons_zero, List.set_cons_succ]
      refine txt_light (.agg #[.int .i64 px, .int .i64 py]) rfl rfl ?_ ?_
      · intro w' hS
        have c5 := (hS.cell (p := ⟨B, 0, none⟩) (by have := hbl.size; exact Nat.lt_of_lt_of_le hsw this)).trans f0
        have c6 := (hS.cell (p := ⟨B, 0 + 1, none⟩) (by have := hbl.size; exact Nat.lt_of_lt_of_le hsw this)).trans f1
        clear hS
        go_simp
      try simp only [Act.put, List.getElem_toArray, List.getElem_cons_succ, List.getElem_cons_zero, List.setIfInBounds_toArray, List.set_cons_zero, List.set_cons_succ]
      have hbd : Below wr.heap.size wr wr.drew := (Below.refl _ _).drew
      generalize wr.drew = W0 at *
      refine txt_heavy rfl rfl (fun K hK => ?_)
      go_step
      refine (HON.out W0).mono ?_
      rintro e W2 ⟨rfl, hb2⟩
      have hbd2 := hbd.trans (hb2.mono hbd.size)
      have hblf := hbl.trans (hbd2.mono hbl.size)
      dsimp only
      refine hK.out _ _ hbd2 ?_
      clear hK K hb2 hbd hbd2
      try simp only [Act.put, List.getElem_toArray, List.getElem_cons_succ, List.getElem_cons_zero, List.setIfInBounds_toArray, List.set_cons_zero, List.set_cons_succ]
      refine txt_nil ?_
      cases ON with
      | true =>
        go_wp2
        go_ret
        exact ⟨ret_bool (by rw [HNO.out trivial]; rfl), by rw [HBE.out]; exact hb0.trans (hblf.mono (by omega))⟩
      | false =>
        go_wp2
        exact ⟨⟨k + 1, by omega, by go_num, Lib.hid HST.out, hblf⟩, by simp [intOf]; omega⟩
    · obtain rfl : k = L.length := by omega
      go_wp2
      go_ret
      refine ⟨ret_bool ?_, by rw [HBE.out]; exact hb0.trans (hbl.mono (by omega))⟩
      have := hall.out
      rw [List.take_of_length_le (by rw [edges_length]; omega)] at this
      rw [this]; rfl

set_option maxHeartbeats 6400000 in
theorem rwind3_any (a : Option Addr) (c : Nat) (L : List Pt) (hlen : L.length ≤ 1000) (hok : L.all okPt = true) (p : Pt) (hp : okPt p = true) (w : World) (hr : Rd w a (pts L)) :
    Calls Try.prog 41 #[.slice a L.length c, p.val] w fun e w' => e = .returned (.int .i64 (abvS p (edges L))) ∧ Below w.heap.size w w' := by
  have HO := Lib.hid (fun x y (h1 : okPt x = true) (h2 : okPt y = true) W => rabove_any x y p h1 h2 hp W)
  have HOK := Lib.hid hok
  clear hok hp
  have k0 := Blk.lit w w.heap.size p.cells 40 rfl
  have hb0 := Below.new w (.cells p.cells.toArray 40)
  have hr0 := hr.keep hb0
  obtain ⟨B, hB⟩ : ∃ B, w.heap.size = B := ⟨_, rfl⟩
  have HBE := Lib.hid hB
  have HSN := Lib.hid (fun l e => abvS_snoc p l e)
  have HSB := Lib.hid (fun l => abvS_bd p l)
  have HEB := Lib.hid (fun e => abvE_bd p e)
  have HFIN : Hid (abvS p ((edges L).take L.length) = abvS p (edges L)) := Lib.hid (by rw [List.take_of_length_le (by rw [edges_length]; omega)])
  obtain ⟨px, py⟩ := p
  dsimp only [Pt.val, Pt.cells] at *
  go_enter Try.func41, Try.ntmps41
  go_wp2
  generalize hwP : w.alloc (.cells #[.int .i64 px, .int .i64 py] 40) = wP at *
  have hsw : w.heap.size < wP.heap.size := k0.lt
  rw [hB] at hsw k0 hb0
  clear hwP hB
  go_loopw [5, 6] (fun o i wr => ∃ k : Nat, k ≤ L.length ∧ i = .int .i64 k ∧ o = .int .i64 (abvS ⟨px, py⟩ ((edges L).take k)) ∧ Below wP.heap.size wP wr) (fun _ i _ => L.length - (intOf i).toNat)
  case atStart => exact ⟨0, Nat.zero_le _, rfl, rfl, Below.refl _ _⟩
  case round =>
    obtain ⟨k, hk, rfl, rfl, hbl⟩ := hrel
    by_cases hlt : k < L.length
    · have hst := edges_take L k hlt
      have hmem := edges_mem L k hlt
      obtain ⟨q, hq⟩ : ∃ q, (k + 1) % L.length = q := ⟨_, rfl⟩
      have hql : q < L.length := by rw [← hq]; exact Nat.mod_lt _ (by omega)
      obtain ⟨b, off, rfl, hb, c0, c1⟩ := (hr0.keep hbl).pt k hlt
      obtain ⟨b', off', e, hb', d0, d1⟩ := (hr0.keep hbl).pt q hql
      cases e
      simp only [hq] at hst hmem
      have o1 := ok_get L HOK.out k hlt
      have o2 := ok_get L HOK.out q hql
      rw [getElem!_pos L k hlt] at o1
      rw [getElem!_pos L q hql] at o2
      have hrem : ((k : Int) + 1) % (L.length : Int) = (q : Int) := by rw [← hq]; simp
      have hrem2 : (IntKind.i64.wrap ((k : Int) + 1)).tmod (L.length : Int) = (q : Int) := by
        rw [IntWalk.i64_in _ (by omega), Int.tmod_eq_emod_of_nonneg (by omega)]
        exact hrem
      generalize L[k] = p1 at *
      generalize L[q] = p2 at *
      have q0 : (0 : Int) ≤ (q : Int) ∧ (q : Int) < (L.length : Int) := by omega
      have hnil : ¬ L = [] := by intro h; rw [h] at hlt; simp at hlt
      have hln : ¬ L.length = 0 := by omega
      have hs := hbl.size
      have HON := Lib.hid (HO.out p1 p2 o1 o2)
      have HST : Hid (abvS ⟨px, py⟩ ((edges L).take (k + 1)) = abvS ⟨px, py⟩ ((edges L).take k) + abvE ⟨px, py⟩ (p1, p2)) := Lib.hid (by rw [hst, HSN.out])
      have hEB := HEB.out (p1, p2)
      have hSB := HSB.out ((edges L).take k)
      rw [List.length_take, edges_length] at hSB
      generalize abvS ⟨px, py⟩ ((edges L).take k) = F at *
      generalize abvE ⟨px, py⟩ (p1, p2) = EE at *
      have hF64 : -1000 ≤ F ∧ F ≤ 1000 := by omega
      obtain ⟨x1, y1⟩ := p1
      obtain ⟨x2, y2⟩ := p2
      dsimp only [Pt.val] at c0 c1 d0 d1 HON
      have f0 := (k0.keep hbl).cell 0 rfl
      have f1 := (k0.keep hbl).cell 1 rfl
      have n1 : b ≠ wr.heap.size := by omega
      have n2 : b ≠ wr.heap.size + 1 := by omega
      have n3 : B ≠ wr.heap.size := by omega
      have n4 : B ≠ wr.heap.size + 1 := by omega
      have kk := k0.keep hbl
      have g0 := (((kk.alloc (.cells #[.int .i64 x1, .int .i64 y1] 40)).alloc (.cells #[.int .i64 x2, .int .i64 y2] 40)).drew).cell 0 rfl
      have g1 := (((kk.alloc (.cells #[.int .i64 x1, .int .i64 y1] 40)).alloc (.cells #[.int .i64 x2, .int .i64 y2] 40)).drew).cell 1 rfl
      have g2 := (((kk.alloc (.cells #[.int .i64 x2, .int .i64 y2] 40)).alloc (.cells #[.int .i64 x1, .int .i64 y1] 40)).drew).cell 0 rfl
      have g3 := (((kk.alloc (.cells #[.int .i64 x2, .int .i64 y2] 40)).alloc (.cells #[.int .i64 x1, .int .i64 y1] 40)).drew).cell 1 rfl
      clear hst hmem hr hSB kk f0 f1
      go_wp2
      go_region
      all_goals
        go_wp2_with fail
        refine (HON.out _).mono ?_
        rintro e W2 ⟨rfl, hb2⟩
        have hblf := (((hbl.alloc hs _).alloc (by simp; omega) _).drew).trans (hb2.mono (by simp; omega))
        clear hb2 HON
        go_wp2
        go_roundw
        case rel =>
          refine ⟨k + 1, by omega, by go_num, ?_, hblf⟩
          first | (rw [HST.out]; done) | (rw [HST.out]; congr 1; omega)
        case measure => simp [intOf]; omega
    · obtain rfl : k = L.length := by omega
      go_wp2
      go_ret
      refine ⟨ret_int HFIN.out, by rw [HBE.out]; exact hb0.trans (hbl.mono (by omega))⟩

theorem rbehind_any (x at_ mv : Int) (w : World) :
    Calls Try.prog 72 #[.int .i64 x, .int .i64 at_, .int .i64 mv] w fun e w' => e = .returned (.bool (decide (at_ < x) || (decide (x = at_) && decide (mv < 0)))) ∧ w = w' := by
  obtain ⟨R, hR⟩ : ∃ R, (decide (at_ < x) || (decide (x = at_) && decide (mv < 0))) = R := ⟨_, rfl⟩
  rw [hR]
  have HR : ∀ b, (decide (at_ < x) || (decide (x = at_) && decide (mv < 0))) = b → b = R := fun b h => h.symm.trans hR
  clear hR
  go_enter Try.func72, Try.ntmps72
  rcases Int.lt_trichotomy at_ x with h | h | h
  · go_wp2
    go_ret
    exact ⟨ret_bool (HR _ (by simp [h])), rfl⟩
  · subst h
    by_cases h2 : mv < 0
    · go_wp2
      go_ret
      exact ⟨ret_bool (HR _ (by simp [h2])), rfl⟩
    · go_wp2
      go_ret
      exact ⟨ret_bool (HR _ (by simp [h2])), rfl⟩
  · have h1 : ¬ at_ < x := by omega
    have h2 : ¬ x = at_ := by omega
    have h3 : (x == at_) = false := by simpa using h2
    go_wp2
    go_ret
    exact ⟨ret_bool (HR _ (by simp [h1, h2])), rfl⟩
theorem four_lit (w : World) (T : TypeId) (a b c d : Pt) :
    Blk ((((w.alloc (.cells #[.int .i64 a.x, .int .i64 a.y] T)).alloc (.cells #[.int .i64 b.x, .int .i64 b.y] T)).alloc (.cells #[.int .i64 c.x, .int .i64 c.y] T)).alloc (.cells #[.int .i64 d.x, .int .i64 d.y] T)) w.heap.size a.cells ∧
    Blk ((((w.alloc (.cells #[.int .i64 a.x, .int .i64 a.y] T)).alloc (.cells #[.int .i64 b.x, .int .i64 b.y] T)).alloc (.cells #[.int .i64 c.x, .int .i64 c.y] T)).alloc (.cells #[.int .i64 d.x, .int .i64 d.y] T)) (w.heap.size + 1) b.cells ∧
    Blk ((((w.alloc (.cells #[.int .i64 a.x, .int .i64 a.y] T)).alloc (.cells #[.int .i64 b.x, .int .i64 b.y] T)).alloc (.cells #[.int .i64 c.x, .int .i64 c.y] T)).alloc (.cells #[.int .i64 d.x, .int .i64 d.y] T)) (w.heap.size + 1 + 1) c.cells ∧
    Blk ((((w.alloc (.cells #[.int .i64 a.x, .int .i64 a.y] T)).alloc (.cells #[.int .i64 b.x, .int .i64 b.y] T)).alloc (.cells #[.int .i64 c.x, .int .i64 c.y] T)).alloc (.cells #[.int .i64 d.x, .int .i64 d.y] T)) (w.heap.size + 1 + 1 + 1) d.cells ∧
    Below w.heap.size w ((((w.alloc (.cells #[.int .i64 a.x, .int .i64 a.y] T)).alloc (.cells #[.int .i64 b.x, .int .i64 b.y] T)).alloc (.cells #[.int .i64 c.x, .int .i64 c.y] T)).alloc (.cells #[.int .i64 d.x, .int .i64 d.y] T)) :=
  ⟨(three_lit w T a b c).1.alloc _, (three_lit w T a b c).2.1.alloc _, (three_lit w T a b c).2.2.1.alloc _, Blk.lit _ (w.heap.size + 1 + 1 + 1) d.cells T (by simp),
   ((three_lit w T a b c).2.2.2.alloc (by simp; omega) _)⟩
def ablS (p q m d : Pt) : Int := if crs p q m = 0 then (q.x - p.x) * d.y - (q.y - p.y) * d.x else crs p q m
def ablB (m d : Pt) (x : Int) : Bool := decide (m.x < x) || (decide (x = m.x) && decide (d.x < 0))
def ablF (p q m d : Pt) : Int := if ablB m d p.x = false ∧ ablB m d q.x = true ∧ ablS p q m d < 0 then -1 else if ablB m d p.x = true ∧ ablB m d q.x = false ∧ 0 < ablS p q m d then 1 else 0

set_option maxHeartbeats 6400000 in
theorem rabl_any (p q m d : Pt) (hp : okW p) (hq : okW q) (hm : okW m) (hd : okW d) (w : World) :
    Calls Try.prog 57 #[p.val, q.val, m.val, d.val] w fun e w' => e = .returned (.int .i64 (ablF p q m d)) ∧ Below w.heap.size w w' := by
  have HX := Lib.hid (fun w => rcross_wide p q m hp hq hm w)
  have HB1 := Lib.hid (fun w => rbehind_any p.x m.x d.x w)
  have HB2 := Lib.hid (fun w => rbehind_any q.x m.x d.x w)
  obtain ⟨kA, kB, kC, kD, hbl⟩ := four_lit w 40 p q m d
  have HR : Hid (ablF p q m d = if ablB m d p.x = false ∧ ablB m d q.x = true ∧ ablS p q m d < 0 then -1 else if ablB m d p.x = true ∧ ablB m d q.x = false ∧ 0 < ablS p q m d then 1 else 0) := Lib.hid rfl
  have HS : Hid (ablS p q m d = if crs p q m = 0 then (q.x - p.x) * d.y - (q.y - p.y) * d.x else crs p q m) := Lib.hid rfl
  rw [show (decide (m.x < p.x) || (decide (p.x = m.x) && decide (d.x < 0))) = ablB m d p.x from rfl] at HB1
  rw [show (decide (m.x < q.x) || (decide (q.x = m.x) && decide (d.x < 0))) = ablB m d q.x from rfl] at HB2
  generalize ablF p q m d = R at *
  generalize ablB m d p.x = B1 at *
  generalize ablB m d q.x = B2 at *
  generalize ablS p q m d = S at *
  generalize crs p q m = C at *
  unfold okW at hp hq hm hd
  obtain ⟨ax, ay⟩ := p
  obtain ⟨bx, bY⟩ := q
  obtain ⟨px, py⟩ := m
  obtain ⟨vx, vy⟩ := d
  dsimp only [Pt.val, Pt.cells] at *
  have m1 := mul_bd (bx - ax) vy 67108864 33554432 (by omega) (by omega) (by omega) (by omega)
  have m2 := mul_bd (bY - ay) vx 67108864 33554432 (by omega) (by omega) (by omega) (by omega)
  simp only [Int.reduceMul, Int.reduceNeg] at m1 m2
  obtain ⟨U1, hU1⟩ : ∃ U, bx - ax = U := ⟨_, rfl⟩
  obtain ⟨U2, hU2⟩ : ∃ U, bY - ay = U := ⟨_, rfl⟩
  have z1 : IntKind.i64.wrap (bx - ax) = U1 := by rw [hU1]; exact IntWalk.i64_in _ (by omega)
  have z2 : IntKind.i64.wrap (bY - ay) = U2 := by rw [hU2]; exact IntWalk.i64_in _ (by omega)
  rw [hU1] at m1
  rw [hU2] at m2
  rw [hU1, hU2] at HS
  obtain ⟨P1, hP1⟩ : ∃ U, U1 * vy = U := ⟨_, rfl⟩
  obtain ⟨P2, hP2⟩ : ∃ U, U2 * vx = U := ⟨_, rfl⟩
  rw [hP1] at m1
  rw [hP2] at m2
  rw [hP1, hP2] at HS
  have p1 : IntKind.i64.wrap (U1 * vy) = P1 := by rw [hP1]; exact IntWalk.i64_in _ (by omega)
  have p2 : IntKind.i64.wrap (U2 * vx) = P2 := by rw [hP2]; exact IntWalk.i64_in _ (by omega)
  obtain ⟨D, hD⟩ : ∃ U, P1 - P2 = U := ⟨_, rfl⟩
  have s1 : IntKind.i64.wrap (P1 - P2) = D := by rw [hD]; exact IntWalk.i64_in _ (by omega)
  rw [hD] at HS
  clear hU1 hU2 hP1 hP2 hD
  clear hp hq hm hd m1 m2
  have a0 := kA.cell 0 rfl
  have a1 := kA.cell 1 rfl
  have b0 := kB.cell 0 rfl
  have b1 := kB.cell 1 rfl
  have c0 := kC.cell 0 rfl
  have c1 := kC.cell 1 rfl
  have d0 := kD.cell 0 rfl
  have d1 := kD.cell 1 rfl
  go_enter Try.func57, Try.ntmps57
  go_wp2_with fail
  refine (HX.out _).mono ?_
  rintro e w1 ⟨rfl, hx1⟩
  have kA := kA.keep hx1
  have kB := kB.keep hx1
  have kC := kC.keep hx1
  have kD := kD.keep hx1
  have hbl := hbl.trans (hx1.mono hbl.size)
  clear a0 a1 b0 b1 c0 c1 d0 d1 hx1 HX
  have a0 := kA.cell 0 rfl
  have a1 := kA.cell 1 rfl
  have b0 := kB.cell 0 rfl
  have b1 := kB.cell 1 rfl
  have c0 := kC.cell 0 rfl
  have c1 := kC.cell 1 rfl
  have d0 := kD.cell 0 rfl
  have d1 := kD.cell 1 rfl
  clear kA kB kC kD
  by_cases h0 : C = 0
  · subst h0
    have HS := Lib.hid (HS.out.trans (if_pos rfl))
    obtain rfl := HS.out
    clear HS
    cases B1 with
    | true =>
      cases B2 with
      | true =>
        go_wp2_with fail
        refine (HB1.out _).mono ?_
        rintro e w5 ⟨rfl, rfl⟩
        go_wp2_with fail
        refine (HB1.out _).mono ?_
        rintro e w5 ⟨rfl, rfl⟩
        go_wp2_with fail
        refine (HB2.out _).mono ?_
        rintro e w5 ⟨rfl, rfl⟩
        go_wp2
        go_ret
        exact ⟨ret_int (by rw [HR.out]; simp), hbl⟩
      | false =>
        go_wp2_with fail
        refine (HB1.out _).mono ?_
        rintro e w5 ⟨rfl, rfl⟩
        go_wp2_with fail
        refine (HB1.out _).mono ?_
        rintro e w5 ⟨rfl, rfl⟩
        go_wp2_with fail
        refine (HB2.out _).mono ?_
        rintro e w5 ⟨rfl, rfl⟩
        by_cases h9 : 0 < S
        · go_wp2
          go_ret
          exact ⟨ret_int (by rw [HR.out]; simp [h9]), hbl⟩
        · go_wp2
          go_ret
          exact ⟨ret_int (by rw [HR.out]; simp [h9]), hbl⟩
    | false =>
      cases B2 with
      | true =>
        go_wp2_with fail
        refine (HB1.out _).mono ?_
        rintro e w5 ⟨rfl, rfl⟩
        go_wp2_with fail
        refine (HB2.out _).mono ?_
        rintro e w5 ⟨rfl, rfl⟩
        by_cases h9 : S < 0
        · go_wp2
          go_ret
          exact ⟨ret_int (by rw [HR.out]; simp [h9]), hbl⟩
        · go_wp2_with fail
          refine (HB1.out _).mono ?_
          rintro e w5 ⟨rfl, rfl⟩
          go_wp2
          go_ret
          exact ⟨ret_int (by rw [HR.out]; simp [h9]), hbl⟩
      | false =>
        go_wp2_with fail
        refine (HB1.out _).mono ?_
        rintro e w5 ⟨rfl, rfl⟩
        go_wp2_with fail
        refine (HB2.out _).mono ?_
        rintro e w5 ⟨rfl, rfl⟩
        go_wp2_with fail
        refine (HB1.out _).mono ?_
        rintro e w5 ⟨rfl, rfl⟩
        go_wp2
        go_ret
        exact ⟨ret_int (by rw [HR.out]; simp), hbl⟩
  · have h0' : (C == 0) = false := by simpa using h0
    have HS := Lib.hid (HS.out.trans (if_neg h0))
    obtain rfl := HS.out
    clear z1 z2 p1 p2 s1 HS
    cases B1 with
    | true =>
      cases B2 with
      | true =>
        go_wp2_with fail
        refine (HB1.out _).mono ?_
        rintro e w5 ⟨rfl, rfl⟩
        go_wp2_with fail
        refine (HB1.out _).mono ?_
        rintro e w5 ⟨rfl, rfl⟩
        go_wp2_with fail
        refine (HB2.out _).mono ?_
        rintro e w5 ⟨rfl, rfl⟩
        go_wp2
        go_ret
        exact ⟨ret_int (by rw [HR.out]; simp), hbl⟩
      | false =>
        go_wp2_with fail
        refine (HB1.out _).mono ?_
        rintro e w5 ⟨rfl, rfl⟩
        go_wp2_with fail
        refine (HB1.out _).mono ?_
        rintro e w5 ⟨rfl, rfl⟩
        go_wp2_with fail
        refine (HB2.out _).mono ?_
        rintro e w5 ⟨rfl, rfl⟩
        by_cases h9 : 0 < S
        · go_wp2
          go_ret
          exact ⟨ret_int (by rw [HR.out]; simp [h9]), hbl⟩
        · go_wp2
          go_ret
          exact ⟨ret_int (by rw [HR.out]; simp [h9]), hbl⟩
    | false =>
      cases B2 with
      | true =>
        go_wp2_with fail
        refine (HB1.out _).mono ?_
        rintro e w5 ⟨rfl, rfl⟩
        go_wp2_with fail
        refine (HB2.out _).mono ?_
        rintro e w5 ⟨rfl, rfl⟩
        by_cases h9 : S < 0
        · go_wp2
          go_ret
          exact ⟨ret_int (by rw [HR.out]; simp [h9]), hbl⟩
        · go_wp2_with fail
          refine (HB1.out _).mono ?_
          rintro e w5 ⟨rfl, rfl⟩
          go_wp2
          go_ret
          exact ⟨ret_int (by rw [HR.out]; simp [h9]), hbl⟩
      | false =>
        go_wp2_with fail
        refine (HB1.out _).mono ?_
        rintro e w5 ⟨rfl, rfl⟩
        go_wp2_with fail
        refine (HB2.out _).mono ?_
        rintro e w5 ⟨rfl, rfl⟩
        go_wp2_with fail
        refine (HB1.out _).mono ?_
        rintro e w5 ⟨rfl, rfl⟩
        go_wp2
        go_ret
        exact ⟨ret_int (by rw [HR.out]; simp), hbl⟩

end Go.Proofs.Ytdginfjlelpkmaa
