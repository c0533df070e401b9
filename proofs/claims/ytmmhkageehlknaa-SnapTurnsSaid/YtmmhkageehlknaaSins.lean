/-
  slices.insertionSortCmpFunc over cuts.
-/
import Derived.Test.YtmmhkageehlknaaScmp
import Derived.Test.YtmmhkageehlknaaRegVal
import Derived.Test.YtmmhkageehlknaaSrt0
set_option linter.unusedVariables false
set_option linter.unusedSimpArgs false
set_option maxRecDepth 100000
namespace Go
open Go.RowKit Go.Srt
theorem grown_setg (w : World) (B i : Nat) (v : Value) : w.grownBy (w.setCell ⟨B, i, none⟩ v) (some B) :=
  ⟨rfl, rfl, rfl, by rw [size_setCell]; exact Nat.le_refl _, fun k _ h => Below.heap_setCell _ _ _ _ (by intro e; exact h (by rw [e]))⟩
theorem ownsRow_drew {W : World} {base : Nat} {e : TypeId} {k : Nat} {v : Value} {n : Nat} {f : List Value} (h : W.ownsRow base e k v n f) : W.drew.ownsRow base e k v n f := h
theorem grown_drew {w W : World} {B : Option Nat} (h : w.grownBy W B) : w.grownBy W.drew B := h.trans ⟨rfl, rfl, rfl, Nat.le_refl _, fun _ _ _ => rfl⟩
/-- The cells of one of an owned row. -/
theorem own_cu {W : World} {base g c n : Nat} {e : TypeId} {l : List Cu} (h : W.ownsRow base e 4 (.slice (some ⟨g, 0, none⟩) n c) n (cus l)) (i : Nat) (hi : i < l.length) :
    (W.cell? ⟨g, i * 4, none⟩ = some (.int .i64 l[i]!.x) ∧ W.cell? ⟨g, i * 4 + 1, none⟩ = some (.int .i64 l[i]!.y) ∧ W.cell? ⟨g, i * 4 + 2, none⟩ = some (.int .i64 l[i]!.p) ∧ W.cell? ⟨g, i * 4 + 3, none⟩ = some (.int .i64 l[i]!.w)) ∧
    (W.frozen? ⟨g, i * 4, none⟩ = false ∧ W.frozen? ⟨g, i * 4 + 1, none⟩ = false ∧ W.frozen? ⟨g, i * 4 + 2, none⟩ = false ∧ W.frozen? ⟨g, i * 4 + 3, none⟩ = false) ∧ g < W.heap.size := by
  rw [getElem!_pos l i hi]
  have h0 := ownsRow_cellS h (i := i * 4 + 0) (v := .int .i64 l[i].x) (by rw [cus_get l i 0 hi (by omega)]; rfl)
  have h1 := ownsRow_cellS h (i := i * 4 + 1) (v := .int .i64 l[i].y) (by rw [cus_get l i 1 hi (by omega)]; rfl)
  have h2 := ownsRow_cellS h (i := i * 4 + 2) (v := .int .i64 l[i].p) (by rw [cus_get l i 2 hi (by omega)]; rfl)
  have h3 := ownsRow_cellS h (i := i * 4 + 3) (v := .int .i64 l[i].w) (by rw [cus_get l i 3 hi (by omega)]; rfl)
  exact ⟨⟨h0.1, h1.1, h2.1, h3.1⟩, ⟨h0.2.1, h1.2.1, h2.2.1, h3.2.1⟩, h0.2.2⟩
end Go
namespace Go.Proofs.Ytmmhkageehlknaa
open Go.RowKit Go.Srt

set_option maxHeartbeats 1600000 in
theorem inssort_any (a b : Nat) (base g c n : Nat) (l : List Cu) (hn : l.length = n) (hc : n ≤ c) (hab : a ≤ b) (hb : b ≤ n) (hn2 : n ≤ 1000000) (hok : ∀ x ∈ l, CuOk x) (w : World) (h : w.ownsRow base 71 4 (.slice (some ⟨g, 0, none⟩) n c) n (cus l)) :
    Calls Try.prog 61 #[.slice (some ⟨g, 0, none⟩) n c, .int .i64 a, .int .i64 b, .func (.func 51) #[] #[]] w fun e w' => e = .returned (.tuple #[]) ∧
      w'.ownsRow base 71 4 (.slice (some ⟨g, 0, none⟩) n c) n (cus (insC cmpC a l (b - (a + 1)))) ∧ w.grownBy w' (some g) := by
  go_enter Try.func61, Try.ntmps61
  have HOK := Lib.hid hok
  have HN := Lib.hid hn
  clear hok hn
  go_wp2
  go_loopw [8] (fun i wr => ∃ k : Nat, (a + 1 + k ≤ b ∨ k = 0) ∧ i = .int .i64 ((a : Int) + 1 + (k : Int)) ∧ wr.ownsRow base 71 4 (.slice (some ⟨g, 0, none⟩) n c) n (cus (insC cmpC a l k)) ∧ w.grownBy wr (some g)) (fun i _ => b + 1 - (intOf i).toNat)
  case atStart => exact ⟨0, .inr rfl, val_int (by omega), h, ⟨rfl, rfl, rfl, Nat.le_refl _, fun _ _ _ => rfl⟩⟩
  case round =>
    obtain ⟨k, hk, rfl, hown, hg⟩ := hrel
    by_cases hlt : a + 1 + k < b
    · have hlt' : (a : Int) + 1 + (k : Int) < (b : Int) := by omega
      have hL := insC_len cmpC a l k
      have hM : ∀ x ∈ insC cmpC a l k, CuOk x := fun x hx => HOK.out x (insC_mem cmpC k (by rw [HN.out]; omega) hx)
      have HT : Hid (insC cmpC a l (k + 1) = sinkC cmpC a (a + 1 + k) (insC cmpC a l k)) := Lib.hid rfl
      generalize insC cmpC a l k = m0 at *
      rw [HN.out] at hL
      obtain ⟨T, hT⟩ : ∃ T, sinkC cmpC a (a + 1 + k) m0 = T := ⟨_, rfl⟩
      have HT2 := Lib.hid hT
      have HM0 := Lib.hid hM
      clear hM hT
      go_wp2
      go_loopw [9] (fun jj wj => ∃ (j : Nat) (m : List Cu), a ≤ j ∧ j ≤ a + 1 + k ∧ jj = .int .i64 (j : Int) ∧ m.length = n ∧ Hid (∀ x ∈ m, CuOk x) ∧ Hid (sinkC cmpC a j m = T) ∧ wj.ownsRow base 71 4 (.slice (some ⟨g, 0, none⟩) n c) n (cus m) ∧ w.grownBy wj (some g)) (fun jj _ => (intOf jj).toNat)
      case atStart => exact ⟨a + 1 + k, m0, by omega, Nat.le_refl _, val_int (by omega), hL, HM0, HT2, hown, hg⟩
      case round =>
        clear hown hg hL
        obtain ⟨j, m, hja, hjk, rfl, hL, hM, hS0, hown, hg⟩ := hrel
        by_cases hj : a < j
        · obtain ⟨q, hq⟩ : ∃ q, j = q + 1 := ⟨j - 1, by omega⟩
          subst hq
          have ho := hown
          obtain ⟨⟨c0, c1, c2, c3⟩, -, hgl⟩ := own_cu hown (q + 1) (by omega)
          obtain ⟨⟨d0, d1, d2, d3⟩, -, -⟩ := own_cu hown q (by omega)
          have hA : CuOk m[q + 1]! := by rw [getElem!_pos m (q + 1) (by omega)]; exact hM.out _ (List.getElem_mem _)
          have hB : CuOk m[q]! := by rw [getElem!_pos m q (by omega)]; exact hM.out _ (List.getElem_mem _)
          have hcm := ccmp_any m[q + 1]! m[q]! hA hB
          have hs1 : Hid (cmpC m[q + 1]! m[q]! < 0 → sinkC cmpC a q (swpL m (q + 1) q) = T) := Lib.hid fun h => by rw [← hS0.out, sinkC, if_pos ⟨by omega, h⟩]
          have hs2 : Hid (¬ cmpC m[q + 1]! m[q]! < 0 → m = T) := Lib.hid fun h => by rw [← hS0.out, sinkC, if_neg (fun h2 => h h2.2)]
          have hset : Hid (swpL m (q + 1) q = (m.set (q + 1) m[q]!).set q m[q + 1]!) := Lib.hid rfl
          have hBq0 : m[q]'(by omega) = m[q]! := (getElem!_pos m q (by omega)).symm
          have hBq := Lib.hid hBq0
          clear hBq0
          generalize cmpC m[q + 1]! m[q]! = CM at *
          generalize m[q + 1]! = A at *
          generalize m[q]! = B at *
          obtain ⟨Ax, Ay, Ap, Aw⟩ := A
          obtain ⟨Bx, By, Bp, Bw⟩ := B
          dsimp only [Cu.val] at c0 c1 c2 c3 d0 d1 d2 d3 hcm
          have HCM := Lib.hid hcm
          clear hcm hA hB hS0 HM0 HOK HN
          have hqj : IntKind.i64.wrap (((q + 1 : Nat) : Int) - 1) = (q : Int) := by
            have : ((q + 1 : Nat) : Int) - 1 = (q : Int) := by omega
            rw [this]; exact IntWalk.i64_in _ (by omega)
          have haq : (a : Int) < (q : Int) + 1 := by omega
          have hq1 : (q : Int) + 1 < (n : Int) := by omega
          have hq0 : (0 : Int) ≤ (q : Int) + 1 := by omega
          have hq2 : (q : Int) < (n : Int) := by omega
          have hwq : IntKind.i64.wrap (q : Int) = (q : Int) := IntWalk.i64_in _ (by omega)
          go_wp2_with fail
          refine wp_region_lit_txt [0, 1, 2, 3, 4, 5, 6, 7, 8, 9, 10, 11, 12, 13, 15, 16] (fun W => (W.cell? ⟨g, (q + 1) * 4, none⟩ = some (.int .i64 Ax) ∧ W.cell? ⟨g, (q + 1) * 4 + 1, none⟩ = some (.int .i64 Ay) ∧ W.cell? ⟨g, (q + 1) * 4 + 2, none⟩ = some (.int .i64 Ap) ∧ W.cell? ⟨g, (q + 1) * 4 + 3, none⟩ = some (.int .i64 Aw)) ∧ (W.cell? ⟨g, q * 4, none⟩ = some (.int .i64 Bx) ∧ W.cell? ⟨g, q * 4 + 1, none⟩ = some (.int .i64 By) ∧ W.cell? ⟨g, q * 4 + 2, none⟩ = some (.int .i64 Bp) ∧ W.cell? ⟨g, q * 4 + 3, none⟩ = some (.int .i64 Bw))) (by kernel_rfl) (by kernel_rfl) (by kernel_rfl) ⟨⟨c0, c1, c2, c3⟩, d0, d1, d2, d3⟩ ?_
          (refine txt_light ?_ rfl rfl ?_ ?_; rotate_left; · (intro w' hS; (try dsimp only at hS); go_simp; with_reducible rfl)); try simp only [Act.put, List.setIfInBounds_toArray, List.set_cons_zero, List.set_cons_succ]
          (refine txt_light ?_ rfl rfl ?_ ?_; rotate_left; · (intro w' hS; (try dsimp only at hS); go_simp; with_reducible rfl)); try simp only [Act.put, List.setIfInBounds_toArray, List.set_cons_zero, List.set_cons_succ]
          refine txt_light (.bool true) rfl rfl ?_ ?_
          · intro w' hS
            go_simp
          try simp only [Act.put, List.setIfInBounds_toArray, List.set_cons_zero, List.set_cons_succ]
          refine txt_light (.bool true) rfl rfl ?_ ?_
          · intro w' hS
            go_simp
          try simp only [Act.put, List.setIfInBounds_toArray, List.set_cons_zero, List.set_cons_succ]
          (refine txt_light ?_ rfl rfl ?_ ?_; rotate_left; · (intro w' hS; (try dsimp only at hS); go_simp; with_reducible rfl)); try simp only [Act.put, List.setIfInBounds_toArray, List.set_cons_zero, List.set_cons_succ]
          (refine txt_light ?_ rfl rfl ?_ ?_; rotate_left; · (intro w' hS; (try dsimp only at hS); go_simp; with_reducible rfl)); try simp only [Act.put, List.setIfInBounds_toArray, List.set_cons_zero, List.set_cons_succ]
          (refine txt_light ?_ rfl rfl ?_ ?_; rotate_left; · (intro w' hS; (try dsimp only at hS); go_simp; with_reducible rfl)); try simp only [Act.put, List.setIfInBounds_toArray, List.set_cons_zero, List.set_cons_succ]
          (refine txt_light ?_ rfl rfl ?_ ?_; rotate_left; · (intro w' hS; (try dsimp only at hS); go_simp; with_reducible rfl)); try simp only [Act.put, List.setIfInBounds_toArray, List.set_cons_zero, List.set_cons_succ]
          refine txt_light (.agg #[.int .i64 Ax, .int .i64 Ay, .int .i64 Ap, .int .i64 Aw]) rfl rfl ?_ ?_
          · intro w' hS
            obtain ⟨c0, c1, c2, c3⟩ := hS.1
            go_simp
          try simp only [Act.put, List.setIfInBounds_toArray, List.set_cons_zero, List.set_cons_succ]
          (refine txt_light ?_ rfl rfl ?_ ?_; rotate_left; · (intro w' hS; (try dsimp only at hS); go_simp; with_reducible rfl)); try simp only [Act.put, List.setIfInBounds_toArray, List.set_cons_zero, List.set_cons_succ]
          (refine txt_light ?_ rfl rfl ?_ ?_; rotate_left; · (intro w' hS; (try dsimp only at hS); go_simp; with_reducible rfl)); try simp only [Act.put, List.setIfInBounds_toArray, List.set_cons_zero, List.set_cons_succ]
          (refine txt_light ?_ rfl rfl ?_ ?_; rotate_left; · (intro w' hS; (try dsimp only at hS); go_simp; with_reducible rfl)); try simp only [Act.put, List.setIfInBounds_toArray, List.set_cons_zero, List.set_cons_succ]
          (refine txt_light ?_ rfl rfl ?_ ?_; rotate_left; · (intro w' hS; (try dsimp only at hS); go_simp; with_reducible rfl)); try simp only [Act.put, List.setIfInBounds_toArray, List.set_cons_zero, List.set_cons_succ]
          refine txt_light (.agg #[.int .i64 Bx, .int .i64 By, .int .i64 Bp, .int .i64 Bw]) rfl rfl ?_ ?_
          · intro w' hS
            obtain ⟨c0, c1, c2, c3⟩ := hS.2
            go_simp
          try simp only [Act.put, List.setIfInBounds_toArray, List.set_cons_zero, List.set_cons_succ]
          refine txt_callv [] [.agg #[.int .i64 Ax, .int .i64 Ay, .int .i64 Ap, .int .i64 Aw], .agg #[.int .i64 Bx, .int .i64 By, .int .i64 Bp, .int .i64 Bw]] Try.f51 rfl rfl rfl Try.func51 (by kernel_rfl) (by kernel_rfl) rfl ((HCM.out _).mono ?_)
          rintro e w1 ⟨rfl, hx1⟩
          have hgx : wr.grownBy w1 (some g) := ⟨hx1.os, hx1.tape, hx1.output, hx1.size, fun i hi _ => hx1.block i hi⟩
          have hown1 : w1.ownsRow base 71 4 (.slice (some ⟨g, 0, none⟩) n c) n (cus m) := World.ownsRow.below (w := wr.drew) hown hx1
          have hg1 := hg.trans hgx
          have kc := fun i => (hx1.cell (p := ⟨g, i, none⟩) hgl)
          have c0 := (kc _).trans c0
          have c1 := (kc _).trans c1
          have c2 := (kc _).trans c2
          have c3 := (kc _).trans c3
          have d0 := (kc _).trans d0
          have d1 := (kc _).trans d1
          have d2 := (kc _).trans d2
          have d3 := (kc _).trans d3
          refine ⟨_, rfl, ⟨⟨c0, c1, c2, c3⟩, d0, d1, d2, d3⟩, ?_⟩
          try simp only [Act.put, List.setIfInBounds_toArray, List.set_cons_zero, List.set_cons_succ]
          clear kc HCM hx1 hgx
          by_cases hneg : CM < 0
          · have hcd : decide (CM < 0) = true := decide_eq_true hneg
            refine txt_light (.bool true) rfl rfl ?_ ?_
            · intro w' hS
              go_simp
            try simp only [Act.put, List.setIfInBounds_toArray, List.set_cons_zero, List.set_cons_succ]
            refine txt_light (.bool true) rfl rfl ?_ ?_
            · intro w' hS
              go_simp
            try simp only [Act.put, List.setIfInBounds_toArray, List.set_cons_zero, List.set_cons_succ]
            refine txt_nil ?_
            have hS1 := Lib.hid (hs1.out hneg)
            clear hs1 hs2 hcd hneg
            have q0 := (own_cu hown1 (q + 1) (by omega)).2
            have q1 := (own_cu hown1 q (by omega)).2
            have hgl1 := q0.2
            have q0 := q0.1
            have q1 := q1.1
            go_wp2_with fail
            refine wp_region_lit_txtZ (some 17) [0, 1, 2, 3, 4, 5, 6, 7, 8, 9, 10, 11, 12, 14, 16] (fun W => W.cell? ⟨g, q * 4, none⟩ = some (.int .i64 Bx) ∧ W.cell? ⟨g, q * 4 + 1, none⟩ = some (.int .i64 By) ∧ W.cell? ⟨g, q * 4 + 2, none⟩ = some (.int .i64 Bp) ∧ W.cell? ⟨g, q * 4 + 3, none⟩ = some (.int .i64 Bw)) (by kernel_rfl) (by kernel_rfl) (by kernel_rfl) (by kernel_rfl) ⟨d0, d1, d2, d3⟩ ?_
            (refine txt_light ?_ rfl rfl ?_ ?_; rotate_left; · (intro w' hS; (try dsimp only at hS); go_simp; with_reducible rfl)); try simp only [Act.put, List.setIfInBounds_toArray, List.set_cons_zero, List.set_cons_succ]
            (refine txt_light ?_ rfl rfl ?_ ?_; rotate_left; · (intro w' hS; (try dsimp only at hS); go_simp; with_reducible rfl)); try simp only [Act.put, List.setIfInBounds_toArray, List.set_cons_zero, List.set_cons_succ]
            (refine txt_light ?_ rfl rfl ?_ ?_; rotate_left; · (intro w' hS; (try dsimp only at hS); go_simp; with_reducible rfl)); try simp only [Act.put, List.setIfInBounds_toArray, List.set_cons_zero, List.set_cons_succ]
            (refine txt_light ?_ rfl rfl ?_ ?_; rotate_left; · (intro w' hS; (try dsimp only at hS); go_simp; with_reducible rfl)); try simp only [Act.put, List.setIfInBounds_toArray, List.set_cons_zero, List.set_cons_succ]
            (refine txt_light ?_ rfl rfl ?_ ?_; rotate_left; · (intro w' hS; (try dsimp only at hS); go_simp; with_reducible rfl)); try simp only [Act.put, List.setIfInBounds_toArray, List.set_cons_zero, List.set_cons_succ]
            (refine txt_light ?_ rfl rfl ?_ ?_; rotate_left; · (intro w' hS; (try dsimp only at hS); go_simp; with_reducible rfl)); try simp only [Act.put, List.setIfInBounds_toArray, List.set_cons_zero, List.set_cons_succ]
            (refine txt_light ?_ rfl rfl ?_ ?_; rotate_left; · (intro w' hS; (try dsimp only at hS); go_simp; with_reducible rfl)); try simp only [Act.put, List.setIfInBounds_toArray, List.set_cons_zero, List.set_cons_succ]
            (refine txt_light ?_ rfl rfl ?_ ?_; rotate_left; · (intro w' hS; (try dsimp only at hS); go_simp; with_reducible rfl)); try simp only [Act.put, List.setIfInBounds_toArray, List.set_cons_zero, List.set_cons_succ]
            (refine txt_light ?_ rfl rfl ?_ ?_; rotate_left; · (intro w' hS; (try dsimp only at hS); go_simp; with_reducible rfl)); try simp only [Act.put, List.setIfInBounds_toArray, List.set_cons_zero, List.set_cons_succ]
            refine txt_light (.agg #[.int .i64 Bx, .int .i64 By, .int .i64 Bp, .int .i64 Bw]) rfl rfl ?_ ?_
            · intro w' hS
              obtain ⟨c0, c1, c2, c3⟩ := hS
              go_simp
            try simp only [Act.put, List.setIfInBounds_toArray, List.set_cons_zero, List.set_cons_succ]
            (refine txt_light ?_ rfl rfl ?_ ?_; rotate_left; · (intro w' hS; (try dsimp only at hS); go_simp; with_reducible rfl)); try simp only [Act.put, List.setIfInBounds_toArray, List.set_cons_zero, List.set_cons_succ]
            (refine txt_light ?_ rfl rfl ?_ ?_; rotate_left; · (intro w' hS; (try dsimp only at hS); go_simp; with_reducible rfl)); try simp only [Act.put, List.setIfInBounds_toArray, List.set_cons_zero, List.set_cons_succ]
            (refine txt_light ?_ rfl rfl ?_ ?_; rotate_left; · (intro w' hS; (try dsimp only at hS); go_simp; with_reducible rfl)); try simp only [Act.put, List.setIfInBounds_toArray, List.set_cons_zero, List.set_cons_succ]
            refine txt_heavy rfl rfl (fun K hK => ?_)
            go_step
            refine hK.out _ _ ⟨d0, d1, d2, d3⟩ ?_
            clear hK K
            try simp only [Act.put, List.setIfInBounds_toArray, List.set_cons_zero, List.set_cons_succ]
            (refine txt_light ?_ rfl rfl ?_ ?_; rotate_left; · (intro w' hS; (try dsimp only at hS); go_simp; with_reducible rfl)); try simp only [Act.put, List.setIfInBounds_toArray, List.set_cons_zero, List.set_cons_succ]
            refine txt_heavy rfl rfl (fun K hK => ?_)
            obtain ⟨f0, f1, f2, f3⟩ := q0
            obtain ⟨f4, f5, f6, f7⟩ := q1
            go_step
            have own2 := ownsRow_setS (i := (q + 1) * 4 + 3) (ownsRow_setS (i := (q + 1) * 4 + 2) (ownsRow_setS (i := (q + 1) * 4 + 1) (ownsRow_setS (W := w1) (i := (q + 1) * 4) hown1 (.int .i64 Bx)) (.int .i64 By)) (.int .i64 Bp)) (.int .i64 Bw)
            rw [cus_set m (q + 1) (by omega) ⟨Bx, By, Bp, Bw⟩] at own2
            have hl2 : (m.set (q + 1) ⟨Bx, By, Bp, Bw⟩).length = n := by simpa using hL
            obtain ⟨⟨r0, r1, r2, r3⟩, ⟨f4', f5', f6', f7'⟩, -⟩ := own_cu own2 q (by omega)
            have hq' : (m.set (q + 1) ⟨Bx, By, Bp, Bw⟩)[q]! = ⟨Bx, By, Bp, Bw⟩ := by rw [getElem!_pos _ q (by omega), List.getElem_set_ne (by omega)]; exact hBq.out
            rw [hq'] at r0 r1 r2 r3
            dsimp only at r0 r1 r2 r3
            have hg2 := (((hg1.trans (grown_setg w1 g ((q + 1) * 4) (.int .i64 Bx))).trans (grown_setg _ g ((q + 1) * 4 + 1) (.int .i64 By))).trans (grown_setg _ g ((q + 1) * 4 + 2) (.int .i64 Bp))).trans (grown_setg _ g ((q + 1) * 4 + 3) (.int .i64 Bw))
            refine hK.out _ _ ⟨r0, r1, r2, r3⟩ ?_
            clear hK K
            generalize ((((w1.setCell ⟨g, (q + 1) * 4, none⟩ (.int .i64 Bx)).setCell ⟨g, (q + 1) * 4 + 1, none⟩ (.int .i64 By)).setCell ⟨g, (q + 1) * 4 + 2, none⟩ (.int .i64 Bp)).setCell ⟨g, (q + 1) * 4 + 3, none⟩ (.int .i64 Bw)) = w2 at *
            try simp only [Act.put, List.setIfInBounds_toArray, List.set_cons_zero, List.set_cons_succ]
            (refine txt_light ?_ rfl rfl ?_ ?_; rotate_left; · (intro w' hS; (try dsimp only at hS); go_simp; with_reducible rfl)); try simp only [Act.put, List.setIfInBounds_toArray, List.set_cons_zero, List.set_cons_succ]
            refine txt_last rfl rfl rfl (fun K hK => ?_)
            go_step
            have own3 := ownsRow_setS (i := q * 4 + 3) (ownsRow_setS (i := q * 4 + 2) (ownsRow_setS (i := q * 4 + 1) (ownsRow_setS (i := q * 4) own2 (.int .i64 Ax)) (.int .i64 Ay)) (.int .i64 Ap)) (.int .i64 Aw)
            rw [cus_set _ q (by omega) ⟨Ax, Ay, Ap, Aw⟩, ← hset.out] at own3
            have hg3 := (((hg2.trans (grown_setg w2 g (q * 4) (.int .i64 Ax))).trans (grown_setg _ g (q * 4 + 1) (.int .i64 Ay))).trans (grown_setg _ g (q * 4 + 2) (.int .i64 Ap))).trans (grown_setg _ g (q * 4 + 3) (.int .i64 Aw))
            refine hK.out _ _ ?_
            clear hK K
            refine txt_nil ?_
            generalize (((w2.setCell ⟨g, q * 4, none⟩ (.int .i64 Ax)).setCell ⟨g, q * 4 + 1, none⟩ (.int .i64 Ay)).setCell ⟨g, q * 4 + 2, none⟩ (.int .i64 Ap)).setCell ⟨g, q * 4 + 3, none⟩ (.int .i64 Aw) = w3 at *
            clear own2 hg2 r0 r1 r2 r3 f0 f1 f2 f3 f4 f5 f6 f7 f4' f5' f6' f7' c0 c1 c2 c3 d0 d1 d2 d3 hown1 hg1
            go_wp2
            go_roundw
            case rel => exact ⟨q, swpL m (q + 1) q, by omega, by omega, by first | rfl | go_num, by rw [swpL_len]; exact hL, Lib.hid (fun x hx => hM.out x (swpL_mem (by omega) (by omega) hx)), hS1, ownsRow_drew own3, grown_drew hg3⟩
            case measure => simp [intOf]
          · have hcd : decide (CM < 0) = false := decide_eq_false hneg
            refine txt_light (.bool false) rfl rfl ?_ ?_
            · intro w' hS
              go_simp
            try simp only [Act.put, List.setIfInBounds_toArray, List.set_cons_zero, List.set_cons_succ]
            refine txt_light (.bool false) rfl rfl ?_ ?_
            · intro w' hS
              go_simp
            try simp only [Act.put, List.setIfInBounds_toArray, List.set_cons_zero, List.set_cons_succ]
            refine txt_nil ?_
            have hmT := hs2.out (by omega)
            clear hs1 hs2 hcd hneg c0 c1 c2 c3 d0 d1 d2 d3
            go_wp2
            refine ⟨⟨k + 1, .inl (by omega), val_int (by omega), ?_, hg1⟩, by simp [intOf]; omega⟩
            rw [HT.out, HT2.out, ← hmT]
            exact hown1
        · have hmT : sinkC cmpC a j m = m := by
            cases j with
            | zero => rfl
            | succ j => rw [sinkC, if_neg (by omega)]
          have haj : ¬ (a : Int) < (j : Int) := by omega
          have HS3 : Hid (T = m) := Lib.hid (by rw [← hS0.out, hmT])
          clear hS0 hmT
          go_wp2
          go_quiet (fail)
          go_wp2
          have hgq := hg.trans (⟨rfl, rfl, rfl, Nat.le_refl _, fun _ _ _ => rfl⟩ : wr.grownBy (wr.drewN nq) (some g))
          refine ⟨⟨k + 1, .inl (by omega), val_int (by omega), ?_, hgq⟩, by simp [intOf]; omega⟩
          rw [HT.out, HT2.out, HS3.out]
          exact hown
    · have hk0 : insC cmpC a l k = insC cmpC a l (b - (a + 1)) := by
        rcases hk with h1 | rfl
        · rw [show b - (a + 1) = k by omega]
        · rw [show b - (a + 1) = 0 by omega]
      have hlt' : ¬ (a : Int) + 1 + (k : Int) < (b : Int) := by omega
      rw [hk0] at hown
      clear hk0
      go_wp2
      refine ⟨rfl, .tuple #[], by simp [results, Try.results61, go_sem], rfl, hown, hg⟩
end Go.Proofs.Ytmmhkageehlknaa
