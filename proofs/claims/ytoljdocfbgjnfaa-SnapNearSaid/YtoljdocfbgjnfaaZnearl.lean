/-
  SnapNear: the walk.
-/
import Derived.Test.YtoljdocfbgjnfaaZknown
import Derived.Test.YtoljdocfbgjnfaaZnearp
import Derived.Test.YtoljdocfbgjnfaaZfind
import Derived.Test.YtoljdocfbgjnfaaSched
import Derived.Test.YtoljdocfbgjnfaaPc
set_option linter.unusedVariables false
set_option linter.unusedSimpArgs false
set_option maxRecDepth 100000
namespace Go.Proofs.Ytoljdocfbgjnfaa
open Go.RowKit Go.Srt
theorem wf_i64 {z : Int} (h : (Lit.int .i64 z).wf = true) : -9223372036854775808 ≤ z ∧ z ≤ 9223372036854775807 := by
  have := (by simpa [Lit.wf] using h : IntKind.i64.min ≤ z ∧ z ≤ IntKind.i64.max)
  exact this

set_option maxHeartbeats 12800000 in
theorem znear_walk (a : Option Addr) (c n : Nat) (l : List Pt) (hln : l.length = n) (hn40 : n ≤ 40) (N : Nat) (hN : N ≤ c) (hcut : ∀ w' : World, Calls Try.prog 5 #[.slice a N c] w' fun e w2 => e = .returned (.slice a n c) ∧ w' = w2) (w : World) (hr : Rd w a (pts l)) (z : Int) (hz : -9223372036854775808 ≤ z ∧ z ≤ 9223372036854775807) (b : Int) :
    Calls Try.prog 3 #[.slice a N c, .int .i64 z, .int .i64 b] w fun e w' => e = .returned (.bool true) ∧ Below w.heap.size w w' := by
  have HCUT := Lib.hid hcut
  have HRING := Lib.hid (fun w h => ring_any a c l z b hz (by omega) w h)
  have HLI := Lib.hid (fun w => lines_any z b w)
  have HPT := Lib.hid (fun p w => point_any p z hz w)
  have HKN := Lib.hid (fun w => zknown_any w)
  have HNX := Lib.hid (fun h i hi => ringF_next (z := z) (b := b) (l := l) h i hi)
  have HRL := ringF_len z b l
  have HLL := linesF_len z b
  have HRS := linesF_rise z b
  have HCM := Lib.hid (fun ad cc w x y hn hr => common_yes ad cc (linesF z b) HRS (by omega) x y hn w hr)
  have HNONE := Lib.hid (fun h => ringF_none (z := z) (b := b) (l := l) h)
  have HPARTS := Lib.hid (fun h => ringOk_parts (z := z) (b := b) (l := l) h)
  have HLN := Lib.hid hln
  rw [hln] at HRING HRL
  generalize linesF z b = LI at *
  generalize ringF z b l = R at *
  generalize ringOk z b l = OK at *
  generalize linesB z b = LB at *
  obtain ⟨m, hm⟩ : ∃ m, R.length = m := ⟨_, rfl⟩
  have HM := Lib.hid hm
  rw [hm] at HRING HRL HNX
  obtain ⟨k, hk⟩ : ∃ k, LI.length = k := ⟨_, rfl⟩
  rw [hk] at HLI HCM HLL
  obtain ⟨EE, hEE⟩ : ∃ E : Int, (if OK = true then 0 else 5) = E := ⟨_, rfl⟩
  rw [hEE] at HRING
  have HEE := Lib.hid hEE
  clear hm hk hln hcut HRS hEE
  go_enter Try.func3, Try.ntmps3
  go_wp2_with fail
  refine (HCUT.out _).mono ?_
  rintro e w1 ⟨rfl, rfl⟩
  go_wp2_with fail
  refine (HRING.out _ hr).mono ?_
  rintro e w1 ⟨v1, rfl, ho1, hb1⟩
  have hrl := hr.keep hb1
  obtain ⟨ra, rc, rfl, -, -, -, hrr, -⟩ := ho1.form
  have hs1 := hb1.size
  clear HCUT HRING ho1 hr
  go_wp2_with fail
  refine (HLI.out _).mono ?_
  rintro e w2 ⟨v2, rfl, ho2, hb2⟩
  have hrl := hrl.keep hb2
  have hrr := hrr.keep hb2
  obtain ⟨la, lc, rfl, -, -, -, hrL, -⟩ := ho2.form
  have hb3 := hb1.trans (hb2.mono hs1)
  have hs3 := hb3.size
  clear HLI ho2 hb1 hb2 hs1
  cases OK with
  | false =>
    have hR := HNONE.out rfl
    have hm0 : m = 0 := by rw [← HM.out, hR]; rfl
    subst hm0
    have he5 : EE = 5 := by rw [← HEE.out]; rfl
    subst he5
    go_wp2_with fail
    refine (HKN.out _).mono ?_
    rintro e w4 ⟨rfl, hb4⟩
    go_wp2
    go_ret
    exact ⟨rfl, hb3.trans (hb4.mono hs3)⟩
  | true =>
    obtain ⟨h1, h2, h3⟩ := HPARTS.out rfl
    subst h1
    have HNX2 := Lib.hid (fun i hi => HNX.out rfl i hi)
    clear HNX
    have he0 : EE = 0 := by rw [← HEE.out]; rfl
    subst he0
    clear HNONE HPARTS
    have HRR := Lib.hid hrr
    have HRLs := Lib.hid hrL
    have HRl := Lib.hid hrl
    have HAL := Lib.hid h3
    clear hrr hrL hrl h3
    go_wp2
    go_loopw [11] (fun i wr => ∃ j : Nat, j ≤ m ∧ i = .int .i64 j ∧ Below w2.heap.size w2 wr) (fun i _ => m - (intOf i).toNat)
    case atStart => exact ⟨0, by omega, rfl, Below.refl _ _⟩
    case round =>
      obtain ⟨j, hj, rfl, hbr⟩ := hrel
      by_cases hlt : j < m
      · have hlt2 : (j : Int) < (m : Int) := by omega
        obtain ⟨q, hq⟩ : ∃ q, (j + 1) % m = q := ⟨_, rfl⟩
        have hqm : q < m := by rw [← hq]; exact Nat.mod_lt _ (by omega)
        obtain ⟨hnl, hne⟩ := HNX2.out j hlt
        rw [hq] at hnl hne
        obtain ⟨b1, o1, rfl, hbb, c0, c1⟩ := (HRR.out.keep hbr).pt j (by rw [HM.out]; exact hlt)
        obtain ⟨b2, o2, e2, -, d0, d1⟩ := (HRR.out.keep hbr).pt q (by rw [HM.out]; exact hqm)
        cases e2
        rw [← getElem!_pos R j (by rw [HM.out]; exact hlt)] at c0 c1
        rw [← getElem!_pos R q (by rw [HM.out]; exact hqm)] at d0 d1
        have hrem : (IntKind.i64.wrap ((j : Int) + 1)).tmod (m : Int) = (q : Int) := by
          rw [IntWalk.i64_in _ (by omega), Int.tmod_eq_emod_of_nonneg (by omega), ← hq]; simp
        have hq0 : (0 : Int) ≤ (q : Int) ∧ (q : Int) < (m : Int) := by omega
        have hmz : ¬ (m : Int) = 0 := by omega
        generalize R[j]! = p1 at *
        generalize R[q]! = p2 at *
        obtain ⟨x1, y1⟩ := p1
        obtain ⟨x2, y2⟩ := p2
        dsimp only at c0 c1 d0 d1 hnl
        have HNL := Lib.hid hnl
        have HNE := Lib.hid hne
        clear hnl hne hq
        go_wp2_with fail
        refine wp_region_sched 16 [0, 1, 2, 3, 4, 5, 6, 7, 8, 9, 10, 11] (fun W => Below wr.heap.size wr W) rfl (by kernel_rfl) (by kernel_rfl) ?_
        have hb_0 : Below wr.heap.size wr wr.drew := (Below.refl _ _).drew
        generalize wr.drew = W0 at *
        (refine sched_light 0 _ ?_ (by kernel_rfl) (by kernel_rfl) rfl rfl ?_ hb_0 ?_; rotate_left; · (intro w' hS; (try dsimp only at hS); go_simp; with_reducible rfl)); try simp only [Act.put, List.getElem_toArray, List.getElem_cons_succ, List.getElem_cons_zero, List.setIfInBounds_toArray, List.set_cons_zero, List.set_cons_succ]
        (refine sched_light 1 _ ?_ (by kernel_rfl) (by kernel_rfl) rfl rfl ?_ hb_0 ?_; rotate_left; · (intro w' hS; (try dsimp only at hS); go_simp; with_reducible rfl)); try simp only [Act.put, List.getElem_toArray, List.getElem_cons_succ, List.getElem_cons_zero, List.setIfInBounds_toArray, List.set_cons_zero, List.set_cons_succ]
        (refine sched_light 2 _ ?_ (by kernel_rfl) (by kernel_rfl) rfl rfl ?_ hb_0 ?_; rotate_left; · (intro w' hS; (try dsimp only at hS); go_simp; with_reducible rfl)); try simp only [Act.put, List.getElem_toArray, List.getElem_cons_succ, List.getElem_cons_zero, List.setIfInBounds_toArray, List.set_cons_zero, List.set_cons_succ]
        refine sched_light 3 _ (.agg #[.int .i64 x1, .int .i64 y1]) (by kernel_rfl) (by kernel_rfl) rfl rfl ?_ hb_0 ?_
        · intro w' hS
          have e0 := (hS.cell (p := ⟨b1, o1 + j * 2, none⟩) hbb).trans c0
          have e1 := (hS.cell (p := ⟨b1, o1 + j * 2 + 1, none⟩) hbb).trans c1
          go_simp
        try simp only [Act.put, List.getElem_toArray, List.getElem_cons_succ, List.getElem_cons_zero, List.setIfInBounds_toArray, List.set_cons_zero, List.set_cons_succ]
        (refine sched_light 4 _ ?_ (by kernel_rfl) (by kernel_rfl) rfl rfl ?_ hb_0 ?_; rotate_left; · (intro w' hS; (try dsimp only at hS); go_simp; with_reducible rfl)); try simp only [Act.put, List.getElem_toArray, List.getElem_cons_succ, List.getElem_cons_zero, List.setIfInBounds_toArray, List.set_cons_zero, List.set_cons_succ]
        (refine sched_light 5 _ ?_ (by kernel_rfl) (by kernel_rfl) rfl rfl ?_ hb_0 ?_; rotate_left; · (intro w' hS; (try dsimp only at hS); go_simp; with_reducible rfl)); try simp only [Act.put, List.getElem_toArray, List.getElem_cons_succ, List.getElem_cons_zero, List.setIfInBounds_toArray, List.set_cons_zero, List.set_cons_succ]
        (refine sched_light 6 _ ?_ (by kernel_rfl) (by kernel_rfl) rfl rfl ?_ hb_0 ?_; rotate_left; · (intro w' hS; (try dsimp only at hS); go_simp; with_reducible rfl)); try simp only [Act.put, List.getElem_toArray, List.getElem_cons_succ, List.getElem_cons_zero, List.setIfInBounds_toArray, List.set_cons_zero, List.set_cons_succ]
        (refine sched_light 7 _ ?_ (by kernel_rfl) (by kernel_rfl) rfl rfl ?_ hb_0 ?_; rotate_left; · (intro w' hS; (try dsimp only at hS); go_simp; with_reducible rfl)); try simp only [Act.put, List.getElem_toArray, List.getElem_cons_succ, List.getElem_cons_zero, List.setIfInBounds_toArray, List.set_cons_zero, List.set_cons_succ]
        (refine sched_light 8 _ ?_ (by kernel_rfl) (by kernel_rfl) rfl rfl ?_ hb_0 ?_; rotate_left; · (intro w' hS; (try dsimp only at hS); go_simp; with_reducible rfl)); try simp only [Act.put, List.getElem_toArray, List.getElem_cons_succ, List.getElem_cons_zero, List.setIfInBounds_toArray, List.set_cons_zero, List.set_cons_succ]
        refine sched_light 9 _ (.int .i64 (q : Int)) (by kernel_rfl) (by kernel_rfl) rfl rfl ?_ hb_0 ?_
        · intro w' hS
          go_simp
          try omega
        try simp only [Act.put, List.getElem_toArray, List.getElem_cons_succ, List.getElem_cons_zero, List.setIfInBounds_toArray, List.set_cons_zero, List.set_cons_succ]
        (refine sched_light 10 _ ?_ (by kernel_rfl) (by kernel_rfl) rfl rfl ?_ hb_0 ?_; rotate_left; · (intro w' hS; (try dsimp only at hS); go_simp; with_reducible rfl)); try simp only [Act.put, List.getElem_toArray, List.getElem_cons_succ, List.getElem_cons_zero, List.setIfInBounds_toArray, List.set_cons_zero, List.set_cons_succ]
        refine sched_light 11 _ (.agg #[.int .i64 x2, .int .i64 y2]) (by kernel_rfl) (by kernel_rfl) rfl rfl ?_ hb_0 ?_
        · intro w' hS
          have e0 := (hS.cell (p := ⟨b1, o1 + q * 2, none⟩) hbb).trans d0
          have e1 := (hS.cell (p := ⟨b1, o1 + q * 2 + 1, none⟩) hbb).trans d1
          go_simp
        try simp only [Act.put, List.getElem_toArray, List.getElem_cons_succ, List.getElem_cons_zero, List.setIfInBounds_toArray, List.set_cons_zero, List.set_cons_succ]
        clear c0 c1 d0 d1
        refine sched_fork [12, 13] (by kernel_rfl) (by kernel_rfl) (by decide) ?_
        intro i hi
        simp only [List.mem_cons, List.not_mem_nil, or_false] at hi
        rcases hi with rfl | rfl
        ·
          refine sched_heavy 12 _ rfl rfl (fun K hK => ?_)
          go_step
          have hb_1 := hb_0.alloc hb_0.size (.cells #[.int .i64 0, .int .i64 0] 32)
          have hz_1 : (W0.alloc (.cells #[.int .i64 0, .int .i64 0] 32)).heap.size = W0.heap.size + 1 := by simp
          have kBa_1 := Blk.lit W0 (W0.heap.size) [.int .i64 0, .int .i64 0] 32 rfl
          refine hK.out _ _ hb_1 ?_
          clear hK K
          generalize W0.alloc (.cells #[.int .i64 0, .int .i64 0] 32) = W1 at *
          try simp only [Act.put, List.getElem_toArray, List.getElem_cons_succ, List.getElem_cons_zero, List.setIfInBounds_toArray, List.set_cons_zero, List.set_cons_succ]
          refine sched_fork [13] (by kernel_rfl) (by kernel_rfl) (by decide) ?_
          intro i hi
          simp only [List.mem_cons, List.not_mem_nil, or_false] at hi
          subst hi
          refine sched_heavy 13 _ rfl rfl (fun K hK => ?_)
          go_step
          have hb_2 := hb_1.alloc hb_1.size (.cells #[.int .i64 0, .int .i64 0] 32)
          have hz_2 : (W1.alloc (.cells #[.int .i64 0, .int .i64 0] 32)).heap.size = W1.heap.size + 1 := by simp
          have kBb_2 := Blk.lit W1 (W0.heap.size + 1) [.int .i64 0, .int .i64 0] 32 hz_1
          have kBa_2 := kBa_1.alloc (.cells #[.int .i64 0, .int .i64 0] 32)
          refine hK.out _ _ hb_2 ?_
          clear hK K
          generalize W1.alloc (.cells #[.int .i64 0, .int .i64 0] 32) = W2 at *
          try simp only [Act.put, List.getElem_toArray, List.getElem_cons_succ, List.getElem_cons_zero, List.setIfInBounds_toArray, List.set_cons_zero, List.set_cons_succ]
          refine sched_fork [14] (by kernel_rfl) (by kernel_rfl) (by decide) ?_
          intro i hi
          simp only [List.mem_cons, List.not_mem_nil, or_false] at hi
          subst hi
          refine sched_heavy 14 _ rfl rfl (fun K hK => ?_)
          have q0 := kBa_2.cell 0 rfl
          have q1 := kBa_2.cell 1 rfl
          have f0 := kBa_2.free 0
          have f1 := kBa_2.free 1
          go_step
          clear q0 q1 f0 f1
          have hb_3 := (hb_2.set_at (b := W0.heap.size) (o := 0) (by have := hb_0.size; omega) (.int .i64 x1)).set_at (b := W0.heap.size) (o := 1) (by have := hb_0.size; omega) (.int .i64 y1)
          have kBa_3 : Blk _ _ [.int .i64 x1, .int .i64 y1] := (kBa_2.set 0 (.int .i64 x1)).set 1 (.int .i64 y1)
          have kBb_3 := (kBb_2.set_at (b' := W0.heap.size) (o := 0) (by omega) (.int .i64 x1)).set_at (b' := W0.heap.size) (o := 1) (by omega) (.int .i64 y1)
          have hz_3 : ((W2.setCell ⟨W0.heap.size, 0, none⟩ (.int .i64 x1)).setCell ⟨W0.heap.size, 1, none⟩ (.int .i64 y1)).heap.size = W2.heap.size := by rw [size_setCell, size_setCell]
          refine hK.out _ _ hb_3 ?_
          clear hK K
          generalize (W2.setCell ⟨W0.heap.size, 0, none⟩ (.int .i64 x1)).setCell ⟨W0.heap.size, 1, none⟩ (.int .i64 y1) = W3 at *
          try simp only [Act.put, List.getElem_toArray, List.getElem_cons_succ, List.getElem_cons_zero, List.setIfInBounds_toArray, List.set_cons_zero, List.set_cons_succ]
          refine sched_fork [15] (by kernel_rfl) (by kernel_rfl) (by decide) ?_
          intro i hi
          simp only [List.mem_cons, List.not_mem_nil, or_false] at hi
          subst hi
          refine sched_heavy 15 _ rfl rfl (fun K hK => ?_)
          have q0 := kBb_3.cell 0 rfl
          have q1 := kBb_3.cell 1 rfl
          have f0 := kBb_3.free 0
          have f1 := kBb_3.free 1
          go_step
          clear q0 q1 f0 f1
          have hb_4 := (hb_3.set_at (b := W0.heap.size + 1) (o := 0) (by have := hb_0.size; omega) (.int .i64 x2)).set_at (b := W0.heap.size + 1) (o := 1) (by have := hb_0.size; omega) (.int .i64 y2)
          have kBb_4 : Blk _ _ [.int .i64 x2, .int .i64 y2] := (kBb_3.set 0 (.int .i64 x2)).set 1 (.int .i64 y2)
          have kBa_4 := (kBa_3.set_at (b' := W0.heap.size + 1) (o := 0) (by omega) (.int .i64 x2)).set_at (b' := W0.heap.size + 1) (o := 1) (by omega) (.int .i64 y2)
          have hz_4 : ((W3.setCell ⟨W0.heap.size + 1, 0, none⟩ (.int .i64 x2)).setCell ⟨W0.heap.size + 1, 1, none⟩ (.int .i64 y2)).heap.size = W3.heap.size := by rw [size_setCell, size_setCell]
          refine hK.out _ _ hb_4 ?_
          clear hK K
          generalize (W3.setCell ⟨W0.heap.size + 1, 0, none⟩ (.int .i64 x2)).setCell ⟨W0.heap.size + 1, 1, none⟩ (.int .i64 y2) = W4 at *
          try simp only [Act.put, List.getElem_toArray, List.getElem_cons_succ, List.getElem_cons_zero, List.setIfInBounds_toArray, List.set_cons_zero, List.set_cons_succ]
          refine sched_end (by kernel_rfl) ?_
          have hbw := hbr.trans (hb_4.mono hbr.size)
          have hL4 := HRLs.out.keep hbw
          have HX := Lib.hid (HCM.out la lc W4 x1 x2 (fun c hc => (HNL.out c hc).1) hL4)
          have HY := Lib.hid (fun t => HCM.out la lc (W4.drewN t) y1 y2 (fun c hc => (HNL.out c hc).2) (hL4.drewN t))
          have p0 := kBa_4.cell 0 rfl
          have p1 := kBa_4.cell 1 rfl
          have q0 := kBb_4.cell 0 rfl
          have q1 := kBb_4.cell 1 rfl
          clear hL4 hb_0 hb_1 hb_2 hb_3 hb_4 hz_1 hz_2 hz_3 hz_4 kBa_1 kBa_2 kBa_3 kBa_4 kBb_2 kBb_3 kBb_4 hrem hq0 hqm
          generalize W0.heap.size = BB at *
          by_cases hxx : x1 = x2
          · subst hxx
            by_cases hyy : y1 = y2
            · subst hyy
              have hm1 : ¬ 1 < m := fun h => HNE.out h rfl
              have hm2 : ¬ (1 : Int) < (m : Int) := by omega
              go_wp2_with fail
              refine HX.out.mono ?_
              rintro e wa ⟨rfl, t1, rfl⟩
              go_wp2_with fail
              refine (HY.out t1).mono ?_
              rintro e wa ⟨rfl, t2, rfl⟩
              go_wp2
              exact ⟨⟨j + 1, by omega, by go_num, below_drewN hbw _⟩, by simp [intOf]; omega⟩

            · 
              go_wp2_with fail
              refine HX.out.mono ?_
              rintro e wa ⟨rfl, t1, rfl⟩
              go_wp2_with fail
              refine (HY.out t1).mono ?_
              rintro e wa ⟨rfl, t2, rfl⟩
              go_wp2
              exact ⟨⟨j + 1, by omega, by go_num, below_drewN hbw _⟩, by simp [intOf]; omega⟩

          · 
            go_wp2_with fail
            refine HX.out.mono ?_
            rintro e wa ⟨rfl, t1, rfl⟩
            go_wp2_with fail
            refine (HY.out t1).mono ?_
            rintro e wa ⟨rfl, t2, rfl⟩
            go_wp2
            exact ⟨⟨j + 1, by omega, by go_num, below_drewN hbw _⟩, by simp [intOf]; omega⟩


        ·
          refine sched_heavy 13 _ rfl rfl (fun K hK => ?_)
          go_step
          have hb_1 := hb_0.alloc hb_0.size (.cells #[.int .i64 0, .int .i64 0] 32)
          have hz_1 : (W0.alloc (.cells #[.int .i64 0, .int .i64 0] 32)).heap.size = W0.heap.size + 1 := by simp
          have kBb_1 := Blk.lit W0 (W0.heap.size) [.int .i64 0, .int .i64 0] 32 rfl
          refine hK.out _ _ hb_1 ?_
          clear hK K
          generalize W0.alloc (.cells #[.int .i64 0, .int .i64 0] 32) = W1 at *
          try simp only [Act.put, List.getElem_toArray, List.getElem_cons_succ, List.getElem_cons_zero, List.setIfInBounds_toArray, List.set_cons_zero, List.set_cons_succ]
          refine sched_fork [12] (by kernel_rfl) (by kernel_rfl) (by decide) ?_
          intro i hi
          simp only [List.mem_cons, List.not_mem_nil, or_false] at hi
          subst hi
          refine sched_heavy 12 _ rfl rfl (fun K hK => ?_)
          go_step
          have hb_2 := hb_1.alloc hb_1.size (.cells #[.int .i64 0, .int .i64 0] 32)
          have hz_2 : (W1.alloc (.cells #[.int .i64 0, .int .i64 0] 32)).heap.size = W1.heap.size + 1 := by simp
          have kBa_2 := Blk.lit W1 (W0.heap.size + 1) [.int .i64 0, .int .i64 0] 32 hz_1
          have kBb_2 := kBb_1.alloc (.cells #[.int .i64 0, .int .i64 0] 32)
          refine hK.out _ _ hb_2 ?_
          clear hK K
          generalize W1.alloc (.cells #[.int .i64 0, .int .i64 0] 32) = W2 at *
          try simp only [Act.put, List.getElem_toArray, List.getElem_cons_succ, List.getElem_cons_zero, List.setIfInBounds_toArray, List.set_cons_zero, List.set_cons_succ]
          refine sched_fork [14] (by kernel_rfl) (by kernel_rfl) (by decide) ?_
          intro i hi
          simp only [List.mem_cons, List.not_mem_nil, or_false] at hi
          subst hi
          refine sched_heavy 14 _ rfl rfl (fun K hK => ?_)
          have q0 := kBa_2.cell 0 rfl
          have q1 := kBa_2.cell 1 rfl
          have f0 := kBa_2.free 0
          have f1 := kBa_2.free 1
          go_step
          clear q0 q1 f0 f1
          have hb_3 := (hb_2.set_at (b := W0.heap.size + 1) (o := 0) (by have := hb_0.size; omega) (.int .i64 x1)).set_at (b := W0.heap.size + 1) (o := 1) (by have := hb_0.size; omega) (.int .i64 y1)
          have kBa_3 : Blk _ _ [.int .i64 x1, .int .i64 y1] := (kBa_2.set 0 (.int .i64 x1)).set 1 (.int .i64 y1)
          have kBb_3 := (kBb_2.set_at (b' := W0.heap.size + 1) (o := 0) (by omega) (.int .i64 x1)).set_at (b' := W0.heap.size + 1) (o := 1) (by omega) (.int .i64 y1)
          have hz_3 : ((W2.setCell ⟨W0.heap.size + 1, 0, none⟩ (.int .i64 x1)).setCell ⟨W0.heap.size + 1, 1, none⟩ (.int .i64 y1)).heap.size = W2.heap.size := by rw [size_setCell, size_setCell]
          refine hK.out _ _ hb_3 ?_
          clear hK K
          generalize (W2.setCell ⟨W0.heap.size + 1, 0, none⟩ (.int .i64 x1)).setCell ⟨W0.heap.size + 1, 1, none⟩ (.int .i64 y1) = W3 at *
          try simp only [Act.put, List.getElem_toArray, List.getElem_cons_succ, List.getElem_cons_zero, List.setIfInBounds_toArray, List.set_cons_zero, List.set_cons_succ]
          refine sched_fork [15] (by kernel_rfl) (by kernel_rfl) (by decide) ?_
          intro i hi
          simp only [List.mem_cons, List.not_mem_nil, or_false] at hi
          subst hi
          refine sched_heavy 15 _ rfl rfl (fun K hK => ?_)
          have q0 := kBb_3.cell 0 rfl
          have q1 := kBb_3.cell 1 rfl
          have f0 := kBb_3.free 0
          have f1 := kBb_3.free 1
          go_step
          clear q0 q1 f0 f1
          have hb_4 := (hb_3.set_at (b := W0.heap.size) (o := 0) (by have := hb_0.size; omega) (.int .i64 x2)).set_at (b := W0.heap.size) (o := 1) (by have := hb_0.size; omega) (.int .i64 y2)
          have kBb_4 : Blk _ _ [.int .i64 x2, .int .i64 y2] := (kBb_3.set 0 (.int .i64 x2)).set 1 (.int .i64 y2)
          have kBa_4 := (kBa_3.set_at (b' := W0.heap.size) (o := 0) (by omega) (.int .i64 x2)).set_at (b' := W0.heap.size) (o := 1) (by omega) (.int .i64 y2)
          have hz_4 : ((W3.setCell ⟨W0.heap.size, 0, none⟩ (.int .i64 x2)).setCell ⟨W0.heap.size, 1, none⟩ (.int .i64 y2)).heap.size = W3.heap.size := by rw [size_setCell, size_setCell]
          refine hK.out _ _ hb_4 ?_
          clear hK K
          generalize (W3.setCell ⟨W0.heap.size, 0, none⟩ (.int .i64 x2)).setCell ⟨W0.heap.size, 1, none⟩ (.int .i64 y2) = W4 at *
          try simp only [Act.put, List.getElem_toArray, List.getElem_cons_succ, List.getElem_cons_zero, List.setIfInBounds_toArray, List.set_cons_zero, List.set_cons_succ]
          refine sched_end (by kernel_rfl) ?_
          have hbw := hbr.trans (hb_4.mono hbr.size)
          have hL4 := HRLs.out.keep hbw
          have HX := Lib.hid (HCM.out la lc W4 x1 x2 (fun c hc => (HNL.out c hc).1) hL4)
          have HY := Lib.hid (fun t => HCM.out la lc (W4.drewN t) y1 y2 (fun c hc => (HNL.out c hc).2) (hL4.drewN t))
          have p0 := kBa_4.cell 0 rfl
          have p1 := kBa_4.cell 1 rfl
          have q0 := kBb_4.cell 0 rfl
          have q1 := kBb_4.cell 1 rfl
          clear hL4 hb_0 hb_1 hb_2 hb_3 hb_4 hz_1 hz_2 hz_3 hz_4 kBa_2 kBa_3 kBa_4 kBb_1 kBb_2 kBb_3 kBb_4 hrem hq0 hqm
          generalize W0.heap.size = BB at *
          by_cases hxx : x1 = x2
          · subst hxx
            by_cases hyy : y1 = y2
            · subst hyy
              have hm1 : ¬ 1 < m := fun h => HNE.out h rfl
              have hm2 : ¬ (1 : Int) < (m : Int) := by omega
              go_wp2_with fail
              refine HX.out.mono ?_
              rintro e wa ⟨rfl, t1, rfl⟩
              go_wp2_with fail
              refine (HY.out t1).mono ?_
              rintro e wa ⟨rfl, t2, rfl⟩
              go_wp2
              exact ⟨⟨j + 1, by omega, by go_num, below_drewN hbw _⟩, by simp [intOf]; omega⟩

            · 
              go_wp2_with fail
              refine HX.out.mono ?_
              rintro e wa ⟨rfl, t1, rfl⟩
              go_wp2_with fail
              refine (HY.out t1).mono ?_
              rintro e wa ⟨rfl, t2, rfl⟩
              go_wp2
              exact ⟨⟨j + 1, by omega, by go_num, below_drewN hbw _⟩, by simp [intOf]; omega⟩

          · 
            go_wp2_with fail
            refine HX.out.mono ?_
            rintro e wa ⟨rfl, t1, rfl⟩
            go_wp2_with fail
            refine (HY.out t1).mono ?_
            rintro e wa ⟨rfl, t2, rfl⟩
            go_wp2
            exact ⟨⟨j + 1, by omega, by go_num, below_drewN hbw _⟩, by simp [intOf]; omega⟩
      · have hjm : j = m := by omega
        subst hjm
        have hbl := hb3.trans (hbr.mono hs3)
        have hrl2 := HRl.out.keep hbr
        have hz4 : 0 ≤ z ∧ z ≤ 4 := by unfold levelB at h2; simpa using h2
        clear HRR HRLs HRl HNX2 HCM hbr hlt hb3 hs3 hj
        go_wp2
        go_loopw [14, 15] (fun d i W => ∃ t : Nat, z + t ≤ 4 ∧ i = .int .i64 (z + t) ∧ d = .int .i64 (2 ^ t) ∧ W = wr) (fun _ i _ => (4 - intOf i).toNat)
        case atStart => exact ⟨0, by omega, by simp, by simp, rfl⟩
        case round =>
          obtain ⟨t, ht, rfl, rfl, rfl⟩ := hrel
          have htt : t ≤ 4 := by omega
          obtain ⟨P, hP⟩ : ∃ P : Int, (2 : Int) ^ t = P := ⟨_, rfl⟩
          have hPb : 1 ≤ P ∧ P ≤ 16 := by
            rw [← hP]
            have : t = 0 ∨ t = 1 ∨ t = 2 ∨ t = 3 ∨ t = 4 := by omega
            rcases this with rfl | rfl | rfl | rfl | rfl <;> decide
          by_cases hlt : z + t < 4
          · have HP2 : Hid ((2 : Int) ^ (t + 1) = 2 * P) := Lib.hid (by rw [← hP, Int.pow_succ]; omega)
            rw [hP]
            clear hP
            go_wp2
            exact ⟨⟨t + 1, by omega, val_int (by omega), val_int HP2.out.symm, trivial⟩, by simp only [intOf]; omega⟩
          · have hte : z + t = 4 := by omega
            have HPD : Hid (powD z = P) := Lib.hid (by rw [← hP]; unfold powD; congr 1; omega)
            rw [hP]
            clear hP
            have hPc := powD_cases h2
            rw [HPD.out] at hPc
            have HSH := Lib.hid (fun (v : Int) => shift_near (v := v) hPc)
            have HSN := Lib.hid (fun (p : Pt) => show snapP p z = ⟨shiftF p.x P, shiftF p.y P⟩ by unfold snapP; rw [HPD.out])
            clear HPD hPc hte ht htt
            go_wp2
            go_loopw [16] (fun i W => ∃ t : Nat, t ≤ n ∧ i = .int .i64 t ∧ Below wr.heap.size wr W) (fun i _ => n - (intOf i).toNat)
            case atStart => exact ⟨0, by omega, rfl, Below.refl _ _⟩
            case round =>
              obtain ⟨t, ht, rfl, hbt⟩ := hrel
              by_cases hlt : t < n
              · have hlt2 : (t : Int) < (n : Int) := by omega
                have htl : t < l.length := by rw [HLN.out]; exact hlt
                obtain ⟨b1, o1, rfl, hbb, c0, c1⟩ := (hrl2.keep hbt).pt t htl
                have hwd : worldB l[t] = true := List.all_eq_true.1 HAL.out _ (List.getElem_mem htl)
                have hpt := fun W => HPT.out l[t] W
                simp only [hwd, h2, Bool.and_self, if_true] at hpt
                rw [HSN.out l[t]] at hpt
                obtain ⟨p, hp⟩ : ∃ p, l[t] = p := ⟨_, rfl⟩
                rw [hp] at c0 c1 hwd hpt
                obtain ⟨x, y⟩ := p
                dsimp only [Pt.val] at c0 c1 hpt
                unfold worldB at hwd
                rw [decide_eq_true_eq] at hwd
                obtain ⟨hxb, hyb⟩ := hwd
                dsimp only at hxb hyb
                obtain ⟨g1, g2⟩ := HSH.out x
                obtain ⟨g3, g4⟩ := HSH.out y
                generalize shiftF x P = sx at *
                generalize shiftF y P = sy at *
                obtain ⟨QX, hQX⟩ : ∃ Q, P * sx = Q := ⟨_, rfl⟩
                obtain ⟨QY, hQY⟩ : ∃ Q, P * sy = Q := ⟨_, rfl⟩
                rw [hQX] at g1 g2
                rw [hQY] at g3 g4
                have HPTX := Lib.hid hpt
                clear hpt hp
                go_wp2_with fail
                refine (HPTX.out _).mono ?_
                rintro e W2 ⟨rfl, hbx⟩
                have hbw := (hbt.trans (hbx.mono hbt.size)).alloc (by have := hbx.size; have := hbt.size; omega) (.cells #[.int .i64 sx, .int .i64 sy] 32)
                have kq := Blk.lit W2 W2.heap.size [.int .i64 sx, .int .i64 sy] 32 rfl
                have e0 := (Below.cell (hbx.alloc hbx.size (.cells #[.int .i64 sx, .int .i64 sy] 32)) (p := ⟨b1, o1 + t * 2, none⟩) hbb).trans c0
                have e1 := (Below.cell (hbx.alloc hbx.size (.cells #[.int .i64 sx, .int .i64 sy] 32)) (p := ⟨b1, o1 + t * 2 + 1, none⟩) hbb).trans c1
                have f0 := kq.cell 0 rfl
                have f1 := kq.cell 1 rfl
                have hbb2 : b1 < W2.heap.size := by have := hbx.size; omega
                clear c0 c1 HPTX hbx
                go_wp2
                have n1 : ¬ P < 2 * (QX - x) := by omega
                have n2 : ¬ P < 2 * (x - QX) := by omega
                have n3 : ¬ P < 2 * (QY - y) := by omega
                have n4 : ¬ P < 2 * (y - QY) := by omega
                clear g1 g2 g3 g4
                go_quiet (fail)
                go_wp2
                exact ⟨⟨t + 1, by omega, by go_num, below_drewN hbw _⟩, by simp [intOf]; omega⟩
              · have htn : t = n := by omega
                subst htn
                go_wp2_with fail
                refine (HKN.out _).mono ?_
                rintro e W3 ⟨rfl, hb9⟩
                go_wp2
                go_ret
                exact ⟨rfl, (hbl.trans (hbt.mono hbl.size)).trans (hb9.mono (by have := hbl.size; have := hbt.size; omega))⟩

theorem znear_law {w : World} (a : Option Addr) (cap : Nat) (X : List Pt) (hl : X.length ≤ cap) (hm : cap ≤ maxLen) (hn : a = none → cap = 0) (hr : Rd w a (pts X)) (_ : ∀ y ∈ X, PtIn y) (z : Int) (hwz : (Lit.int .i64 z).wf = true) (b : Int) (_ : (Lit.int .i64 b).wf = true) :
    Calls Try.prog 3 #[.slice a X.length cap, .int .i64 z, .int .i64 b] w fun e w' => e = .returned (.bool true) ∧ Below w.heap.size w w' := by
  have hrt : Rd w a (pts (X.take 40)) := by rw [← pts_take]; exact hr.take _
  exact znear_walk a cap (min 40 X.length) (X.take 40) (by rw [List.length_take]) (by omega) X.length hl (fun w' => cut3_free a cap X.length hl hm w') w hrt z (wf_i64 hwz) b
end Go.Proofs.Ytoljdocfbgjnfaa
