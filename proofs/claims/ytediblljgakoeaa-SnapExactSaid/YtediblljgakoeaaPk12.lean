/-
  seg.Cuts. A region that draws its order, walked over each order in which its heavy operations may come up; the light ones are taken first. A region that draws its order, inside a round of a range over a function, walked over each order of its heavy operations. The cuts of a segment, from whichever end: in plain terms.
-/
import Derived.Test.YtediblljgakoeaaPk11
import Derived.Test.YtediblljgakoeaaPk2
import Derived.Test.YtediblljgakoeaaPk5
/- seg.Cuts. -/
set_option linter.unusedVariables false
set_option linter.unusedSimpArgs false
set_option maxRecDepth 100000
namespace Go.Proofs.Ytediblljgakoeaa
open Go.RowKit Go.Srt
theorem Try.infoCu : (Try.prog.info? 84).map (fun i => (i.zero, i.size, i.bytes)) = some (some (.agg #[.int .i64 0, .int .i64 0, .int .i64 0, .int .i64 0]), 4, 32) := by kernel_rfl

set_option maxHeartbeats 3200000 in
theorem cuts_any (a b : Pt) (xa ya : Option Addr) (xc yc : Nat) (xs ys : List Int) (hn : xs.length + ys.length ≤ sortMax) (w : World) (hx : Rd w xa (xs.map (Value.int .i64))) (hy : Rd w ya (ys.map (Value.int .i64))) :
    Calls Try.prog 26 #[a.val, b.val, .slice xa xs.length xc, .slice ya ys.length yc] w fun e w' => ∃ v, e = .returned v ∧ w'.ownsRow w.heap.size 32 2 v (cutsF a b xs ys).length (pts (cutsF a b xs ys)) ∧ Below w.heap.size w w' := by
  have hn2 : xs.length + ys.length ≤ 1000 := by unfold sortMax at hn; omega
  have HFN := Lib.hid (fun l2 h1 h2 => cutsF_of a b xs ys l2 h1 h2)
  have HRO := Lib.hid (fun (c : Cu) (h : c ∈ cutRow a b xs ys) => cutRow_ok h)
  generalize cutsF a b xs ys = RES at *
  obtain ⟨ax, ay⟩ := a
  obtain ⟨bx, bY⟩ := b
  dsimp only [Pt.val]
  go_enter Try.func26, Try.ntmps26
  go_wp2
  go_loopw [9, 20] (fun o i wr => ∃ (k : Nat) (l : List Cu), k ≤ xs.length ∧ i = .int .i64 k ∧ Hid ((xs.take k).filterMap (cutX ⟨ax, ay⟩ ⟨bx, bY⟩) = l) ∧ l.length ≤ k ∧ wr.ownsRow (w.heap.size + 2) 84 4 o l.length (cus l) ∧ Blk wr w.heap.size [.int .i64 ax, .int .i64 ay] ∧ Blk wr (w.heap.size + 1) [.int .i64 bx, .int .i64 bY] ∧ Below w.heap.size w wr) (fun _ i _ => xs.length - (intOf i).toNat)
  case atStart => exact ⟨0, [], Nat.zero_le _, rfl, Lib.hid rfl, Nat.le_refl _, World.ownsRow_nil _ _ _ _, (Blk.lit _ _ [.int .i64 ax, .int .i64 ay] _ (by simp)).alloc _, Blk.lit _ _ [.int .i64 bx, .int .i64 bY] _ (by simp), ((Below.refl _ _).alloc (Nat.le_refl _) _).alloc (by simp) _⟩
  case round =>
    obtain ⟨k, l, hk, rfl, HL, hll, hown, hba, hbb, hbl⟩ := hrel
    by_cases hlt : k < xs.length
    · obtain ⟨b1, off1, rfl, c0, hb1⟩ := (hx.keep hbl).at (i := k) (v := .int .i64 xs[k]) (by simp [hlt])
      have HST : Hid ((xs.take (k + 1)).filterMap (cutX ⟨ax, ay⟩ ⟨bx, bY⟩) = l ++ (cutX ⟨ax, ay⟩ ⟨bx, bY⟩ xs[k]).toList) := Lib.hid (by rw [List.take_succ_eq_append_getElem hlt, List.filterMap_append, HL.out]; congr 1)
      generalize xs[k] = c at *
      have hat := atx_any ⟨ax, ay⟩ ⟨bx, bY⟩ c
      have HBD := Lib.hid (fun h => at_bd (a := ⟨ax, ay⟩) (b := ⟨bx, bY⟩) (c := c) h)
      have HCX : Hid (cutX ⟨ax, ay⟩ ⟨bx, bY⟩ c = if (atF ⟨ax, ay⟩ ⟨bx, bY⟩ c).2 then some ⟨c, (atF ⟨ax, ay⟩ ⟨bx, bY⟩ c).1, ((c - ax).natAbs : Nat), ((bx - ax).natAbs : Nat)⟩ else none) := Lib.hid rfl
      generalize cutX ⟨ax, ay⟩ ⟨bx, bY⟩ c = CX at *
      generalize atF ⟨ax, ay⟩ ⟨bx, bY⟩ c = R at *
      obtain ⟨y, ok⟩ := R
      dsimp only [Pt.val] at hat
      have HAT := Lib.hid hat
      clear hat
      have p0 := hba.cell 0 rfl
      have p1 := hba.cell 1 rfl
      have q0 := hbb.cell 0 rfl
      have q1 := hbb.cell 1 rfl
      have hs := hbl.size
      go_wp2_with fail
      refine (HAT.out _).mono ?_
      rintro e w1 ⟨rfl, hx1⟩
      have hown1 := hown.below hx1
      have hba1 := hba.keep hx1
      have hbb1 := hbb.keep hx1
      have hbl1 := hbl.trans (hx1.mono hs)
      clear p0 p1 q0 q1 c0 hown hba hbb
      cases ok with
      | false =>
        go_wp2
        exact ⟨⟨k + 1, l, by omega, val_int (by omega), Lib.hid (by rw [HST.out, HCX.out]; simp), by omega, hown1, hba1, hbb1, hbl1⟩, by simp [intOf]; omega⟩
      | true =>
        have hbd := HBD.out rfl
        try dsimp only at hbd
        have hf1 := far_any c ax (by omega)
        have hf2 := far_any bx ax (by omega)
        have hs1 := hbl1.size
        have hob := hown1.lt
        obtain ⟨F1, hF1⟩ : ∃ F : Int, (((c - ax).natAbs : Nat) : Int) = F := ⟨_, rfl⟩
        obtain ⟨F2, hF2⟩ : ∃ F : Int, (((bx - ax).natAbs : Nat) : Int) = F := ⟨_, rfl⟩
        rw [hF1, hF2] at HCX
        rw [hF1] at hf1
        rw [hF2] at hf2
        have HF1 := Lib.hid hf1
        have HF2 := Lib.hid hf2
        clear hf1 hf2 hF1 hF2 HBD HAT hbd hx1
        go_wp2_with fail
        refine wp_region_lit_txtZ (some 16) [0, 1, 2, 3, 4, 5, 6, 8, 9, 10, 11, 13] (fun W => Blk W w.heap.size [.int .i64 ax, .int .i64 ay] ∧ Blk W (w.heap.size + 1) [.int .i64 bx, .int .i64 bY]) (by kernel_rfl) (by kernel_rfl) (by kernel_rfl) (by kernel_rfl) ⟨hba1, hbb1⟩ ?_
        (refine txt_light ?_ rfl rfl ?_ ?_; rotate_left; · (intro w' hS; (try dsimp only at hS); go_simp; with_reducible rfl)); try simp only [Act.put, List.setIfInBounds_toArray, List.set_cons_zero, List.set_cons_succ]
        (refine txt_light ?_ rfl rfl ?_ ?_; rotate_left; · (intro w' hS; (try dsimp only at hS); go_simp; with_reducible rfl)); try simp only [Act.put, List.setIfInBounds_toArray, List.set_cons_zero, List.set_cons_succ]
        (refine txt_light ?_ rfl rfl ?_ ?_; rotate_left; · (intro w' hS; (try dsimp only at hS); go_simp; with_reducible rfl)); try simp only [Act.put, List.setIfInBounds_toArray, List.set_cons_zero, List.set_cons_succ]
        (refine txt_light ?_ rfl rfl ?_ ?_; rotate_left; · (intro w' hS; (try dsimp only at hS); go_simp; with_reducible rfl)); try simp only [Act.put, List.setIfInBounds_toArray, List.set_cons_zero, List.set_cons_succ]
        (refine txt_light ?_ rfl rfl ?_ ?_; rotate_left; · (intro w' hS; (try dsimp only at hS); go_simp; with_reducible rfl)); try simp only [Act.put, List.setIfInBounds_toArray, List.set_cons_zero, List.set_cons_succ]
        (refine txt_light ?_ rfl rfl ?_ ?_; rotate_left; · (intro w' hS; (try dsimp only at hS); go_simp; with_reducible rfl)); try simp only [Act.put, List.setIfInBounds_toArray, List.set_cons_zero, List.set_cons_succ]
        refine txt_light (.int .i64 ax) rfl rfl ?_ ?_
        · intro w' hS
          have c0 := hS.1.cell 0 rfl
          go_simp
        try simp only [Act.put, List.setIfInBounds_toArray, List.set_cons_zero, List.set_cons_succ]
        refine txt_call [.int .i64 c, .int .i64 ax] Try.f41 rfl rfl Try.func41 (by kernel_rfl) (by kernel_rfl) rfl ((HF1.out _).mono ?_)
        rintro e w2 ⟨rfl, rfl⟩
        refine ⟨_, rfl, ⟨hba1.drew, hbb1.drew⟩, ?_⟩
        try simp only [Act.put, List.setIfInBounds_toArray, List.set_cons_zero, List.set_cons_succ]
        (refine txt_light ?_ rfl rfl ?_ ?_; rotate_left; · (intro w' hS; (try dsimp only at hS); go_simp; with_reducible rfl)); try simp only [Act.put, List.setIfInBounds_toArray, List.set_cons_zero, List.set_cons_succ]
        refine txt_light (.int .i64 bx) rfl rfl ?_ ?_
        · intro w' hS
          have c0 := hS.2.cell 0 rfl
          go_simp
        try simp only [Act.put, List.setIfInBounds_toArray, List.set_cons_zero, List.set_cons_succ]
        (refine txt_light ?_ rfl rfl ?_ ?_; rotate_left; · (intro w' hS; (try dsimp only at hS); go_simp; with_reducible rfl)); try simp only [Act.put, List.setIfInBounds_toArray, List.set_cons_zero, List.set_cons_succ]
        refine txt_light (.int .i64 ax) rfl rfl ?_ ?_
        · intro w' hS
          have c0 := hS.1.cell 0 rfl
          go_simp
        try simp only [Act.put, List.setIfInBounds_toArray, List.set_cons_zero, List.set_cons_succ]
        refine txt_call [.int .i64 bx, .int .i64 ax] Try.f41 rfl rfl Try.func41 (by kernel_rfl) (by kernel_rfl) rfl ((HF2.out _).mono ?_)
        rintro e w2 ⟨rfl, rfl⟩
        refine ⟨_, rfl, ⟨hba1.drew, hbb1.drew⟩, ?_⟩
        try simp only [Act.put, List.setIfInBounds_toArray, List.set_cons_zero, List.set_cons_succ]
        (refine txt_light ?_ rfl rfl ?_ ?_; rotate_left; · (intro w' hS; (try dsimp only at hS); go_simp; with_reducible rfl)); try simp only [Act.put, List.setIfInBounds_toArray, List.set_cons_zero, List.set_cons_succ]
        refine txt_heavy rfl rfl (fun K hK => ?_)
        go_step
        have hba2 := (Blk.drew hba1).alloc (.cells #[.int .i64 c, .int .i64 y, .int .i64 F1, .int .i64 F2] 84)
        have hbb2 := (Blk.drew hbb1).alloc (.cells #[.int .i64 c, .int .i64 y, .int .i64 F1, .int .i64 F2] 84)
        have hown2 := World.ownsRow.below (w := w1.drew) hown1 (Below.new _ (.cells #[.int .i64 c, .int .i64 y, .int .i64 F1, .int .i64 F2] 84))
        have hbl2 := (Below.drew hbl1).alloc hs1 (.cells #[.int .i64 c, .int .i64 y, .int .i64 F1, .int .i64 F2] 84)
        have hrd := Rd.lit w1.drew w1.heap.size [.int .i64 c, .int .i64 y, .int .i64 F1, .int .i64 F2] 84 rfl
        refine hK.out _ _ ⟨hba2, hbb2⟩ ?_
        clear hK K
        try simp only [Act.put, List.setIfInBounds_toArray, List.set_cons_zero, List.set_cons_succ]
        refine txt_heavy rfl rfl (fun K hK => ?_)
        refine wp_app (.tmp 32) (.tmp 46) 80 rfl (w.heap.size + 2) 84 (.agg #[.int .i64 0, .int .i64 0, .int .i64 0, .int .i64 0]) 4 32 Try.underlying80 Try.infoCu rfl (by decide) _ l.length (cus l) rfl hown2 (some ⟨w1.heap.size, 0, none⟩) 1 1 [.int .i64 c, .int .i64 y, .int .i64 F1, .int .i64 F2] rfl (fun h => by cases h) hrd rfl (by simp [Value.oneCell']) (by unfold sortMax at hn; omega) (by decide) (by have := hbb1.lt; simp; omega) ?_
        intro v2 w2 hown3 hg2
        have hba3 := hba2.grown hg2 (fun e => by have := (hob _ e.symm).1; omega)
        have hbb3 := hbb2.grown hg2 (fun e => by have := (hob _ e.symm).1; omega)
        have hbl3 := hbl2.grown hg2 (by simp; omega) (fun k hk => by have := (hob k hk).1; omega)
        refine hK.out _ _ ⟨hba3, hbb3⟩ ?_
        clear hK K
        try simp only [Act.put, List.setIfInBounds_toArray, List.set_cons_zero, List.set_cons_succ]
        refine txt_last rfl rfl rfl (fun K hK => ?_)
        go_step
        refine hK.out _ _ ?_
        refine txt_nil ?_
        clear hK K hba1 hba2 hbb1 hbb2 hown1 hown2 hrd hg2
        go_wp2
        refine ⟨⟨k + 1, l ++ [⟨c, y, F1, F2⟩], by omega, by go_num, Lib.hid (by rw [HST.out, HCX.out]; rfl), by simp; omega, ?_, hba3, hbb3, hbl3⟩, by simp [intOf]; omega⟩
        rw [show cus (l ++ [⟨c, y, F1, F2⟩]) = cus l ++ [.int .i64 c, .int .i64 y, .int .i64 F1, .int .i64 F2] by simp [cus, Cu.cells], List.length_append]
        exact hown3
    · obtain rfl : k = xs.length := by omega
      have hlt0 : ¬ (xs.length : Int) < xs.length := by omega
      rw [List.take_length] at HL
      go_wp2
      go_loopw [9, 51] (fun o i wr => ∃ (k : Nat) (l : List Cu), k ≤ ys.length ∧ i = .int .i64 k ∧ Hid (xs.filterMap (cutX ⟨ax, ay⟩ ⟨bx, bY⟩) ++ (ys.take k).filterMap (cutY ⟨ax, ay⟩ ⟨bx, bY⟩) = l) ∧ l.length ≤ xs.length + k ∧ wr.ownsRow (w.heap.size + 2) 84 4 o l.length (cus l) ∧ Blk wr w.heap.size [.int .i64 ax, .int .i64 ay] ∧ Blk wr (w.heap.size + 1) [.int .i64 bx, .int .i64 bY] ∧ Below w.heap.size w wr) (fun _ i _ => ys.length - (intOf i).toNat)
      case atStart => exact ⟨0, l, Nat.zero_le _, rfl, Lib.hid (by rw [List.take_zero, List.filterMap_nil, List.append_nil]; exact HL.out), hll, hown, hba, hbb, hbl⟩
      case round =>
        clear hown hba hbb hbl HL hll
        obtain ⟨k, l, hk, rfl, HL, hll, hown, hba, hbb, hbl⟩ := hrel
        by_cases hlt : k < ys.length
        · obtain ⟨b1, off1, rfl, c0, hb1⟩ := (hy.keep hbl).at (i := k) (v := .int .i64 ys[k]) (by simp [hlt])
          have HST : Hid (xs.filterMap (cutX ⟨ax, ay⟩ ⟨bx, bY⟩) ++ (ys.take (k + 1)).filterMap (cutY ⟨ax, ay⟩ ⟨bx, bY⟩) = l ++ (cutY ⟨ax, ay⟩ ⟨bx, bY⟩ ys[k]).toList) := Lib.hid (by rw [List.take_succ_eq_append_getElem hlt, List.filterMap_append, ← List.append_assoc, HL.out]; congr 1)
          generalize ys[k] = c at *
          have hat := aty_any ⟨ax, ay⟩ ⟨bx, bY⟩ c
          have HBD := Lib.hid (fun h => at_bd (a := ⟨ay, ax⟩) (b := ⟨bY, bx⟩) (c := c) h)
          have HCX : Hid (cutY ⟨ax, ay⟩ ⟨bx, bY⟩ c = if (atF ⟨ay, ax⟩ ⟨bY, bx⟩ c).2 then some ⟨(atF ⟨ay, ax⟩ ⟨bY, bx⟩ c).1, c, ((c - ay).natAbs : Nat), ((bY - ay).natAbs : Nat)⟩ else none) := Lib.hid rfl
          generalize cutY ⟨ax, ay⟩ ⟨bx, bY⟩ c = CX at *
          dsimp only at hat
          generalize atF ⟨ay, ax⟩ ⟨bY, bx⟩ c = R at *
          obtain ⟨y, ok⟩ := R
          dsimp only [Pt.val] at hat
          have HAT := Lib.hid hat
          clear hat
          have p0 := hba.cell 0 rfl
          have p1 := hba.cell 1 rfl
          have q0 := hbb.cell 0 rfl
          have q1 := hbb.cell 1 rfl
          have hs := hbl.size
          go_wp2_with fail
          refine (HAT.out _).mono ?_
          rintro e w1 ⟨rfl, hx1⟩
          have hown1 := hown.below hx1
          have hba1 := hba.keep hx1
          have hbb1 := hbb.keep hx1
          have hbl1 := hbl.trans (hx1.mono hs)
          clear p0 p1 q0 q1 c0 hown hba hbb
          cases ok with
          | false =>
            go_wp2
            exact ⟨⟨k + 1, l, by omega, val_int (by omega), Lib.hid (by rw [HST.out, HCX.out]; simp), by omega, hown1, hba1, hbb1, hbl1⟩, by simp [intOf]; omega⟩
          | true =>
            have hbd := HBD.out rfl
            try dsimp only at hbd
            have hf1 := far_any c ay (by omega)
            have hf2 := far_any bY ay (by omega)
            have hs1 := hbl1.size
            have hob := hown1.lt
            obtain ⟨F1, hF1⟩ : ∃ F : Int, (((c - ay).natAbs : Nat) : Int) = F := ⟨_, rfl⟩
            obtain ⟨F2, hF2⟩ : ∃ F : Int, (((bY - ay).natAbs : Nat) : Int) = F := ⟨_, rfl⟩
            rw [hF1, hF2] at HCX
            rw [hF1] at hf1
            rw [hF2] at hf2
            have HF1 := Lib.hid hf1
            have HF2 := Lib.hid hf2
            clear hf1 hf2 hF1 hF2 HBD HAT hbd hx1
            go_wp2_with fail
            refine wp_region_lit_txtZ (some 16) [0, 1, 2, 3, 4, 5, 6, 8, 9, 10, 11, 13] (fun W => Blk W w.heap.size [.int .i64 ax, .int .i64 ay] ∧ Blk W (w.heap.size + 1) [.int .i64 bx, .int .i64 bY]) (by kernel_rfl) (by kernel_rfl) (by kernel_rfl) (by kernel_rfl) ⟨hba1, hbb1⟩ ?_
            (refine txt_light ?_ rfl rfl ?_ ?_; rotate_left; · (intro w' hS; (try dsimp only at hS); go_simp; with_reducible rfl)); try simp only [Act.put, List.setIfInBounds_toArray, List.set_cons_zero, List.set_cons_succ]
            (refine txt_light ?_ rfl rfl ?_ ?_; rotate_left; · (intro w' hS; (try dsimp only at hS); go_simp; with_reducible rfl)); try simp only [Act.put, List.setIfInBounds_toArray, List.set_cons_zero, List.set_cons_succ]
            (refine txt_light ?_ rfl rfl ?_ ?_; rotate_left; · (intro w' hS; (try dsimp only at hS); go_simp; with_reducible rfl)); try simp only [Act.put, List.setIfInBounds_toArray, List.set_cons_zero, List.set_cons_succ]
            (refine txt_light ?_ rfl rfl ?_ ?_; rotate_left; · (intro w' hS; (try dsimp only at hS); go_simp; with_reducible rfl)); try simp only [Act.put, List.setIfInBounds_toArray, List.set_cons_zero, List.set_cons_succ]
            (refine txt_light ?_ rfl rfl ?_ ?_; rotate_left; · (intro w' hS; (try dsimp only at hS); go_simp; with_reducible rfl)); try simp only [Act.put, List.setIfInBounds_toArray, List.set_cons_zero, List.set_cons_succ]
            (refine txt_light ?_ rfl rfl ?_ ?_; rotate_left; · (intro w' hS; (try dsimp only at hS); go_simp; with_reducible rfl)); try simp only [Act.put, List.setIfInBounds_toArray, List.set_cons_zero, List.set_cons_succ]
            refine txt_light (.int .i64 ay) rfl rfl ?_ ?_
            · intro w' hS
              have c0 := hS.1.cell 1 rfl
              go_simp
            try simp only [Act.put, List.setIfInBounds_toArray, List.set_cons_zero, List.set_cons_succ]
            refine txt_call [.int .i64 c, .int .i64 ay] Try.f41 rfl rfl Try.func41 (by kernel_rfl) (by kernel_rfl) rfl ((HF1.out _).mono ?_)
            rintro e w2 ⟨rfl, rfl⟩
            refine ⟨_, rfl, ⟨hba1.drew, hbb1.drew⟩, ?_⟩
            try simp only [Act.put, List.setIfInBounds_toArray, List.set_cons_zero, List.set_cons_succ]
            (refine txt_light ?_ rfl rfl ?_ ?_; rotate_left; · (intro w' hS; (try dsimp only at hS); go_simp; with_reducible rfl)); try simp only [Act.put, List.setIfInBounds_toArray, List.set_cons_zero, List.set_cons_succ]
            refine txt_light (.int .i64 bY) rfl rfl ?_ ?_
            · intro w' hS
              have c0 := hS.2.cell 1 rfl
              go_simp
            try simp only [Act.put, List.setIfInBounds_toArray, List.set_cons_zero, List.set_cons_succ]
            (refine txt_light ?_ rfl rfl ?_ ?_; rotate_left; · (intro w' hS; (try dsimp only at hS); go_simp; with_reducible rfl)); try simp only [Act.put, List.setIfInBounds_toArray, List.set_cons_zero, List.set_cons_succ]
            refine txt_light (.int .i64 ay) rfl rfl ?_ ?_
            · intro w' hS
              have c0 := hS.1.cell 1 rfl
              go_simp
            try simp only [Act.put, List.setIfInBounds_toArray, List.set_cons_zero, List.set_cons_succ]
            refine txt_call [.int .i64 bY, .int .i64 ay] Try.f41 rfl rfl Try.func41 (by kernel_rfl) (by kernel_rfl) rfl ((HF2.out _).mono ?_)
            rintro e w2 ⟨rfl, rfl⟩
            refine ⟨_, rfl, ⟨hba1.drew, hbb1.drew⟩, ?_⟩
            try simp only [Act.put, List.setIfInBounds_toArray, List.set_cons_zero, List.set_cons_succ]
            (refine txt_light ?_ rfl rfl ?_ ?_; rotate_left; · (intro w' hS; (try dsimp only at hS); go_simp; with_reducible rfl)); try simp only [Act.put, List.setIfInBounds_toArray, List.set_cons_zero, List.set_cons_succ]
            refine txt_heavy rfl rfl (fun K hK => ?_)
            go_step
            have hba2 := (Blk.drew hba1).alloc (.cells #[.int .i64 y, .int .i64 c, .int .i64 F1, .int .i64 F2] 84)
            have hbb2 := (Blk.drew hbb1).alloc (.cells #[.int .i64 y, .int .i64 c, .int .i64 F1, .int .i64 F2] 84)
            have hown2 := World.ownsRow.below (w := w1.drew) hown1 (Below.new _ (.cells #[.int .i64 y, .int .i64 c, .int .i64 F1, .int .i64 F2] 84))
            have hbl2 := (Below.drew hbl1).alloc hs1 (.cells #[.int .i64 y, .int .i64 c, .int .i64 F1, .int .i64 F2] 84)
            have hrd := Rd.lit w1.drew w1.heap.size [.int .i64 y, .int .i64 c, .int .i64 F1, .int .i64 F2] 84 rfl
            refine hK.out _ _ ⟨hba2, hbb2⟩ ?_
            clear hK K
            try simp only [Act.put, List.setIfInBounds_toArray, List.set_cons_zero, List.set_cons_succ]
            refine txt_heavy rfl rfl (fun K hK => ?_)
            refine wp_app (.tmp 63) (.tmp 77) 80 rfl (w.heap.size + 2) 84 (.agg #[.int .i64 0, .int .i64 0, .int .i64 0, .int .i64 0]) 4 32 Try.underlying80 Try.infoCu rfl (by decide) _ l.length (cus l) rfl hown2 (some ⟨w1.heap.size, 0, none⟩) 1 1 [.int .i64 y, .int .i64 c, .int .i64 F1, .int .i64 F2] rfl (fun h => by cases h) hrd rfl (by simp [Value.oneCell']) (by unfold sortMax at hn; omega) (by decide) (by have := hbb1.lt; simp; omega) ?_
            intro v2 w2 hown3 hg2
            have hba3 := hba2.grown hg2 (fun e => by have := (hob _ e.symm).1; omega)
            have hbb3 := hbb2.grown hg2 (fun e => by have := (hob _ e.symm).1; omega)
            have hbl3 := hbl2.grown hg2 (by simp; omega) (fun k hk => by have := (hob k hk).1; omega)
            refine hK.out _ _ ⟨hba3, hbb3⟩ ?_
            clear hK K
            try simp only [Act.put, List.setIfInBounds_toArray, List.set_cons_zero, List.set_cons_succ]
            refine txt_last rfl rfl rfl (fun K hK => ?_)
            go_step
            refine hK.out _ _ ?_
            refine txt_nil ?_
            clear hK K hba1 hba2 hbb1 hbb2 hown1 hown2 hrd hg2
            go_wp2
            refine ⟨⟨k + 1, l ++ [⟨y, c, F1, F2⟩], by omega, by go_num, Lib.hid (by rw [HST.out, HCX.out]; rfl), by simp; omega, ?_, hba3, hbb3, hbl3⟩, by simp [intOf]; omega⟩
            rw [show cus (l ++ [⟨y, c, F1, F2⟩]) = cus l ++ [.int .i64 y, .int .i64 c, .int .i64 F1, .int .i64 F2] by simp [cus, Cu.cells], List.length_append]
            exact hown3
        · obtain rfl : k = ys.length := by omega
          rw [List.take_length] at HL
          have HRW : Hid (cutRow ⟨ax, ay⟩ ⟨bx, bY⟩ xs ys = l) := Lib.hid (by unfold cutRow; exact HL.out)
          have hokl : ∀ c ∈ l, CuOk c := fun c hc => HRO.out c (by rw [HRW.out]; exact hc)
          have hls : l.length ≤ sortMax := by omega
          have HOK := Lib.hid hokl
          clear hokl hlt HL HRO
          have HSS := Lib.hid (fun v w h => sortc_any (w.heap.size + 2) l hls HOK.out v w h)
          have hob := hown.lt
          have hs0 := hbl.size
          go_wp2_with fail
          refine (sortc_any (w.heap.size + 2) l hls HOK.out _ _ hown).mono ?_
          rintro e w1 ⟨rfl, l2, hp2, hs2, hown2, hg2⟩
          have hba2 := hba.grown hg2 (fun e => by have := (hob _ e.symm).1; omega)
          have hbb2 := hbb.grown hg2 (fun e => by have := (hob _ e.symm).1; omega)
          have hbl2 := hbl.grown hg2 hs0 (fun k hk => by have := (hob k hk).1; omega)
          have HTH := Lib.hid (HFN.out l2 (by rw [HRW.out]; exact hp2) hs2)
          have hll2 : l2.length = l.length := hp2.length_eq
          clear HFN HRW hp2 hs2 hown hba hbb HOK HSS hg2 hbl hob
          obtain ⟨oa, oc, rfl, -, -, -, hrd, -⟩ := hown2.form
          rw [← hll2] at hown2
          have p0 := hba2.cell 0 rfl
          have p1 := hba2.cell 1 rfl
          have q0 := hbb2.cell 0 rfl
          have q1 := hbb2.cell 1 rfl
          have hs2 := hbl2.size
          rw [← hll2]
          have HL2 := Lib.hid hll2
          clear hll2
          go_wp2_with fail
          refine (thin_any ⟨ax, ay⟩ ⟨bx, bY⟩ oa oc l2 (by rw [HL2.out]; unfold sortMax at hls; omega) w1 hrd).mono ?_
          rintro e w2 ⟨v, rfl, hown3, hbl3⟩
          rw [HTH.out] at hown3
          have hbl4 := hbl2.trans (hbl3.mono hs2)
          go_wp2
          go_ret
          exact ⟨_, rfl, hown3.mono hs2, hbl4⟩
end Go.Proofs.Ytediblljgakoeaa
/- A region that draws its order, walked over each order in which its heavy operations may come up; the light ones are taken first. -/
set_option linter.unusedVariables false
set_option linter.unusedSimpArgs false
namespace Go
open Go.RowKit
section
variable {P : Program} {ops : Array Oper} {lt : Nat → Bool} {Q : Exit → Act → World → Prop} {S : World → Prop}

/-- Over each order of the heavy ones. -/
def wpSched (P : Program) (ops : Array Oper) (lt : Nat → Bool) (Q : Exit → Act → World → Prop) (S : World → Prop) : Nat → Array Bool → Act → World → Prop
  | 0, listed, a, w => Region.ready .any ops listed = [] ∧ Q .normal a w
  | f + 1, listed, a, w =>
    match (Region.ready .any ops listed).find? lt with
    | some j => Region.free .any ops listed j = true ∧ ∃ o v, ops[j]? = some o ∧ YieldsIf P ops S o v a ∧ S w ∧ wpSched P ops lt Q S f (listed.setIfInBounds j true) (a.put o.dst v) w
    | none => (Region.ready .any ops listed = [] → Q .normal a w) ∧
      ∀ i ∈ Region.ready .any ops listed, wpOp P ops Q i (fun a' w' => S w' ∧ wpSched P ops lt Q S f (listed.setIfInBounds i true) a' w') a w

theorem wpSched_sound (hs : Region.noSelect ops = true) (hQ : ∀ c a w, ¬ Q (.panic c) a w) : ∀ (f : Nat) (listed : Array Bool) (a : Act) (w : World),
    wpSched P ops lt Q S f listed a w → wpAnyZ P .any ops Q S none f listed a w := by
  intro f
  induction f with
  | zero => intro listed a w h; exact wpAnyZ_done h.1 h.2 0
  | succ f ih =>
    intro listed a w h
    unfold wpSched at h
    cases hf : (Region.ready .any ops listed).find? lt with
    | some j =>
      rw [hf] at h
      simp only at h
      obtain ⟨h1, o, v, ho, hy, hS, h2⟩ := h
      have hr : (Region.ready .any ops listed).contains j = true := by
        have := List.mem_of_find?_eq_some hf
        simpa using this
      exact wpAnyZ_take rfl ho hs (fun c a w h => absurd h (hQ c _ w)) f listed a w h1 hr hy hS (ih _ _ _ h2)
    | none =>
      rw [hf] at h
      simp only at h
      exact ⟨h.1, fun i hi => wpOp_mono (fun a' w' h' => ⟨fun _ => h'.1, ih _ _ _ h'.2⟩) (h.2 i hi)⟩

theorem sched_light {f : Nat} {listed : Array Bool} {a : Act} {w : World} (j : Nat) (o : Oper) (v : Value) (hr : (Region.ready .any ops listed).find? lt = some j) (hf : Region.free .any ops listed j = true) (ho : ops[j]? = some o)
    (hw : Region.wanted o (yielded ops a.tmps) = true) (hv : ∀ w', S w' → (execOp a.eval o).run P w' = .ok (.value v) w') (hS : S w) (h : wpSched P ops lt Q S f (listed.setIfInBounds j true) (a.put o.dst v) w) : wpSched P ops lt Q S (f + 1) listed a w := by
  unfold wpSched
  rw [hr]
  exact ⟨hf, o, v, ho, .inl ⟨hw, hv⟩, hS, h⟩
theorem sched_fork {f : Nat} {listed : Array Bool} {a : Act} {w : World} (rs : List Nat) (hr : Region.ready .any ops listed = rs) (hl : rs.find? lt = none) (hne : rs ≠ [])
    (h : ∀ i ∈ rs, wpOp P ops Q i (fun a' w' => S w' ∧ wpSched P ops lt Q S f (listed.setIfInBounds i true) a' w') a w) : wpSched P ops lt Q S (f + 1) listed a w := by
  unfold wpSched
  rw [hr, hl]
  exact ⟨fun h0 => absurd h0 hne, h⟩
theorem sched_heavy {f : Nat} {listed : Array Bool} {a : Act} {w : World} (i : Nat) (o : Oper) (ho : ops[i]? = some o) (hw : Region.wanted o (yielded ops a.tmps) = true)
    (h : ∀ K : Act → World → Prop, Hid (∀ a w, S w → wpSched P ops lt Q S f (listed.setIfInBounds i true) a w → K a w) → o.wp P a w K Q) :
    wpOp P ops Q i (fun a' w' => S w' ∧ wpSched P ops lt Q S f (listed.setIfInBounds i true) a' w') a w := by
  unfold wpOp
  simp only [ho]
  rw [if_pos hw]
  exact .inl (h _ (fun a w h1 h2 => ⟨h1, h2⟩))
theorem sched_done {listed : Array Bool} {a : Act} {w : World} (hr : Region.ready .any ops listed = []) (h : Q .normal a w) : wpSched P ops lt Q S 0 listed a w := ⟨hr, h⟩

theorem sched_end {listed : Array Bool} {a : Act} {w : World} (hr : Region.ready .any ops listed = []) (h : Q .normal a w) : wpSched P ops lt (OnlyQ Q) S 0 listed a w := sched_done hr h

/-- THE LAW. -/
theorem wp_region_sched {id : Nat} {a : Act} {w : World} (n : Nat) (lts : List Nat) (S : World → Prop) (hn : ops.size = n) (hm : P.follows .mixedOrders = true) (hs : Region.noSelect ops = true)
    (h : wpSched P ops (lts.contains ·) (OnlyQ Q) S n (Array.replicate n false) a w.drew) : (Code.region id ops true).wp P Q a w := by
  subst hn
  refine Code.wp_mono OnlyQ.imp ?_
  refine wp_region_any hm (wpAny_of_Z (S := S) (z := none) _ _ _ _ ?_)
  exact wpSched_sound hs (fun c a w h => h) _ _ _ _ h
end
attribute [irreducible] wpSched
end Go
/- A region that draws its order, inside a round of a range over a function, walked over each order of its heavy operations. -/
set_option linter.unusedVariables false
set_option linter.unusedSimpArgs false
namespace Go
open Go.RowKit
/-- THE LAW, inside a round. -/
theorem wpIn_region_sched {P : Program} {ops : Array Oper} {Q : Exit → Act → World → Prop} {l m : Nat} {id : Nat} {a : Act} {w : World} (n : Nat) (lts : List Nat) (S : World → Prop) (hn : ops.size = n) (hm : P.follows .mixedOrders = true) (hs : Region.noSelect ops = true) (hd : noDefer ops = true)
    (h : wpSched P ops (lts.contains ·) (OnlyQ Q) S n (Array.replicate n false) a w.drew) : (Code.region id ops true).wpIn (Fence.wide.inRound l) m P Q a w := by
  subst hn
  refine wpIn_mono ?_ OnlyQ.imp
  refine wpIn_region_any hm ?_
  refine wpAnyIn_of_any hd onlyQ_letsOut .any _ _ _ _ ?_
  refine wpAny_of_Z (S := S) (z := none) _ _ _ _ ?_
  exact wpSched_sound hs (fun c a w h => h) _ _ _ _ h
/-- THE LAW for one forced order, inside a round; z: the operation that waits for all others. -/
theorem wpIn_region_txtZ {P : Program} {ops : Array Oper} {Q : Exit → Act → World → Prop} {l n : Nat} {id : Nat} {a : Act} {w : World} (z : Option Nat) (lts : List Nat) (S : World → Prop) (hm : P.follows .mixedOrders = true) (hs : Region.noSelect ops = true) (hz : lastOk .any ops z = true) (hd : noDefer ops = true)
    (hc : okTextZ z .any ops (lts.contains ·) ops.size (List.range ops.size) (Array.replicate ops.size false) = true) (hS : S w.drew)
    (h : wpTxt P ops (lts.contains ·) Q S z (List.range ops.size) a w.drew) : (Code.region id ops true).wpIn (Fence.wide.inRound l) n P Q a w := by
  refine wpIn_mono ?_ OnlyQ.imp
  refine wpIn_region_any hm ?_
  refine wpAnyIn_of_any hd onlyQ_letsOut .any _ _ _ _ ?_
  refine wpAny_of_Z (S := S) (z := z) _ _ _ _ ?_
  refine okText_soundZ (Q := OnlyQ Q) .any hs (fun c a w h => h) hz (fun e a w h => h.elim) ops.size _ _ _ _ hc (fun _ => hS) ?_
  exact wpTxt_only _ _ _ h
theorem wpIn_region_lit_txtZ {P : Program} {L : List Oper} {Q : Exit → Act → World → Prop} {l n : Nat} {id : Nat} {a : Act} {w : World} (z : Option Nat) (lts : List Nat) (S : World → Prop) (hm : P.follows .mixedOrders = true) (hs : Region.noSelect L.toArray = true) (hz : lastOk .any L.toArray z = true) (hd : noDefer L.toArray = true)
    (hc : okTextZ z .any L.toArray (lts.contains ·) L.length (List.range L.length) (Array.replicate L.length false) = true) (hS : S w.drew)
    (h : wpTxtL P L.toArray (lts.contains ·) Q S z 0 L a w.drew) : (Code.region id L.toArray true).wpIn (Fence.wide.inRound l) n P Q a w := by
  refine wpIn_region_txtZ z lts S hm hs hz hd (by simpa using hc) hS ?_
  have := wpTxtL_eq (P := P) (ops := L.toArray) (lt := (lts.contains ·)) (Q := Q) (S := S) (z := z) L 0 (fun j => by simp) _ _ h
  rw [← List.range_eq_range'] at this
  simpa using this
end Go
/- The cuts of a segment, from whichever end: in plain terms. -/
set_option linter.unusedVariables false
set_option linter.unusedSimpArgs false
namespace Go
open Go.RowKit Go.Srt
theorem at_ends (a b : Pt) (c : Int) : atF b a c = atF a b c := by
  unfold atF
  rcases Int.lt_trichotomy a.x b.x with h | h | h
  · have n1 : ¬ b.x < a.x := by omega
    simp only [h, n1, if_true, if_false]
  · have n1 : ¬ b.x < a.x := by omega
    have n2 : ¬ a.x < b.x := by omega
    simp only [n1, n2, if_false]
    rw [if_pos (by omega), if_pos (by omega)]
  · have n1 : ¬ a.x < b.x := by omega
    simp only [h, n1, if_true, if_false]
/-- The same cut, told from the other end. -/
def Cu.rev (c : Cu) : Cu := ⟨c.x, c.y, c.w - c.p, c.w⟩
theorem cutX_ends (a b : Pt) (c : Int) : cutX b a c = (cutX a b c).map Cu.rev := by
  unfold cutX
  rw [at_ends]
  by_cases h : (atF a b c).2 = true
  · rw [if_pos h, if_pos h]
    have := at_side h
    simp only [Option.map_some, Cu.rev, Option.some.injEq, Cu.mk.injEq, true_and]
    omega
  · rw [if_neg h, if_neg h]; rfl
theorem cutY_ends (a b : Pt) (c : Int) : cutY b a c = (cutY a b c).map Cu.rev := by
  unfold cutY
  rw [at_ends]
  by_cases h : (atF ⟨a.y, a.x⟩ ⟨b.y, b.x⟩ c).2 = true
  · rw [if_pos h, if_pos h]
    have := at_side h
    dsimp only at this
    simp only [Option.map_some, Cu.rev, Option.some.injEq, Cu.mk.injEq, true_and]
    omega
  · rw [if_neg h, if_neg h]; rfl
theorem cutRow_ends (a b : Pt) (xs ys : List Int) : cutRow b a xs ys = (cutRow a b xs ys).map Cu.rev := by
  unfold cutRow
  rw [List.map_append, List.map_filterMap, List.map_filterMap]
  congr 1
  · congr 1; funext c; exact cutX_ends a b c
  · congr 1; funext c; exact cutY_ends a b c
/-- The cuts in order, from a to b. -/
def cutSeq (a b : Pt) (xs ys : List Int) : List Cu := insC cmpC 0 (cutRow a b xs ys) ((cutRow a b xs ys).length - 1)
theorem cutSeq_ok (a b : Pt) (xs ys : List Int) : (cutSeq a b xs ys).Perm (cutRow a b xs ys) ∧ SR cmpC (cutSeq a b xs ys) 0 (cutSeq a b xs ys).length := by
  obtain ⟨p, s⟩ := ins_ok cmpOrd 0 (cutRow a b xs ys) (fun x hx => cutRow_ok hx) ((cutRow a b xs ys).length - 1) (by omega)
  refine ⟨p.prm, fun i j h1 h2 h3 => ?_⟩
  unfold cutSeq at h3
  rw [insC_len] at h3
  exact s i j h1 h2 (by omega)
theorem cmpC_rev (x y : Cu) : cmpC x.rev y.rev = cmpC y x := by
  unfold cmpC Cu.rev; dsimp only; grind
theorem SR_of_pairwise {c : Cu → Cu → Int} {l : List Cu} (h : l.Pairwise (fun x y => c x y ≤ 0)) : SR c l 0 l.length := by
  intro i j h1 h2 h3
  rw [List.pairwise_iff_getElem] at h
  have := h i j (by omega) h3 h2
  rwa [getElem!_pos l i (by omega), getElem!_pos l j h3]
theorem cutPts_ends (a b : Pt) (xs ys : List Int) : cutPts b a xs ys = (cutPts a b xs ys).reverse := by
  obtain ⟨p, s⟩ := cutSeq_ok a b xs ys
  have e := cutPts_of b a xs ys ((cutSeq a b xs ys).reverse.map Cu.rev) ?_ ?_
  · rw [← e, List.map_map, show Cu.at ∘ Cu.rev = Cu.at from rfl, List.map_reverse]; rfl
  · rw [cutRow_ends]
    exact ((List.reverse_perm _).trans p).map _
  · refine SR_of_pairwise ?_
    rw [List.pairwise_map, List.pairwise_reverse]
    exact s.pairwise.imp (fun {x y} h => by rw [cmpC_rev]; exact h)

/-- Neighbours that are the same, told once. -/
def ded : List Pt → List Pt
  | [] => []
  | [p] => [p]
  | p :: q :: l => if p = q then ded (q :: l) else p :: ded (q :: l)
theorem ded_cons (p : Pt) (l : List Pt) : ∃ t, ded (p :: l) = p :: t := by
  induction l generalizing p with
  | nil => exact ⟨[], rfl⟩
  | cons q l ih =>
    rw [ded]
    split
    · rename_i h; subst h; exact ih p
    · exact ⟨_, rfl⟩
theorem ded_snoc (l : List Pt) (p : Pt) : ∃ t, ded (l ++ [p]) = t ++ [p] := by
  induction l with
  | nil => exact ⟨[], rfl⟩
  | cons q l ih =>
    cases l with
    | nil =>
      rw [List.singleton_append, ded]
      split
      · exact ⟨[], rfl⟩
      · exact ⟨[q], rfl⟩
    | cons r l =>
      obtain ⟨t, ht⟩ := ih
      rw [List.cons_append, List.cons_append, ded, ← List.cons_append, ht]
      split
      · exact ⟨t, rfl⟩
      · exact ⟨q :: t, rfl⟩
theorem ded_two (l : List Pt) (p q : Pt) : ded (l ++ [p, q]) = if p = q then ded (l ++ [p]) else ded (l ++ [p]) ++ [q] := by
  induction l with
  | nil =>
    simp only [List.nil_append, ded]
    split
    · rename_i h; rw [h]
    · rfl
  | cons r l ih =>
    cases l with
    | nil =>
      simp only [List.nil_append, List.cons_append, ded] at ih ⊢
      by_cases h : r = p <;> by_cases h2 : p = q <;> simp [h, h2]
    | cons s l =>
      simp only [List.cons_append, ded] at ih ⊢
      by_cases h : r = s
      · rw [if_pos h, if_pos h]; exact ih
      · rw [if_neg h, if_neg h, ih]
        split <;> rfl
theorem ded_reverse (l : List Pt) : ded l.reverse = (ded l).reverse := by
  induction l with
  | nil => rfl
  | cons p l ih =>
    cases l with
    | nil => rfl
    | cons q l =>
      rw [List.reverse_cons, List.reverse_cons, List.append_assoc, List.singleton_append, ded_two, ded]
      rw [List.reverse_cons] at ih
      by_cases h : q = p
      · rw [if_pos h, if_pos h.symm, ih]
      · rw [if_neg h, if_neg (Ne.symm h), ih, List.reverse_cons]
def thStepP (s : Pt × List Pt) (c : Pt) : Pt × List Pt := if c = s.1 then s else (c, s.2 ++ [c])
theorem th_ded (a : Pt) (l : List Pt) : ∀ (o : List Pt) , (l.foldl thStepP (a, o)).2 = o ++ (ded (a :: l)).tail ∧ (l.foldl thStepP (a, o)).1 = (a :: l).getLast (by simp) := by
  induction l generalizing a with
  | nil => intro o; exact ⟨by simp [ded], rfl⟩
  | cons p l ih =>
    intro o
    rw [List.foldl_cons, thStepP]
    by_cases h : p = a
    · subst h
      rw [if_pos rfl]
      have := ih p o
      rw [ded, if_pos rfl]
      exact ⟨this.1, by rw [this.2]; rfl⟩
    · rw [if_neg h]
      have := ih p (o ++ [p])
      obtain ⟨t, ht⟩ := ded_cons p l
      rw [ded, if_neg (Ne.symm h), List.tail_cons]
      refine ⟨?_, by rw [this.2]; rfl⟩
      rw [this.1, ht]
      simp
/-- What thin leaves: the neighbours told once, without both ends. -/
theorem thinP_ded (a b : Pt) (l : List Pt) : thinP a b l = ((ded (a :: l ++ [b])).drop 1).dropLast := by
  obtain ⟨h1, h2⟩ := th_ded a l []
  have e : thinP a b l = if (l.foldl thStepP (a, [])).2 ≠ [] ∧ (l.foldl thStepP (a, [])).1 = b then (l.foldl thStepP (a, [])).2.dropLast else (l.foldl thStepP (a, [])).2 := rfl
  rw [e, h1, h2, List.nil_append]
  rw [show a :: l ++ [b] = (a :: l).dropLast ++ [(a :: l).getLast (by simp), b] by
    rw [show [(a :: l).getLast (by simp), b] = [(a :: l).getLast (by simp)] ++ [b] from rfl, ← List.append_assoc, List.dropLast_concat_getLast]]
  rw [ded_two, List.dropLast_concat_getLast]
  obtain ⟨t, ht⟩ := ded_cons a l
  rw [ht]
  by_cases h3 : (a :: l).getLast (by simp) = b
  · rw [if_pos h3]
    simp only [List.tail_cons, List.drop_succ_cons, List.drop_zero, h3, and_true]
    by_cases h4 : t = []
    · subst h4; simp
    · rw [if_pos h4]
  · rw [if_neg h3, if_neg (fun h => h3 h.2)]
    simp
theorem thinP_ends (a b : Pt) (l : List Pt) : thinP b a l.reverse = (thinP a b l).reverse := by
  rw [thinP_ded, thinP_ded]
  rw [show b :: l.reverse ++ [a] = (a :: l ++ [b]).reverse by simp, ded_reverse]
  generalize ded (a :: l ++ [b]) = d
  rw [List.drop_one, List.drop_one, List.tail_reverse, List.dropLast_reverse]
  congr 1
  cases d with
  | nil => rfl
  | cons x t => cases t <;> simp
theorem ded_len (l : List Pt) : (ded l).length ≤ l.length := by
  induction l with
  | nil => simp [ded]
  | cons p l ih =>
    cases l with
    | nil => simp [ded]
    | cons q l =>
      rw [ded]
      split
      · simp at ih ⊢; omega
      · simp at ih ⊢; omega
theorem cutsF_len (a b : Pt) (xs ys : List Int) : (cutsF a b xs ys).length ≤ xs.length + ys.length := by
  unfold cutsF
  rw [thinP_ded]
  have h1 := ded_len (a :: cutPts a b xs ys ++ [b])
  have h2 : (cutPts a b xs ys).length ≤ xs.length + ys.length := by
    unfold cutPts
    rw [List.length_map, insC_len]
    unfold cutRow
    rw [List.length_append]
    have := List.length_filterMap_le (cutX a b) xs
    have := List.length_filterMap_le (cutY a b) ys
    omega
  simp at h1 ⊢
  omega
theorem cutsF_ends (a b : Pt) (xs ys : List Int) : cutsF b a xs ys = (cutsF a b xs ys).reverse := by
  unfold cutsF
  rw [cutPts_ends, thinP_ends]
end Go
