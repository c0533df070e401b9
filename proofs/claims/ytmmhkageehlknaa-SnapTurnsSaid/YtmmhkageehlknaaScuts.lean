/-
  seg.Cuts.
-/
import Derived.Test.YtmmhkageehlknaaScpl
import Derived.Test.YtmmhkageehlknaaRegApp
set_option linter.unusedVariables false
set_option linter.unusedSimpArgs false
set_option maxRecDepth 100000
namespace Go.Proofs.Ytmmhkageehlknaa
open Go.RowKit Go.Srt
theorem Try.infoCu : (Try.prog.info? 71).map (fun i => (i.zero, i.size, i.bytes)) = some (some (.agg #[.int .i64 0, .int .i64 0, .int .i64 0, .int .i64 0]), 4, 32) := by kernel_rfl

set_option maxHeartbeats 3200000 in
theorem cuts_any (a b : Pt) (xa ya : Option Addr) (xc yc : Nat) (xs ys : List Int) (hn : xs.length + ys.length ≤ sortMax) (w : World) (hx : Rd w xa (xs.map (Value.int .i64))) (hy : Rd w ya (ys.map (Value.int .i64))) :
    Calls Try.prog 31 #[a.val, b.val, .slice xa xs.length xc, .slice ya ys.length yc] w fun e w' => ∃ v, e = .returned v ∧ w'.ownsRow w.heap.size 23 2 v (cutsF a b xs ys).length (pts (cutsF a b xs ys)) ∧ Below w.heap.size w w' := by
  have hn2 : xs.length + ys.length ≤ 1000 := by unfold sortMax at hn; omega
  have HFN := Lib.hid (fun l2 h1 h2 => cutsF_of a b xs ys l2 h1 h2)
  have HRO := Lib.hid (fun (c : Cu) (h : c ∈ cutRow a b xs ys) => cutRow_ok h)
  generalize cutsF a b xs ys = RES at *
  obtain ⟨ax, ay⟩ := a
  obtain ⟨bx, bY⟩ := b
  dsimp only [Pt.val]
  go_enter Try.func31, Try.ntmps31
  go_wp2
  go_loopw [9, 20] (fun o i wr => ∃ (k : Nat) (l : List Cu), k ≤ xs.length ∧ i = .int .i64 k ∧ Hid ((xs.take k).filterMap (cutX ⟨ax, ay⟩ ⟨bx, bY⟩) = l) ∧ l.length ≤ k ∧ wr.ownsRow (w.heap.size + 2) 71 4 o l.length (cus l) ∧ Blk wr w.heap.size [.int .i64 ax, .int .i64 ay] ∧ Blk wr (w.heap.size + 1) [.int .i64 bx, .int .i64 bY] ∧ Below w.heap.size w wr) (fun _ i _ => xs.length - (intOf i).toNat)
  case atStart => exact ⟨0, [], Nat.zero_le _, rfl, Lib.hid rfl, Nat.le_refl _, World.ownsRow_nil _ _ _ _, (Blk.lit _ _ [.int .i64 ax, .int .i64 ay] _ (by simp)).alloc _, Blk.lit _ _ [.int .i64 bx, .int .i64 bY] _ (by simp), ((Below.refl _ _).alloc (Nat.le_refl _) _).alloc (by simp) _⟩
  case round =>
    obtain ⟨k, l, hk, rfl, HL, hll, hown, hba, hbb, hbl⟩ := hrel
    by_cases hlt : k < xs.length
    · obtain ⟨b1, off1, rfl, c0, hb1⟩ := (hx.keep hbl).at (i := k) (v := .int .i64 xs[k]) (by simp [hlt])
      have HST : Hid ((xs.take (k + 1)).filterMap (cutX ⟨ax, ay⟩ ⟨bx, bY⟩) = l ++ (cutX ⟨ax, ay⟩ ⟨bx, bY⟩ xs[k]).toList) := Lib.hid (by rw [List.take_succ_eq_append_getElem hlt, List.filterMap_append, HL.out]; congr 1)
      generalize xs[k] = c at *
      have hat := atx_any ⟨ax, ay⟩ ⟨bx, bY⟩ c
      have HBD := Lib.hid (fun h => at_bd (a := ⟨ax, ay⟩) (b := ⟨bx, bY⟩) (c := c) h)
      have HCX : Hid (cutX ⟨ax, ay⟩ ⟨bx, bY⟩ c = if (atF ⟨ax, ay⟩ ⟨bx, bY⟩ c).2 then some ⟨c, (atF ⟨ax, ay⟩ ⟨bx, bY⟩ c).1, ((c - ax).natAbs : Nat), ((bx - ax).natAbs : Nat)⟩ else none) := Lib.hid rfl
      generalize cutX ⟨ax, ay⟩ ⟨bx, bY⟩ c = CX at *
      generalize atF ⟨ax, ay⟩ ⟨bx, bY⟩ c = R at *
      obtain ⟨y, ok⟩ := R
      dsimp only [Pt.val] at hat
      have HAT := Lib.hid hat
      clear hat
      have p0 := hba.cell 0 rfl
      have p1 := hba.cell 1 rfl
      have q0 := hbb.cell 0 rfl
      have q1 := hbb.cell 1 rfl
      have hs := hbl.size
      go_wp2_with fail
      refine (HAT.out _).mono ?_
      rintro e w1 ⟨rfl, hx1⟩
      have hown1 := hown.below hx1
      have hba1 := hba.keep hx1
      have hbb1 := hbb.keep hx1
      have hbl1 := hbl.trans (hx1.mono hs)
      clear p0 p1 q0 q1 c0 hown hba hbb
      cases ok with
      | false =>
        go_wp2
        exact ⟨⟨k + 1, l, by omega, val_int (by omega), Lib.hid (by rw [HST.out, HCX.out]; simp), by omega, hown1, hba1, hbb1, hbl1⟩, by simp [intOf]; omega⟩
      | true =>
        have hbd := HBD.out rfl
        try dsimp only at hbd
        have hf1 := far_any c ax (by omega)
        have hf2 := far_any bx ax (by omega)
        have hs1 := hbl1.size
        have hob := hown1.lt
        obtain ⟨F1, hF1⟩ : ∃ F : Int, (((c - ax).natAbs : Nat) : Int) = F := ⟨_, rfl⟩
        obtain ⟨F2, hF2⟩ : ∃ F : Int, (((bx - ax).natAbs : Nat) : Int) = F := ⟨_, rfl⟩
        rw [hF1, hF2] at HCX
        rw [hF1] at hf1
        rw [hF2] at hf2
        have HF1 := Lib.hid hf1
        have HF2 := Lib.hid hf2
        clear hf1 hf2 hF1 hF2 HBD HAT hbd hx1
        go_wp2_with fail
        refine wp_region_lit_txtZ (some 16) [0, 1, 2, 3, 4, 5, 6, 8, 9, 10, 11, 13] (fun W => Blk W w.heap.size [.int .i64 ax, .int .i64 ay] ∧ Blk W (w.heap.size + 1) [.int .i64 bx, .int .i64 bY]) (by kernel_rfl) (by kernel_rfl) (by kernel_rfl) (by kernel_rfl) ⟨hba1, hbb1⟩ ?_
        (refine txt_light ?_ rfl rfl ?_ ?_; rotate_left; · (intro w' hS; (try dsimp only at hS); go_simp; with_reducible rfl)); try simp only [Act.put, List.setIfInBounds_toArray, List.set_cons_zero, List.set_cons_succ]
        (refine txt_light ?_ rfl rfl ?_ ?_; rotate_left; · (intro w' hS; (try dsimp only at hS); go_simp; with_reducible rfl)); try simp only [Act.put, List.setIfInBounds_toArray, List.set_cons_zero, List.set_cons_succ]
        (refine txt_light ?_ rfl rfl ?_ ?_; rotate_left; · (intro w' hS; (try dsimp only at hS); go_simp; with_reducible rfl)); try simp only [Act.put, List.setIfInBounds_toArray, List.set_cons_zero, List.set_cons_succ]
        (refine txt_light ?_ rfl rfl ?_ ?_; rotate_left; · (intro w' hS; (try dsimp only at hS); go_simp; with_reducible rfl)); try simp only [Act.put, List.setIfInBounds_toArray, List.set_cons_zero, List.set_cons_succ]
        (refine txt_light ?_ rfl rfl ?_ ?_; rotate_left; · (intro w' hS; (try dsimp only at hS); go_simp; with_reducible rfl)); try simp only [Act.put, List.setIfInBounds_toArray, List.set_cons_zero, List.set_cons_succ]
        (refine txt_light ?_ rfl rfl ?_ ?_; rotate_left; · (intro w' hS; (try dsimp only at hS); go_simp; with_reducible rfl)); try simp only [Act.put, List.setIfInBounds_toArray, List.set_cons_zero, List.set_cons_succ]
        refine txt_light (.int .i64 ax) rfl rfl ?_ ?_
        · intro w' hS
          have c0 := hS.1.cell 0 rfl
          go_simp
        try simp only [Act.put, List.setIfInBounds_toArray, List.set_cons_zero, List.set_cons_succ]
        refine txt_call [.int .i64 c, .int .i64 ax] Try.f48 rfl rfl Try.func48 (by kernel_rfl) (by kernel_rfl) rfl ((HF1.out _).mono ?_)
        rintro e w2 ⟨rfl, rfl⟩
        refine ⟨_, rfl, ⟨hba1.drew, hbb1.drew⟩, ?_⟩
        try simp only [Act.put, List.setIfInBounds_toArray, List.set_cons_zero, List.set_cons_succ]
        (refine txt_light ?_ rfl rfl ?_ ?_; rotate_left; · (intro w' hS; (try dsimp only at hS); go_simp; with_reducible rfl)); try simp only [Act.put, List.setIfInBounds_toArray, List.set_cons_zero, List.set_cons_succ]
        refine txt_light (.int .i64 bx) rfl rfl ?_ ?_
        · intro w' hS
          have c0 := hS.2.cell 0 rfl
          go_simp
        try simp only [Act.put, List.setIfInBounds_toArray, List.set_cons_zero, List.set_cons_succ]
        (refine txt_light ?_ rfl rfl ?_ ?_; rotate_left; · (intro w' hS; (try dsimp only at hS); go_simp; with_reducible rfl)); try simp only [Act.put, List.setIfInBounds_toArray, List.set_cons_zero, List.set_cons_succ]
        refine txt_light (.int .i64 ax) rfl rfl ?_ ?_
        · intro w' hS
          have c0 := hS.1.cell 0 rfl
          go_simp
        try simp only [Act.put, List.setIfInBounds_toArray, List.set_cons_zero, List.set_cons_succ]
        refine txt_call [.int .i64 bx, .int .i64 ax] Try.f48 rfl rfl Try.func48 (by kernel_rfl) (by kernel_rfl) rfl ((HF2.out _).mono ?_)
        rintro e w2 ⟨rfl, rfl⟩
        refine ⟨_, rfl, ⟨hba1.drew, hbb1.drew⟩, ?_⟩
        try simp only [Act.put, List.setIfInBounds_toArray, List.set_cons_zero, List.set_cons_succ]
        (refine txt_light ?_ rfl rfl ?_ ?_; rotate_left; · (intro w' hS; (try dsimp only at hS); go_simp; with_reducible rfl)); try simp only [Act.put, List.setIfInBounds_toArray, List.set_cons_zero, List.set_cons_succ]
        refine txt_heavy rfl rfl (fun K hK => ?_)
        go_step
        have hba2 := (Blk.drew hba1).alloc (.cells #[.int .i64 c, .int .i64 y, .int .i64 F1, .int .i64 F2] 71)
        have hbb2 := (Blk.drew hbb1).alloc (.cells #[.int .i64 c, .int .i64 y, .int .i64 F1, .int .i64 F2] 71)
        have hown2 := World.ownsRow.below (w := w1.drew) hown1 (Below.new _ (.cells #[.int .i64 c, .int .i64 y, .int .i64 F1, .int .i64 F2] 71))
        have hbl2 := (Below.drew hbl1).alloc hs1 (.cells #[.int .i64 c, .int .i64 y, .int .i64 F1, .int .i64 F2] 71)
        have hrd := Rd.lit w1.drew w1.heap.size [.int .i64 c, .int .i64 y, .int .i64 F1, .int .i64 F2] 71 rfl
        refine hK.out _ _ ⟨hba2, hbb2⟩ ?_
        clear hK K
        try simp only [Act.put, List.setIfInBounds_toArray, List.set_cons_zero, List.set_cons_succ]
        refine txt_heavy rfl rfl (fun K hK => ?_)
        refine wp_app (.tmp 32) (.tmp 46) 68 rfl (w.heap.size + 2) 71 (.agg #[.int .i64 0, .int .i64 0, .int .i64 0, .int .i64 0]) 4 32 Try.underlying68 Try.infoCu rfl (by decide) _ l.length (cus l) rfl hown2 (some ⟨w1.heap.size, 0, none⟩) 1 1 [.int .i64 c, .int .i64 y, .int .i64 F1, .int .i64 F2] rfl (fun h => by cases h) hrd rfl (by simp [Value.oneCell']) (by unfold sortMax at hn; omega) (by decide) (by have := hbb1.lt; simp; omega) ?_
        intro v2 w2 hown3 hg2
        have hba3 := hba2.grown hg2 (fun e => by have := (hob _ e.symm).1; omega)
        have hbb3 := hbb2.grown hg2 (fun e => by have := (hob _ e.symm).1; omega)
        have hbl3 := hbl2.grown hg2 (by simp; omega) (fun k hk => by have := (hob k hk).1; omega)
        refine hK.out _ _ ⟨hba3, hbb3⟩ ?_
        clear hK K
        try simp only [Act.put, List.setIfInBounds_toArray, List.set_cons_zero, List.set_cons_succ]
        refine txt_last rfl rfl rfl (fun K hK => ?_)
        go_step
        refine hK.out _ _ ?_
        refine txt_nil ?_
        clear hK K hba1 hba2 hbb1 hbb2 hown1 hown2 hrd hg2
        go_wp2
        refine ⟨⟨k + 1, l ++ [⟨c, y, F1, F2⟩], by omega, by go_num, Lib.hid (by rw [HST.out, HCX.out]; rfl), by simp; omega, ?_, hba3, hbb3, hbl3⟩, by simp [intOf]; omega⟩
        rw [show cus (l ++ [⟨c, y, F1, F2⟩]) = cus l ++ [.int .i64 c, .int .i64 y, .int .i64 F1, .int .i64 F2] by simp [cus, Cu.cells], List.length_append]
        exact hown3
    · obtain rfl : k = xs.length := by omega
      have hlt0 : ¬ (xs.length : Int) < xs.length := by omega
      rw [List.take_length] at HL
      go_wp2
      go_loopw [9, 51] (fun o i wr => ∃ (k : Nat) (l : List Cu), k ≤ ys.length ∧ i = .int .i64 k ∧ Hid (xs.filterMap (cutX ⟨ax, ay⟩ ⟨bx, bY⟩) ++ (ys.take k).filterMap (cutY ⟨ax, ay⟩ ⟨bx, bY⟩) = l) ∧ l.length ≤ xs.length + k ∧ wr.ownsRow (w.heap.size + 2) 71 4 o l.length (cus l) ∧ Blk wr w.heap.size [.int .i64 ax, .int .i64 ay] ∧ Blk wr (w.heap.size + 1) [.int .i64 bx, .int .i64 bY] ∧ Below w.heap.size w wr) (fun _ i _ => ys.length - (intOf i).toNat)
      case atStart => exact ⟨0, l, Nat.zero_le _, rfl, Lib.hid (by rw [List.take_zero, List.filterMap_nil, List.append_nil]; exact HL.out), hll, hown, hba, hbb, hbl⟩
      case round =>
        clear hown hba hbb hbl HL hll
        obtain ⟨k, l, hk, rfl, HL, hll, hown, hba, hbb, hbl⟩ := hrel
        by_cases hlt : k < ys.length
        · obtain ⟨b1, off1, rfl, c0, hb1⟩ := (hy.keep hbl).at (i := k) (v := .int .i64 ys[k]) (by simp [hlt])
          have HST : Hid (xs.filterMap (cutX ⟨ax, ay⟩ ⟨bx, bY⟩) ++ (ys.take (k + 1)).filterMap (cutY ⟨ax, ay⟩ ⟨bx, bY⟩) = l ++ (cutY ⟨ax, ay⟩ ⟨bx, bY⟩ ys[k]).toList) := Lib.hid (by rw [List.take_succ_eq_append_getElem hlt, List.filterMap_append, ← List.append_assoc, HL.out]; congr 1)
          generalize ys[k] = c at *
          have hat := aty_any ⟨ax, ay⟩ ⟨bx, bY⟩ c
          have HBD := Lib.hid (fun h => at_bd (a := ⟨ay, ax⟩) (b := ⟨bY, bx⟩) (c := c) h)
          have HCX : Hid (cutY ⟨ax, ay⟩ ⟨bx, bY⟩ c = if (atF ⟨ay, ax⟩ ⟨bY, bx⟩ c).2 then some ⟨(atF ⟨ay, ax⟩ ⟨bY, bx⟩ c).1, c, ((c - ay).natAbs : Nat), ((bY - ay).natAbs : Nat)⟩ else none) := Lib.hid rfl
          generalize cutY ⟨ax, ay⟩ ⟨bx, bY⟩ c = CX at *
          dsimp only at hat
          generalize atF ⟨ay, ax⟩ ⟨bY, bx⟩ c = R at *
          obtain ⟨y, ok⟩ := R
          dsimp only [Pt.val] at hat
          have HAT := Lib.hid hat
          clear hat
          have p0 := hba.cell 0 rfl
          have p1 := hba.cell 1 rfl
          have q0 := hbb.cell 0 rfl
          have q1 := hbb.cell 1 rfl
          have hs := hbl.size
          go_wp2_with fail
          refine (HAT.out _).mono ?_
          rintro e w1 ⟨rfl, hx1⟩
          have hown1 := hown.below hx1
          have hba1 := hba.keep hx1
          have hbb1 := hbb.keep hx1
          have hbl1 := hbl.trans (hx1.mono hs)
          clear p0 p1 q0 q1 c0 hown hba hbb
          cases ok with
          | false =>
            go_wp2
            exact ⟨⟨k + 1, l, by omega, val_int (by omega), Lib.hid (by rw [HST.out, HCX.out]; simp), by omega, hown1, hba1, hbb1, hbl1⟩, by simp [intOf]; omega⟩
          | true =>
            have hbd := HBD.out rfl
            try dsimp only at hbd
            have hf1 := far_any c ay (by omega)
            have hf2 := far_any bY ay (by omega)
            have hs1 := hbl1.size
            have hob := hown1.lt
            obtain ⟨F1, hF1⟩ : ∃ F : Int, (((c - ay).natAbs : Nat) : Int) = F := ⟨_, rfl⟩
            obtain ⟨F2, hF2⟩ : ∃ F : Int, (((bY - ay).natAbs : Nat) : Int) = F := ⟨_, rfl⟩
            rw [hF1, hF2] at HCX
            rw [hF1] at hf1
            rw [hF2] at hf2
            have HF1 := Lib.hid hf1
            have HF2 := Lib.hid hf2
            clear hf1 hf2 hF1 hF2 HBD HAT hbd hx1
            go_wp2_with fail
            refine wp_region_lit_txtZ (some 16) [0, 1, 2, 3, 4, 5, 6, 8, 9, 10, 11, 13] (fun W => Blk W w.heap.size [.int .i64 ax, .int .i64 ay] ∧ Blk W (w.heap.size + 1) [.int .i64 bx, .int .i64 bY]) (by kernel_rfl) (by kernel_rfl) (by kernel_rfl) (by kernel_rfl) ⟨hba1, hbb1⟩ ?_
            (refine txt_light ?_ rfl rfl ?_ ?_; rotate_left; · (intro w' hS; (try dsimp only at hS); go_simp; with_reducible rfl)); try simp only [Act.put, List.setIfInBounds_toArray, List.set_cons_zero, List.set_cons_succ]
            (refine txt_light ?_ rfl rfl ?_ ?_; rotate_left; · (intro w' hS; (try dsimp only at hS); go_simp; with_reducible rfl)); try simp only [Act.put, List.setIfInBounds_toArray, List.set_cons_zero, List.set_cons_succ]
            (refine txt_light ?_ rfl rfl ?_ ?_; rotate_left; · (intro w' hS; (try dsimp only at hS); go_simp; with_reducible rfl)); try simp only [Act.put, List.setIfInBounds_toArray, List.set_cons_zero, List.set_cons_succ]
            (refine txt_light ?_ rfl rfl ?_ ?_; rotate_left; · (intro w' hS; (try dsimp only at hS); go_simp; with_reducible rfl)); try simp only [Act.put, List.setIfInBounds_toArray, List.set_cons_zero, List.set_cons_succ]
            (refine txt_light ?_ rfl rfl ?_ ?_; rotate_left; · (intro w' hS; (try dsimp only at hS); go_simp; with_reducible rfl)); try simp only [Act.put, List.setIfInBounds_toArray, List.set_cons_zero, List.set_cons_succ]
            (refine txt_light ?_ rfl rfl ?_ ?_; rotate_left; · (intro w' hS; (try dsimp only at hS); go_simp; with_reducible rfl)); try simp only [Act.put, List.setIfInBounds_toArray, List.set_cons_zero, List.set_cons_succ]
            refine txt_light (.int .i64 ay) rfl rfl ?_ ?_
            · intro w' hS
              have c0 := hS.1.cell 1 rfl
              go_simp
            try simp only [Act.put, List.setIfInBounds_toArray, List.set_cons_zero, List.set_cons_succ]
            refine txt_call [.int .i64 c, .int .i64 ay] Try.f48 rfl rfl Try.func48 (by kernel_rfl) (by kernel_rfl) rfl ((HF1.out _).mono ?_)
            rintro e w2 ⟨rfl, rfl⟩
            refine ⟨_, rfl, ⟨hba1.drew, hbb1.drew⟩, ?_⟩
            try simp only [Act.put, List.setIfInBounds_toArray, List.set_cons_zero, List.set_cons_succ]
            (refine txt_light ?_ rfl rfl ?_ ?_; rotate_left; · (intro w' hS; (try dsimp only at hS); go_simp; with_reducible rfl)); try simp only [Act.put, List.setIfInBounds_toArray, List.set_cons_zero, List.set_cons_succ]
            refine txt_light (.int .i64 bY) rfl rfl ?_ ?_
            · intro w' hS
              have c0 := hS.2.cell 1 rfl
              go_simp
            try simp only [Act.put, List.setIfInBounds_toArray, List.set_cons_zero, List.set_cons_succ]
            (refine txt_light ?_ rfl rfl ?_ ?_; rotate_left; · (intro w' hS; (try dsimp only at hS); go_simp; with_reducible rfl)); try simp only [Act.put, List.setIfInBounds_toArray, List.set_cons_zero, List.set_cons_succ]
            refine txt_light (.int .i64 ay) rfl rfl ?_ ?_
            · intro w' hS
              have c0 := hS.1.cell 1 rfl
              go_simp
            try simp only [Act.put, List.setIfInBounds_toArray, List.set_cons_zero, List.set_cons_succ]
            refine txt_call [.int .i64 bY, .int .i64 ay] Try.f48 rfl rfl Try.func48 (by kernel_rfl) (by kernel_rfl) rfl ((HF2.out _).mono ?_)
            rintro e w2 ⟨rfl, rfl⟩
            refine ⟨_, rfl, ⟨hba1.drew, hbb1.drew⟩, ?_⟩
            try simp only [Act.put, List.setIfInBounds_toArray, List.set_cons_zero, List.set_cons_succ]
            (refine txt_light ?_ rfl rfl ?_ ?_; rotate_left; · (intro w' hS; (try dsimp only at hS); go_simp; with_reducible rfl)); try simp only [Act.put, List.setIfInBounds_toArray, List.set_cons_zero, List.set_cons_succ]
            refine txt_heavy rfl rfl (fun K hK => ?_)
            go_step
            have hba2 := (Blk.drew hba1).alloc (.cells #[.int .i64 y, .int .i64 c, .int .i64 F1, .int .i64 F2] 71)
            have hbb2 := (Blk.drew hbb1).alloc (.cells #[.int .i64 y, .int .i64 c, .int .i64 F1, .int .i64 F2] 71)
            have hown2 := World.ownsRow.below (w := w1.drew) hown1 (Below.new _ (.cells #[.int .i64 y, .int .i64 c, .int .i64 F1, .int .i64 F2] 71))
            have hbl2 := (Below.drew hbl1).alloc hs1 (.cells #[.int .i64 y, .int .i64 c, .int .i64 F1, .int .i64 F2] 71)
            have hrd := Rd.lit w1.drew w1.heap.size [.int .i64 y, .int .i64 c, .int .i64 F1, .int .i64 F2] 71 rfl
            refine hK.out _ _ ⟨hba2, hbb2⟩ ?_
            clear hK K
            try simp only [Act.put, List.setIfInBounds_toArray, List.set_cons_zero, List.set_cons_succ]
            refine txt_heavy rfl rfl (fun K hK => ?_)
            refine wp_app (.tmp 63) (.tmp 77) 68 rfl (w.heap.size + 2) 71 (.agg #[.int .i64 0, .int .i64 0, .int .i64 0, .int .i64 0]) 4 32 Try.underlying68 Try.infoCu rfl (by decide) _ l.length (cus l) rfl hown2 (some ⟨w1.heap.size, 0, none⟩) 1 1 [.int .i64 y, .int .i64 c, .int .i64 F1, .int .i64 F2] rfl (fun h => by cases h) hrd rfl (by simp [Value.oneCell']) (by unfold sortMax at hn; omega) (by decide) (by have := hbb1.lt; simp; omega) ?_
            intro v2 w2 hown3 hg2
            have hba3 := hba2.grown hg2 (fun e => by have := (hob _ e.symm).1; omega)
            have hbb3 := hbb2.grown hg2 (fun e => by have := (hob _ e.symm).1; omega)
            have hbl3 := hbl2.grown hg2 (by simp; omega) (fun k hk => by have := (hob k hk).1; omega)
            refine hK.out _ _ ⟨hba3, hbb3⟩ ?_
            clear hK K
            try simp only [Act.put, List.setIfInBounds_toArray, List.set_cons_zero, List.set_cons_succ]
            refine txt_last rfl rfl rfl (fun K hK => ?_)
            go_step
            refine hK.out _ _ ?_
            refine txt_nil ?_
            clear hK K hba1 hba2 hbb1 hbb2 hown1 hown2 hrd hg2
            go_wp2
            refine ⟨⟨k + 1, l ++ [⟨y, c, F1, F2⟩], by omega, by go_num, Lib.hid (by rw [HST.out, HCX.out]; rfl), by simp; omega, ?_, hba3, hbb3, hbl3⟩, by simp [intOf]; omega⟩
            rw [show cus (l ++ [⟨y, c, F1, F2⟩]) = cus l ++ [.int .i64 y, .int .i64 c, .int .i64 F1, .int .i64 F2] by simp [cus, Cu.cells], List.length_append]
            exact hown3
        · obtain rfl : k = ys.length := by omega
          rw [List.take_length] at HL
          have HRW : Hid (cutRow ⟨ax, ay⟩ ⟨bx, bY⟩ xs ys = l) := Lib.hid (by unfold cutRow; exact HL.out)
          have hokl : ∀ c ∈ l, CuOk c := fun c hc => HRO.out c (by rw [HRW.out]; exact hc)
          have hls : l.length ≤ sortMax := by omega
          have HOK := Lib.hid hokl
          clear hokl hlt HL HRO
          have HSS := Lib.hid (fun v w h => sortc_any (w.heap.size + 2) l hls HOK.out v w h)
          have hob := hown.lt
          have hs0 := hbl.size
          go_wp2_with fail
          refine (sortc_any (w.heap.size + 2) l hls HOK.out _ _ hown).mono ?_
          rintro e w1 ⟨rfl, l2, hp2, hs2, hown2, hg2⟩
          have hba2 := hba.grown hg2 (fun e => by have := (hob _ e.symm).1; omega)
          have hbb2 := hbb.grown hg2 (fun e => by have := (hob _ e.symm).1; omega)
          have hbl2 := hbl.grown hg2 hs0 (fun k hk => by have := (hob k hk).1; omega)
          have HTH := Lib.hid (HFN.out l2 (by rw [HRW.out]; exact hp2) hs2)
          have hll2 : l2.length = l.length := hp2.length_eq
          clear HFN HRW hp2 hs2 hown hba hbb HOK HSS hg2 hbl hob
          obtain ⟨oa, oc, rfl, -, -, -, hrd, -⟩ := hown2.form
          rw [← hll2] at hown2
          have p0 := hba2.cell 0 rfl
          have p1 := hba2.cell 1 rfl
          have q0 := hbb2.cell 0 rfl
          have q1 := hbb2.cell 1 rfl
          have hs2 := hbl2.size
          rw [← hll2]
          have HL2 := Lib.hid hll2
          clear hll2
          go_wp2_with fail
          refine (thin_any ⟨ax, ay⟩ ⟨bx, bY⟩ oa oc l2 (by rw [HL2.out]; unfold sortMax at hls; omega) w1 hrd).mono ?_
          rintro e w2 ⟨v, rfl, hown3, hbl3⟩
          rw [HTH.out] at hown3
          have hbl4 := hbl2.trans (hbl3.mono hs2)
          go_wp2
          go_ret
          exact ⟨_, rfl, hown3.mono hs2, hbl4⟩
end Go.Proofs.Ytmmhkageehlknaa
