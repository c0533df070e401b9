/-
  graticuleref02.put of the nil row.
-/
import Derived.Test.YtmnekbnhodadcaaSput
set_option linter.unusedVariables false
set_option linter.unusedSimpArgs false
set_option maxRecDepth 100000
namespace Go.Proofs.Ytmnekbnhodadcaa
open Go.RowKit Go.Srt

set_option maxHeartbeats 3200000 in
theorem rput_nil (c : Cu) (hc : CuOk c) (w : World) :
    Calls Try.prog 24 #[.slice none 0 0, c.val] w fun e w' => ∃ v, e = .returned v ∧ w'.ownsRow w.heap.size 57 4 v 1 (cus [c]) ∧ Below w.heap.size w w' := by
  have hcb := hc
  unfold CuOk at hcb
  obtain ⟨x, y, p, d⟩ := c
  dsimp only [Cu.val]
  dsimp only at hcb
  have kc := Blk.lit w w.heap.size [.int .i64 x, .int .i64 y, .int .i64 p, .int .i64 d] 57 rfl
  have hb0 := Below.new w (.cells #[.int .i64 x, .int .i64 y, .int .i64 p, .int .i64 d] 57)
  go_enter Try.func24, Try.ntmps24
  go_wp2
  obtain ⟨wA, hwA⟩ : ∃ wA, w.alloc (.cells #[.int .i64 x, .int .i64 y, .int .i64 p, .int .i64 d] 57) = wA := ⟨_, rfl⟩
  rw [hwA] at kc hb0 ⊢
  clear hwA
  rename_i K3 hK3
  replace hK3 := Lib.hid hK3
  have main3 : ∀ {u6 u7 u8 u9 u10 u11 u12 u13 u14 u15 u16 u17 u18 u19 u20 u21 u22 u23 u24 u25 u26 u27 u28 u29 u30 u31 u32 u33 u34 u35 u36 u37 u38 u39 u40 u41 u42 u43 u44 u45 u46 : Value} {n : Nat} {ii : Value} {W : World}, ii = .int .i64 0 → W = wA.drewN n → K3 { tmps := #[.slice none 0 0, .agg #[.int .i64 x, .int .i64 y, .int .i64 p, .int .i64 d], undef, .pointer (some ⟨w.heap.size, 0, none⟩), .slice none 0 0, ii, u6, u7, u8, u9, u10, u11, u12, u13, u14, u15, u16, u17, u18, u19, u20, u21, u22, u23, u24, u25, u26, u27, u28, u29, u30, u31, u32, u33, u34, u35, u36, u37, u38, u39, u40, u41, u42, u43, u44, u45, u46], defers := [] } W := by
    intro u6 u7 u8 u9 u10 u11 u12 u13 u14 u15 u16 u17 u18 u19 u20 u21 u22 u23 u24 u25 u26 u27 u28 u29 u30 u31 u32 u33 u34 u35 u36 u37 u38 u39 u40 u41 u42 u43 u44 u45 u46 n ii W hii hW
    subst hii hW
    refine hK3.out _ _ ?_
    clear hK3
    have hb1 := below_drewN hb0 n
    have kc := kc.drewN n
    generalize wA.drewN n = wB at *
    clear hb0
    go_wp2_with fail
    rename_i K5 hK5
    replace hK5 := Lib.hid hK5
    have main5 : ∀ {t7 t8 t9 t10 t11 t12 t13 t14 t15 t16 t17 t18 t19 t20 t21 t22 t23 t24 t25 t26 t27 t28 t29 t30 t31 t32 t33 t34 t35 t36 t37 t38 t39 t40 t41 t42 t43 t44 t45 t46 vF : Value} {W : World}, Below wB.heap.size wB W → W.ownsRow wB.heap.size 57 4 vF 1 [.int .i64 x, .int .i64 y, .int .i64 p, .int .i64 d] → K5 { tmps := #[.slice none 0 0, .agg #[.int .i64 x, .int .i64 y, .int .i64 p, .int .i64 d], undef, .pointer (some ⟨w.heap.size, 0, none⟩), .slice none 0 0, .int .i64 0, vF, t7, t8, t9, t10, t11, t12, t13, t14, t15, t16, t17, t18, t19, t20, t21, t22, t23, t24, t25, t26, t27, t28, t29, t30, t31, t32, t33, t34, t35, t36, t37, t38, t39, t40, t41, t42, t43, t44, t45, t46], defers := [] } W := by
      intro t7 t8 t9 t10 t11 t12 t13 t14 t15 t16 t17 t18 t19 t20 t21 t22 t23 t24 t25 t26 t27 t28 t29 t30 t31 t32 t33 t34 t35 t36 t37 t38 t39 t40 t41 t42 t43 t44 t45 t46 vF WF hbF hoF
      refine hK5.out _ _ ?_
      clear hK5
      have hzF := hbF.size
      have hb2 := hb1.trans (hbF.mono hb1.size)
      have ho1 := hoF
      have hol := hoF.lt
      go_wp2_with (at_builtin; go_must (refine wpList_app rfl (.tmp 42) (.tmp 45) 53 rfl wB.heap.size 57 (.agg #[.int .i64 0, .int .i64 0, .int .i64 0, .int .i64 0]) 4 32 Try.underlying53 Try.infoRC rfl (by decide) vF 1 [.int .i64 x, .int .i64 y, .int .i64 p, .int .i64 d] rfl hoF none 0 0 [] rfl (fun _ => rfl) (.inl rfl) rfl (by simp) (by omega) (by decide) hzF ?_); intro v2 w2 ho2 hg2; clear ho1)
      have hb3 := hb2.grown hg2 hb2.size (fun x hx => by have := (hol x hx).1; have := hb1.size; omega)
      rw [List.append_nil, Nat.add_zero] at ho2
      have ho3 := ho2.mono hb1.size
      clear hoF hol hg2 ho2
      go_wp2
      go_ret
      have ho4 : w2.ownsRow w.heap.size 57 4 v2 1 (cus [⟨x, y, p, d⟩]) := ho3
      first | exact ⟨ho4, hb3⟩ | exact ⟨_, rfl, ho4, hb3⟩
    refine wp_region_sched 9 [1, 2, 3, 5, 8] (fun W => Below wB.heap.size wB W) rfl (by kernel_rfl) (by kernel_rfl) ?_
    have hb_0 : Below wB.heap.size wB wB.drew := (Below.refl _ _).drew
    have hz_0 : wB.heap.size ≤ wB.drew.heap.size := Nat.le_refl _
    generalize wB.drew = W0 at *
    (refine sched_light 1 _ ?_ (by kernel_rfl) (by kernel_rfl) rfl rfl ?_ hb_0 ?_; rotate_left; · (intro w' hS; (try dsimp only at hS); go_simp; with_reducible rfl)); try simp only [Act.put, List.setIfInBounds_toArray, List.set_cons_zero, List.set_cons_succ]
    (refine sched_light 2 _ ?_ (by kernel_rfl) (by kernel_rfl) rfl rfl ?_ hb_0 ?_; rotate_left; · (intro w' hS; (try dsimp only at hS); go_simp; with_reducible rfl)); try simp only [Act.put, List.setIfInBounds_toArray, List.set_cons_zero, List.set_cons_succ]
    (refine sched_light 3 _ ?_ (by kernel_rfl) (by kernel_rfl) rfl rfl ?_ hb_0 ?_; rotate_left; · (intro w' hS; (try dsimp only at hS); go_simp; with_reducible rfl)); try simp only [Act.put, List.setIfInBounds_toArray, List.set_cons_zero, List.set_cons_succ]
    refine sched_light 5 _ (.agg #[.int .i64 x, .int .i64 y, .int .i64 p, .int .i64 d]) (by kernel_rfl) (by kernel_rfl) rfl rfl ?_ hb_0 ?_
    · intro w' hS
      have c0 := (kc.keep hS).cell 0 rfl
      have c1 := (kc.keep hS).cell 1 rfl
      have c2 := (kc.keep hS).cell 2 rfl
      have c3 := (kc.keep hS).cell 3 rfl
      go_simp
    try simp only [Act.put, List.setIfInBounds_toArray, List.set_cons_zero, List.set_cons_succ]
    refine sched_fork [0, 6] (by kernel_rfl) (by kernel_rfl) (by decide) ?_
    intro i hi
    simp only [List.mem_cons, List.not_mem_nil, or_false] at hi
    rcases hi with rfl | rfl
    ·
      refine sched_heavy 0 _ rfl rfl (fun K hK => ?_)
      go_step
      have hb_1 := hb_0.alloc hb_0.size (.cells #[] 57)
      have hz_1 : W0.heap.size + 1 ≤ (W0.alloc (.cells #[] 57)).heap.size := by simp
      have ho_1 : (W0.alloc (.cells #[] 57)).ownsRow wB.heap.size 57 4 (.slice (some ⟨W0.heap.size, 0, none⟩) 0 0) 0 [] := (ownsRow_empty W0 57 4).mono (by omega)
      refine hK.out _ _ hb_1 ?_
      clear hK K
      generalize W0.alloc (.cells #[] 57) = W1 at *
      try simp only [Act.put, List.setIfInBounds_toArray, List.set_cons_zero, List.set_cons_succ]
      refine sched_fork [4, 6] (by kernel_rfl) (by kernel_rfl) (by decide) ?_
      intro i hi
      simp only [List.mem_cons, List.not_mem_nil, or_false] at hi
      rcases hi with rfl | rfl
      ·
        refine sched_heavy 4 _ rfl rfl (fun K hK => ?_)
        refine wp_app (.tmp 34) (.tmp 37) 53 rfl wB.heap.size 57 (.agg #[.int .i64 0, .int .i64 0, .int .i64 0, .int .i64 0]) 4 32 Try.underlying53 Try.infoRC rfl (by decide) (.slice (some ⟨W0.heap.size, 0, none⟩) 0 0) 0 [] rfl ho_1 none 0 0 [] rfl (fun _ => rfl) (.inl rfl) rfl (by simp) (by omega) (by decide) hb_1.size ?_
        intro v2 W2 ho_2 hg
        rw [Nat.zero_add, List.nil_append] at ho_2
        have hz_2 : W1.heap.size ≤ W2.heap.size := hg.size
        have hb_2 := hb_1.grown hg hb_1.size (fun x hx => by simp [Value.ownBlock] at hx; omega)
        refine hK.out _ _ hb_2 ?_
        clear hK K hg
        try simp only [Act.put, List.setIfInBounds_toArray, List.set_cons_zero, List.set_cons_succ]
        refine sched_fork [6] (by kernel_rfl) (by kernel_rfl) (by decide) ?_
        intro i hi
        simp only [List.mem_cons, List.not_mem_nil, or_false] at hi
        subst hi
        refine sched_heavy 6 _ rfl rfl (fun K hK => ?_)
        go_step
        have hb_3 := hb_2.alloc hb_2.size (.cells #[.int .i64 x, .int .i64 y, .int .i64 p, .int .i64 d] 57)
        have hz_3 : W2.heap.size + 1 ≤ (W2.alloc (.cells #[.int .i64 x, .int .i64 y, .int .i64 p, .int .i64 d] 57)).heap.size := by simp
        have ho_3 := World.ownsRow.below ho_2 (Below.new W2 (.cells #[.int .i64 x, .int .i64 y, .int .i64 p, .int .i64 d] 57))
        have rd_3 := Rd.lit W2 W2.heap.size [.int .i64 x, .int .i64 y, .int .i64 p, .int .i64 d] 57 rfl
        refine hK.out _ _ hb_3 ?_
        clear hK K
        generalize W2.alloc (.cells #[.int .i64 x, .int .i64 y, .int .i64 p, .int .i64 d] 57) = W3 at *
        try simp only [Act.put, List.setIfInBounds_toArray, List.set_cons_zero, List.set_cons_succ]
        refine sched_fork [7] (by kernel_rfl) (by kernel_rfl) (by decide) ?_
        intro i hi
        simp only [List.mem_cons, List.not_mem_nil, or_false] at hi
        subst hi
        refine sched_heavy 7 _ rfl rfl (fun K hK => ?_)
        have hol := ho_3.lt
        refine wp_app_at (.tmp 38) (.tmp 40) 53 rfl wB.heap.size 57 (.agg #[.int .i64 0, .int .i64 0, .int .i64 0, .int .i64 0]) 4 32 Try.underlying53 Try.infoRC rfl (by decide) v2 0 [] rfl ho_3 ⟨W2.heap.size, 0, none⟩ 1 1 [.int .i64 x, .int .i64 y, .int .i64 p, .int .i64 d] rfl rd_3 rfl (by simp [Value.oneCell']) (by omega) (by decide) hb_3.size ?_
        intro vF WF hoF hg hloc
        rw [Nat.zero_add, List.nil_append] at hoF
        have hbF := hb_3.grown hg hb_3.size (fun x hx => (hol x hx).1)
        refine hK.out _ _ hbF ?_
        clear hK K hg
        try simp only [Act.put, List.setIfInBounds_toArray, List.set_cons_zero, List.set_cons_succ]
        (refine sched_light 8 _ ?_ (by kernel_rfl) (by kernel_rfl) rfl rfl ?_ hbF ?_; rotate_left; · (intro w' hS; (try dsimp only at hS); go_simp; with_reducible rfl)); try simp only [Act.put, List.setIfInBounds_toArray, List.set_cons_zero, List.set_cons_succ]
        refine sched_end (by kernel_rfl) ?_
        exact main5 hbF hoF
      ·
        refine sched_heavy 6 _ rfl rfl (fun K hK => ?_)
        go_step
        have hb_2 := hb_1.alloc hb_1.size (.cells #[.int .i64 x, .int .i64 y, .int .i64 p, .int .i64 d] 57)
        have hz_2 : W1.heap.size + 1 ≤ (W1.alloc (.cells #[.int .i64 x, .int .i64 y, .int .i64 p, .int .i64 d] 57)).heap.size := by simp
        have ho_2 := World.ownsRow.below ho_1 (Below.new W1 (.cells #[.int .i64 x, .int .i64 y, .int .i64 p, .int .i64 d] 57))
        have rd_2 := Rd.lit W1 W1.heap.size [.int .i64 x, .int .i64 y, .int .i64 p, .int .i64 d] 57 rfl
        refine hK.out _ _ hb_2 ?_
        clear hK K
        generalize W1.alloc (.cells #[.int .i64 x, .int .i64 y, .int .i64 p, .int .i64 d] 57) = W2 at *
        try simp only [Act.put, List.setIfInBounds_toArray, List.set_cons_zero, List.set_cons_succ]
        refine sched_fork [4] (by kernel_rfl) (by kernel_rfl) (by decide) ?_
        intro i hi
        simp only [List.mem_cons, List.not_mem_nil, or_false] at hi
        subst hi
        refine sched_heavy 4 _ rfl rfl (fun K hK => ?_)
        refine wp_app (.tmp 34) (.tmp 37) 53 rfl wB.heap.size 57 (.agg #[.int .i64 0, .int .i64 0, .int .i64 0, .int .i64 0]) 4 32 Try.underlying53 Try.infoRC rfl (by decide) (.slice (some ⟨W0.heap.size, 0, none⟩) 0 0) 0 [] rfl ho_2 none 0 0 [] rfl (fun _ => rfl) (.inl rfl) rfl (by simp) (by omega) (by decide) hb_2.size ?_
        intro v3 W3 ho_3 hg
        rw [Nat.zero_add, List.nil_append] at ho_3
        have hz_3 : W2.heap.size ≤ W3.heap.size := hg.size
        have hb_3 := hb_2.grown hg hb_2.size (fun x hx => by simp [Value.ownBlock] at hx; omega)
        have rd_3 := rd_2.grown hg (fun x hx => by simp [Value.ownBlock] at hx ⊢; omega)
        refine hK.out _ _ hb_3 ?_
        clear hK K hg
        try simp only [Act.put, List.setIfInBounds_toArray, List.set_cons_zero, List.set_cons_succ]
        refine sched_fork [7] (by kernel_rfl) (by kernel_rfl) (by decide) ?_
        intro i hi
        simp only [List.mem_cons, List.not_mem_nil, or_false] at hi
        subst hi
        refine sched_heavy 7 _ rfl rfl (fun K hK => ?_)
        have hol := ho_3.lt
        refine wp_app_at (.tmp 38) (.tmp 40) 53 rfl wB.heap.size 57 (.agg #[.int .i64 0, .int .i64 0, .int .i64 0, .int .i64 0]) 4 32 Try.underlying53 Try.infoRC rfl (by decide) v3 0 [] rfl ho_3 ⟨W1.heap.size, 0, none⟩ 1 1 [.int .i64 x, .int .i64 y, .int .i64 p, .int .i64 d] rfl rd_3 rfl (by simp [Value.oneCell']) (by omega) (by decide) hb_3.size ?_
        intro vF WF hoF hg hloc
        rw [Nat.zero_add, List.nil_append] at hoF
        have hbF := hb_3.grown hg hb_3.size (fun x hx => (hol x hx).1)
        refine hK.out _ _ hbF ?_
        clear hK K hg
        try simp only [Act.put, List.setIfInBounds_toArray, List.set_cons_zero, List.set_cons_succ]
        (refine sched_light 8 _ ?_ (by kernel_rfl) (by kernel_rfl) rfl rfl ?_ hbF ?_; rotate_left; · (intro w' hS; (try dsimp only at hS); go_simp; with_reducible rfl)); try simp only [Act.put, List.setIfInBounds_toArray, List.set_cons_zero, List.set_cons_succ]
        refine sched_end (by kernel_rfl) ?_
        exact main5 hbF hoF
    ·
      refine sched_heavy 6 _ rfl rfl (fun K hK => ?_)
      go_step
      have hb_1 := hb_0.alloc hb_0.size (.cells #[.int .i64 x, .int .i64 y, .int .i64 p, .int .i64 d] 57)
      have hz_1 : W0.heap.size + 1 ≤ (W0.alloc (.cells #[.int .i64 x, .int .i64 y, .int .i64 p, .int .i64 d] 57)).heap.size := by simp
      have rd_1 := Rd.lit W0 W0.heap.size [.int .i64 x, .int .i64 y, .int .i64 p, .int .i64 d] 57 rfl
      refine hK.out _ _ hb_1 ?_
      clear hK K
      generalize W0.alloc (.cells #[.int .i64 x, .int .i64 y, .int .i64 p, .int .i64 d] 57) = W1 at *
      try simp only [Act.put, List.setIfInBounds_toArray, List.set_cons_zero, List.set_cons_succ]
      refine sched_fork [0] (by kernel_rfl) (by kernel_rfl) (by decide) ?_
      intro i hi
      simp only [List.mem_cons, List.not_mem_nil, or_false] at hi
      subst hi
      refine sched_heavy 0 _ rfl rfl (fun K hK => ?_)
      go_step
      have hb_2 := hb_1.alloc hb_1.size (.cells #[] 57)
      have hz_2 : W1.heap.size + 1 ≤ (W1.alloc (.cells #[] 57)).heap.size := by simp
      have ho_2 : (W1.alloc (.cells #[] 57)).ownsRow wB.heap.size 57 4 (.slice (some ⟨W1.heap.size, 0, none⟩) 0 0) 0 [] := (ownsRow_empty W1 57 4).mono (by omega)
      have rd_2 := rd_1.alloc (.cells #[] 57)
      refine hK.out _ _ hb_2 ?_
      clear hK K
      generalize W1.alloc (.cells #[] 57) = W2 at *
      try simp only [Act.put, List.setIfInBounds_toArray, List.set_cons_zero, List.set_cons_succ]
      refine sched_fork [4] (by kernel_rfl) (by kernel_rfl) (by decide) ?_
      intro i hi
      simp only [List.mem_cons, List.not_mem_nil, or_false] at hi
      subst hi
      refine sched_heavy 4 _ rfl rfl (fun K hK => ?_)
      refine wp_app (.tmp 34) (.tmp 37) 53 rfl wB.heap.size 57 (.agg #[.int .i64 0, .int .i64 0, .int .i64 0, .int .i64 0]) 4 32 Try.underlying53 Try.infoRC rfl (by decide) (.slice (some ⟨W1.heap.size, 0, none⟩) 0 0) 0 [] rfl ho_2 none 0 0 [] rfl (fun _ => rfl) (.inl rfl) rfl (by simp) (by omega) (by decide) hb_2.size ?_
      intro v3 W3 ho_3 hg
      rw [Nat.zero_add, List.nil_append] at ho_3
      have hz_3 : W2.heap.size ≤ W3.heap.size := hg.size
      have hb_3 := hb_2.grown hg hb_2.size (fun x hx => by simp [Value.ownBlock] at hx; omega)
      have rd_3 := rd_2.grown hg (fun x hx => by simp [Value.ownBlock] at hx ⊢; omega)
      refine hK.out _ _ hb_3 ?_
      clear hK K hg
      try simp only [Act.put, List.setIfInBounds_toArray, List.set_cons_zero, List.set_cons_succ]
      refine sched_fork [7] (by kernel_rfl) (by kernel_rfl) (by decide) ?_
      intro i hi
      simp only [List.mem_cons, List.not_mem_nil, or_false] at hi
      subst hi
      refine sched_heavy 7 _ rfl rfl (fun K hK => ?_)
      have hol := ho_3.lt
      refine wp_app_at (.tmp 38) (.tmp 40) 53 rfl wB.heap.size 57 (.agg #[.int .i64 0, .int .i64 0, .int .i64 0, .int .i64 0]) 4 32 Try.underlying53 Try.infoRC rfl (by decide) v3 0 [] rfl ho_3 ⟨W0.heap.size, 0, none⟩ 1 1 [.int .i64 x, .int .i64 y, .int .i64 p, .int .i64 d] rfl rd_3 rfl (by simp [Value.oneCell']) (by omega) (by decide) hb_3.size ?_
      intro vF WF hoF hg hloc
      rw [Nat.zero_add, List.nil_append] at hoF
      have hbF := hb_3.grown hg hb_3.size (fun x hx => (hol x hx).1)
      refine hK.out _ _ hbF ?_
      clear hK K hg
      try simp only [Act.put, List.setIfInBounds_toArray, List.set_cons_zero, List.set_cons_succ]
      (refine sched_light 8 _ ?_ (by kernel_rfl) (by kernel_rfl) rfl rfl ?_ hbF ?_; rotate_left; · (intro w' hS; (try dsimp only at hS); go_simp; with_reducible rfl)); try simp only [Act.put, List.setIfInBounds_toArray, List.set_cons_zero, List.set_cons_succ]
      refine sched_end (by kernel_rfl) ?_
      exact main5 hbF hoF
  clear hK3
  go_loopw [5] (fun ii wr => ∃ n : Nat, ii = .int .i64 0 ∧ wr = wA.drewN n) (fun ii _ => (intOf ii).toNat)
  case atStart => exact ⟨0, rfl, rfl⟩
  case round =>
    obtain ⟨n, rfl, rfl⟩ := hrel
    have q0 := kc.cell 2 rfl
    have q1 := kc.cell 3 rfl
    go_wp2
    go_quiet (fail)
    go_wp2
    exact main3 (n := n + nq) (by first | rfl | simp) (by simp)
end Go.Proofs.Ytmnekbnhodadcaa
