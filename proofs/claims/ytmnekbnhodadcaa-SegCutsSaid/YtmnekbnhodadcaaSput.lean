/-
  graticuleref02.put.
-/
import Derived.Test.YtmnekbnhodadcaaSputp
import Derived.Test.YtmnekbnhodadcaaAppL
import Derived.Test.YtmnekbnhodadcaaSched
set_option linter.unusedVariables false
set_option linter.unusedSimpArgs false
set_option maxRecDepth 100000
namespace Go
open Go.RowKit
theorem cus_take (l : List Cu) (n : Nat) : (cus l).take (n * 4) = cus (l.take n) := by
  induction l generalizing n with
  | nil => simp [cus]
  | cons p l ih =>
    cases n with
    | zero => simp [cus]
    | succ n =>
      have := ih n
      simp only [cus, List.flatMap_cons, List.take_succ_cons] at *
      rw [← this, show (n + 1) * 4 = 4 + n * 4 by omega, List.take_add]
      simp [Cu.cells]
theorem cus_drop (l : List Cu) (n : Nat) : (cus l).drop (n * 4) = cus (l.drop n) := by
  induction l generalizing n with
  | nil => simp [cus]
  | cons p l ih =>
    cases n with
    | zero => simp [cus]
    | succ n =>
      have := ih n
      simp only [cus, List.flatMap_cons, List.drop_succ_cons] at *
      rw [← this, show (n + 1) * 4 = 4 + n * 4 by omega, ← List.drop_drop]
      simp [Cu.cells]
theorem cus_one (l : List Cu) : ∀ u ∈ cus l, u.oneCell' = true := by
  intro u hu
  obtain ⟨p, -, hu⟩ := List.mem_flatMap.1 hu
  simp [Cu.cells] at hu
  rcases hu with rfl | rfl | rfl | rfl <;> rfl
end Go
namespace Go.Proofs.Ytmnekbnhodadcaa
open Go.RowKit Go.Srt
theorem Try.infoRC : (Try.prog.info? 57).map (fun i => (i.zero, i.size, i.bytes)) = some (some (.agg #[.int .i64 0, .int .i64 0, .int .i64 0, .int .i64 0]), 4, 32) := by kernel_rfl

set_option maxHeartbeats 3200000 in
theorem rput_any (c : Cu) (hc : CuOk c) (g cap : Nat) (l : List Cu) (hok : ∀ x ∈ l, CuOk x) (hl : l.length ≤ 1000) (hlc : l.length ≤ cap) (hcm : cap ≤ maxLen) (w : World) (hr : Rd w (some ⟨g, 0, none⟩) (cus l)) :
    Calls Try.prog 24 #[.slice (some ⟨g, 0, none⟩) l.length cap, c.val] w fun e w' => ∃ v k, e = .returned v ∧ PutAt c l k ∧ w'.ownsRow w.heap.size 57 4 v (l.length + 1) (cus (putRow c l k)) ∧ Below w.heap.size w w' := by
  have HOK := Lib.hid hok
  have hcb := hc
  unfold CuOk at hcb
  clear hok
  obtain ⟨x, y, p, d⟩ := c
  dsimp only [Cu.val]
  dsimp only at hcb
  have kc := Blk.lit w w.heap.size [.int .i64 x, .int .i64 y, .int .i64 p, .int .i64 d] 57 rfl
  have hb0 := Below.new w (.cells #[.int .i64 x, .int .i64 y, .int .i64 p, .int .i64 d] 57)
  have hr0 := hr.alloc (.cells #[.int .i64 x, .int .i64 y, .int .i64 p, .int .i64 d] 57)
  go_enter Try.func24, Try.ntmps24
  go_wp2
  obtain ⟨wA, hwA⟩ : ∃ wA, w.alloc (.cells #[.int .i64 x, .int .i64 y, .int .i64 p, .int .i64 d] 57) = wA := ⟨_, rfl⟩
  rw [hwA] at kc hb0 hr0 ⊢
  clear hwA
  rename_i K3 hK3
  replace hK3 := Lib.hid hK3
  have main3 : ∀ {u6 u7 u8 u9 u10 u11 u12 u13 u14 u15 u16 u17 u18 u19 u20 u21 u22 u23 u24 u25 u26 u27 u28 u29 u30 u31 u32 u33 u34 u35 u36 u37 u38 u39 u40 u41 u42 u43 u44 u45 u46 : Value} {k n : Nat} {ii : Value} {W : World}, ii = .int .i64 (k : Int) → W = wA.drewN n → k ≤ l.length → Hid (k = l.length ∨ cmpC ⟨x, y, p, d⟩ l[k]! < 0) → Hid (k = 0 ∨ ¬ cmpC ⟨x, y, p, d⟩ l[k - 1]! < 0) → K3 { tmps := #[.slice (some ⟨g, 0, none⟩) l.length cap, .agg #[.int .i64 x, .int .i64 y, .int .i64 p, .int .i64 d], undef, .pointer (some ⟨w.heap.size, 0, none⟩), .slice none 0 0, ii, u6, u7, u8, u9, u10, u11, u12, u13, u14, u15, u16, u17, u18, u19, u20, u21, u22, u23, u24, u25, u26, u27, u28, u29, u30, u31, u32, u33, u34, u35, u36, u37, u38, u39, u40, u41, u42, u43, u44, u45, u46], defers := [] } W := by
    intro u6 u7 u8 u9 u10 u11 u12 u13 u14 u15 u16 u17 u18 u19 u20 u21 u22 u23 u24 u25 u26 u27 u28 u29 u30 u31 u32 u33 u34 u35 u36 u37 u38 u39 u40 u41 u42 u43 u44 u45 u46 k n ii W hii hW hk HJ HI
    subst hii hW
    refine hK3.out _ _ ?_
    clear hK3
    have HP : Hid (PutAt ⟨x, y, p, d⟩ l k) := Lib.hid ⟨hk, HJ.out, HI.out⟩
    have hb1 := below_drewN hb0 n
    have kc := kc.drewN n
    have hr1 := hr0.drewN n
    generalize wA.drewN n = wB at *
    clear hb0 hr0 HJ HI
    have hgk : g < wB.heap.size ∨ cus l = [] := by
      rcases hr1 with h | ⟨b, off, h1, h2⟩
      · exact .inr h
      · cases h1
        cases hl0 : cus l with
        | nil => exact .inr rfl
        | cons v t => exact .inl (by have := World.block_lt_of_cell? wB _ (h2 0 v (by rw [hl0]; rfl)); exact this)
    have hlk : (k : Int) ≤ (cap : Int) := by omega
    have hk0 : (0 : Int) ≤ (k : Int) := by omega
    have HRT : Hid (∀ W, Below wB.heap.size wB W → Rd W (some ⟨g, 0, none⟩) (cus (l.take k))) := Lib.hid (fun W h => by
      have := (hr1.keep h).take (k * 4)
      rwa [cus_take] at this)
    have HRD : Hid (∀ W, Below wB.heap.size wB W → Rd W (some ⟨g, 0 + k * 4, none⟩) (cus (l.drop k))) := Lib.hid (fun W h => by
      have := (hr1.keep h).drop (k * 4)
      rwa [cus_drop] at this)
    have hlt2 : (l.take k).length = k := by simp; omega
    have hld2 : (l.drop k).length = l.length - k := by simp
    go_wp2_with fail
    rename_i K5 hK5
    replace hK5 := Lib.hid hK5
    have main5 : ∀ {t7 t8 t9 t10 t11 t12 t13 t14 t15 t16 t17 t18 t19 t20 t21 t22 t23 t24 t25 t26 t27 t28 t29 t30 t31 t32 t33 t34 t35 t36 t37 t38 t39 t40 t41 t42 t43 t44 t45 t46 vF : Value} {W : World}, Below wB.heap.size wB W → W.ownsRow wB.heap.size 57 4 vF (k + 1) (cus (l.take k) ++ [.int .i64 x, .int .i64 y, .int .i64 p, .int .i64 d]) → K5 { tmps := #[.slice (some ⟨g, 0, none⟩) l.length cap, .agg #[.int .i64 x, .int .i64 y, .int .i64 p, .int .i64 d], undef, .pointer (some ⟨w.heap.size, 0, none⟩), .slice none 0 0, .int .i64 (k : Int), vF, t7, t8, t9, t10, t11, t12, t13, t14, t15, t16, t17, t18, t19, t20, t21, t22, t23, t24, t25, t26, t27, t28, t29, t30, t31, t32, t33, t34, t35, t36, t37, t38, t39, t40, t41, t42, t43, t44, t45, t46], defers := [] } W := by
      intro t7 t8 t9 t10 t11 t12 t13 t14 t15 t16 t17 t18 t19 t20 t21 t22 t23 t24 t25 t26 t27 t28 t29 t30 t31 t32 t33 t34 t35 t36 t37 t38 t39 t40 t41 t42 t43 t44 t45 t46 vF WF hbF hoF
      refine hK5.out _ _ ?_
      clear hK5
      have hrd := HRD.out _ hbF
      have hzF := hbF.size
      have hb2 := hb1.trans (hbF.mono hb1.size)
      by_cases hkc : k = cap
      · have hlk2 : l.length = k := by omega
        have hnil : l.drop k = [] := List.drop_of_length_le (by omega)
        have hput : putRow ⟨x, y, p, d⟩ l k = l.take k ++ [⟨x, y, p, d⟩] := by unfold putRow; rw [hnil]
        have hcap : ¬ (k : Int) < (cap : Int) := by omega
        have hol := hoF.lt
        have e2 : cus (l.take k) ++ [.int .i64 x, .int .i64 y, .int .i64 p, .int .i64 d] = cus (putRow ⟨x, y, p, d⟩ l k) := by rw [hput]; simp [cus, Cu.cells]
        rw [e2] at hoF
        have ho3 := hoF.mono hb1.size
        rw [← hlk2] at ho3
        have HP2 := HP.out
        have HO3 := Lib.hid ho3
        clear ho3 e2 hput
        subst hkc
        rw [hlk2]
        have ho1 := hoF
        go_wp2_with (at_builtin; go_must (refine wpList_app rfl (.tmp 42) (.tmp 45) 53 rfl wB.heap.size 57 (.agg #[.int .i64 0, .int .i64 0, .int .i64 0, .int .i64 0]) 4 32 Try.underlying53 Try.infoRC rfl (by decide) vF (k + 1) (cus (putRow ⟨x, y, p, d⟩ l k)) rfl hoF (some ⟨g, 0, none⟩) 0 0 [] rfl (fun h => by cases h) (.inl rfl) rfl (by simp) (by omega) (by decide) hzF ?_); intro v2 w2 ho2 hg2; clear ho1)
        have hb3 := hb2.grown hg2 hb2.size (fun x hx => by have := (hol x hx).1; have := hb1.size; omega)
        rw [List.append_nil, Nat.add_zero] at ho2
        have ho3 := ho2.mono hb1.size
        clear hoF hol hg2 ho2 HO3
        go_wp2
        go_ret
        first | exact ⟨_, k, rfl, HP2, ho3, hb3⟩ | exact ⟨_, rfl, k, HP2, ho3, hb3⟩ | exact ⟨_, rfl, _, HP2, ho3, hb3⟩
      · have hkc' : (k : Int) < (cap : Int) := by omega
        rw [Nat.zero_add] at hrd
        have ho1 := hoF
        go_wp2_with (at_builtin; go_must (refine wpList_app rfl (.tmp 42) (.tmp 45) 53 rfl wB.heap.size 57 (.agg #[.int .i64 0, .int .i64 0, .int .i64 0, .int .i64 0]) 4 32 Try.underlying53 Try.infoRC rfl (by decide) vF (k + 1) (cus (l.take k) ++ [.int .i64 x, .int .i64 y, .int .i64 p, .int .i64 d]) rfl hoF (some ⟨g, k * 4, none⟩) (l.length - k) (cap - k) (cus (l.drop k)) rfl (fun h => by cases h) hrd (by rw [cus_len, hld2]) (fun u hu => cus_one _ u hu) (by omega) (by decide) hzF ?_); intro v2 w2 ho2 hg2; clear ho1)
        have hol := hoF.lt
        have hb3 := hb2.grown hg2 hb2.size (fun x hx => by have := (hol x hx).1; have := hb1.size; omega)
        have e1 : k + 1 + (l.length - k) = l.length + 1 := by omega
        have e2 : cus (l.take k) ++ [.int .i64 x, .int .i64 y, .int .i64 p, .int .i64 d] ++ cus (l.drop k) = cus (putRow ⟨x, y, p, d⟩ l k) := by simp [putRow, cus, Cu.cells]
        rw [e1, e2] at ho2
        have ho3 := ho2.mono hb1.size
        clear hoF hol hg2 ho2
        go_wp2
        go_ret
        exact ⟨_, k, rfl, HP.out, ho3, hb3⟩
    refine wp_region_sched 9 [1, 2, 3, 5, 8] (fun W => Below wB.heap.size wB W) rfl (by kernel_rfl) (by kernel_rfl) ?_
    have hb_0 : Below wB.heap.size wB wB.drew := (Below.refl _ _).drew
    have hz_0 : wB.heap.size ≤ wB.drew.heap.size := Nat.le_refl _
    generalize wB.drew = W0 at *
    (refine sched_light 1 _ ?_ (by kernel_rfl) (by kernel_rfl) rfl rfl ?_ hb_0 ?_; rotate_left; · (intro w' hS; (try dsimp only at hS); go_simp; with_reducible rfl)); try simp only [Act.put, List.setIfInBounds_toArray, List.set_cons_zero, List.set_cons_succ]
    (refine sched_light 2 _ ?_ (by kernel_rfl) (by kernel_rfl) rfl rfl ?_ hb_0 ?_; rotate_left; · (intro w' hS; (try dsimp only at hS); go_simp; with_reducible rfl)); try simp only [Act.put, List.setIfInBounds_toArray, List.set_cons_zero, List.set_cons_succ]
    (refine sched_light 3 _ ?_ (by kernel_rfl) (by kernel_rfl) rfl rfl ?_ hb_0 ?_; rotate_left; · (intro w' hS; (try dsimp only at hS); go_simp; with_reducible rfl)); try simp only [Act.put, List.setIfInBounds_toArray, List.set_cons_zero, List.set_cons_succ]
    refine sched_light 5 _ (.agg #[.int .i64 x, .int .i64 y, .int .i64 p, .int .i64 d]) (by kernel_rfl) (by kernel_rfl) rfl rfl ?_ hb_0 ?_
    · intro w' hS
      have c0 := (kc.keep hS).cell 0 rfl
      have c1 := (kc.keep hS).cell 1 rfl
      have c2 := (kc.keep hS).cell 2 rfl
      have c3 := (kc.keep hS).cell 3 rfl
      go_simp
    try simp only [Act.put, List.setIfInBounds_toArray, List.set_cons_zero, List.set_cons_succ]
    refine sched_fork [0, 6] (by kernel_rfl) (by kernel_rfl) (by decide) ?_
    intro i hi
    simp only [List.mem_cons, List.not_mem_nil, or_false] at hi
    rcases hi with rfl | rfl
    ·
      refine sched_heavy 0 _ rfl rfl (fun K hK => ?_)
      go_step
      have hb_1 := hb_0.alloc hb_0.size (.cells #[] 57)
      have hz_1 : W0.heap.size + 1 ≤ (W0.alloc (.cells #[] 57)).heap.size := by simp
      have ho_1 : (W0.alloc (.cells #[] 57)).ownsRow wB.heap.size 57 4 (.slice (some ⟨W0.heap.size, 0, none⟩) 0 0) 0 [] := (ownsRow_empty W0 57 4).mono (by omega)
      refine hK.out _ _ hb_1 ?_
      clear hK K
      generalize W0.alloc (.cells #[] 57) = W1 at *
      try simp only [Act.put, List.setIfInBounds_toArray, List.set_cons_zero, List.set_cons_succ]
      refine sched_fork [4, 6] (by kernel_rfl) (by kernel_rfl) (by decide) ?_
      intro i hi
      simp only [List.mem_cons, List.not_mem_nil, or_false] at hi
      rcases hi with rfl | rfl
      ·
        refine sched_heavy 4 _ rfl rfl (fun K hK => ?_)
        refine wp_app_at (.tmp 34) (.tmp 37) 53 rfl wB.heap.size 57 (.agg #[.int .i64 0, .int .i64 0, .int .i64 0, .int .i64 0]) 4 32 Try.underlying53 Try.infoRC rfl (by decide) (.slice (some ⟨W0.heap.size, 0, none⟩) 0 0) 0 [] rfl ho_1 ⟨g, 0, none⟩ k cap (cus (l.take k)) rfl (HRT.out _ hb_1) (by rw [cus_len, hlt2]) (fun u hu => cus_one _ u hu) (by omega) (by decide) hb_1.size ?_
        intro v2 W2 ho_2 hg hloc
        rw [Nat.zero_add, List.nil_append] at ho_2
        have hz_2 : W1.heap.size ≤ W2.heap.size := hg.size
        have hb_2 := hb_1.grown hg hb_1.size (fun x hx => by simp [Value.ownBlock] at hx; omega)
        refine hK.out _ _ hb_2 ?_
        clear hK K hg hloc
        try simp only [Act.put, List.setIfInBounds_toArray, List.set_cons_zero, List.set_cons_succ]
        refine sched_fork [6] (by kernel_rfl) (by kernel_rfl) (by decide) ?_
        intro i hi
        simp only [List.mem_cons, List.not_mem_nil, or_false] at hi
        subst hi
        refine sched_heavy 6 _ rfl rfl (fun K hK => ?_)
        go_step
        have hb_3 := hb_2.alloc hb_2.size (.cells #[.int .i64 x, .int .i64 y, .int .i64 p, .int .i64 d] 57)
        have hz_3 : W2.heap.size + 1 ≤ (W2.alloc (.cells #[.int .i64 x, .int .i64 y, .int .i64 p, .int .i64 d] 57)).heap.size := by simp
        have ho_3 := World.ownsRow.below ho_2 (Below.new W2 (.cells #[.int .i64 x, .int .i64 y, .int .i64 p, .int .i64 d] 57))
        have rd_3 := Rd.lit W2 W2.heap.size [.int .i64 x, .int .i64 y, .int .i64 p, .int .i64 d] 57 rfl
        refine hK.out _ _ hb_3 ?_
        clear hK K
        generalize W2.alloc (.cells #[.int .i64 x, .int .i64 y, .int .i64 p, .int .i64 d] 57) = W3 at *
        try simp only [Act.put, List.setIfInBounds_toArray, List.set_cons_zero, List.set_cons_succ]
        refine sched_fork [7] (by kernel_rfl) (by kernel_rfl) (by decide) ?_
        intro i hi
        simp only [List.mem_cons, List.not_mem_nil, or_false] at hi
        subst hi
        refine sched_heavy 7 _ rfl rfl (fun K hK => ?_)
        have hol := ho_3.lt
        refine wp_app_at (.tmp 38) (.tmp 40) 53 rfl wB.heap.size 57 (.agg #[.int .i64 0, .int .i64 0, .int .i64 0, .int .i64 0]) 4 32 Try.underlying53 Try.infoRC rfl (by decide) v2 k (cus (l.take k)) rfl ho_3 ⟨W2.heap.size, 0, none⟩ 1 1 [.int .i64 x, .int .i64 y, .int .i64 p, .int .i64 d] rfl rd_3 rfl (by simp [Value.oneCell']) (by omega) (by decide) hb_3.size ?_
        intro vF WF hoF hg hloc
        have hbF := hb_3.grown hg hb_3.size (fun x hx => (hol x hx).1)
        refine hK.out _ _ hbF ?_
        clear hK K hg hloc
        try simp only [Act.put, List.setIfInBounds_toArray, List.set_cons_zero, List.set_cons_succ]
        (refine sched_light 8 _ ?_ (by kernel_rfl) (by kernel_rfl) rfl rfl ?_ hbF ?_; rotate_left; · (intro w' hS; (try dsimp only at hS); go_simp; with_reducible rfl)); try simp only [Act.put, List.setIfInBounds_toArray, List.set_cons_zero, List.set_cons_succ]
        refine sched_end (by kernel_rfl) ?_
        exact main5 hbF hoF
      ·
        refine sched_heavy 6 _ rfl rfl (fun K hK => ?_)
        go_step
        have hb_2 := hb_1.alloc hb_1.size (.cells #[.int .i64 x, .int .i64 y, .int .i64 p, .int .i64 d] 57)
        have hz_2 : W1.heap.size + 1 ≤ (W1.alloc (.cells #[.int .i64 x, .int .i64 y, .int .i64 p, .int .i64 d] 57)).heap.size := by simp
        have ho_2 := World.ownsRow.below ho_1 (Below.new W1 (.cells #[.int .i64 x, .int .i64 y, .int .i64 p, .int .i64 d] 57))
        have rd_2 := Rd.lit W1 W1.heap.size [.int .i64 x, .int .i64 y, .int .i64 p, .int .i64 d] 57 rfl
        refine hK.out _ _ hb_2 ?_
        clear hK K
        generalize W1.alloc (.cells #[.int .i64 x, .int .i64 y, .int .i64 p, .int .i64 d] 57) = W2 at *
        try simp only [Act.put, List.setIfInBounds_toArray, List.set_cons_zero, List.set_cons_succ]
        refine sched_fork [4] (by kernel_rfl) (by kernel_rfl) (by decide) ?_
        intro i hi
        simp only [List.mem_cons, List.not_mem_nil, or_false] at hi
        subst hi
        refine sched_heavy 4 _ rfl rfl (fun K hK => ?_)
        refine wp_app_at (.tmp 34) (.tmp 37) 53 rfl wB.heap.size 57 (.agg #[.int .i64 0, .int .i64 0, .int .i64 0, .int .i64 0]) 4 32 Try.underlying53 Try.infoRC rfl (by decide) (.slice (some ⟨W0.heap.size, 0, none⟩) 0 0) 0 [] rfl ho_2 ⟨g, 0, none⟩ k cap (cus (l.take k)) rfl (HRT.out _ hb_2) (by rw [cus_len, hlt2]) (fun u hu => cus_one _ u hu) (by omega) (by decide) hb_2.size ?_
        intro v3 W3 ho_3 hg hloc
        rw [Nat.zero_add, List.nil_append] at ho_3
        have hz_3 : W2.heap.size ≤ W3.heap.size := hg.size
        have hb_3 := hb_2.grown hg hb_2.size (fun x hx => by simp [Value.ownBlock] at hx; omega)
        have rd_3 := rd_2.grown hg (fun x hx => by simp [Value.ownBlock] at hx ⊢; omega)
        refine hK.out _ _ hb_3 ?_
        clear hK K hg hloc
        try simp only [Act.put, List.setIfInBounds_toArray, List.set_cons_zero, List.set_cons_succ]
        refine sched_fork [7] (by kernel_rfl) (by kernel_rfl) (by decide) ?_
        intro i hi
        simp only [List.mem_cons, List.not_mem_nil, or_false] at hi
        subst hi
        refine sched_heavy 7 _ rfl rfl (fun K hK => ?_)
        have hol := ho_3.lt
        refine wp_app_at (.tmp 38) (.tmp 40) 53 rfl wB.heap.size 57 (.agg #[.int .i64 0, .int .i64 0, .int .i64 0, .int .i64 0]) 4 32 Try.underlying53 Try.infoRC rfl (by decide) v3 k (cus (l.take k)) rfl ho_3 ⟨W1.heap.size, 0, none⟩ 1 1 [.int .i64 x, .int .i64 y, .int .i64 p, .int .i64 d] rfl rd_3 rfl (by simp [Value.oneCell']) (by omega) (by decide) hb_3.size ?_
        intro vF WF hoF hg hloc
        have hbF := hb_3.grown hg hb_3.size (fun x hx => (hol x hx).1)
        refine hK.out _ _ hbF ?_
        clear hK K hg hloc
        try simp only [Act.put, List.setIfInBounds_toArray, List.set_cons_zero, List.set_cons_succ]
        (refine sched_light 8 _ ?_ (by kernel_rfl) (by kernel_rfl) rfl rfl ?_ hbF ?_; rotate_left; · (intro w' hS; (try dsimp only at hS); go_simp; with_reducible rfl)); try simp only [Act.put, List.setIfInBounds_toArray, List.set_cons_zero, List.set_cons_succ]
        refine sched_end (by kernel_rfl) ?_
        exact main5 hbF hoF
    ·
      refine sched_heavy 6 _ rfl rfl (fun K hK => ?_)
      go_step
      have hb_1 := hb_0.alloc hb_0.size (.cells #[.int .i64 x, .int .i64 y, .int .i64 p, .int .i64 d] 57)
      have hz_1 : W0.heap.size + 1 ≤ (W0.alloc (.cells #[.int .i64 x, .int .i64 y, .int .i64 p, .int .i64 d] 57)).heap.size := by simp
      have rd_1 := Rd.lit W0 W0.heap.size [.int .i64 x, .int .i64 y, .int .i64 p, .int .i64 d] 57 rfl
      refine hK.out _ _ hb_1 ?_
      clear hK K
      generalize W0.alloc (.cells #[.int .i64 x, .int .i64 y, .int .i64 p, .int .i64 d] 57) = W1 at *
      try simp only [Act.put, List.setIfInBounds_toArray, List.set_cons_zero, List.set_cons_succ]
      refine sched_fork [0] (by kernel_rfl) (by kernel_rfl) (by decide) ?_
      intro i hi
      simp only [List.mem_cons, List.not_mem_nil, or_false] at hi
      subst hi
      refine sched_heavy 0 _ rfl rfl (fun K hK => ?_)
      go_step
      have hb_2 := hb_1.alloc hb_1.size (.cells #[] 57)
      have hz_2 : W1.heap.size + 1 ≤ (W1.alloc (.cells #[] 57)).heap.size := by simp
      have ho_2 : (W1.alloc (.cells #[] 57)).ownsRow wB.heap.size 57 4 (.slice (some ⟨W1.heap.size, 0, none⟩) 0 0) 0 [] := (ownsRow_empty W1 57 4).mono (by omega)
      have rd_2 := rd_1.alloc (.cells #[] 57)
      refine hK.out _ _ hb_2 ?_
      clear hK K
      generalize W1.alloc (.cells #[] 57) = W2 at *
      try simp only [Act.put, List.setIfInBounds_toArray, List.set_cons_zero, List.set_cons_succ]
      refine sched_fork [4] (by kernel_rfl) (by kernel_rfl) (by decide) ?_
      intro i hi
      simp only [List.mem_cons, List.not_mem_nil, or_false] at hi
      subst hi
      refine sched_heavy 4 _ rfl rfl (fun K hK => ?_)
      refine wp_app_at (.tmp 34) (.tmp 37) 53 rfl wB.heap.size 57 (.agg #[.int .i64 0, .int .i64 0, .int .i64 0, .int .i64 0]) 4 32 Try.underlying53 Try.infoRC rfl (by decide) (.slice (some ⟨W1.heap.size, 0, none⟩) 0 0) 0 [] rfl ho_2 ⟨g, 0, none⟩ k cap (cus (l.take k)) rfl (HRT.out _ hb_2) (by rw [cus_len, hlt2]) (fun u hu => cus_one _ u hu) (by omega) (by decide) hb_2.size ?_
      intro v3 W3 ho_3 hg hloc
      rw [Nat.zero_add, List.nil_append] at ho_3
      have hz_3 : W2.heap.size ≤ W3.heap.size := hg.size
      have hb_3 := hb_2.grown hg hb_2.size (fun x hx => by simp [Value.ownBlock] at hx; omega)
      have rd_3 := rd_2.grown hg (fun x hx => by simp [Value.ownBlock] at hx ⊢; omega)
      refine hK.out _ _ hb_3 ?_
      clear hK K hg hloc
      try simp only [Act.put, List.setIfInBounds_toArray, List.set_cons_zero, List.set_cons_succ]
      refine sched_fork [7] (by kernel_rfl) (by kernel_rfl) (by decide) ?_
      intro i hi
      simp only [List.mem_cons, List.not_mem_nil, or_false] at hi
      subst hi
      refine sched_heavy 7 _ rfl rfl (fun K hK => ?_)
      have hol := ho_3.lt
      refine wp_app_at (.tmp 38) (.tmp 40) 53 rfl wB.heap.size 57 (.agg #[.int .i64 0, .int .i64 0, .int .i64 0, .int .i64 0]) 4 32 Try.underlying53 Try.infoRC rfl (by decide) v3 k (cus (l.take k)) rfl ho_3 ⟨W0.heap.size, 0, none⟩ 1 1 [.int .i64 x, .int .i64 y, .int .i64 p, .int .i64 d] rfl rd_3 rfl (by simp [Value.oneCell']) (by omega) (by decide) hb_3.size ?_
      intro vF WF hoF hg hloc
      have hbF := hb_3.grown hg hb_3.size (fun x hx => (hol x hx).1)
      refine hK.out _ _ hbF ?_
      clear hK K hg hloc
      try simp only [Act.put, List.setIfInBounds_toArray, List.set_cons_zero, List.set_cons_succ]
      (refine sched_light 8 _ ?_ (by kernel_rfl) (by kernel_rfl) rfl rfl ?_ hbF ?_; rotate_left; · (intro w' hS; (try dsimp only at hS); go_simp; with_reducible rfl)); try simp only [Act.put, List.setIfInBounds_toArray, List.set_cons_zero, List.set_cons_succ]
      refine sched_end (by kernel_rfl) ?_
      exact main5 hbF hoF
  clear hK3
  go_loopw [5] (fun ii wr => ∃ k n : Nat, k ≤ l.length ∧ ii = .int .i64 (k : Int) ∧ Hid (k = l.length ∨ cmpC ⟨x, y, p, d⟩ l[k]! < 0) ∧ wr = wA.drewN n) (fun ii _ => (intOf ii).toNat)
  case atStart => exact ⟨l.length, 0, Nat.le_refl _, rfl, Lib.hid (.inl rfl), rfl⟩
  case round =>
    obtain ⟨k, n, hk, rfl, HJ, rfl⟩ := hrel
    have q0 := kc.cell 2 rfl
    have q1 := kc.cell 3 rfl
    rcases Nat.eq_zero_or_pos k with rfl | hpos
    · go_wp2
      go_quiet (fail)
      go_wp2
      exact main3 (k := 0) (n := n + nq) (by first | rfl | simp) (by simp) hk HJ (Lib.hid (.inl rfl))
    · obtain ⟨q, rfl⟩ : ∃ q, k = q + 1 := ⟨k - 1, by omega⟩
      obtain ⟨b1, off1, e1, hbb1, -, -, t2, t3⟩ := hr0.cu q (by omega)
      cases e1
      have hA : CuOk l[q]! := at_ok HOK.out _ (by omega)
      have HCV : Hid (cmpC ⟨x, y, p, d⟩ l[q]! = p * l[q]!.w - l[q]!.p * d) := Lib.hid rfl
      have hge : l[q]'(by omega) = l[q]! := (getElem!_pos l q (by omega)).symm
      rw [hge] at t2 t3
      clear hge
      obtain ⟨CM, hCM⟩ : ∃ CM, cmpC ⟨x, y, p, d⟩ l[q]! = CM := ⟨_, rfl⟩
      have HCM := Lib.hid hCM
      have HJ2 : Hid (CM < 0 → (q = l.length ∨ cmpC ⟨x, y, p, d⟩ l[q]! < 0)) := Lib.hid (fun h => .inr (by rw [hCM]; exact h))
      have HI2 : Hid (¬ CM < 0 → (q + 1 = 0 ∨ ¬ cmpC ⟨x, y, p, d⟩ l[q + 1 - 1]! < 0)) := Lib.hid (fun h => .inr (by rw [Nat.add_sub_cancel, hCM]; exact h))
      rw [hCM] at HCV
      clear hCM
      have hcv := HCV.out
      obtain ⟨A, hAA⟩ : ∃ A, l[q]! = A := ⟨_, rfl⟩
      rw [hAA] at t2 t3 hA hcv
      clear hAA HCM
      obtain ⟨Ax, Ay, Ap, Aw⟩ := A
      unfold CuOk at hA
      dsimp only at t2 t3 hA hcv
      rw [Nat.zero_add] at t2 t3
      have m1 := mul_bd p Aw 67108864 67108864 (by omega) (by omega) (by omega) (by omega)
      have m2 := mul_bd Ap d 67108864 67108864 (by omega) (by omega) (by omega) (by omega)
      simp only [Int.reduceMul, Int.reduceNeg] at m1 m2
      obtain ⟨M1, hM1⟩ : ∃ M, p * Aw = M := ⟨_, rfl⟩
      obtain ⟨M2, hM2⟩ : ∃ M, Ap * d = M := ⟨_, rfl⟩
      have w1 : IntKind.i64.wrap (p * Aw) = M1 := by rw [hM1]; exact IntWalk.i64_in _ (by omega)
      have w2 : IntKind.i64.wrap (Ap * d) = M2 := by rw [hM2]; exact IntWalk.i64_in _ (by omega)
      have wq : IntKind.i64.wrap ((q : Int) + 1 - 1) = (q : Int) := by
        rw [show (q : Int) + 1 - 1 = (q : Int) by omega]; exact IntWalk.i64_in _ (by omega)
      have hql : (q : Int) < (l.length : Int) := by omega
      have hq0 : (0 : Int) < (q : Int) + 1 := by omega
      rw [hM1, hM2] at hcv
      clear hM1 hM2 m1 m2 HCV
      by_cases hlt : M1 < M2
      · go_wp2
        go_quiet (fail)
        go_wp2
        have HJ3 := Lib.hid (HJ2.out (by omega))
        go_roundw
        case rel => exact ⟨q, n + nq, by omega, rfl, HJ3, by simp⟩
        case measure => simp [intOf]
      · have hltd : decide (M1 < M2) = false := decide_eq_false hlt
        go_wp2
        go_quiet (fail)
        go_wp2
        exact main3 (k := q + 1) (n := n + nq) (by first | rfl | simp) (by simp) hk HJ (Lib.hid (HI2.out (by omega)))
end Go.Proofs.Ytmnekbnhodadcaa
