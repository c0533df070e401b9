/-
  graticuleref10.Sort: each put into a new row, behind all that it does not come ahead of. graticulelaw10.Cut. value.Print at the number 3; text.Digits of a small number. graticuleref07.Same. The chapter's examples hold: graticulelaw10.known answers true.
-/
import Derived.Test.YtinogphhbbaobaaDoorPk9
import Derived.Test.YtinogphhbbaobaaDoorPk10
import Derived.Test.YtinogphhbbaobaaDoorPk13
import Derived.Test.YtinogphhbbaobaaDoorPk8
import Derived.Test.YtinogphhbbaobaaDoorPk5
import Derived.Test.YtinogphhbbaobaaDoorPk6
import Derived.Test.YtinogphhbbaobaaDoorPk7
import Derived.Test.YtinogphhbbaobaaDoorShelf
import Derived.Test.YtinogphhbbaobaaDoorProg
import Derived.Test.YtinogphhbbaobaaDoorPk1
/- graticuleref10.Sort: each put into a new row, behind all that it does not come ahead of. -/
set_option linter.unusedVariables false
set_option linter.unusedSimpArgs false
set_option maxRecDepth 100000
namespace Go.Proofs.YtinogphhbbaobaaDoor
open Go.RowKit Go.Srt
theorem Tryd.infoRV : (Tryd.prog.info? 39).map (fun i => (i.zero, i.size, i.bytes)) = some (some (.agg #[.int .i64 0, .string ⟨#[]⟩, .int .i64 0]), 3, 32) := by kernel_rfl

set_option maxHeartbeats 6400000 in
theorem rsort_any (al : Option Addr) (cl : Nat) (X : List Vg) (hlen : X.length ≤ 1000) (hx : ∀ i j, i < j → j < X.length → X[i]!.g < X[j]!.g) (w : World) (hr : Rd w al (vgs X)) :
    Calls Tryd.prog 14 #[.slice al X.length cl] w fun e w' => (∃ v, e = .returned v ∧ ∃ l2 : List Vg, l2.Perm X ∧ l2.Pairwise (fun a b => cmpG a b ≤ 0) ∧ w'.ownsRow w.heap.size 39 3 v X.length (vgs l2)) ∧ Below w.heap.size w w' := by
  have HRL := Lib.hid (fun a b W => rless_any a b W); have HX := Lib.hid hx; have HR := Lib.hid hr; obtain ⟨n, hn⟩ : ∃ n, X.length = n := ⟨_, rfl⟩; have HN := Lib.hid hn; rw [hn] at hlen ⊢; clear hn hx hr
  go_enter Tryd.func14, Tryd.ntmps14
  go_wp2
  go_loopw [3, 4] (fun vo ii wr => ∃ (k : Nat) (L : List Vg), k ≤ n ∧ ii = .int .i64 (k : Int) ∧ wr.ownsRow w.heap.size 39 3 vo k (vgs L) ∧ Hid (L.Perm (X.take k)) ∧ Hid (L.Pairwise (fun a b => cmpG a b ≤ 0)) ∧ Below w.heap.size w wr) (fun _ ii _ => n - (intOf ii).toNat)
  case atStart => exact ⟨0, [], Nat.zero_le _, rfl, World.ownsRow_nil _ _ _ _, Lib.hid (List.Perm.refl _), Lib.hid List.Pairwise.nil, Below.refl _ _⟩
  case round =>
    obtain ⟨k, L, hk, rfl, hown, HP, HS, hbw⟩ := hrel
    by_cases hkn : k < n
    · have hkn2 : (k : Int) < (n : Int) := by omega
      have hkX : k < X.length := by rw [HN.out]; exact hkn
      have hLk : L.length = k := by
        have := HP.out.length_eq
        rwa [List.length_take, Nat.min_eq_left (by omega)] at this
      obtain ⟨xb, xo, rfl, hxb, x0, x1, x2⟩ := HR.out.vg k hkX; have HG : Hid (∀ y ∈ L, y.g ≤ (X[k]).g) := Lib.hid (fun y hy => by
        obtain ⟨i, hi, rfl⟩ := List.mem_iff_getElem.1 (HP.out.mem_iff.1 hy); rw [List.length_take] at hi; rw [List.getElem_take]; have := HX.out i k (by omega) hkX; rw [getElem!_pos X i (by omega), getElem!_pos X k hkX] at this; omega)
      have HPE : Hid (∀ j, (L.take j ++ X[k] :: L.drop j).Perm (X.take (k + 1))) := Lib.hid (fun j => ins_perm hkX rfl HP.out); have HSE : Hid (∀ j, j ≤ L.length → (j = L.length ∨ lessV (X[k]).v L[j]!.v = true) → (j = 0 ∨ lessV (X[k]).v L[j - 1]!.v = false) → (L.take j ++ X[k] :: L.drop j).Pairwise (fun a b => cmpG a b ≤ 0)) := Lib.hid (fun j hj h1 h2 => ins_pairwise hj HS.out HG.out h1 h2); obtain ⟨x, hx⟩ : ∃ x, X[k] = x := ⟨_, rfl⟩; rw [hx] at x0 x1 x2 HPE HSE; clear hx HG HP HS; obtain ⟨la, lc, rfl, hklc, hlcm, hlac, hrL, hlb⟩ := hown.form; have hla : la = none ∧ k = 0 ∧ lc = 0 ∨ ∃ g, la = some ⟨g, 0, none⟩ := by
        obtain ⟨h1, ⟨h2, h3⟩ | ⟨g, cap, cur, h2, _⟩⟩ := hown
        · cases h2; exact .inl ⟨rfl, h3, rfl⟩
        · cases h2; exact .inr ⟨g, rfl⟩
      clear hown; have y0 := (hbw.cell (p := ⟨xb, xo + k * 3, none⟩) hxb).trans x0; have y1 := (hbw.cell (p := ⟨xb, xo + k * 3 + 1, none⟩) hxb).trans x1; have y2 := (hbw.cell (p := ⟨xb, xo + k * 3 + 2, none⟩) hxb).trans x2; have hxb2 : xb < wr.heap.size := by have := hbw.size; omega
      clear x0 x1 x2; generalize wr = wO at *; go_wp2; rename_i K3 hK3; replace hK3 := Lib.hid hK3; have main3 : ∀ {u6 u7 u8 u9 u10 u11 u12 u13 u14 u15 u16 u17 u18 u19 u20 u21 u22 u23 u24 u25 u26 u27 u28 u29 u30 u31 u32 u33 u34 u35 u36 u37 u38 u39 u40 u41 u42 u43 u44 u45 u46 : Value} {j : Nat} {W : World}, Below wO.heap.size wO W → j ≤ k → Hid (j = k ∨ lessV x.v L[j]!.v = true) → Hid (j = 0 ∨ lessV x.v L[j - 1]!.v = false) → K3 { tmps := #[.slice (some ⟨xb, xo, none⟩) n cl, undef, .slice none 0 0, .slice la k lc, .int .i64 (k : Int), .int .i64 (j : Int), u6, u7, u8, u9, u10, u11, u12, u13, u14, u15, u16, u17, u18, u19, u20, u21, u22, u23, u24, u25, u26, u27, u28, u29, u30, u31, u32, u33, u34, u35, u36, u37, u38, u39, u40, u41, u42, u43, u44, u45, u46, undef], defers := [] } W := by
        intro u6 u7 u8 u9 u10 u11 u12 u13 u14 u15 u16 u17 u18 u19 u20 u21 u22 u23 u24 u25 u26 u27 u28 u29 u30 u31 u32 u33 u34 u35 u36 u37 u38 u39 u40 u41 u42 u43 u44 u45 u46 j W hbj hj HJ HI; refine hK3.out _ _ ?_; clear hK3; have HPj := Lib.hid (HPE.out j); have HSj := Lib.hid (HSE.out j (by omega) (by rw [hLk]; exact HJ.out) HI.out); have hb1 := hbw.trans (hbj.mono hbw.size); have e0 := (hbj.cell (p := ⟨xb, xo + k * 3, none⟩) hxb2).trans y0; have e1 := (hbj.cell (p := ⟨xb, xo + k * 3 + 1, none⟩) hxb2).trans y1; have e2 := (hbj.cell (p := ⟨xb, xo + k * 3 + 2, none⟩) hxb2).trans y2; have hxb3 : xb < W.heap.size := by have := hbj.size; omega
        have hr1 := hrL.keep hbj; have hlb2 : ∀ b, la.map (·.block) = some b → b < W.heap.size := fun b h => by have := (hlb b h).2; have := hbj.size; omega
        clear y0 y1 y2 hbj HPE HSE HJ HI hlb hrL; have hjc : (j : Int) ≤ (lc : Int) := by omega
        have hj0 : (0 : Int) ≤ (j : Int) := by omega
        have HRT : Hid (∀ V, Below W.heap.size W V → Rd V la (vgs (L.take j))) := Lib.hid (fun V h => by
          have := (hr1.keep h).take (j * 3)
          rwa [vgs_take] at this)
        have hlt2 : (L.take j).length = j := by simp; omega
        have hld2 : (L.drop j).length = k - j := by simp; omega
        go_wp2_with fail
        rename_i K5 hK5; replace hK5 := Lib.hid hK5; have main5 : ∀ {t7 t8 t9 t10 t11 t12 t13 t14 t15 t16 t17 t18 t19 t20 t21 t22 t23 t24 t25 t26 t27 t28 t29 t30 t31 t32 t33 t34 t35 t36 t37 t38 t39 t40 t41 t42 t43 t44 t45 t46 vF : Value} {V : World}, Below W.heap.size W V → V.ownsRow W.heap.size 39 3 vF (j + 1) (vgs (L.take j) ++ [.int .i64 x.k, .string x.t, .int .i64 x.n]) → K5 { tmps := #[.slice (some ⟨xb, xo, none⟩) n cl, undef, .slice none 0 0, .slice la k lc, .int .i64 (k : Int), .int .i64 (j : Int), vF, t7, t8, t9, t10, t11, t12, t13, t14, t15, t16, t17, t18, t19, t20, t21, t22, t23, t24, t25, t26, t27, t28, t29, t30, t31, t32, t33, t34, t35, t36, t37, t38, t39, t40, t41, t42, t43, t44, t45, t46, undef], defers := [] } V := by
          intro t7 t8 t9 t10 t11 t12 t13 t14 t15 t16 t17 t18 t19 t20 t21 t22 t23 t24 t25 t26 t27 t28 t29 t30 t31 t32 t33 t34 t35 t36 t37 t38 t39 t40 t41 t42 t43 t44 t45 t46 vF V hbF hoF; refine hK5.out _ _ ?_; clear hK5; have hzF := hbF.size; have hb2 := hb1.trans (hbF.mono hb1.size); have hol := hoF.lt
          rcases hla with ⟨rfl, rfl, rfl⟩ | ⟨g, rfl⟩
          · have hj00 : j = 0 := by omega
            subst hj00
            go_wp2_with (at_builtin; go_must (refine wpList_app rfl (.tmp 42) (.tmp 45) 38 rfl W.heap.size 39 (.agg #[.int .i64 0, .string ⟨#[]⟩, .int .i64 0]) 3 32 Tryd.underlying38 Tryd.infoRV rfl (by decide) vF (0 + 1) (vgs (L.take 0) ++ [.int .i64 x.k, .string x.t, .int .i64 x.n]) rfl hoF none 0 0 [] rfl (fun _ => rfl) (.inl rfl) rfl (by simp) (by omega) (by decide) hzF ?_); intro v2 w2 ho2 hg2)
            have hb3 := hb2.grown hg2 hb2.size (fun y hy => by have := (hol y hy).1; have := hb1.size; omega); have ho3 : w2.ownsRow w.heap.size 39 3 v2 (0 + 1) (vgs (L.take 0 ++ x :: L.drop 0)) := by
              have e1 : 0 + 1 + 0 = 0 + 1 := by omega
              have e2 : vgs (L.take 0) ++ [.int .i64 x.k, .string x.t, .int .i64 x.n] ++ [] = vgs (L.take 0 ++ x :: L.drop 0) := by 
                have : L.drop 0 = [] := List.drop_of_length_le (by omega); rw [this]; simp [vgs, Vg.cells]
              rw [e1, e2] at ho2; exact ho2.mono hb1.size
            clear hoF hol hg2 ho2; go_wp2; go_roundw
            case rel =>
              exact ⟨0 + 1, _, by omega, by go_num, ho3, HPj, HSj, hb3⟩
            case measure => simp [intOf]; omega
          · have hrd := (hr1.keep hbF).drop (j * 3); rw [vgs_drop, Nat.zero_add] at hrd
            by_cases hkc : j = lc
            · have hcap : ¬ (j : Int) < (lc : Int) := by omega
              have hjk : j = k := by omega
              go_wp2_with (at_builtin; go_must (refine wpList_app rfl (.tmp 42) (.tmp 45) 38 rfl W.heap.size 39 (.agg #[.int .i64 0, .string ⟨#[]⟩, .int .i64 0]) 3 32 Tryd.underlying38 Tryd.infoRV rfl (by decide) vF (j + 1) (vgs (L.take j) ++ [.int .i64 x.k, .string x.t, .int .i64 x.n]) rfl hoF (some ⟨g, 0, none⟩) 0 0 [] rfl (fun h => by cases h) (.inl rfl) rfl (by simp) (by omega) (by decide) hzF ?_); intro v2 w2 ho2 hg2)
              have hb3 := hb2.grown hg2 hb2.size (fun y hy => by have := (hol y hy).1; have := hb1.size; omega); have ho3 : w2.ownsRow w.heap.size 39 3 v2 (k + 1) (vgs (L.take j ++ x :: L.drop j)) := by
                have e1 : j + 1 + 0 = k + 1 := by omega
                have e2 : vgs (L.take j) ++ [.int .i64 x.k, .string x.t, .int .i64 x.n] ++ [] = vgs (L.take j ++ x :: L.drop j) := by 
                  have : L.drop j = [] := List.drop_of_length_le (by omega); rw [this]; simp [vgs, Vg.cells]
                rw [e1, e2] at ho2; exact ho2.mono hb1.size
              clear hoF hol hg2 ho2; go_wp2; go_roundw
              case rel =>
                exact ⟨k + 1, _, by omega, by go_num, ho3, HPj, HSj, hb3⟩
              case measure => simp [intOf]; omega
            · have hkc' : (j : Int) < (lc : Int) := by omega
              go_wp2_with (at_builtin; go_must (refine wpList_app rfl (.tmp 42) (.tmp 45) 38 rfl W.heap.size 39 (.agg #[.int .i64 0, .string ⟨#[]⟩, .int .i64 0]) 3 32 Tryd.underlying38 Tryd.infoRV rfl (by decide) vF (j + 1) (vgs (L.take j) ++ [.int .i64 x.k, .string x.t, .int .i64 x.n]) rfl hoF (some ⟨g, j * 3, none⟩) (k - j) (lc - j) (vgs (L.drop j)) rfl (fun h => by cases h) hrd (by rw [vgs_len, hld2]) (vgs_one _) (by omega) (by decide) hzF ?_); intro v2 w2 ho2 hg2)
              have hb3 := hb2.grown hg2 hb2.size (fun y hy => by have := (hol y hy).1; have := hb1.size; omega); have ho3 : w2.ownsRow w.heap.size 39 3 v2 (k + 1) (vgs (L.take j ++ x :: L.drop j)) := by
                have e1 : j + 1 + (k - j) = k + 1 := by omega
                have e2 : vgs (L.take j) ++ [.int .i64 x.k, .string x.t, .int .i64 x.n] ++ vgs (L.drop j) = vgs (L.take j ++ x :: L.drop j) := by simp [vgs, Vg.cells]
                rw [e1, e2] at ho2; exact ho2.mono hb1.size
              clear hoF hol hg2 ho2; go_wp2; go_roundw
              case rel =>
                exact ⟨k + 1, _, by omega, by go_num, ho3, HPj, HSj, hb3⟩
              case measure => simp [intOf]; omega
        refine wp_region_sched 12 [1, 2, 3, 5, 6, 7, 8, 11] (fun V => Below W.heap.size W V) rfl (by kernel_rfl) (by kernel_rfl) ?_; have hb_0 : Below W.heap.size W W.drew := (Below.refl _ _).drew; have hz_0 : W.heap.size ≤ W.drew.heap.size := Nat.le_refl _; generalize W.drew = W0 at *
        (refine sched_light 1 _ ?_ (by kernel_rfl) (by kernel_rfl) rfl rfl ?_ hb_0 ?_; rotate_left; · (intro w' hS; (try dsimp only at hS); go_simp; with_reducible rfl)); try simp only [Act.put, List.getElem_toArray, List.getElem_cons_succ, List.getElem_cons_zero, List.setIfInBounds_toArray, List.set_cons_zero, List.set_cons_succ]
        (refine sched_light 2 _ ?_ (by kernel_rfl) (by kernel_rfl) rfl rfl ?_ hb_0 ?_; rotate_left; · (intro w' hS; (try dsimp only at hS); go_simp; with_reducible rfl)); try simp only [Act.put, List.getElem_toArray, List.getElem_cons_succ, List.getElem_cons_zero, List.setIfInBounds_toArray, List.set_cons_zero, List.set_cons_succ]
        refine sched_light 3 _ (.slice la j lc) (by kernel_rfl) (by kernel_rfl) rfl rfl ?_ hb_0 ?_
        · intro w' hS; go_simp
        try simp only [Act.put, List.getElem_toArray, List.getElem_cons_succ, List.getElem_cons_zero, List.setIfInBounds_toArray, List.set_cons_zero, List.set_cons_succ]
        (refine sched_light 5 _ ?_ (by kernel_rfl) (by kernel_rfl) rfl rfl ?_ hb_0 ?_; rotate_left; · (intro w' hS; (try dsimp only at hS); go_simp; with_reducible rfl)); try simp only [Act.put, List.getElem_toArray, List.getElem_cons_succ, List.getElem_cons_zero, List.setIfInBounds_toArray, List.set_cons_zero, List.set_cons_succ]
        (refine sched_light 6 _ ?_ (by kernel_rfl) (by kernel_rfl) rfl rfl ?_ hb_0 ?_; rotate_left; · (intro w' hS; (try dsimp only at hS); go_simp; with_reducible rfl)); try simp only [Act.put, List.getElem_toArray, List.getElem_cons_succ, List.getElem_cons_zero, List.setIfInBounds_toArray, List.set_cons_zero, List.set_cons_succ]
        (refine sched_light 7 _ ?_ (by kernel_rfl) (by kernel_rfl) rfl rfl ?_ hb_0 ?_; rotate_left; · (intro w' hS; (try dsimp only at hS); go_simp; with_reducible rfl)); try simp only [Act.put, List.getElem_toArray, List.getElem_cons_succ, List.getElem_cons_zero, List.setIfInBounds_toArray, List.set_cons_zero, List.set_cons_succ]
        refine sched_light 8 _ (.agg #[.int .i64 x.k, .string x.t, .int .i64 x.n]) (by kernel_rfl) (by kernel_rfl) rfl rfl ?_ hb_0 ?_
        · intro w' hS; have c0 := (hS.cell (p := ⟨xb, xo + k * 3, none⟩) hxb3).trans e0; have c1 := (hS.cell (p := ⟨xb, xo + k * 3 + 1, none⟩) hxb3).trans e1; have c2 := (hS.cell (p := ⟨xb, xo + k * 3 + 2, none⟩) hxb3).trans e2; go_simp
        try simp only [Act.put, List.getElem_toArray, List.getElem_cons_succ, List.getElem_cons_zero, List.setIfInBounds_toArray, List.set_cons_zero, List.set_cons_succ]
        refine sched_fork [0, 9] (by kernel_rfl) (by kernel_rfl) (by decide) ?_; intro i hi; simp only [List.mem_cons, List.not_mem_nil, or_false] at hi
        rcases hi with rfl | rfl
        ·
          refine sched_heavy 0 _ rfl rfl (fun K hK => ?_); go_step; have hb_1 := hb_0.alloc hb_0.size (.cells #[] 39); have hz_1 : W0.heap.size + 1 ≤ (W0.alloc (.cells #[] 39)).heap.size := by simp
          have ho_1 : (W0.alloc (.cells #[] 39)).ownsRow W.heap.size 39 3 (.slice (some ⟨W0.heap.size, 0, none⟩) 0 0) 0 [] := (ownsRow_empty W0 39 3).mono (by omega); refine hK.out _ _ hb_1 ?_; clear hK K; generalize W0.alloc (.cells #[] 39) = W1 at *
          try simp only [Act.put, List.getElem_toArray, List.getElem_cons_succ, List.getElem_cons_zero, List.setIfInBounds_toArray, List.set_cons_zero, List.set_cons_succ]
          refine sched_fork [4, 9] (by kernel_rfl) (by kernel_rfl) (by decide) ?_; intro i hi; simp only [List.mem_cons, List.not_mem_nil, or_false] at hi
          rcases hi with rfl | rfl
          ·
            refine sched_heavy 4 _ rfl rfl (fun K hK => ?_); refine wp_app (.tmp 31) (.tmp 34) 38 rfl W.heap.size 39 (.agg #[.int .i64 0, .string ⟨#[]⟩, .int .i64 0]) 3 32 Tryd.underlying38 Tryd.infoRV rfl (by decide) (.slice (some ⟨W0.heap.size, 0, none⟩) 0 0) 0 [] rfl ho_1 la j lc (vgs (L.take j)) rfl hlac (HRT.out _ hb_1) (by rw [vgs_len, hlt2]) (vgs_one _) (by omega) (by decide) hb_1.size ?_; intro v2 W2 ho_2 hg; rw [Nat.zero_add, List.nil_append] at ho_2; have hz_2 : W1.heap.size ≤ W2.heap.size := hg.size; have hb_2 := hb_1.grown hg hb_1.size (fun x hx => by simp [Value.ownBlock] at hx; omega); refine hK.out _ _ hb_2 ?_; clear hK K hg
            try simp only [Act.put, List.getElem_toArray, List.getElem_cons_succ, List.getElem_cons_zero, List.setIfInBounds_toArray, List.set_cons_zero, List.set_cons_succ]
            refine sched_fork [9] (by kernel_rfl) (by kernel_rfl) (by decide) ?_; intro i hi; simp only [List.mem_cons, List.not_mem_nil, or_false] at hi; subst hi; refine sched_heavy 9 _ rfl rfl (fun K hK => ?_); go_step; have hb_3 := hb_2.alloc hb_2.size (.cells #[.int .i64 x.k, .string x.t, .int .i64 x.n] 39); have hz_3 : W2.heap.size + 1 ≤ (W2.alloc (.cells #[.int .i64 x.k, .string x.t, .int .i64 x.n] 39)).heap.size := by simp
            have ho_3 := World.ownsRow.below ho_2 (Below.new W2 (.cells #[.int .i64 x.k, .string x.t, .int .i64 x.n] 39)); have rd_3 := Rd.lit W2 W2.heap.size [.int .i64 x.k, .string x.t, .int .i64 x.n] 39 rfl; refine hK.out _ _ hb_3 ?_; clear hK K; generalize W2.alloc (.cells #[.int .i64 x.k, .string x.t, .int .i64 x.n] 39) = W3 at *
            try simp only [Act.put, List.getElem_toArray, List.getElem_cons_succ, List.getElem_cons_zero, List.setIfInBounds_toArray, List.set_cons_zero, List.set_cons_succ]
            refine sched_fork [10] (by kernel_rfl) (by kernel_rfl) (by decide) ?_; intro i hi; simp only [List.mem_cons, List.not_mem_nil, or_false] at hi; subst hi; refine sched_heavy 10 _ rfl rfl (fun K hK => ?_); have hol := ho_3.lt; refine wp_app_at (.tmp 35) (.tmp 40) 38 rfl W.heap.size 39 (.agg #[.int .i64 0, .string ⟨#[]⟩, .int .i64 0]) 3 32 Tryd.underlying38 Tryd.infoRV rfl (by decide) v2 j (vgs (L.take j)) rfl ho_3 ⟨W2.heap.size, 0, none⟩ 1 1 [.int .i64 x.k, .string x.t, .int .i64 x.n] rfl rd_3 rfl (by simp [Value.oneCell']) (by omega) (by decide) hb_3.size ?_; intro vF WF hoF hg hloc; have hbF := hb_3.grown hg hb_3.size (fun x hx => (hol x hx).1); refine hK.out _ _ hbF ?_; clear hK K hg hloc
            try simp only [Act.put, List.getElem_toArray, List.getElem_cons_succ, List.getElem_cons_zero, List.setIfInBounds_toArray, List.set_cons_zero, List.set_cons_succ]
            (refine sched_light 11 _ ?_ (by kernel_rfl) (by kernel_rfl) rfl rfl ?_ hbF ?_; rotate_left; · (intro w' hS; (try dsimp only at hS); go_simp; with_reducible rfl)); try simp only [Act.put, List.getElem_toArray, List.getElem_cons_succ, List.getElem_cons_zero, List.setIfInBounds_toArray, List.set_cons_zero, List.set_cons_succ]
            refine sched_end (by kernel_rfl) ?_; exact main5 hbF hoF
          ·
            refine sched_heavy 9 _ rfl rfl (fun K hK => ?_); go_step; have hb_2 := hb_1.alloc hb_1.size (.cells #[.int .i64 x.k, .string x.t, .int .i64 x.n] 39); have hz_2 : W1.heap.size + 1 ≤ (W1.alloc (.cells #[.int .i64 x.k, .string x.t, .int .i64 x.n] 39)).heap.size := by simp
            have ho_2 := World.ownsRow.below ho_1 (Below.new W1 (.cells #[.int .i64 x.k, .string x.t, .int .i64 x.n] 39)); have rd_2 := Rd.lit W1 W1.heap.size [.int .i64 x.k, .string x.t, .int .i64 x.n] 39 rfl; refine hK.out _ _ hb_2 ?_; clear hK K; generalize W1.alloc (.cells #[.int .i64 x.k, .string x.t, .int .i64 x.n] 39) = W2 at *
            try simp only [Act.put, List.getElem_toArray, List.getElem_cons_succ, List.getElem_cons_zero, List.setIfInBounds_toArray, List.set_cons_zero, List.set_cons_succ]
            refine sched_fork [4] (by kernel_rfl) (by kernel_rfl) (by decide) ?_; intro i hi; simp only [List.mem_cons, List.not_mem_nil, or_false] at hi; subst hi; refine sched_heavy 4 _ rfl rfl (fun K hK => ?_); refine wp_app (.tmp 31) (.tmp 34) 38 rfl W.heap.size 39 (.agg #[.int .i64 0, .string ⟨#[]⟩, .int .i64 0]) 3 32 Tryd.underlying38 Tryd.infoRV rfl (by decide) (.slice (some ⟨W0.heap.size, 0, none⟩) 0 0) 0 [] rfl ho_2 la j lc (vgs (L.take j)) rfl hlac (HRT.out _ hb_2) (by rw [vgs_len, hlt2]) (vgs_one _) (by omega) (by decide) hb_2.size ?_; intro v3 W3 ho_3 hg; rw [Nat.zero_add, List.nil_append] at ho_3; have hz_3 : W2.heap.size ≤ W3.heap.size := hg.size; have hb_3 := hb_2.grown hg hb_2.size (fun x hx => by simp [Value.ownBlock] at hx; omega); have rd_3 := rd_2.grown hg (fun x hx => by simp [Value.ownBlock] at hx ⊢; omega); refine hK.out _ _ hb_3 ?_; clear hK K hg
            try simp only [Act.put, List.getElem_toArray, List.getElem_cons_succ, List.getElem_cons_zero, List.setIfInBounds_toArray, List.set_cons_zero, List.set_cons_succ]
            refine sched_fork [10] (by kernel_rfl) (by kernel_rfl) (by decide) ?_; intro i hi; simp only [List.mem_cons, List.not_mem_nil, or_false] at hi; subst hi; refine sched_heavy 10 _ rfl rfl (fun K hK => ?_); have hol := ho_3.lt; refine wp_app_at (.tmp 35) (.tmp 40) 38 rfl W.heap.size 39 (.agg #[.int .i64 0, .string ⟨#[]⟩, .int .i64 0]) 3 32 Tryd.underlying38 Tryd.infoRV rfl (by decide) v3 j (vgs (L.take j)) rfl ho_3 ⟨W1.heap.size, 0, none⟩ 1 1 [.int .i64 x.k, .string x.t, .int .i64 x.n] rfl rd_3 rfl (by simp [Value.oneCell']) (by omega) (by decide) hb_3.size ?_; intro vF WF hoF hg hloc; have hbF := hb_3.grown hg hb_3.size (fun x hx => (hol x hx).1); refine hK.out _ _ hbF ?_; clear hK K hg hloc
            try simp only [Act.put, List.getElem_toArray, List.getElem_cons_succ, List.getElem_cons_zero, List.setIfInBounds_toArray, List.set_cons_zero, List.set_cons_succ]
            (refine sched_light 11 _ ?_ (by kernel_rfl) (by kernel_rfl) rfl rfl ?_ hbF ?_; rotate_left; · (intro w' hS; (try dsimp only at hS); go_simp; with_reducible rfl)); try simp only [Act.put, List.getElem_toArray, List.getElem_cons_succ, List.getElem_cons_zero, List.setIfInBounds_toArray, List.set_cons_zero, List.set_cons_succ]
            refine sched_end (by kernel_rfl) ?_; exact main5 hbF hoF
        ·
          refine sched_heavy 9 _ rfl rfl (fun K hK => ?_); go_step; have hb_1 := hb_0.alloc hb_0.size (.cells #[.int .i64 x.k, .string x.t, .int .i64 x.n] 39); have hz_1 : W0.heap.size + 1 ≤ (W0.alloc (.cells #[.int .i64 x.k, .string x.t, .int .i64 x.n] 39)).heap.size := by simp
          have rd_1 := Rd.lit W0 W0.heap.size [.int .i64 x.k, .string x.t, .int .i64 x.n] 39 rfl; refine hK.out _ _ hb_1 ?_; clear hK K; generalize W0.alloc (.cells #[.int .i64 x.k, .string x.t, .int .i64 x.n] 39) = W1 at *
          try simp only [Act.put, List.getElem_toArray, List.getElem_cons_succ, List.getElem_cons_zero, List.setIfInBounds_toArray, List.set_cons_zero, List.set_cons_succ]
          refine sched_fork [0] (by kernel_rfl) (by kernel_rfl) (by decide) ?_; intro i hi; simp only [List.mem_cons, List.not_mem_nil, or_false] at hi; subst hi; refine sched_heavy 0 _ rfl rfl (fun K hK => ?_); go_step; have hb_2 := hb_1.alloc hb_1.size (.cells #[] 39); have hz_2 : W1.heap.size + 1 ≤ (W1.alloc (.cells #[] 39)).heap.size := by simp
          have ho_2 : (W1.alloc (.cells #[] 39)).ownsRow W.heap.size 39 3 (.slice (some ⟨W1.heap.size, 0, none⟩) 0 0) 0 [] := (ownsRow_empty W1 39 3).mono (by omega); have rd_2 := rd_1.alloc (.cells #[] 39); refine hK.out _ _ hb_2 ?_; clear hK K; generalize W1.alloc (.cells #[] 39) = W2 at *
          try simp only [Act.put, List.getElem_toArray, List.getElem_cons_succ, List.getElem_cons_zero, List.setIfInBounds_toArray, List.set_cons_zero, List.set_cons_succ]
          refine sched_fork [4] (by kernel_rfl) (by kernel_rfl) (by decide) ?_; intro i hi; simp only [List.mem_cons, List.not_mem_nil, or_false] at hi; subst hi; refine sched_heavy 4 _ rfl rfl (fun K hK => ?_); refine wp_app (.tmp 31) (.tmp 34) 38 rfl W.heap.size 39 (.agg #[.int .i64 0, .string ⟨#[]⟩, .int .i64 0]) 3 32 Tryd.underlying38 Tryd.infoRV rfl (by decide) (.slice (some ⟨W1.heap.size, 0, none⟩) 0 0) 0 [] rfl ho_2 la j lc (vgs (L.take j)) rfl hlac (HRT.out _ hb_2) (by rw [vgs_len, hlt2]) (vgs_one _) (by omega) (by decide) hb_2.size ?_; intro v3 W3 ho_3 hg; rw [Nat.zero_add, List.nil_append] at ho_3; have hz_3 : W2.heap.size ≤ W3.heap.size := hg.size; have hb_3 := hb_2.grown hg hb_2.size (fun x hx => by simp [Value.ownBlock] at hx; omega); have rd_3 := rd_2.grown hg (fun x hx => by simp [Value.ownBlock] at hx ⊢; omega); refine hK.out _ _ hb_3 ?_; clear hK K hg
          try simp only [Act.put, List.getElem_toArray, List.getElem_cons_succ, List.getElem_cons_zero, List.setIfInBounds_toArray, List.set_cons_zero, List.set_cons_succ]
          refine sched_fork [10] (by kernel_rfl) (by kernel_rfl) (by decide) ?_; intro i hi; simp only [List.mem_cons, List.not_mem_nil, or_false] at hi; subst hi; refine sched_heavy 10 _ rfl rfl (fun K hK => ?_); have hol := ho_3.lt; refine wp_app_at (.tmp 35) (.tmp 40) 38 rfl W.heap.size 39 (.agg #[.int .i64 0, .string ⟨#[]⟩, .int .i64 0]) 3 32 Tryd.underlying38 Tryd.infoRV rfl (by decide) v3 j (vgs (L.take j)) rfl ho_3 ⟨W0.heap.size, 0, none⟩ 1 1 [.int .i64 x.k, .string x.t, .int .i64 x.n] rfl rd_3 rfl (by simp [Value.oneCell']) (by omega) (by decide) hb_3.size ?_; intro vF WF hoF hg hloc; have hbF := hb_3.grown hg hb_3.size (fun x hx => (hol x hx).1); refine hK.out _ _ hbF ?_; clear hK K hg hloc
          try simp only [Act.put, List.getElem_toArray, List.getElem_cons_succ, List.getElem_cons_zero, List.setIfInBounds_toArray, List.set_cons_zero, List.set_cons_succ]
          (refine sched_light 11 _ ?_ (by kernel_rfl) (by kernel_rfl) rfl rfl ?_ hbF ?_; rotate_left; · (intro w' hS; (try dsimp only at hS); go_simp; with_reducible rfl)); try simp only [Act.put, List.getElem_toArray, List.getElem_cons_succ, List.getElem_cons_zero, List.setIfInBounds_toArray, List.set_cons_zero, List.set_cons_succ]
          refine sched_end (by kernel_rfl) ?_; exact main5 hbF hoF
      clear hK3
      go_loopw [5] (fun jj W => ∃ j : Nat, j ≤ k ∧ jj = .int .i64 (j : Int) ∧ Hid (j = k ∨ lessV x.v L[j]!.v = true) ∧ Below wO.heap.size wO W) (fun jj _ => (intOf jj).toNat)
      case atStart => exact ⟨k, Nat.le_refl _, rfl, Lib.hid (.inl rfl), Below.refl _ _⟩
      case round =>
        obtain ⟨j, hj, rfl, HJ, hbj⟩ := hrel
        rcases Nat.eq_zero_or_pos j with rfl | hpos
        · go_wp2
          go_quiet (fail)
          go_wp2; refine main3 (j := 0) ?_ (Nat.zero_le _) HJ (Lib.hid (.inl rfl)); exact below_drewN hbj _
        · obtain ⟨q, rfl⟩ : ∃ q, j = q + 1 := ⟨j - 1, by omega⟩; have hqL : q < L.length := by omega
          obtain ⟨gb, go, rfl, hgb, z0, z1, z2⟩ := hrL.vg q hqL; have HLE := Lib.hid (HRL.out x.v L[q]!.v); rw [← getElem!_pos L q hqL] at z0 z1 z2; obtain ⟨LV, hLV⟩ : ∃ b, lessV x.v L[q]!.v = b := ⟨_, rfl⟩; have HLV := Lib.hid hLV; rw [hLV] at HLE; clear hLV; have wq : IntKind.i64.wrap ((q : Int) + 1 - 1) = (q : Int) := by
            rw [show (q : Int) + 1 - 1 = (q : Int) by omega]; exact IntWalk.i64_in _ (by omega)
          have hqk : (q : Int) < (k : Int) := by omega
          have hq0 : (0 : Int) < (q : Int) + 1 := by omega
          obtain ⟨y, hy⟩ : ∃ y, L[q]! = y := ⟨_, rfl⟩; rw [hy] at z0 z1 z2 HLE; clear hy
          go_wp2_with fail
          refine wp_region_sched 14 [0, 1, 2, 3, 4, 5, 6, 7, 8, 9, 10, 11, 13] (fun V => Below wr.heap.size wr V) rfl (by kernel_rfl) (by kernel_rfl) ?_; have e0 := (hbj.cell (p := ⟨xb, xo + k * 3, none⟩) hxb2).trans y0; have e1 := (hbj.cell (p := ⟨xb, xo + k * 3 + 1, none⟩) hxb2).trans y1; have e2 := (hbj.cell (p := ⟨xb, xo + k * 3 + 2, none⟩) hxb2).trans y2; have f0 := (hbj.cell (p := ⟨gb, go + q * 3, none⟩) hgb).trans z0; have f1 := (hbj.cell (p := ⟨gb, go + q * 3 + 1, none⟩) hgb).trans z1; have f2 := (hbj.cell (p := ⟨gb, go + q * 3 + 2, none⟩) hgb).trans z2; have hxb3 : xb < wr.heap.size := by have := hbj.size; omega
          have hgb3 : gb < wr.heap.size := by have := hbj.size; omega
          have hb_0 : Below wr.heap.size wr wr.drew := (Below.refl _ _).drew; generalize wr.drew = W0 at *
          (refine sched_light 0 _ ?_ (by kernel_rfl) (by kernel_rfl) rfl rfl ?_ hb_0 ?_; rotate_left; · (intro w' hS; (try dsimp only at hS); go_simp; with_reducible rfl)); try simp only [Act.put, List.getElem_toArray, List.getElem_cons_succ, List.getElem_cons_zero, List.setIfInBounds_toArray, List.set_cons_zero, List.set_cons_succ]
          (refine sched_light 1 _ ?_ (by kernel_rfl) (by kernel_rfl) rfl rfl ?_ hb_0 ?_; rotate_left; · (intro w' hS; (try dsimp only at hS); go_simp; with_reducible rfl)); try simp only [Act.put, List.getElem_toArray, List.getElem_cons_succ, List.getElem_cons_zero, List.setIfInBounds_toArray, List.set_cons_zero, List.set_cons_succ]
          (refine sched_light 2 _ ?_ (by kernel_rfl) (by kernel_rfl) rfl rfl ?_ hb_0 ?_; rotate_left; · (intro w' hS; (try dsimp only at hS); go_simp; with_reducible rfl)); try simp only [Act.put, List.getElem_toArray, List.getElem_cons_succ, List.getElem_cons_zero, List.setIfInBounds_toArray, List.set_cons_zero, List.set_cons_succ]
          (refine sched_light 3 _ ?_ (by kernel_rfl) (by kernel_rfl) rfl rfl ?_ hb_0 ?_; rotate_left; · (intro w' hS; (try dsimp only at hS); go_simp; with_reducible rfl)); try simp only [Act.put, List.getElem_toArray, List.getElem_cons_succ, List.getElem_cons_zero, List.setIfInBounds_toArray, List.set_cons_zero, List.set_cons_succ]
          (refine sched_light 4 _ ?_ (by kernel_rfl) (by kernel_rfl) rfl rfl ?_ hb_0 ?_; rotate_left; · (intro w' hS; (try dsimp only at hS); go_simp; with_reducible rfl)); try simp only [Act.put, List.getElem_toArray, List.getElem_cons_succ, List.getElem_cons_zero, List.setIfInBounds_toArray, List.set_cons_zero, List.set_cons_succ]
          (refine sched_light 5 _ ?_ (by kernel_rfl) (by kernel_rfl) rfl rfl ?_ hb_0 ?_; rotate_left; · (intro w' hS; (try dsimp only at hS); go_simp; with_reducible rfl)); try simp only [Act.put, List.getElem_toArray, List.getElem_cons_succ, List.getElem_cons_zero, List.setIfInBounds_toArray, List.set_cons_zero, List.set_cons_succ]
          refine sched_light 6 _ (.agg #[.int .i64 x.k, .string x.t, .int .i64 x.n]) (by kernel_rfl) (by kernel_rfl) rfl rfl ?_ hb_0 ?_
          · intro w' hS; have c0 := (hS.cell (p := ⟨xb, xo + k * 3, none⟩) hxb3).trans e0; have c1 := (hS.cell (p := ⟨xb, xo + k * 3 + 1, none⟩) hxb3).trans e1; have c2 := (hS.cell (p := ⟨xb, xo + k * 3 + 2, none⟩) hxb3).trans e2; go_simp
          try simp only [Act.put, List.getElem_toArray, List.getElem_cons_succ, List.getElem_cons_zero, List.setIfInBounds_toArray, List.set_cons_zero, List.set_cons_succ]
          (refine sched_light 7 _ ?_ (by kernel_rfl) (by kernel_rfl) rfl rfl ?_ hb_0 ?_; rotate_left; · (intro w' hS; (try dsimp only at hS); go_simp; with_reducible rfl)); try simp only [Act.put, List.getElem_toArray, List.getElem_cons_succ, List.getElem_cons_zero, List.setIfInBounds_toArray, List.set_cons_zero, List.set_cons_succ]
          (refine sched_light 8 _ ?_ (by kernel_rfl) (by kernel_rfl) rfl rfl ?_ hb_0 ?_; rotate_left; · (intro w' hS; (try dsimp only at hS); go_simp; with_reducible rfl)); try simp only [Act.put, List.getElem_toArray, List.getElem_cons_succ, List.getElem_cons_zero, List.setIfInBounds_toArray, List.set_cons_zero, List.set_cons_succ]
          refine sched_light 9 _ (.int .i64 (q : Int)) (by kernel_rfl) (by kernel_rfl) rfl rfl ?_ hb_0 ?_
          · intro w' hS; go_simp
            try exact IntWalk.i64_in _ (by omega)
          try simp only [Act.put, List.getElem_toArray, List.getElem_cons_succ, List.getElem_cons_zero, List.setIfInBounds_toArray, List.set_cons_zero, List.set_cons_succ]
          (refine sched_light 10 _ ?_ (by kernel_rfl) (by kernel_rfl) rfl rfl ?_ hb_0 ?_; rotate_left; · (intro w' hS; (try dsimp only at hS); go_simp; with_reducible rfl)); try simp only [Act.put, List.getElem_toArray, List.getElem_cons_succ, List.getElem_cons_zero, List.setIfInBounds_toArray, List.set_cons_zero, List.set_cons_succ]
          refine sched_light 11 _ (.agg #[.int .i64 y.k, .string y.t, .int .i64 y.n]) (by kernel_rfl) (by kernel_rfl) rfl rfl ?_ hb_0 ?_
          · intro w' hS; have c0 := (hS.cell (p := ⟨gb, go + q * 3, none⟩) hgb3).trans f0; have c1 := (hS.cell (p := ⟨gb, go + q * 3 + 1, none⟩) hgb3).trans f1; have c2 := (hS.cell (p := ⟨gb, go + q * 3 + 2, none⟩) hgb3).trans f2; go_simp
          try simp only [Act.put, List.getElem_toArray, List.getElem_cons_succ, List.getElem_cons_zero, List.setIfInBounds_toArray, List.set_cons_zero, List.set_cons_succ]
          refine sched_fork [12] (by kernel_rfl) (by kernel_rfl) (by decide) ?_; intro i hi; simp only [List.mem_cons, List.not_mem_nil, or_false] at hi; subst hi; refine sched_heavy 12 _ rfl rfl (fun K hK => ?_); go_step; refine (HLE.out _).mono ?_; rintro e W1 ⟨rfl, hb1⟩; have hb_1 : Below wr.heap.size wr W1 := hb_0.trans (hb1.mono hb_0.size); refine hK.out _ _ hb_1 ?_; clear hK K hb1
          try simp only [Act.put, List.getElem_toArray, List.getElem_cons_succ, List.getElem_cons_zero, List.setIfInBounds_toArray, List.set_cons_zero, List.set_cons_succ]
          (refine sched_light 13 _ ?_ (by kernel_rfl) (by kernel_rfl) rfl rfl ?_ hb_1 ?_; rotate_left; · (intro w' hS; (try dsimp only at hS); go_simp; with_reducible rfl)); try simp only [Act.put, List.getElem_toArray, List.getElem_cons_succ, List.getElem_cons_zero, List.setIfInBounds_toArray, List.set_cons_zero, List.set_cons_succ]
          have hbn := hbj.trans (hb_1.mono hbj.size); clear e0 e1 e2 f0 f1 f2 hb_0 hb_1 hbj HLE z0 z1 z2; refine sched_end (by kernel_rfl) ?_
          cases LV with
          | true =>
            have HJ3 : Hid (q = k ∨ lessV x.v L[q]!.v = true) := Lib.hid (.inr HLV.out); clear HLV HJ; go_wp2; go_roundw
            case rel => exact ⟨q, by omega, rfl, HJ3, hbn⟩
            case measure => simp [intOf]
          | false =>
            have HJ3 : Hid (q + 1 = 0 ∨ lessV x.v L[q + 1 - 1]!.v = false) := Lib.hid (.inr (by rw [Nat.add_sub_cancel]; exact HLV.out)); clear HLV; go_wp2; exact main3 (j := q + 1) hbn hj HJ HJ3
    · obtain rfl : k = n := by omega
      have HPF : Hid (L.Perm X) := Lib.hid (by have := HP.out; rwa [List.take_of_length_le (by rw [HN.out]; omega)] at this); clear HP HX HR HRL; have HS := HS; go_wp2; go_ret; exact ⟨⟨_, rfl, L, HPF.out, HS.out, hown⟩, hbw⟩
end Go.Proofs.YtinogphhbbaobaaDoor
/- graticulelaw10.Cut. -/
set_option linter.unusedVariables false
set_option linter.unusedSimpArgs false
set_option maxRecDepth 100000
namespace Go.Proofs.YtinogphhbbaobaaDoor
open Go.RowKit
set_option maxHeartbeats 1000000 in
theorem vcut_any (k n : Int) (t : ByteArray) (ht : t.size ≤ maxLen) (w : World) :
    Calls Tryd.prog 6 #[vVal (k, t, n)] w fun e w' => e = .returned (vVal (k, t.extract 0 (min t.size 100), n)) ∧ Below w.heap.size w w' := by
  have ht2 : t.size ≤ 9223372036854775807 := by unfold maxLen at ht; omega
  dsimp only [vVal]
  go_enter Tryd.func6, Tryd.ntmps6
  by_cases h : 100 < t.size
  · have h2 : (100 : Int) < (t.size : Int) := by omega
    have hm : min (t.size : Int) 100 = 100 := by omega
    go_wp2; refine bodyPost_ret (v := .agg #[.int .i64 k, .string (t.extract 0 (min t.size 100)), .int .i64 n]) ?_ rfl ⟨rfl, (Below.new w _).alloc (by simp) _⟩; have q := Blk.lit (w.alloc (.cells #[.int .i64 k, .string (t.extract 0 100), .int .i64 n] 23)) (w.heap.size + 1) [.int .i64 k, .string (t.extract 0 100), .int .i64 n] 23 (by simp); have q0 := q.cell 0 rfl; have q1 := q.cell 1 rfl; have q2 := q.cell 2 rfl; rw [show min t.size 100 = 100 by omega]; simp [results, Tryd.results6, go_sem, q0, q1, q2]
  · have h2 : ¬ (100 : Int) < (t.size : Int) := by omega
    have hm : min (t.size : Int) 100 = (t.size : Int) := by omega
    go_wp2; refine bodyPost_ret (v := .agg #[.int .i64 k, .string (t.extract 0 (min t.size 100)), .int .i64 n]) ?_ rfl ⟨rfl, (Below.new w _).alloc (by simp) _⟩; have q := Blk.lit (w.alloc (.cells #[.int .i64 k, .string t, .int .i64 n] 23)) (w.heap.size + 1) [.int .i64 k, .string t, .int .i64 n] 23 (by simp); have q0 := q.cell 0 rfl; have q1 := q.cell 1 rfl; have q2 := q.cell 2 rfl; rw [show min t.size 100 = t.size by omega, show t.extract 0 t.size = t by simp]; simp [results, Tryd.results6, go_sem, q0, q1, q2]
end Go.Proofs.YtinogphhbbaobaaDoor
/- value.Print at the number 3; text.Digits of a small number. -/
set_option linter.unusedVariables false
set_option linter.unusedSimpArgs false
set_option maxRecDepth 100000
namespace Go.Proofs.YtinogphhbbaobaaDoor
open Go.RowKit

theorem digits_small (i : Nat) (hi : i < 100) (w : World) :
    Calls Tryd.prog 33 #[.int .i64 i] w fun e w' => e = .returned (.string ⟨(Lib.decDigits i).toArray⟩) ∧ w' = w := by
  have H := Lib.hid (Tryd.strconv_Itoa_small i hi w)
  go_enter Tryd.func33, Tryd.ntmps33
  go_wp2_with fail
  refine H.out.mono ?_; rintro e w' ⟨rfl, rfl⟩; go_wp2; go_ret; exact ⟨rfl, rfl⟩

set_option maxHeartbeats 1000000 in
theorem print_u3 (w : World) :
    Calls Tryd.prog 16 #[vVal (2, ⟨#[]⟩, 3)] w fun e w' => e = .returned (.tuple #[.string ⟨#[117, 51]⟩, .int .i64 0]) ∧ Below w.heap.size w w' := by
  have hcv : vcF 2 ⟨#[]⟩ 3 = 0 := by decide
  have HCK := Lib.hid (fun W => vchk_any 2 3 ⟨#[]⟩ (by simp [ByteArray.size]) W); rw [hcv] at HCK; dsimp only [vVal]; have hb0 := Below.new w (.cells #[.int .i64 2, .string ⟨#[]⟩, .int .i64 3] 23); have k0 := Blk.lit w w.heap.size [.int .i64 2, .string ⟨#[]⟩, .int .i64 3] 23 rfl; have HD := Lib.hid (fun W => digits_small 3 (by decide) W); have hd : Lib.decDigits 3 = [51] := Lib.decDigits_one (by decide); rw [hd] at HD; clear hcv hd
  go_enter Tryd.func16, Tryd.ntmps16
  go_wp2_with fail
  refine (HCK.out _).mono ?_; rintro e w1 ⟨rfl, hb1⟩; have k1 := k0.keep hb1; have hbw := hb0.trans (hb1.mono hb0.size); have x0 := k1.cell 0 rfl; have x1 := k1.cell 1 rfl; have x2 := k1.cell 2 rfl; clear k0 hb1 hb0 HCK
  go_wp2_with fail
  refine (HD.out _).mono ?_; rintro e w2 ⟨rfl, rfl⟩; go_wp2; refine bodyPost_ret (v := .tuple #[.string ⟨#[117, 51]⟩, .int .i64 0]) (by simp [results, Tryd.results16, go_sem]; try rfl) rfl ⟨rfl, hbw⟩
end Go.Proofs.YtinogphhbbaobaaDoor
/- graticuleref07.Same. -/
set_option linter.unusedVariables false
set_option linter.unusedSimpArgs false
namespace Go.Proofs.YtinogphhbbaobaaDoor
open Go.RowKit

theorem rsame_any (a b : Option Addr) (c d : Nat) (L M : List Int) (hl : L.length ≤ 140737488355328) (hm : M.length ≤ 140737488355328) (w : World) (hr : Rd w a (L.map (Value.int .u8))) (hs : Rd w b (M.map (Value.int .u8))) :
    Calls Tryd.prog 19 #[.slice a L.length c, .slice b M.length d] w fun e w' => e = .returned (.bool (decide (L = M))) ∧ ∃ n, w' = w.drewN n := by
  by_cases hlen : L.length = M.length
  · have hne : ((L.length : Int) != (M.length : Int)) = false := by simp [hlen]
    go_enter Tryd.func19, Tryd.ntmps19
    have HL := Lib.hid hlen; clear hlen; go_wp2
    go_loopw [5] (fun i wr => ∃ k : Nat, k ≤ L.length ∧ i = .int .i64 k ∧ L.take k = M.take k ∧ ∃ n, wr = w.drewN n) (fun i _ => L.length - (intOf i).toNat)
    case atStart => exact ⟨0, Nat.zero_le _, rfl, rfl, 0, rfl⟩
    case round =>
      obtain ⟨k, hk, rfl, heq, n, rfl⟩ := hrel; have HE := Lib.hid heq; clear heq
      by_cases hlt : k < L.length
      · have hlt2 : k < M.length := by have := HL.out; omega
        obtain ⟨b1, off1, rfl, hcell1, _⟩ := hr.at (i := k) (v := .int .u8 L[k]) (by simp [hlt]); obtain ⟨b2, off2, rfl, hcell2, _⟩ := hs.at (i := k) (v := .int .u8 M[k]) (by simp [hlt2])
        by_cases hx : L[k] = M[k]
        · have hb : (L[k] != M[k]) = false := by simp [hx]
          have HX := Lib.hid hx; clear hx; go_wp2
          go_quiet (fail)
          go_wp2; go_roundw
          case rel => exact ⟨k + 1, by omega, by go_num, by rw [List.take_succ_eq_append_getElem hlt, List.take_succ_eq_append_getElem hlt2, HE.out, HX.out], n + nq, by simp⟩
          case measure => simp [intOf]; omega
        · have hb : (L[k] != M[k]) = true := by simpa using hx
          go_wp2
          go_quiet (fail)
          go_wp2; go_ret; refine ⟨ret_bool ?_, n + nq, by simp⟩
          symm; apply decide_eq_false; intro h; exact hx (by simp [h])
      · go_wp2; go_ret; refine ⟨ret_bool ?_, n, rfl⟩
        symm; apply decide_eq_true
        have := HE.out
        rwa [List.take_of_length_le (by omega), List.take_of_length_le (by have := HL.out; omega)] at this
  · have hne : ((L.length : Int) != (M.length : Int)) = true := by simp; omega
    go_enter Tryd.func19, Tryd.ntmps19
    go_wp2; go_ret; refine ⟨ret_bool ?_, 0, rfl⟩
    symm; apply decide_eq_false; intro h; rw [h] at hlen; exact hlen rfl
end Go.Proofs.YtinogphhbbaobaaDoor
/- The chapter's examples hold: graticulelaw10.known answers true. -/
set_option linter.unusedVariables false
set_option linter.unusedSimpArgs false
set_option maxRecDepth 100000
namespace Go.Proofs.YtinogphhbbaobaaDoor
open Go.RowKit Go.Vint Go.Proto

theorem vby_m3 : vby (3, ⟨#[]⟩, -3) = [48, 5] := by
  rw [vby, if_pos (by decide)]; simp only [vFld, Int.reduceEq, if_false, if_true, fby, tail]; simp [vb_lo, zig]
theorem vrd_21 : (vrd [21, 0, 0, 0, 0]).2 = 14 := by
  have e : [(21 : Int), 0, 0, 0, 0] = [(⟨2, 5, 0, []⟩ : Fld)].flatMap fby := by
    simp only [List.flatMap_cons, List.flatMap_nil, fby, tail, Int.reduceEq, if_false, if_true]; simp [vb_lo, low]
  have h := pall_fby [(⟨2, 5, 0, []⟩ : Fld)] (by intro x hx; obtain rfl := List.mem_singleton.1 hx; exact ⟨by decide, by decide, by decide, by simp⟩); rw [← e] at h; rw [vrd, h]; simp [vrdF, knF]

set_option maxHeartbeats 2000000 in
theorem vknown_any (w : World) :
    Calls Tryd.prog 8 #[] w fun e w' => e = .returned (.bool true) ∧ Below w.heap.size w w' := by
  have H1 := Lib.hid (fun W => valbytes_any (3, ⟨#[]⟩, -3) (by simp [ByteArray.size]) W); have hE : vE (3, ⟨#[]⟩, -3) = 0 := by decide
  rw [vby_m3, hE] at H1; have H2 := Lib.hid (fun W => print_u3 W); have H3 := Lib.hid (fun W => valread_any (some ⟨W.heap.size, 0, none⟩) 5 [21, 0, 0, 0, 0] (by decide) (by decide) (by decide) (by decide) _ (Rd.new W [.int .u8 21, .int .u8 0, .int .u8 0, .int .u8 0, .int .u8 0] 5)); obtain ⟨R, hR⟩ : ∃ R, vrd [21, 0, 0, 0, 0] = R := ⟨_, rfl⟩; have hR2 : R.2 = 14 := by rw [← hR]; exact vrd_21
  rw [hR] at H3; obtain ⟨⟨rk, rt, rn⟩, re⟩ := R; dsimp only at hR2; subst hR2; dsimp only [vVal] at *; clear hR hE
  go_enter Tryd.func8, Tryd.ntmps8
  go_wp2_with fail
  refine (H1.out _).mono ?_; rintro e w1 ⟨v, rfl, hown, hb1⟩; obtain ⟨a, c, rfl, -, -, -, hr1, -⟩ := hown.form; clear H1 hown
  go_wp2_with fail
  refine (H2.out _).mono ?_; rintro e w2 ⟨rfl, hb2⟩; have hr2 := hr1.keep hb2; have hbw2 := hb1.trans (hb2.mono hb1.size); clear H2 hr1 hb1 hb2
  go_wp2_with fail
  refine (H3.out _).mono ?_; rintro e w3 ⟨rfl, hb3⟩; have hb4 := (Below.new w2 (.cells #[.int .u8 21, .int .u8 0, .int .u8 0, .int .u8 0, .int .u8 0] 5)).trans (hb3.mono (by simp)); have hb5 := hb4.trans ((Below.new w3 (.cells #[.int .i64 rk, .string rt, .int .i64 rn] 23)).mono hb4.size); have hr5 := (hr2.keep hb5).keep (Below.new _ (.cells #[.int .u8 48, .int .u8 5] 5)); have hbw5 := hbw2.trans (hb5.mono hbw2.size); have hbw6 := hbw5.trans ((Below.new _ (.cells #[.int .u8 48, .int .u8 5] 5)).mono hbw5.size); clear H3 hr2 hbw2 hb3 hb4; have hsm := rsame_any a (some ⟨w3.heap.size + 1, 0, none⟩) c 2 [48, 5] [48, 5] (by decide) (by decide) _ hr5 (Rd.lit _ _ [.int .u8 48, .int .u8 5] 5 (by simp)); have HSM := Lib.hid hsm; clear hsm hr5 hb5
  go_wp2_with fail
  refine HSM.out.mono ?_; rintro e w4 ⟨rfl, n, rfl⟩; have hbw7 := below_drewN hbw6 n; go_wp2; go_ret; exact ⟨rfl, hbw7⟩
end Go.Proofs.YtinogphhbbaobaaDoor
