/-
  order.Uniq's way of comparing; order.merged, of lists of which the second follows the first.
-/
import Derived.Test.YtmmhkageehlknaaLib
import Derived.Test.YtmmhkageehlknaaReg
import Derived.Test.YtmmhkageehlknaaRegApp
import Derived.Test.YtmmhkageehlknaaProg
set_option linter.unusedVariables false
set_option linter.unusedSimpArgs false
set_option maxRecDepth 100000
namespace Go
open Go.RowKit
def ins (l : List Int) : List Value := l.map (Value.int .i64)
theorem ins_len (l : List Int) : (ins l).length = l.length * 1 := by simp [ins]
theorem ins_one (l : List Int) : ∀ u ∈ ins l, u.oneCell' = true := ints_one .i64 l
end Go
namespace Go.Proofs.Ytmmhkageehlknaa
open Go.RowKit
theorem Try.infoIz : (Try.prog.info? 3).map (fun i => (i.zero, i.size, i.bytes)) = some (some (.int .i64 0), 1, 8) := by kernel_rfl

set_option maxHeartbeats 800000 in
theorem uless_any (x y : Int) (w : World) : Calls Try.prog 38 #[.int .i64 x, .int .i64 y] w fun e w' => e = .returned (.bool (decide (x < y))) ∧ w' = w := by
  go_enter Try.func38, Try.ntmps38
  by_cases h : x < y
  · rw [decide_eq_true h]
    go_wp2
    go_ret
    exact ⟨rfl, rfl⟩
  · rw [decide_eq_false h]
    go_wp2
    go_ret
    exact ⟨rfl, rfl⟩

set_option maxHeartbeats 6400000 in
theorem merged_any (pa pb : Option Addr) (ca cb : Nat) (A B : List Int) (hAB : ∀ x ∈ A, ∀ y ∈ B, x ≤ y) (hla : A.length ≤ ca) (hlb : B.length ≤ cb) (hcl : A.length + B.length ≤ 1000000) (hna : pa = none → ca = 0) (hnb : pb = none → cb = 0) (w : World) (hra : Rd w pa (ins A)) (hrb : Rd w pb (ins B)) :
    Calls Try.prog 55 #[.slice pa A.length ca, .slice pb B.length cb, .func (.func 38) #[] #[]] w fun e w' => ∃ v, e = .returned v ∧ w'.ownsRow w.heap.size 3 1 v (A.length + B.length) (ins (A ++ B)) ∧ Below w.heap.size w w' := by
  have HAB := Lib.hid hAB
  obtain ⟨mB, hmB⟩ : ∃ mB, B.length = mB := ⟨_, rfl⟩
  rw [hmB] at hlb hcl ⊢
  have HMB := Lib.hid hmB
  clear hmB
  have HUL := Lib.hid uless_any
  clear hAB
  go_enter Try.func55, Try.ntmps55
  go_wp2
  refine wp_goto_pre 0 (fun m a' w' => ∃ (pa : Option Addr) (ca : Nat) (A1 A2 : List Int) (n : Nat) (o u3 u4 u5 u6 u8 u9 u10 u11 u12 u13 u14 u15 u16 u17 u18 u19 u20 u21 u22 u23 u24 u25 u26 u27 u28 u29 u30 u31 u32 u33 u34 u35 u36 u37 u38 u39 u40 u41 u42 u43 u44 u45 u46 u47 u48 u49 u50 : Value),
    (n = m ∧ Hid (A2.length = m) ∧ Hid (A = A1 ++ A2) ∧ A1.length + m = A.length ∧ m ≤ ca ∧ m ≤ 1000000 ∧ (pa = none → ca = 0) ∧ Rd w pa (ins A2) ∧ w'.ownsRow w.heap.size 3 1 o A1.length (ins A1) ∧ Below w.heap.size w w') ∧
    a' = { tmps := #[.slice pa m ca, .slice pb mB cb, .func (.func 38) #[] #[], u3, u4, u5, u6, o, u8, u9, u10, u11, u12, u13, u14, u15, u16, u17, u18, u19, u20, u21, u22, u23, u24, u25, u26, u27, u28, u29, u30, u31, u32, u33, u34, u35, u36, u37, u38, u39, u40, u41, u42, u43, u44, u45, u46, u47, u48, u49, u50], defers := [] }) rfl ?_ ?_
  · rintro _ a' w' ⟨pa, ca, A1, A2, m, o, u3, u4, u5, u6, u8, u9, u10, u11, u12, u13, u14, u15, u16, u17, u18, u19, u20, u21, u22, u23, u24, u25, u26, u27, u28, u29, u30, u31, u32, u33, u34, u35, u36, u37, u38, u39, u40, u41, u42, u43, u44, u45, u46, u47, u48, u49, u50, ⟨rfl, HM, HA, hlen, hl2, hc6, hn2, hr2, ho, hbb⟩, rfl⟩ J hJ
    have HJ := Lib.hid hJ
    clear hJ hra
    by_cases hz1 : m = 0
    · subst hz1
      go_wp2_with (at_builtin; first
        | (refine wpList_app' w hbb rfl (.tmp 22) (.tmp 23) 26 rfl 3 (.int .i64 0) 1 8 Try.underlying26 Try.infoIz rfl (by decide) o A1.length (ins A1) rfl ho pa 0 ca (ins A2) rfl hn2 (hr2.keep hbb) (by rw [ins_len, HM.out]) (ins_one A2) (by omega) (by decide) ?_
           intro v3 w3 ho3 hg3 hb3)
        | (refine wpList_app' w hb3 rfl (.tmp 24) (.tmp 25) 26 rfl 3 (.int .i64 0) 1 8 Try.underlying26 Try.infoIz rfl (by decide) v3 (A1.length + 0) (ins A1 ++ ins A2) rfl ho3 pb mB cb (ins B) rfl hnb (hrb.keep hb3) (by rw [ins_len, HMB.out]) (ins_one B) (by omega) (by decide) ?_
           intro v4 w4 ho4 hg4 hb4))
      try rw [Exit.jump_ret]
      refine bodyPost_ret (v := v4) (by simp [results, Try.results55, go_sem]) rfl ⟨v4, rfl, ?_, hb4⟩
      have e9 : ins (A ++ B) = ins A1 ++ ins A2 ++ ins B := by rw [HA.out]; simp [ins]
      rw [e9, ← hlen]; exact ho4
    have e1 : ((m : Int) == 0) = false := by rw [beq_eq_false_iff_ne]; omega
    by_cases hz2 : mB = 0
    · subst hz2
      go_wp2_with (at_builtin; first
        | (refine wpList_app' w hbb rfl (.tmp 22) (.tmp 23) 26 rfl 3 (.int .i64 0) 1 8 Try.underlying26 Try.infoIz rfl (by decide) o A1.length (ins A1) rfl ho pa m ca (ins A2) rfl hn2 (hr2.keep hbb) (by rw [ins_len, HM.out]) (ins_one A2) (by omega) (by decide) ?_
           intro v3 w3 ho3 hg3 hb3)
        | (refine wpList_app' w hb3 rfl (.tmp 24) (.tmp 25) 26 rfl 3 (.int .i64 0) 1 8 Try.underlying26 Try.infoIz rfl (by decide) v3 (A1.length + m) (ins A1 ++ ins A2) rfl ho3 pb 0 cb (ins B) rfl hnb (hrb.keep hb3) (by rw [ins_len, HMB.out]) (ins_one B) (by omega) (by decide) ?_
           intro v4 w4 ho4 hg4 hb4))
      try rw [Exit.jump_ret]
      refine bodyPost_ret (v := v4) (by simp [results, Try.results55, go_sem]) rfl ⟨v4, rfl, ?_, hb4⟩
      have e9 : ins (A ++ B) = ins A1 ++ ins A2 ++ ins B := by rw [HA.out]; simp [ins]
      rw [e9, ← hlen]; exact ho4
    have e2 : ((mB : Int) == 0) = false := by rw [beq_eq_false_iff_ne]; omega
    obtain ⟨x0, A3, rfl⟩ : ∃ x l, A2 = x :: l := by
      cases A2 with
      | nil => exact absurd HM.out.symm hz1
      | cons x l => exact ⟨x, l, rfl⟩
    obtain ⟨y0, B3, hB3⟩ : ∃ x l, B = x :: l := by
      cases B with
      | nil => exact absurd HMB.out.symm hz2
      | cons x l => exact ⟨x, l, rfl⟩
    have HM3 : Hid (A3.length + 1 = m) := HM
    have hle : x0 ≤ y0 := HAB.out x0 (by rw [HA.out]; simp) y0 (by rw [hB3]; simp)
    have HR2 := Lib.hid hr2
    obtain ⟨b, off, rfl, hca, -⟩ := (hr2.keep hbb).at (i := 0) (v := .int .i64 x0) rfl
    obtain ⟨b2, off2, rfl, hcb, -⟩ := (hrb.keep hbb).at (i := 0) (v := .int .i64 y0) (by rw [hB3]; rfl)
    have hca : w'.cell? ⟨b, off, none⟩ = some (.int .i64 x0) := hca
    have hcb : w'.cell? ⟨b2, off2, none⟩ = some (.int .i64 y0) := hcb
    have hlt : decide (y0 < x0) = false := decide_eq_false (by omega)
    have hU := Lib.hid (uless_any y0 x0)
    rw [hlt] at hU
    have hlen1 : (1 : Int) ≤ (m : Int) := by omega
    have hm0 : 0 < m := by omega
    have hlen0 : (0 : Int) < (m : Int) := by omega
    have hbl0 : (0 : Int) < (mB : Int) := by omega
    have hca1 : (1 : Int) ≤ (ca : Int) := by omega
    go_wp2
    go_quiet (refine Calls.quiet_of_same (hU.out _))
    have hoq : (w'.drewN nq).ownsRow w.heap.size 3 1 o A1.length (ins A1) := ho
    have hbq := below_drewN hbb nq
    go_wp2
    by_cases hc1 : ca = 1
    · subst hc1
      refine wp_region_lit_txt [0, 1, 2, 3, 6, 7, 8, 9] (fun W => Below w.heap.size w W) (by kernel_rfl) (by kernel_rfl) (by kernel_rfl) hbq.drew ?_
      have hoq : (w'.drewN nq).drew.ownsRow w.heap.size 3 1 o A1.length (ins A1) := hoq
      have hbq := hbq.drew
      generalize (w'.drewN nq).drew = wa at *
      (refine txt_light ?_ rfl rfl ?_ ?_; rotate_left; · (intro w' hS; (try dsimp only at hS); go_simp; with_reducible rfl)); try simp only [Act.put, List.setIfInBounds_toArray, List.set_cons_zero, List.set_cons_succ]
      (refine txt_light ?_ rfl rfl ?_ ?_; rotate_left; · (intro w' hS; (try dsimp only at hS); go_simp; with_reducible rfl)); try simp only [Act.put, List.setIfInBounds_toArray, List.set_cons_zero, List.set_cons_succ]
      (refine txt_light ?_ rfl rfl ?_ ?_; rotate_left; · (intro w' hS; (try dsimp only at hS); go_simp; with_reducible rfl)); try simp only [Act.put, List.setIfInBounds_toArray, List.set_cons_zero, List.set_cons_succ]
      refine txt_light (.int .i64 x0) rfl rfl ?_ ?_
      · intro w' hS
        obtain ⟨b', o', he, c0, _⟩ := (HR2.out.keep hS).at (i := 0) (v := .int .i64 x0) rfl
        cases he
        have c0 : w'.cell? ⟨b, off, none⟩ = some (.int .i64 x0) := c0
        go_simp
      try simp only [Act.put, List.setIfInBounds_toArray, List.set_cons_zero, List.set_cons_succ]
      refine txt_heavy rfl rfl (fun K hK => ?_)
      go_step
      have hbd := hbq.alloc hbq.size (.cells #[.int .i64 x0] 3)
      have hod := hoq.alloc (.cells #[.int .i64 x0] 3)
      have hrl := Rd.lit wa wa.heap.size [.int .i64 x0] 3 rfl
      refine hK.out _ _ hbd ?_
      clear hK K
      try simp only [Act.put, List.setIfInBounds_toArray, List.set_cons_zero, List.set_cons_succ]
      refine txt_heavy rfl rfl (fun K hK => ?_)
      refine wp_app (.tmp 43) (.tmp 47) 26 rfl w.heap.size 3 (.int .i64 0) 1 8 Try.underlying26 Try.infoIz rfl (by decide) o A1.length (ins A1) rfl hod (some ⟨wa.heap.size, 0, none⟩) 1 1 [.int .i64 x0] rfl (fun h => by cases h) hrl rfl (by simp [Value.oneCell']) (by omega) (by decide) hbd.size ?_
      intro v5 w5 ho5 hg5
      have hb5 := hbd.grown hg5 hbd.size (fun x hx => (hod.lt x hx).1)
      refine hK.out _ _ hb5 ?_
      clear hK K
      try simp only [Act.put, List.setIfInBounds_toArray, List.set_cons_zero, List.set_cons_succ]
      (refine txt_light ?_ rfl rfl ?_ ?_; rotate_left; · (intro w' hS; (try dsimp only at hS); go_simp; with_reducible rfl)); try simp only [Act.put, List.setIfInBounds_toArray, List.set_cons_zero, List.set_cons_succ]
      (refine txt_light ?_ rfl rfl ?_ ?_; rotate_left; · (intro w' hS; (try dsimp only at hS); go_simp; with_reducible rfl)); try simp only [Act.put, List.setIfInBounds_toArray, List.set_cons_zero, List.set_cons_succ]
      (refine txt_light ?_ rfl rfl ?_ ?_; rotate_left; · (intro w' hS; (try dsimp only at hS); go_simp; with_reducible rfl)); try simp only [Act.put, List.setIfInBounds_toArray, List.set_cons_zero, List.set_cons_succ]
      (refine txt_light ?_ rfl rfl ?_ ?_; rotate_left; · (intro w' hS; (try dsimp only at hS); go_simp; with_reducible rfl)); try simp only [Act.put, List.setIfInBounds_toArray, List.set_cons_zero, List.set_cons_succ]
      refine txt_nil ?_
      go_wp2
      go_step3
      show (0 : Nat) = 0 ∧ J _ _
      refine ⟨rfl, HJ.out 0 _ _ (by omega) ⟨some ⟨b, off, none⟩, 0, A1 ++ [x0], A3, 0, v5, _, _, _, _, _, _, _, _, _, _, _, _, _, _, _, _, _, _, _, _, _, _, _, _, _, _, _, _, _, _, _, _, _, _, _, _, _, _, _, _, _, _, _, _, _, _, _, ⟨rfl, Lib.hid (by have := HM3.out; omega), Lib.hid (by rw [HA.out, List.append_assoc]; rfl), (by have := HM3.out; simp only [List.length_append, List.length_cons, List.length_nil]; omega), (by have := HM3.out; omega), by omega, (fun h => by cases h), (by have h0 : A3 = [] := List.length_eq_zero_iff.1 (by have := HM3.out; omega); rw [h0]; exact .inl rfl), ?_, hb5⟩, rfl⟩⟩
      have e1 : ins (A1 ++ [x0]) = ins A1 ++ [.int .i64 x0] := by simp [ins]
      rw [e1, List.length_append]; exact ho5
    · have hc2 : ¬ (ca : Int) = 1 := by omega
      refine wp_region_lit_txt [0, 1, 2, 3, 6, 7, 8, 9] (fun W => Below w.heap.size w W) (by kernel_rfl) (by kernel_rfl) (by kernel_rfl) hbq.drew ?_
      have hoq : (w'.drewN nq).drew.ownsRow w.heap.size 3 1 o A1.length (ins A1) := hoq
      have hbq := hbq.drew
      generalize (w'.drewN nq).drew = wa at *
      (refine txt_light ?_ rfl rfl ?_ ?_; rotate_left; · (intro w' hS; (try dsimp only at hS); go_simp; with_reducible rfl)); try simp only [Act.put, List.setIfInBounds_toArray, List.set_cons_zero, List.set_cons_succ]
      (refine txt_light ?_ rfl rfl ?_ ?_; rotate_left; · (intro w' hS; (try dsimp only at hS); go_simp; with_reducible rfl)); try simp only [Act.put, List.setIfInBounds_toArray, List.set_cons_zero, List.set_cons_succ]
      (refine txt_light ?_ rfl rfl ?_ ?_; rotate_left; · (intro w' hS; (try dsimp only at hS); go_simp; with_reducible rfl)); try simp only [Act.put, List.setIfInBounds_toArray, List.set_cons_zero, List.set_cons_succ]
      refine txt_light (.int .i64 x0) rfl rfl ?_ ?_
      · intro w' hS
        obtain ⟨b', o', he, c0, _⟩ := (HR2.out.keep hS).at (i := 0) (v := .int .i64 x0) rfl
        cases he
        have c0 : w'.cell? ⟨b, off, none⟩ = some (.int .i64 x0) := c0
        go_simp
      try simp only [Act.put, List.setIfInBounds_toArray, List.set_cons_zero, List.set_cons_succ]
      refine txt_heavy rfl rfl (fun K hK => ?_)
      go_step
      have hbd := hbq.alloc hbq.size (.cells #[.int .i64 x0] 3)
      have hod := hoq.alloc (.cells #[.int .i64 x0] 3)
      have hrl := Rd.lit wa wa.heap.size [.int .i64 x0] 3 rfl
      refine hK.out _ _ hbd ?_
      clear hK K
      try simp only [Act.put, List.setIfInBounds_toArray, List.set_cons_zero, List.set_cons_succ]
      refine txt_heavy rfl rfl (fun K hK => ?_)
      refine wp_app (.tmp 43) (.tmp 47) 26 rfl w.heap.size 3 (.int .i64 0) 1 8 Try.underlying26 Try.infoIz rfl (by decide) o A1.length (ins A1) rfl hod (some ⟨wa.heap.size, 0, none⟩) 1 1 [.int .i64 x0] rfl (fun h => by cases h) hrl rfl (by simp [Value.oneCell']) (by omega) (by decide) hbd.size ?_
      intro v5 w5 ho5 hg5
      have hb5 := hbd.grown hg5 hbd.size (fun x hx => (hod.lt x hx).1)
      refine hK.out _ _ hb5 ?_
      clear hK K
      try simp only [Act.put, List.setIfInBounds_toArray, List.set_cons_zero, List.set_cons_succ]
      (refine txt_light ?_ rfl rfl ?_ ?_; rotate_left; · (intro w' hS; (try dsimp only at hS); go_simp; with_reducible rfl)); try simp only [Act.put, List.setIfInBounds_toArray, List.set_cons_zero, List.set_cons_succ]
      (refine txt_light ?_ rfl rfl ?_ ?_; rotate_left; · (intro w' hS; (try dsimp only at hS); go_simp; with_reducible rfl)); try simp only [Act.put, List.setIfInBounds_toArray, List.set_cons_zero, List.set_cons_succ]
      (refine txt_light ?_ rfl rfl ?_ ?_; rotate_left; · (intro w' hS; (try dsimp only at hS); go_simp; with_reducible rfl)); try simp only [Act.put, List.setIfInBounds_toArray, List.set_cons_zero, List.set_cons_succ]
      (refine txt_light ?_ rfl rfl ?_ ?_; rotate_left; · (intro w' hS; (try dsimp only at hS); go_simp; with_reducible rfl)); try simp only [Act.put, List.setIfInBounds_toArray, List.set_cons_zero, List.set_cons_succ]
      refine txt_nil ?_
      go_wp2
      go_step3
      show (0 : Nat) = 0 ∧ J _ _
      refine ⟨rfl, HJ.out (m - 1) _ _ (by omega) ⟨(some ⟨b, off + 1, none⟩), ca - 1, A1 ++ [x0], A3, m - 1, v5, _, _, _, _, _, _, _, _, _, _, _, _, _, _, _, _, _, _, _, _, _, _, _, _, _, _, _, _, _, _, _, _, _, _, _, _, _, _, _, _, _, _, _, _, _, _, _, ⟨rfl, Lib.hid (by have := HM3.out; omega), Lib.hid (by rw [HA.out, List.append_assoc]; rfl), (by have := HM3.out; simp only [List.length_append, List.length_cons, List.length_nil]; omega), (by have := HM3.out; omega), by omega, (fun h => by cases h), HR2.out.drop 1, ?_, hb5⟩, rfl⟩⟩
      have e1 : ins (A1 ++ [x0]) = ins A1 ++ [.int .i64 x0] := by simp [ins]
      rw [e1, List.length_append]; exact ho5
  · intro J HL
    obtain ⟨iu, hi, hzz⟩ := Option.map_eq_some_iff.1 Try.infoIz
    simp only [Prod.mk.injEq] at hzz
    obtain ⟨hz0, hz1, hz2⟩ := hzz
    go_wp2_with (at_make; go_must (refine wpList_make_own _ rfl _ (.tmp 12) 26 rfl w.heap.size 3 iu (.int .i64 0) 1 Try.underlying26 hi hz0 hz1 .i64 .i64 ((A.length : Int) + (mB : Int)) (A.length + mB) rfl rfl (by omega) (by rw [hz2]; omega) (by unfold maxLen; omega) (Nat.le_refl _) ?_); intro w2 hown2 hgrow2; have hB2 : Below w.heap.size w w2 := (Below.refl _ _).grown hgrow2 (Nat.le_refl _) (fun x hx => by cases hx))
    go_step3
    go_step
    go_step
    exact HL.out A.length _ _ ⟨pa, ca, [], A, A.length, .slice (some ⟨w.heap.size, 0, none⟩) 0 (A.length + mB), _, _, _, _, _, _, _, _, _, _, _, _, _, _, _, _, _, _, _, _, _, _, _, _, _, _, _, _, _, _, _, _, _, _, _, _, _, _, _, _, _, _, _, _, _, _, _, ⟨rfl, Lib.hid rfl, Lib.hid rfl, by simp, hla, by omega, hna, hra, hown2, hB2⟩, rfl⟩
end Go.Proofs.Ytmmhkageehlknaa
