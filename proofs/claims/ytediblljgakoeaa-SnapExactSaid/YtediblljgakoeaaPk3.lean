/-
  order.Uniq's way of comparing; order.merged, of lists of which the second follows the first. order.sorted, of numbers that are in order already. order.Uniq, of numbers that are in order already. Opening a law's arguments: a slice whose elements have several cells (structs), or are slices themselves, as 'Rd'. Points: how they lie, and what the program says of them.
-/
import Derived.Test.YtediblljgakoeaaPk1
import Derived.Test.YtediblljgakoeaaPk2
import Derived.Test.YtediblljgakoeaaProg
import Derived.Test.YtediblljgakoeaaShelf
import Derived.Lib.SlBuf
import Derived.Deep.Slices
/- order.Uniq's way of comparing; order.merged, of lists of which the second follows the first. -/
set_option linter.unusedVariables false
set_option linter.unusedSimpArgs false
set_option maxRecDepth 100000
namespace Go.Proofs.Ytediblljgakoeaa
open Go.RowKit
theorem Try.infoIz : (Try.prog.info? 3).map (fun i => (i.zero, i.size, i.bytes)) = some (some (.int .i64 0), 1, 8) := by kernel_rfl

set_option maxHeartbeats 800000 in
theorem uless_any (x y : Int) (w : World) : Calls Try.prog 35 #[.int .i64 x, .int .i64 y] w fun e w' => e = .returned (.bool (decide (x < y))) ∧ w' = w := by
  go_enter Try.func35, Try.ntmps35
  by_cases h : x < y
  · rw [decide_eq_true h]
    go_wp2
    go_ret
    exact ⟨rfl, rfl⟩
  · rw [decide_eq_false h]
    go_wp2
    go_ret
    exact ⟨rfl, rfl⟩

set_option maxHeartbeats 6400000 in
theorem merged_any (pa pb : Option Addr) (ca cb : Nat) (A B : List Int) (hAB : ∀ x ∈ A, ∀ y ∈ B, x ≤ y) (hla : A.length ≤ ca) (hlb : B.length ≤ cb) (hcl : A.length + B.length ≤ 1000000) (hna : pa = none → ca = 0) (hnb : pb = none → cb = 0) (w : World) (hra : Rd w pa (ins A)) (hrb : Rd w pb (ins B)) :
    Calls Try.prog 48 #[.slice pa A.length ca, .slice pb B.length cb, .func (.func 35) #[] #[]] w fun e w' => ∃ v, e = .returned v ∧ w'.ownsRow w.heap.size 3 1 v (A.length + B.length) (ins (A ++ B)) ∧ Below w.heap.size w w' := by
  have HAB := Lib.hid hAB
  obtain ⟨mB, hmB⟩ : ∃ mB, B.length = mB := ⟨_, rfl⟩
  rw [hmB] at hlb hcl ⊢
  have HMB := Lib.hid hmB
  clear hmB
  have HUL := Lib.hid uless_any
  clear hAB
  go_enter Try.func48, Try.ntmps48
  go_wp2
  refine wp_goto_pre 0 (fun m a' w' => ∃ (pa : Option Addr) (ca : Nat) (A1 A2 : List Int) (n : Nat) (o u3 u4 u5 u6 u8 u9 u10 u11 u12 u13 u14 u15 u16 u17 u18 u19 u20 u21 u22 u23 u24 u25 u26 u27 u28 u29 u30 u31 u32 u33 u34 u35 u36 u37 u38 u39 u40 u41 u42 u43 u44 u45 u46 u47 u48 u49 u50 : Value),
    (n = m ∧ Hid (A2.length = m) ∧ Hid (A = A1 ++ A2) ∧ A1.length + m = A.length ∧ m ≤ ca ∧ m ≤ 1000000 ∧ (pa = none → ca = 0) ∧ Rd w pa (ins A2) ∧ w'.ownsRow w.heap.size 3 1 o A1.length (ins A1) ∧ Below w.heap.size w w') ∧
    a' = { tmps := #[.slice pa m ca, .slice pb mB cb, .func (.func 35) #[] #[], u3, u4, u5, u6, o, u8, u9, u10, u11, u12, u13, u14, u15, u16, u17, u18, u19, u20, u21, u22, u23, u24, u25, u26, u27, u28, u29, u30, u31, u32, u33, u34, u35, u36, u37, u38, u39, u40, u41, u42, u43, u44, u45, u46, u47, u48, u49, u50], defers := [] }) rfl ?_ ?_
  · rintro _ a' w' ⟨pa, ca, A1, A2, m, o, u3, u4, u5, u6, u8, u9, u10, u11, u12, u13, u14, u15, u16, u17, u18, u19, u20, u21, u22, u23, u24, u25, u26, u27, u28, u29, u30, u31, u32, u33, u34, u35, u36, u37, u38, u39, u40, u41, u42, u43, u44, u45, u46, u47, u48, u49, u50, ⟨rfl, HM, HA, hlen, hl2, hc6, hn2, hr2, ho, hbb⟩, rfl⟩ J hJ
    have HJ := Lib.hid hJ
    clear hJ hra
    by_cases hz1 : m = 0
    · subst hz1
      go_wp2_with (at_builtin; first
        | (refine wpList_app' w hbb rfl (.tmp 22) (.tmp 23) 43 rfl 3 (.int .i64 0) 1 8 Try.underlying43 Try.infoIz rfl (by decide) o A1.length (ins A1) rfl ho pa 0 ca (ins A2) rfl hn2 (hr2.keep hbb) (by rw [ins_len, HM.out]) (ins_one A2) (by omega) (by decide) ?_
           intro v3 w3 ho3 hg3 hb3)
        | (refine wpList_app' w hb3 rfl (.tmp 24) (.tmp 25) 43 rfl 3 (.int .i64 0) 1 8 Try.underlying43 Try.infoIz rfl (by decide) v3 (A1.length + 0) (ins A1 ++ ins A2) rfl ho3 pb mB cb (ins B) rfl hnb (hrb.keep hb3) (by rw [ins_len, HMB.out]) (ins_one B) (by omega) (by decide) ?_
           intro v4 w4 ho4 hg4 hb4))
      try rw [Exit.jump_ret]
      refine bodyPost_ret (v := v4) (by simp [results, Try.results48, go_sem]) rfl ⟨v4, rfl, ?_, hb4⟩
      have e9 : ins (A ++ B) = ins A1 ++ ins A2 ++ ins B := by rw [HA.out]; simp [ins]
      rw [e9, ← hlen]; exact ho4
    have e1 : ((m : Int) == 0) = false := by rw [beq_eq_false_iff_ne]; omega
    by_cases hz2 : mB = 0
    · subst hz2
      go_wp2_with (at_builtin; first
        | (refine wpList_app' w hbb rfl (.tmp 22) (.tmp 23) 43 rfl 3 (.int .i64 0) 1 8 Try.underlying43 Try.infoIz rfl (by decide) o A1.length (ins A1) rfl ho pa m ca (ins A2) rfl hn2 (hr2.keep hbb) (by rw [ins_len, HM.out]) (ins_one A2) (by omega) (by decide) ?_
           intro v3 w3 ho3 hg3 hb3)
        | (refine wpList_app' w hb3 rfl (.tmp 24) (.tmp 25) 43 rfl 3 (.int .i64 0) 1 8 Try.underlying43 Try.infoIz rfl (by decide) v3 (A1.length + m) (ins A1 ++ ins A2) rfl ho3 pb 0 cb (ins B) rfl hnb (hrb.keep hb3) (by rw [ins_len, HMB.out]) (ins_one B) (by omega) (by decide) ?_
           intro v4 w4 ho4 hg4 hb4))
      try rw [Exit.jump_ret]
      refine bodyPost_ret (v := v4) (by simp [results, Try.results48, go_sem]) rfl ⟨v4, rfl, ?_, hb4⟩
      have e9 : ins (A ++ B) = ins A1 ++ ins A2 ++ ins B := by rw [HA.out]; simp [ins]
      rw [e9, ← hlen]; exact ho4
    have e2 : ((mB : Int) == 0) = false := by rw [beq_eq_false_iff_ne]; omega
    obtain ⟨x0, A3, rfl⟩ : ∃ x l, A2 = x :: l := by
      cases A2 with
      | nil => exact absurd HM.out.symm hz1
      | cons x l => exact ⟨x, l, rfl⟩
    obtain ⟨y0, B3, hB3⟩ : ∃ x l, B = x :: l := by
      cases B with
      | nil => exact absurd HMB.out.symm hz2
      | cons x l => exact ⟨x, l, rfl⟩
    have HM3 : Hid (A3.length + 1 = m) := HM
    have hle : x0 ≤ y0 := HAB.out x0 (by rw [HA.out]; simp) y0 (by rw [hB3]; simp)
    have HR2 := Lib.hid hr2
    obtain ⟨b, off, rfl, hca, -⟩ := (hr2.keep hbb).at (i := 0) (v := .int .i64 x0) rfl
    obtain ⟨b2, off2, rfl, hcb, -⟩ := (hrb.keep hbb).at (i := 0) (v := .int .i64 y0) (by rw [hB3]; rfl)
    have hca : w'.cell? ⟨b, off, none⟩ = some (.int .i64 x0) := hca
    have hcb : w'.cell? ⟨b2, off2, none⟩ = some (.int .i64 y0) := hcb
    have hlt : decide (y0 < x0) = false := decide_eq_false (by omega)
    have hU := Lib.hid (uless_any y0 x0)
    rw [hlt] at hU
    have hlen1 : (1 : Int) ≤ (m : Int) := by omega
    have hm0 : 0 < m := by omega
    have hlen0 : (0 : Int) < (m : Int) := by omega
    have hbl0 : (0 : Int) < (mB : Int) := by omega
    have hca1 : (1 : Int) ≤ (ca : Int) := by omega
    go_wp2
    go_quiet (refine Calls.quiet_of_same (hU.out _))
    have hoq : (w'.drewN nq).ownsRow w.heap.size 3 1 o A1.length (ins A1) := ho
    have hbq := below_drewN hbb nq
    go_wp2
    by_cases hc1 : ca = 1
    · subst hc1
      refine wp_region_lit_txt [0, 1, 2, 3, 6, 7, 8, 9] (fun W => Below w.heap.size w W) (by kernel_rfl) (by kernel_rfl) (by kernel_rfl) hbq.drew ?_
      have hoq : (w'.drewN nq).drew.ownsRow w.heap.size 3 1 o A1.length (ins A1) := hoq
      have hbq := hbq.drew
      generalize (w'.drewN nq).drew = wa at *
      (refine txt_light ?_ rfl rfl ?_ ?_; rotate_left; · (intro w' hS; (try dsimp only at hS); go_simp; with_reducible rfl)); try simp only [Act.put, List.setIfInBounds_toArray, List.set_cons_zero, List.set_cons_succ]
      (refine txt_light ?_ rfl rfl ?_ ?_; rotate_left; · (intro w' hS; (try dsimp only at hS); go_simp; with_reducible rfl)); try simp only [Act.put, List.setIfInBounds_toArray, List.set_cons_zero, List.set_cons_succ]
      (refine txt_light ?_ rfl rfl ?_ ?_; rotate_left; · (intro w' hS; (try dsimp only at hS); go_simp; with_reducible rfl)); try simp only [Act.put, List.setIfInBounds_toArray, List.set_cons_zero, List.set_cons_succ]
      refine txt_light (.int .i64 x0) rfl rfl ?_ ?_
      · intro w' hS
        obtain ⟨b', o', he, c0, _⟩ := (HR2.out.keep hS).at (i := 0) (v := .int .i64 x0) rfl
        cases he
        have c0 : w'.cell? ⟨b, off, none⟩ = some (.int .i64 x0) := c0
        go_simp
      try simp only [Act.put, List.setIfInBounds_toArray, List.set_cons_zero, List.set_cons_succ]
      refine txt_heavy rfl rfl (fun K hK => ?_)
      go_step
      have hbd := hbq.alloc hbq.size (.cells #[.int .i64 x0] 3)
      have hod := hoq.alloc (.cells #[.int .i64 x0] 3)
      have hrl := Rd.lit wa wa.heap.size [.int .i64 x0] 3 rfl
      refine hK.out _ _ hbd ?_
      clear hK K
      try simp only [Act.put, List.setIfInBounds_toArray, List.set_cons_zero, List.set_cons_succ]
      refine txt_heavy rfl rfl (fun K hK => ?_)
      refine wp_app (.tmp 43) (.tmp 47) 43 rfl w.heap.size 3 (.int .i64 0) 1 8 Try.underlying43 Try.infoIz rfl (by decide) o A1.length (ins A1) rfl hod (some ⟨wa.heap.size, 0, none⟩) 1 1 [.int .i64 x0] rfl (fun h => by cases h) hrl rfl (by simp [Value.oneCell']) (by omega) (by decide) hbd.size ?_
      intro v5 w5 ho5 hg5
      have hb5 := hbd.grown hg5 hbd.size (fun x hx => (hod.lt x hx).1)
      refine hK.out _ _ hb5 ?_
      clear hK K
      try simp only [Act.put, List.setIfInBounds_toArray, List.set_cons_zero, List.set_cons_succ]
      (refine txt_light ?_ rfl rfl ?_ ?_; rotate_left; · (intro w' hS; (try dsimp only at hS); go_simp; with_reducible rfl)); try simp only [Act.put, List.setIfInBounds_toArray, List.set_cons_zero, List.set_cons_succ]
      (refine txt_light ?_ rfl rfl ?_ ?_; rotate_left; · (intro w' hS; (try dsimp only at hS); go_simp; with_reducible rfl)); try simp only [Act.put, List.setIfInBounds_toArray, List.set_cons_zero, List.set_cons_succ]
      (refine txt_light ?_ rfl rfl ?_ ?_; rotate_left; · (intro w' hS; (try dsimp only at hS); go_simp; with_reducible rfl)); try simp only [Act.put, List.setIfInBounds_toArray, List.set_cons_zero, List.set_cons_succ]
      (refine txt_light ?_ rfl rfl ?_ ?_; rotate_left; · (intro w' hS; (try dsimp only at hS); go_simp; with_reducible rfl)); try simp only [Act.put, List.setIfInBounds_toArray, List.set_cons_zero, List.set_cons_succ]
      refine txt_nil ?_
      go_wp2
      go_step3
      show (0 : Nat) = 0 ∧ J _ _
      refine ⟨rfl, HJ.out 0 _ _ (by omega) ⟨some ⟨b, off, none⟩, 0, A1 ++ [x0], A3, 0, v5, _, _, _, _, _, _, _, _, _, _, _, _, _, _, _, _, _, _, _, _, _, _, _, _, _, _, _, _, _, _, _, _, _, _, _, _, _, _, _, _, _, _, _, _, _, _, _, ⟨rfl, Lib.hid (by have := HM3.out; omega), Lib.hid (by rw [HA.out, List.append_assoc]; rfl), (by have := HM3.out; simp only [List.length_append, List.length_cons, List.length_nil]; omega), (by have := HM3.out; omega), by omega, (fun h => by cases h), (by have h0 : A3 = [] := List.length_eq_zero_iff.1 (by have := HM3.out; omega); rw [h0]; exact .inl rfl), ?_, hb5⟩, rfl⟩⟩
      have e1 : ins (A1 ++ [x0]) = ins A1 ++ [.int .i64 x0] := by simp [ins]
      rw [e1, List.length_append]; exact ho5
    · have hc2 : ¬ (ca : Int) = 1 := by omega
      refine wp_region_lit_txt [0, 1, 2, 3, 6, 7, 8, 9] (fun W => Below w.heap.size w W) (by kernel_rfl) (by kernel_rfl) (by kernel_rfl) hbq.drew ?_
      have hoq : (w'.drewN nq).drew.ownsRow w.heap.size 3 1 o A1.length (ins A1) := hoq
      have hbq := hbq.drew
      generalize (w'.drewN nq).drew = wa at *
      (refine txt_light ?_ rfl rfl ?_ ?_; rotate_left; · (intro w' hS; (try dsimp only at hS); go_simp; with_reducible rfl)); try simp only [Act.put, List.setIfInBounds_toArray, List.set_cons_zero, List.set_cons_succ]
      (refine txt_light ?_ rfl rfl ?_ ?_; rotate_left; · (intro w' hS; (try dsimp only at hS); go_simp; with_reducible rfl)); try simp only [Act.put, List.setIfInBounds_toArray, List.set_cons_zero, List.set_cons_succ]
      (refine txt_light ?_ rfl rfl ?_ ?_; rotate_left; · (intro w' hS; (try dsimp only at hS); go_simp; with_reducible rfl)); try simp only [Act.put, List.setIfInBounds_toArray, List.set_cons_zero, List.set_cons_succ]
      refine txt_light (.int .i64 x0) rfl rfl ?_ ?_
      · intro w' hS
        obtain ⟨b', o', he, c0, _⟩ := (HR2.out.keep hS).at (i := 0) (v := .int .i64 x0) rfl
        cases he
        have c0 : w'.cell? ⟨b, off, none⟩ = some (.int .i64 x0) := c0
        go_simp
      try simp only [Act.put, List.setIfInBounds_toArray, List.set_cons_zero, List.set_cons_succ]
      refine txt_heavy rfl rfl (fun K hK => ?_)
      go_step
      have hbd := hbq.alloc hbq.size (.cells #[.int .i64 x0] 3)
      have hod := hoq.alloc (.cells #[.int .i64 x0] 3)
      have hrl := Rd.lit wa wa.heap.size [.int .i64 x0] 3 rfl
      refine hK.out _ _ hbd ?_
      clear hK K
      try simp only [Act.put, List.setIfInBounds_toArray, List.set_cons_zero, List.set_cons_succ]
      refine txt_heavy rfl rfl (fun K hK => ?_)
      refine wp_app (.tmp 43) (.tmp 47) 43 rfl w.heap.size 3 (.int .i64 0) 1 8 Try.underlying43 Try.infoIz rfl (by decide) o A1.length (ins A1) rfl hod (some ⟨wa.heap.size, 0, none⟩) 1 1 [.int .i64 x0] rfl (fun h => by cases h) hrl rfl (by simp [Value.oneCell']) (by omega) (by decide) hbd.size ?_
      intro v5 w5 ho5 hg5
      have hb5 := hbd.grown hg5 hbd.size (fun x hx => (hod.lt x hx).1)
      refine hK.out _ _ hb5 ?_
      clear hK K
      try simp only [Act.put, List.setIfInBounds_toArray, List.set_cons_zero, List.set_cons_succ]
      (refine txt_light ?_ rfl rfl ?_ ?_; rotate_left; · (intro w' hS; (try dsimp only at hS); go_simp; with_reducible rfl)); try simp only [Act.put, List.setIfInBounds_toArray, List.set_cons_zero, List.set_cons_succ]
      (refine txt_light ?_ rfl rfl ?_ ?_; rotate_left; · (intro w' hS; (try dsimp only at hS); go_simp; with_reducible rfl)); try simp only [Act.put, List.setIfInBounds_toArray, List.set_cons_zero, List.set_cons_succ]
      (refine txt_light ?_ rfl rfl ?_ ?_; rotate_left; · (intro w' hS; (try dsimp only at hS); go_simp; with_reducible rfl)); try simp only [Act.put, List.setIfInBounds_toArray, List.set_cons_zero, List.set_cons_succ]
      (refine txt_light ?_ rfl rfl ?_ ?_; rotate_left; · (intro w' hS; (try dsimp only at hS); go_simp; with_reducible rfl)); try simp only [Act.put, List.setIfInBounds_toArray, List.set_cons_zero, List.set_cons_succ]
      refine txt_nil ?_
      go_wp2
      go_step3
      show (0 : Nat) = 0 ∧ J _ _
      refine ⟨rfl, HJ.out (m - 1) _ _ (by omega) ⟨(some ⟨b, off + 1, none⟩), ca - 1, A1 ++ [x0], A3, m - 1, v5, _, _, _, _, _, _, _, _, _, _, _, _, _, _, _, _, _, _, _, _, _, _, _, _, _, _, _, _, _, _, _, _, _, _, _, _, _, _, _, _, _, _, _, _, _, _, _, ⟨rfl, Lib.hid (by have := HM3.out; omega), Lib.hid (by rw [HA.out, List.append_assoc]; rfl), (by have := HM3.out; simp only [List.length_append, List.length_cons, List.length_nil]; omega), (by have := HM3.out; omega), by omega, (fun h => by cases h), HR2.out.drop 1, ?_, hb5⟩, rfl⟩⟩
      have e1 : ins (A1 ++ [x0]) = ins A1 ++ [.int .i64 x0] := by simp [ins]
      rw [e1, List.length_append]; exact ho5
  · intro J HL
    obtain ⟨iu, hi, hzz⟩ := Option.map_eq_some_iff.1 Try.infoIz
    simp only [Prod.mk.injEq] at hzz
    obtain ⟨hz0, hz1, hz2⟩ := hzz
    go_wp2_with (at_make; go_must (refine wpList_make_own _ rfl _ (.tmp 12) 43 rfl w.heap.size 3 iu (.int .i64 0) 1 Try.underlying43 hi hz0 hz1 .i64 .i64 ((A.length : Int) + (mB : Int)) (A.length + mB) rfl rfl (by omega) (by rw [hz2]; omega) (by unfold maxLen; omega) (Nat.le_refl _) ?_); intro w2 hown2 hgrow2; have hB2 : Below w.heap.size w w2 := (Below.refl _ _).grown hgrow2 (Nat.le_refl _) (fun x hx => by cases hx))
    go_step3
    go_step
    go_step
    exact HL.out A.length _ _ ⟨pa, ca, [], A, A.length, .slice (some ⟨w.heap.size, 0, none⟩) 0 (A.length + mB), _, _, _, _, _, _, _, _, _, _, _, _, _, _, _, _, _, _, _, _, _, _, _, _, _, _, _, _, _, _, _, _, _, _, _, _, _, _, _, _, _, _, _, _, _, _, _, ⟨rfl, Lib.hid rfl, Lib.hid rfl, by simp, hla, by omega, hna, hra, hown2, hB2⟩, rfl⟩
end Go.Proofs.Ytediblljgakoeaa
/- order.sorted, of numbers that are in order already. -/
set_option linter.unusedVariables false
set_option linter.unusedSimpArgs false
set_option maxRecDepth 100000
namespace Go
open Go.RowKit
theorem ins_take (l : List Int) (k : Nat) : (ins l).take k = ins (l.take k) := by simp [ins]
theorem ins_drop (l : List Int) (k : Nat) : (ins l).drop k = ins (l.drop k) := by simp [ins]
theorem pw_mid {l : List Int} (h : l.Pairwise (· ≤ ·)) (i j k : Nat) : ∀ x ∈ (l.drop i).take j, ∀ y ∈ (l.drop (i + j)).take k, x ≤ y := by
  intro x hx y hy
  have h1 : (l.drop i).Pairwise (· ≤ ·) := h.sublist (List.drop_sublist i l)
  rw [← List.take_append_drop j (l.drop i)] at h1
  rw [List.pairwise_append] at h1
  refine h1.2.2 x hx y ?_
  rw [List.drop_drop]
  exact List.mem_of_mem_take hy
theorem ins_get {l : List Int} {i : Nat} {v : Value} (h : (ins l)[i]? = some v) : i < l.length := by
  by_cases q : i < l.length
  · exact q
  · rw [List.getElem?_eq_none (by simp [ins]; omega)] at h; cases h
theorem splice_self (cur : List Value) (off : Nat) (cs : List Value) (h : ∀ i v, cs[i]? = some v → cur[off + i]? = some v) (hf : off + cs.length ≤ cur.length) : splice cur off cs = cur := by
  unfold splice
  apply List.ext_getElem?
  intro i
  by_cases h1 : i < off
  · rw [List.getElem?_append_left (by simp; omega), List.getElem?_take_of_lt h1]
  · by_cases h2 : i < off + cs.length
    · rw [List.getElem?_append_right (by simp; omega), List.getElem?_append_left (by simp; omega)]
      have e : i - (cur.take off).length = i - off := by rw [List.length_take]; omega
      rw [e]
      have hv : cs[i - off]? = some cs[i - off] := List.getElem?_eq_getElem (by omega)
      rw [hv, ← h (i - off) _ hv]
      congr 1; omega
    · rw [List.getElem?_append_right (by simp; omega), List.getElem?_append_right (by simp; omega), List.getElem?_drop]
      congr 1; simp; omega
end Go
namespace Go.Proofs.Ytediblljgakoeaa
open Go.RowKit

theorem cloneI_any (a : Option Addr) (c : Nat) (l : List Int) (hn : l.length ≤ 1000000) (w : World) (hr : Rd w a (ins l)) :
    Calls Try.prog 47 #[.slice a l.length c] w fun e w' => ∃ v, e = .returned v ∧ w'.ownsRow w.heap.size 3 1 v l.length (ins l) ∧ Below w.heap.size w w' := by
  cases a with
  | none =>
    refine (Try.slices_Clone_int_nil l.length c w).mono ?_
    rintro e w' ⟨rfl, rfl⟩
    have h0 : l = [] := by
      rcases hr with h | ⟨_, _, h, _⟩
      · simpa [ins] using h
      · cases h
    subst h0
    exact ⟨_, rfl, World.ownsRow_nil _ _ _ _, Below.refl _ _⟩
  | some ad =>
    by_cases h0 : l = []
    · subst h0
      refine (Try.slices_Clone_int_zero ad c w).mono ?_
      rintro e w' ⟨v, rfl, h, -, hb⟩
      exact ⟨v, rfl, h, hb⟩
    rcases hr with h | ⟨b, off, ha, hc⟩
    · exact absurd (by simpa [ins] using h) h0
    · cases ha
      refine (Try.slices_Clone_int b off l.length c l w (Nat.le_refl _) (by omega) ?_).mono ?_
      · intro j hj
        exact hc j _ (by simp [ins, List.getD_eq_getElem?_getD, hj])
      · rintro e w' ⟨v, rfl, h, -, hb⟩
        rw [List.take_length] at h
        exact ⟨v, rfl, h, hb⟩

set_option maxHeartbeats 6400000 in
theorem sorted_any (a : Option Addr) (c : Nat) (l : List Int) (hp : l.Pairwise (· ≤ ·)) (hn : l.length ≤ 1000) (w : World) (hr : Rd w a (ins l)) :
    Calls Try.prog 34 #[.slice a l.length c, .func (.func 35) #[] #[]] w fun e w' => ∃ v, e = .returned v ∧ w'.ownsRow w.heap.size 3 1 v l.length (ins l) ∧ Below w.heap.size w w' := by
  have HP := Lib.hid hp
  clear hp
  have hcl := cloneI_any a c l (by omega) w hr
  obtain ⟨n, hnl⟩ : ∃ n, l.length = n := ⟨_, rfl⟩
  have HN := Lib.hid hnl
  rw [hnl] at hcl hn ⊢
  clear hnl
  go_enter Try.func34, Try.ntmps34
  go_wp2_with fail
  refine hcl.mono ?_
  rintro e w1 ⟨v, rfl, ho, hb⟩
  obtain ⟨oa, oc, rfl, -, -, -, -, -⟩ := ho.form
  go_wp2
  go_loopw [6] (fun o wr => ∃ (r : Nat), 1 ≤ r ∧ r ≤ 2000 ∧ o = .int .i64 r ∧ wr.ownsRow w.heap.size 3 1 (.slice oa n oc) n (ins l) ∧ Below w.heap.size w wr) (fun o _ => 2000 - (intOf o).toNat)
  case atStart => exact ⟨1, by omega, by omega, rfl, ho, hb⟩
  case round =>
    obtain ⟨r, hr1, hr2, rfl, ho2, hb2⟩ := hrel
    by_cases hlt : r < n
    · have hlt' : (r : Int) < (n : Int) := by omega
      have HO2 := Lib.hid ho2
      obtain ⟨h1, h2⟩ := ho2
      rcases h2 with ⟨-, h0⟩ | ⟨g, cap, cur, hv, hbg, hg, hnc, hcm, hcs, htk⟩
      · omega
      obtain ⟨rfl, -, rfl⟩ : oa = some ⟨g, 0, none⟩ ∧ n = n ∧ oc = cap := by
        injection hv with q1 q2 q3; exact ⟨q1, q2, q3⟩
      clear hv
      obtain ⟨CU, rfl⟩ : ∃ CU : List Value, cur = CU.toArray := ⟨cur.toList, by simp⟩
      have HCS : Hid (CU.length = oc) := Lib.hid (by simpa using hcs)
      have HTK : Hid (CU.take n = ins l) := Lib.hid (by simpa using htk)
      have HG := Lib.hid hg
      clear hcs htk h1 hg
      go_wp2
      go_loopw [7] (fun o wi => ∃ (t : Nat), t ≤ n + r ∧ o = .int .i64 t ∧ Hid (wi.heap[g]? = some (.cells CU.toArray 3 (0, 0))) ∧ Below w.heap.size w wi) (fun o _ => 4000 - (intOf o).toNat)
      case atStart => exact ⟨0, by omega, rfl, HG, hb2⟩
      case round =>
        obtain ⟨t, ht, rfl, hgi, hbi⟩ := hrel
        by_cases hlt2 : t + r < n
        · have hlt2' : (t : Int) + (r : Int) < (n : Int) := by omega
          obtain ⟨en, hen⟩ : ∃ en : Nat, en = min (t + 2 * r) n := ⟨_, rfl⟩
          have hen1 : min ((t : Int) + 2 * (r : Int)) (n : Int) = (en : Int) := by omega
          have hA : t + r < en := by omega
          have hB : en ≤ n := by omega
          have hC : en ≤ t + 2 * r := by omega
          clear hen
          go_wp2
          have hgq : Hid (wr.drew.heap[g]? = some (.cells CU.toArray 3 (0, 0))) := hgi
          have hbq := hbi.drew
          refine wp_region_lit_txt [0, 1, 2, 3, 4, 5, 6, 7, 8, 9, 10, 11, 12, 13, 14, 15, 16] (fun W => Below w.heap.size w W) (by kernel_rfl) (by kernel_rfl) (by kernel_rfl) hbq ?_
          generalize wr.drew = wa at *
          obtain ⟨tr, htr⟩ : ∃ tr, tr = t + r := ⟨_, rfl⟩
          have hw : IntKind.i64.wrap ((t : Int) + (r : Int)) = (tr : Int) := by rw [IntWalk.i64_in _ (by omega)]; omega
          have f1 : en ≤ oc := by omega
          have f2 : t ≤ en := by omega
          have f3 : ¬ oc = t := by omega
          have f4 : tr ≤ oc := by omega
          have f5 : t ≤ tr := by omega
          have f6 : ¬ oc = tr := by omega
          have f7 : tr ≤ en := by omega
          have HTR := Lib.hid htr
          clear htr
          (refine txt_light ?_ rfl rfl ?_ ?_; rotate_left; · (intro w' hS; (try dsimp only at hS); go_simp; with_reducible rfl)); try simp only [Act.put, List.setIfInBounds_toArray, List.set_cons_zero, List.set_cons_succ]
          (refine txt_light ?_ rfl rfl ?_ ?_; rotate_left; · (intro w' hS; (try dsimp only at hS); go_simp; with_reducible rfl)); try simp only [Act.put, List.setIfInBounds_toArray, List.set_cons_zero, List.set_cons_succ]
          (refine txt_light ?_ rfl rfl ?_ ?_; rotate_left; · (intro w' hS; (try dsimp only at hS); go_simp; with_reducible rfl)); try simp only [Act.put, List.setIfInBounds_toArray, List.set_cons_zero, List.set_cons_succ]
          (refine txt_light ?_ rfl rfl ?_ ?_; rotate_left; · (intro w' hS; (try dsimp only at hS); go_simp; with_reducible rfl)); try simp only [Act.put, List.setIfInBounds_toArray, List.set_cons_zero, List.set_cons_succ]
          (refine txt_light ?_ rfl rfl ?_ ?_; rotate_left; · (intro w' hS; (try dsimp only at hS); go_simp; with_reducible rfl)); try simp only [Act.put, List.setIfInBounds_toArray, List.set_cons_zero, List.set_cons_succ]
          (refine txt_light ?_ rfl rfl ?_ ?_; rotate_left; · (intro w' hS; (try dsimp only at hS); go_simp; with_reducible rfl)); try simp only [Act.put, List.setIfInBounds_toArray, List.set_cons_zero, List.set_cons_succ]
          (refine txt_light ?_ rfl rfl ?_ ?_; rotate_left; · (intro w' hS; (try dsimp only at hS); go_simp; with_reducible rfl)); try simp only [Act.put, List.setIfInBounds_toArray, List.set_cons_zero, List.set_cons_succ]
          (refine txt_light ?_ rfl rfl ?_ ?_; rotate_left; · (intro w' hS; (try dsimp only at hS); go_simp; with_reducible rfl)); try simp only [Act.put, List.setIfInBounds_toArray, List.set_cons_zero, List.set_cons_succ]
          (refine txt_light ?_ rfl rfl ?_ ?_; rotate_left; · (intro w' hS; (try dsimp only at hS); go_simp; with_reducible rfl)); try simp only [Act.put, List.setIfInBounds_toArray, List.set_cons_zero, List.set_cons_succ]
          (refine txt_light ?_ rfl rfl ?_ ?_; rotate_left; · (intro w' hS; (try dsimp only at hS); go_simp; with_reducible rfl)); try simp only [Act.put, List.setIfInBounds_toArray, List.set_cons_zero, List.set_cons_succ]
          (refine txt_light ?_ rfl rfl ?_ ?_; rotate_left; · (intro w' hS; (try dsimp only at hS); go_simp; with_reducible rfl)); try simp only [Act.put, List.setIfInBounds_toArray, List.set_cons_zero, List.set_cons_succ]
          (refine txt_light ?_ rfl rfl ?_ ?_; rotate_left; · (intro w' hS; (try dsimp only at hS); go_simp; with_reducible rfl)); try simp only [Act.put, List.setIfInBounds_toArray, List.set_cons_zero, List.set_cons_succ]
          (refine txt_light ?_ rfl rfl ?_ ?_; rotate_left; · (intro w' hS; (try dsimp only at hS); go_simp; with_reducible rfl)); try simp only [Act.put, List.setIfInBounds_toArray, List.set_cons_zero, List.set_cons_succ]
          (refine txt_light ?_ rfl rfl ?_ ?_; rotate_left; · (intro w' hS; (try dsimp only at hS); go_simp; with_reducible rfl)); try simp only [Act.put, List.setIfInBounds_toArray, List.set_cons_zero, List.set_cons_succ]
          (refine txt_light ?_ rfl rfl ?_ ?_; rotate_left; · (intro w' hS; (try dsimp only at hS); go_simp; with_reducible rfl)); try simp only [Act.put, List.setIfInBounds_toArray, List.set_cons_zero, List.set_cons_succ]
          (refine txt_light ?_ rfl rfl ?_ ?_; rotate_left; · (intro w' hS; (try dsimp only at hS); go_simp; with_reducible rfl)); try simp only [Act.put, List.setIfInBounds_toArray, List.set_cons_zero, List.set_cons_succ]
          (refine txt_light ?_ rfl rfl ?_ ?_; rotate_left; · (intro w' hS; (try dsimp only at hS); go_simp; with_reducible rfl)); try simp only [Act.put, List.setIfInBounds_toArray, List.set_cons_zero, List.set_cons_succ]
          have hln := HN.out
          have hrd : Rd wa (some ⟨g, 0, none⟩) (ins l) := Rd.of_owns (size := 1) (n := n) (c := oc) (m := n) ⟨by rw [ins_len, HN.out], .inr ⟨g, oc, CU.toArray, rfl, hbg, hgq.out, hnc, hcm, by simpa using HCS.out, by simpa using HTK.out⟩⟩
          have hg1 : g < wa.heap.size := (Array.getElem?_eq_some_iff.1 hgq.out).1
          have hra : Rd wa (some ⟨g, t, none⟩) (ins ((l.drop t).take r)) := by
            have := (hrd.drop t).take r
            rw [ins_drop, ins_take, Nat.zero_add] at this; exact this
          have hrb : Rd wa (some ⟨g, tr, none⟩) (ins ((l.drop tr).take (en - tr))) := by
            have := (hrd.drop tr).take (en - tr)
            rw [ins_drop, ins_take, Nat.zero_add] at this; exact this
          have hal : ((l.drop t).take r).length = tr - t := by rw [List.length_take, List.length_drop, hln, HTR.out]; omega
          have hbl : ((l.drop tr).take (en - tr)).length = en - tr := by rw [List.length_take, List.length_drop, hln]; omega
          have hmg := merged_any (some ⟨g, t, none⟩) (some ⟨g, tr, none⟩) (oc - t) (oc - tr) ((l.drop t).take r) ((l.drop tr).take (en - tr)) (by rw [HTR.out]; exact pw_mid HP.out t r _) (by omega) (by omega) (by omega) (fun h => by cases h) (fun h => by cases h) wa hra hrb
          have hap : (l.drop t).take r ++ (l.drop tr).take (en - tr) = (l.drop t).take (en - t) := by
            have e1 : l.drop tr = (l.drop t).drop r := by rw [List.drop_drop, HTR.out]
            rw [e1, ← List.take_add]; congr 1; have := HTR.out; omega
          rw [hal, hbl, hap] at hmg
          refine txt_call [.slice (some ⟨g, t, none⟩) (tr - t) (oc - t), .slice (some ⟨g, tr, none⟩) (en - tr) (oc - tr), .func (.func 35) #[] #[]] Try.f48 rfl rfl Try.func48 (by kernel_rfl) (by kernel_rfl) rfl (hmg.mono ?_)
          rintro e w3 ⟨v3, rfl, ho3, hb3⟩
          have hbq3 : Below w.heap.size w w3 := hbq.trans (hb3.mono hbq.size)
          refine ⟨v3, rfl, hbq3, ?_⟩
          try simp only [Act.put, List.setIfInBounds_toArray, List.set_cons_zero, List.set_cons_succ]
          obtain ⟨a3, c3, rfl, -, -, -, hr3, -⟩ := ho3.form
          have hg3 : w3.heap[g]? = some (.cells CU.toArray 3 (0, 0)) := (hb3.block g hg1).trans hgq.out
          have hcl3 : (ins ((l.drop t).take (en - t))).length = en - t := by simp [ins, hln]; omega
          have hcu : ∀ i v, (ins ((l.drop t).take (en - t)))[i]? = some v → CU[t + i]? = some v := by
            intro i v hv
            have hi : i < en - t := by
              have := ins_get hv; rw [List.length_take, List.length_drop] at this; omega
            have e1 : (CU.take n)[t + i]? = some v := by
              rw [HTK.out]
              rw [← ins_take, ← ins_drop, List.getElem?_take_of_lt hi, List.getElem?_drop] at hv
              exact hv
            rw [List.getElem?_take_of_lt (by omega)] at e1
            exact e1
          refine txt_copy rfl rfl (.tmp 37) (.tmp 51) 43 43 rfl 3 Try.underlying43 (by kernel_rfl) (some ⟨g, t, none⟩) a3 (en - t) (oc - t) (tr - t + (en - tr)) c3 rfl rfl g t CU 3 hg3 (ins ((l.drop t).take (en - t))) (by rw [hcl3]; show _ = min _ _; omega) ?_ (by rw [hcl3, HCS.out]; omega) (ins_one _) w.heap.size w hbq3 hbg ?_
          · intro h0
            refine ⟨rfl, ?_⟩
            obtain ⟨b4, o4, rfl, -, -⟩ := hr3.at (i := 0) (v := (ins ((l.drop t).take (en - t)))[0]) (List.getElem?_eq_getElem h0)
            refine ⟨_, rfl, fun j v hv => ?_⟩
            obtain ⟨b5, o5, he5, hc5, -⟩ := hr3.at hv
            cases he5
            have e4 : (⟨b4, o4, none⟩ : Addr).add j = ⟨b4, o4 + j, none⟩ := by
              by_cases h : j = 0 <;> simp [Addr.add, h]
            rw [e4]; exact hc5
          · intro w4 hg4 hb4
            refine ⟨hb4, ?_⟩
            try simp only [Act.put, List.setIfInBounds_toArray, List.set_cons_zero, List.set_cons_succ]
            refine txt_nil ?_
            rw [splice_self CU t _ hcu (by rw [hcl3, HCS.out]; omega)] at hg4
            go_wp2
            exact ⟨⟨t + 2 * r, by omega, val_int (by omega), hg4, hb4⟩, by simp [intOf]; omega⟩
        · have hlt2' : ¬ (t : Int) + (r : Int) < (n : Int) := by omega
          go_wp2
          refine ⟨⟨2 * r, by omega, by omega, val_int (by omega), ⟨by rw [ins_len, HN.out], .inr ⟨g, oc, CU.toArray, rfl, hbg, hgi.out, hnc, hcm, by simpa using HCS.out, by simpa using HTK.out⟩⟩, hbi⟩, by simp [intOf]; omega⟩
    · have hlt' : ¬ (r : Int) < (n : Int) := by omega
      go_wp2
      go_ret
      exact ⟨_, rfl, ho2, hb2⟩
end Go.Proofs.Ytediblljgakoeaa
/- order.Uniq, of numbers that are in order already. -/
set_option linter.unusedVariables false
set_option linter.unusedSimpArgs false
set_option maxRecDepth 100000
namespace Go
open Go.RowKit
theorem heap_setCells (b : Nat) (T : TypeId) : ∀ (vs : List Value) (o : Nat) (w : World) (cur : List Value), w.heap[b]? = some (.cells cur.toArray T (0, 0)) → o + vs.length ≤ cur.length →
    ∃ c2 : List Value, (w.setCells b o vs).heap[b]? = some (.cells c2.toArray T (0, 0)) ∧ c2 = cur.take o ++ vs ++ cur.drop (o + vs.length)
  | [], o, w, cur, h, hl => ⟨cur, h, by simp⟩
  | v :: vs, o, w, cur, h, hl => by
    have h1 : (w.setCell ⟨b, o, none⟩ v).heap[b]? = some (.cells (cur.set o v).toArray T (0, 0)) := by
      simp [World.setCell, Array.getElem?_modify, h]
    obtain ⟨c2, h2, h3⟩ := heap_setCells b T vs (o + 1) (w.setCell ⟨b, o, none⟩ v) (cur.set o v) h1 (by simp at hl ⊢; omega)
    refine ⟨c2, h2, h3.trans ?_⟩
    have ho : o < cur.length := by simp at hl; omega
    have e1 : (cur.set o v).take (o + 1) = cur.take o ++ [v] := by
      rw [List.take_succ_eq_append_getElem (by simp; exact ho)]
      rw [List.take_set, List.set_eq_of_length_le (by rw [List.length_take]; omega)]; simp
    have e2 : (cur.set o v).drop (o + 1 + vs.length) = cur.drop (o + (v :: vs).length) := by
      rw [List.drop_set_of_lt (by omega)]; congr 1; simp; omega
    rw [e1, e2]; simp
end Go
namespace Go.Proofs.Ytediblljgakoeaa
open Go.RowKit

theorem compactI_any (n : Nat) (v : Value) (l : List Int) (hn : l.length ≤ 1000) (w : World) (base : Nat) (ho : w.ownsRow base 3 1 v l.length (ins l)) :
    Calls Try.prog 33 #[v] w fun e w' => ∃ v, e = .returned v ∧ w'.ownsRow base 3 1 v (Lib.compact l).length (ins (Lib.compact l)) ∧ Below base w w' := by
  have h' := ho
  obtain ⟨h1, h2⟩ := ho
  rcases h2 with ⟨rfl, h0⟩ | ⟨g, cap, cur, rfl, hbg, hg, hnc, hcm, hcs, htk⟩
  · have hl : l = [] := List.length_eq_zero_iff.1 h0
    subst hl
    refine (Try.slices_Compact_int_empty none 0 w).mono ?_
    rintro e w' ⟨rfl, rfl⟩
    exact ⟨_, rfl, World.ownsRow_nil _ _ _ _, Below.refl _ _⟩
  · obtain ⟨CU, rfl⟩ : ∃ CU : List Value, cur = CU.toArray := ⟨cur.toList, by simp⟩
    have hblk : Blk w g CU := ⟨_, hg⟩
    have hcl : CU.length = cap := by simpa using hcs
    have htk' : CU.take l.length = ins l := by simpa using htk
    refine (Try.slices_Compact_int_cells g 0 l.length cap l w (Nat.le_refl _) (by omega) hnc ?_ ?_).mono ?_
    · intro j hj
      refine hblk.cell (0 + j) ?_
      have e1 : (CU.take l.length)[j]? = some (.int .i64 (l.getD j 0)) := by rw [htk']; simp [ins, List.getD_eq_getElem?_getD, hj]
      rw [List.getElem?_take_of_lt hj] at e1
      rw [Nat.zero_add]; exact e1
    · intro j hj
      exact hblk.free _
    · rintro e w' ⟨rfl, q, rfl⟩
      rw [List.take_length]
      have hle := Lib.compact_length_le l
      generalize Lib.compact l = C at *
      obtain ⟨c2, hg2, hc2⟩ := heap_setCells g 3 ((C ++ List.replicate (l.length - C.length) 0).map (Value.int .i64)) 0 (w.drewN q) CU hg (by simp; omega)
      have hlen : c2.length = cap := by rw [hc2]; simp; omega
      refine ⟨_, rfl, ⟨ins_len _, .inr ⟨g, cap, c2.toArray, rfl, hbg, hg2, by omega, hcm, by simp [hlen], ?_⟩⟩, ?_⟩
      · rw [hc2]
        simp [ins, List.take_append]
      · exact Lib.below_setCells g hbg _ _ (below_drewN (Below.refl _ _) q)

set_option maxHeartbeats 800000 in
theorem uniq_any (a : Option Addr) (c : Nat) (l : List Int) (hp : l.Pairwise (· ≤ ·)) (hn : l.length ≤ 1000) (w : World) (hr : Rd w a (ins l)) :
    Calls Try.prog 23 #[.slice a l.length c] w fun e w' => ∃ v, e = .returned v ∧ w'.ownsRow w.heap.size 3 1 v (Lib.compact l).length (ins (Lib.compact l)) ∧ Below w.heap.size w w' := by
  have hs := sorted_any a c l hp hn w hr
  have hc := fun v w1 h => compactI_any 0 v l hn w1 w.heap.size h
  generalize Lib.compact l = C at *
  clear hp hr
  go_enter Try.func23, Try.ntmps23
  go_wp2_with fail
  refine hs.mono ?_
  rintro e w1 ⟨v, rfl, ho, hb⟩
  go_wp2_with fail
  refine (hc v w1 ho).mono ?_
  rintro e w2 ⟨v2, rfl, ho2, hb2⟩
  go_wp2
  go_ret
  exact ⟨_, rfl, ho2, hb.trans hb2⟩
end Go.Proofs.Ytediblljgakoeaa
/- Opening a law's arguments: a slice whose elements have several cells (structs), or are slices themselves, as 'Rd'. -/
namespace Go
open Go.ChangeShapes Go.WideShapes Go.ChangeAt Go.RowKit Go.Deep

theorem flatMap_len {α β : Type} (f : α → List β) (m : Nat) (hf : ∀ x, (f x).length = m) (xs : List α) : (xs.flatMap f).length = xs.length * m := by
  induction xs with
  | nil => simp
  | cons x xs ih => rw [List.flatMap_cons, List.length_append, hf, ih, List.length_cons, Nat.succ_mul]; omega

theorem flatMap_get {α β : Type} (f : α → List β) (m : Nat) (hf : ∀ x, (f x).length = m) (xs : List α) (i j : Nat) (hi : i < xs.length) (hj : j < m) : (xs.flatMap f)[i * m + j]? = (f xs[i])[j]? := by
  induction xs generalizing i with
  | nil => simp at hi
  | cons x xs ih =>
    rw [List.flatMap_cons]
    cases i with
    | zero => rw [List.getElem?_append_left (by rw [hf]; omega), Nat.zero_mul, Nat.zero_add, List.getElem_cons_zero]
    | succ i =>
      rw [List.getElem?_append_right (by rw [hf, Nat.succ_mul]; omega), List.getElem_cons_succ, hf, ← ih i (by simpa using hi)]
      congr 1
      rw [Nat.succ_mul]; omega

theorem open_flat {α : Type} [Inhabited α] {H : Type} {enc : TypeId × Value → H} {P : Program} {W : World} {base : Nat} {spare : Nat → Bool} {t e : TypeId} {fuel : Nat} {a : Option Addr} {len cap : Nat} {x : DataW H × List MemPlace} {held : Bool}
    (m : Nat) (hm0 : 0 < m) (cells : α → List Value) (Good : α → Prop) (hcl : ∀ y, (cells y).length = m)
    (ht : P.underlying t = some (.slice e)) (hc : P.cellsOf e = m)
    (one : ∀ n cs' z, cs'.length = m → DataW.trod enc P W base spare held n e cs' = some z → ∃ y, cs' = cells y ∧ Good y)
    (h : DataW.trod enc P W base spare held fuel t [.slice a len cap] = some x) :
    ∃ xs : List α, len = xs.length ∧ len ≤ cap ∧ cap ≤ maxLen ∧ (a = none → cap = 0) ∧ Rd W a (xs.flatMap cells) ∧ ∀ y ∈ xs, Good y := by
  rcases open_slice ht h with ⟨hcs, _⟩ | ⟨ad, l, c, k, n, D, Pl, hcs, hb, hl, hmx, hk, _, hx⟩
  · simp at hcs
    obtain ⟨rfl, rfl, rfl⟩ := hcs
    exact ⟨[], rfl, Nat.le_refl _, by simp [maxLen], fun _ => rfl, .inl rfl, by simp⟩
  · simp at hcs
    obtain ⟨rfl, rfl, rfl⟩ := hcs
    have hlk : len ≤ k := by rw [hk]; split <;> omega
    have each : ∀ i, i < len → ∃ y : α, Good y ∧ ∀ j v, (cells y)[j]? = some v → W.cell? ((ad.add (i * m)).add j) = some v := by
      intro i hi
      obtain ⟨cs', h1, h2⟩ := hx i (by omega)
      rw [hc] at h1
      obtain ⟨_, hlen, hcell⟩ := World.cells?_some h1
      obtain ⟨y, rfl, hg⟩ := one _ _ _ hlen h2
      refine ⟨y, hg, fun j v hv => ?_⟩
      rw [hcell j (by have := (List.getElem?_eq_some_iff.1 hv).1; rw [hcl] at this; exact this)]
      exact hv
    obtain ⟨y, hy⟩ := choose_lt each
    refine ⟨(List.range len).map y, by simp, hl, hmx, fun h => (by cases h), ?_, ?_⟩
    · by_cases h0 : len = 0
      · subst h0; exact .inl rfl
      · obtain ⟨v0, hv0⟩ : ∃ v, (cells (y 0))[0]? = some v := ⟨_, List.getElem?_eq_getElem (by rw [hcl]; exact hm0)⟩
        have hs := cell_spot ((hy 0 (by omega)).2 0 v0 hv0)
        have hs' : ad.spot = none := by simpa [Addr.add] using hs
        obtain ⟨b, off, sp⟩ := ad
        simp only at hs'
        subst hs'
        refine .inr ⟨b, off, rfl, fun p v hv => ?_⟩
        have hp : p < len * m := by
          have := (List.getElem?_eq_some_iff.1 hv).1
          rwa [flatMap_len cells m hcl, List.length_map, List.length_range] at this
        have hi : p / m < len := Nat.div_lt_of_lt_mul (by rw [Nat.mul_comm]; exact hp)
        have hj : p % m < m := Nat.mod_lt _ hm0
        have hpe : p / m * m + p % m = p := Nat.div_add_mod' p m
        rw [← hpe, flatMap_get cells m hcl _ _ _ (by simpa using hi) hj] at hv
        simp only [List.getElem_map, List.getElem_range] at hv
        have := (hy _ hi).2 _ _ hv
        rw [add_add, hpe] at this
        unfold Addr.add at this
        split at this
        · subst_vars; simpa using this
        · simpa using this
    · intro z hz
      obtain ⟨i, hi, rfl⟩ := List.mem_map.1 hz
      exact (hy i (List.mem_range.1 hi)).1
end Go
/- Points: how they lie, and what the program says of them. -/
set_option linter.unusedVariables false
set_option linter.unusedSimpArgs false
namespace Go
open Go.RowKit

structure Pt where
  x : Int
  y : Int

instance : Inhabited Pt := ⟨⟨0, 0⟩⟩
instance : DecidableEq Pt := fun a b => decidable_of_iff (a.x = b.x ∧ a.y = b.y) (by cases a; cases b; simp)

def Pt.cells (p : Pt) : List Value := [.int .i64 p.x, .int .i64 p.y]
def Pt.val (p : Pt) : Value := .agg #[.int .i64 p.x, .int .i64 p.y]
def pts (l : List Pt) : List Value := l.flatMap Pt.cells

theorem pts_len (l : List Pt) : (pts l).length = l.length * 2 := flatMap_len Pt.cells 2 (fun _ => rfl) l
theorem pts_get (l : List Pt) (i j : Nat) (hi : i < l.length) (hj : j < 2) : (pts l)[i * 2 + j]? = (l[i]).cells[j]? := flatMap_get Pt.cells 2 (fun _ => rfl) l i j hi hj
theorem pts_append (a b : List Pt) : pts (a ++ b) = pts a ++ pts b := by simp [pts]
theorem pts_snoc (a : List Pt) (p : Pt) : pts (a ++ [p]) = pts a ++ p.cells := by simp [pts]
theorem Pt.cells_one (p : Pt) : ∀ u ∈ p.cells, u.oneCell' = true := by intro u hu; simp [Pt.cells] at hu; rcases hu with rfl | rfl <;> rfl
theorem pts_one (l : List Pt) : ∀ u ∈ pts l, u.oneCell' = true := by
  intro u hu
  obtain ⟨p, -, hu⟩ := List.mem_flatMap.1 hu
  exact p.cells_one u hu
theorem pts_take (l : List Pt) (n : Nat) : (pts l).take (n * 2) = pts (l.take n) := by
  induction l generalizing n with
  | nil => simp [pts]
  | cons p l ih =>
    cases n with
    | zero => simp [pts]
    | succ n =>
      have := ih n
      simp only [pts, List.flatMap_cons, List.take_succ_cons] at *
      rw [← this, show (n + 1) * 2 = 2 + n * 2 by omega, List.take_add]
      simp [Pt.cells]

/-- The cells of one point of many. -/
theorem Rd.pt {w : World} {a : Option Addr} {l : List Pt} (h : Rd w a (pts l)) (i : Nat) (hi : i < l.length) :
    ∃ b off, a = some ⟨b, off, none⟩ ∧ b < w.heap.size ∧ w.cell? ⟨b, off + i * 2, none⟩ = some (.int .i64 l[i].x) ∧ w.cell? ⟨b, off + i * 2 + 1, none⟩ = some (.int .i64 l[i].y) := by
  obtain ⟨b, off, rfl, h0, hb⟩ := h.at (i := i * 2 + 0) (v := .int .i64 l[i].x) (by rw [pts_get l i 0 hi (by omega)]; rfl)
  obtain ⟨b', off', e, h1, -⟩ := h.at (i := i * 2 + 1) (v := .int .i64 l[i].y) (by rw [pts_get l i 1 hi (by omega)]; rfl)
  cases e
  exact ⟨b, off, rfl, hb, h0, by rw [Nat.add_assoc]; exact h1⟩

/-- May a point be? -/
def okPt (p : Pt) : Bool := decide (-16777216 ≤ p.x ∧ p.x ≤ 16777216) && decide (-16777216 ≤ p.y ∧ p.y ≤ 16777216)
theorem okPt_iff (p : Pt) : okPt p = true ↔ (-16777216 ≤ p.x ∧ p.x ≤ 16777216) ∧ (-16777216 ≤ p.y ∧ p.y ≤ 16777216) := by simp [okPt]

/-- The doubled area of three points. -/
def crs (a b c : Pt) : Int := (b.x - a.x) * (c.y - a.y) - (b.y - a.y) * (c.x - a.x)

theorem mul_bd (a b m n : Int) (ha : -m ≤ a ∧ a ≤ m) (hb : -n ≤ b ∧ b ≤ n) (hm : 0 ≤ m) (hn : 0 ≤ n) : -(m * n) ≤ a * b ∧ a * b ≤ m * n := by
  have h1 : (a * b).natAbs ≤ (m * n).natAbs := by
    rw [Int.natAbs_mul, Int.natAbs_mul]
    exact Nat.mul_le_mul (by omega) (by omega)
  have h2 : 0 ≤ m * n := Int.mul_nonneg hm hn
  omega

theorem crs_bd (a b c : Pt) (ha : okPt a = true) (hb : okPt b = true) (hc : okPt c = true) : -2251799813685248 ≤ crs a b c ∧ crs a b c ≤ 2251799813685248 := by
  rw [okPt_iff] at ha hb hc
  unfold crs
  have h1 := mul_bd (b.x - a.x) (c.y - a.y) 33554432 33554432 (by omega) (by omega) (by omega) (by omega)
  have h2 := mul_bd (b.y - a.y) (c.x - a.x) 33554432 33554432 (by omega) (by omega) (by omega) (by omega)
  omega
end Go
