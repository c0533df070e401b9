/-
  order.Uniq's way of comparing; order.merged, of lists of which the second follows the first. face.Sides: slices.Collect of the sides.
-/
import Derived.Test.YtccamjnomjcchaaPk1
import Derived.Test.YtccamjnomjcchaaPk5
import Derived.Test.YtccamjnomjcchaaPk2
import Derived.Test.YtccamjnomjcchaaProg
import Derived.Test.YtccamjnomjcchaaPk7
import Derived.RangeFuncBox
/- order.Uniq's way of comparing; order.merged, of lists of which the second follows the first. -/
set_option linter.unusedVariables false
set_option linter.unusedSimpArgs false
set_option maxRecDepth 100000
namespace Go.Proofs.Ytccamjnomjcchaa
open Go.RowKit
theorem Try.infoIz : (Try.prog.info? 3).map (fun i => (i.zero, i.size, i.bytes)) = some (some (.int .i64 0), 1, 8) := by kernel_rfl

set_option maxHeartbeats 800000 in
theorem uless_any (x y : Int) (w : World) : Calls Try.prog 76 #[.int .i64 x, .int .i64 y] w fun e w' => e = .returned (.bool (decide (x < y))) ∧ w' = w := by
  go_enter Try.func76, Try.ntmps76
  by_cases h : x < y
  · rw [decide_eq_true h]; go_wp2; go_ret; exact ⟨rfl, rfl⟩
  · rw [decide_eq_false h]; go_wp2; go_ret; exact ⟨rfl, rfl⟩

set_option maxHeartbeats 6400000 in
theorem merged_any (pa pb : Option Addr) (ca cb : Nat) (A B : List Int) (hAB : ∀ x ∈ A, ∀ y ∈ B, x ≤ y) (hla : A.length ≤ ca) (hlb : B.length ≤ cb) (hcl : A.length + B.length ≤ 1000000) (hna : pa = none → ca = 0) (hnb : pb = none → cb = 0) (w : World) (hra : Rd w pa (ins A)) (hrb : Rd w pb (ins B)) :
    Calls Try.prog 102 #[.slice pa A.length ca, .slice pb B.length cb, .func (.func 76) #[] #[]] w fun e w' => ∃ v, e = .returned v ∧ w'.ownsRow w.heap.size 3 1 v (A.length + B.length) (ins (A ++ B)) ∧ Below w.heap.size w w' := by
  have HAB := Lib.hid hAB; obtain ⟨mB, hmB⟩ : ∃ mB, B.length = mB := ⟨_, rfl⟩; rw [hmB] at hlb hcl ⊢; have HMB := Lib.hid hmB; clear hmB; have HUL := Lib.hid uless_any; clear hAB
  go_enter Try.func102, Try.ntmps102
  go_wp2; refine wp_goto_pre 0 (fun m a' w' => ∃ (pa : Option Addr) (ca : Nat) (A1 A2 : List Int) (n : Nat) (o u3 u4 u5 u6 u8 u9 u10 u11 u12 u13 u14 u15 u16 u17 u18 u19 u20 u21 u22 u23 u24 u25 u26 u27 u28 u29 u30 u31 u32 u33 u34 u35 u36 u37 u38 u39 u40 u41 u42 u43 u44 u45 u46 u47 u48 u49 u50 : Value),
    (n = m ∧ Hid (A2.length = m) ∧ Hid (A = A1 ++ A2) ∧ A1.length + m = A.length ∧ m ≤ ca ∧ m ≤ 1000000 ∧ (pa = none → ca = 0) ∧ Rd w pa (ins A2) ∧ w'.ownsRow w.heap.size 3 1 o A1.length (ins A1) ∧ Below w.heap.size w w') ∧
    a' = { tmps := #[.slice pa m ca, .slice pb mB cb, .func (.func 76) #[] #[], u3, u4, u5, u6, o, u8, u9, u10, u11, u12, u13, u14, u15, u16, u17, u18, u19, u20, u21, u22, u23, u24, u25, u26, u27, u28, u29, u30, u31, u32, u33, u34, u35, u36, u37, u38, u39, u40, u41, u42, u43, u44, u45, u46, u47, u48, u49, u50], defers := [] }) rfl ?_ ?_
  · rintro _ a' w' ⟨pa, ca, A1, A2, m, o, u3, u4, u5, u6, u8, u9, u10, u11, u12, u13, u14, u15, u16, u17, u18, u19, u20, u21, u22, u23, u24, u25, u26, u27, u28, u29, u30, u31, u32, u33, u34, u35, u36, u37, u38, u39, u40, u41, u42, u43, u44, u45, u46, u47, u48, u49, u50, ⟨rfl, HM, HA, hlen, hl2, hc6, hn2, hr2, ho, hbb⟩, rfl⟩ J hJ; have HJ := Lib.hid hJ; clear hJ hra
    by_cases hz1 : m = 0
    · subst hz1
      go_wp2_with (at_builtin; first
        | (refine wpList_app' w hbb rfl (.tmp 22) (.tmp 23) 43 rfl 3 (.int .i64 0) 1 8 Try.underlying43 Try.infoIz rfl (by decide) o A1.length (ins A1) rfl ho pa 0 ca (ins A2) rfl hn2 (hr2.keep hbb) (by rw [ins_len, HM.out]) (ins_one A2) (by omega) (by decide) ?_
           intro v3 w3 ho3 hg3 hb3)
        | (refine wpList_app' w hb3 rfl (.tmp 24) (.tmp 25) 43 rfl 3 (.int .i64 0) 1 8 Try.underlying43 Try.infoIz rfl (by decide) v3 (A1.length + 0) (ins A1 ++ ins A2) rfl ho3 pb mB cb (ins B) rfl hnb (hrb.keep hb3) (by rw [ins_len, HMB.out]) (ins_one B) (by omega) (by decide) ?_
           intro v4 w4 ho4 hg4 hb4))
      try rw [Exit.jump_ret]
      refine bodyPost_ret (v := v4) (by simp [results, Try.results102, go_sem]) rfl ⟨v4, rfl, ?_, hb4⟩; have e9 : ins (A ++ B) = ins A1 ++ ins A2 ++ ins B := by rw [HA.out]; simp [ins]
      rw [e9, ← hlen]; exact ho4
    have e1 : ((m : Int) == 0) = false := by rw [beq_eq_false_iff_ne]; omega
    by_cases hz2 : mB = 0
    · subst hz2
      go_wp2_with (at_builtin; first
        | (refine wpList_app' w hbb rfl (.tmp 22) (.tmp 23) 43 rfl 3 (.int .i64 0) 1 8 Try.underlying43 Try.infoIz rfl (by decide) o A1.length (ins A1) rfl ho pa m ca (ins A2) rfl hn2 (hr2.keep hbb) (by rw [ins_len, HM.out]) (ins_one A2) (by omega) (by decide) ?_
           intro v3 w3 ho3 hg3 hb3)
        | (refine wpList_app' w hb3 rfl (.tmp 24) (.tmp 25) 43 rfl 3 (.int .i64 0) 1 8 Try.underlying43 Try.infoIz rfl (by decide) v3 (A1.length + m) (ins A1 ++ ins A2) rfl ho3 pb 0 cb (ins B) rfl hnb (hrb.keep hb3) (by rw [ins_len, HMB.out]) (ins_one B) (by omega) (by decide) ?_
           intro v4 w4 ho4 hg4 hb4))
      try rw [Exit.jump_ret]
      refine bodyPost_ret (v := v4) (by simp [results, Try.results102, go_sem]) rfl ⟨v4, rfl, ?_, hb4⟩; have e9 : ins (A ++ B) = ins A1 ++ ins A2 ++ ins B := by rw [HA.out]; simp [ins]
      rw [e9, ← hlen]; exact ho4
    have e2 : ((mB : Int) == 0) = false := by rw [beq_eq_false_iff_ne]; omega
    obtain ⟨x0, A3, rfl⟩ : ∃ x l, A2 = x :: l := by
      cases A2 with
      | nil => exact absurd HM.out.symm hz1
      | cons x l => exact ⟨x, l, rfl⟩
    obtain ⟨y0, B3, hB3⟩ : ∃ x l, B = x :: l := by
      cases B with
      | nil => exact absurd HMB.out.symm hz2
      | cons x l => exact ⟨x, l, rfl⟩
    have HM3 : Hid (A3.length + 1 = m) := HM; have hle : x0 ≤ y0 := HAB.out x0 (by rw [HA.out]; simp) y0 (by rw [hB3]; simp); have HR2 := Lib.hid hr2; obtain ⟨b, off, rfl, hca, -⟩ := (hr2.keep hbb).at (i := 0) (v := .int .i64 x0) rfl; obtain ⟨b2, off2, rfl, hcb, -⟩ := (hrb.keep hbb).at (i := 0) (v := .int .i64 y0) (by rw [hB3]; rfl); have hca : w'.cell? ⟨b, off, none⟩ = some (.int .i64 x0) := hca; have hcb : w'.cell? ⟨b2, off2, none⟩ = some (.int .i64 y0) := hcb; have hlt : decide (y0 < x0) = false := decide_eq_false (by omega); have hU := Lib.hid (uless_any y0 x0); rw [hlt] at hU; have hlen1 : (1 : Int) ≤ (m : Int) := by omega
    have hm0 : 0 < m := by omega
    have hlen0 : (0 : Int) < (m : Int) := by omega
    have hbl0 : (0 : Int) < (mB : Int) := by omega
    have hca1 : (1 : Int) ≤ (ca : Int) := by omega
    go_wp2
    go_quiet (refine Calls.quiet_of_same (hU.out _))
    have hoq : (w'.drewN nq).ownsRow w.heap.size 3 1 o A1.length (ins A1) := ho; have hbq := below_drewN hbb nq; go_wp2
    by_cases hc1 : ca = 1
    · subst hc1; refine wp_region_lit_txt [0, 1, 2, 3, 6, 7, 8, 9] (fun W => Below w.heap.size w W) (by kernel_rfl) (by kernel_rfl) (by kernel_rfl) hbq.drew ?_; have hoq : (w'.drewN nq).drew.ownsRow w.heap.size 3 1 o A1.length (ins A1) := hoq; have hbq := hbq.drew; generalize (w'.drewN nq).drew = wa at *
      iterate 3 ((refine txt_light ?_ rfl rfl ?_ ?_; rotate_left; · (intro w' hS; (try dsimp only at hS); go_simp; with_reducible rfl)); try simp only [Act.put, List.setIfInBounds_toArray, List.set_cons_zero, List.set_cons_succ])
      refine txt_light (.int .i64 x0) rfl rfl ?_ ?_
      · intro w' hS; obtain ⟨b', o', he, c0, _⟩ := (HR2.out.keep hS).at (i := 0) (v := .int .i64 x0) rfl
        cases he
        have c0 : w'.cell? ⟨b, off, none⟩ = some (.int .i64 x0) := c0; go_simp
      try simp only [Act.put, List.setIfInBounds_toArray, List.set_cons_zero, List.set_cons_succ]
      refine txt_heavy rfl rfl (fun K hK => ?_); go_step; have hbd := hbq.alloc hbq.size (.cells #[.int .i64 x0] 3); have hod := hoq.alloc (.cells #[.int .i64 x0] 3); have hrl := Rd.lit wa wa.heap.size [.int .i64 x0] 3 rfl; refine hK.out _ _ hbd ?_; clear hK K
      try simp only [Act.put, List.setIfInBounds_toArray, List.set_cons_zero, List.set_cons_succ]
      refine txt_heavy rfl rfl (fun K hK => ?_); refine wp_app (.tmp 43) (.tmp 47) 43 rfl w.heap.size 3 (.int .i64 0) 1 8 Try.underlying43 Try.infoIz rfl (by decide) o A1.length (ins A1) rfl hod (some ⟨wa.heap.size, 0, none⟩) 1 1 [.int .i64 x0] rfl (fun h => by cases h) hrl rfl (by simp [Value.oneCell']) (by omega) (by decide) hbd.size ?_; intro v5 w5 ho5 hg5; have hb5 := hbd.grown hg5 hbd.size (fun x hx => (hod.lt x hx).1); refine hK.out _ _ hb5 ?_; clear hK K
      try simp only [Act.put, List.setIfInBounds_toArray, List.set_cons_zero, List.set_cons_succ]
      iterate 4 ((refine txt_light ?_ rfl rfl ?_ ?_; rotate_left; · (intro w' hS; (try dsimp only at hS); go_simp; with_reducible rfl)); try simp only [Act.put, List.setIfInBounds_toArray, List.set_cons_zero, List.set_cons_succ])
      refine txt_nil ?_; go_wp2
      go_step3
      show (0 : Nat) = 0 ∧ J _ _; refine ⟨rfl, HJ.out 0 _ _ (by omega) ⟨some ⟨b, off, none⟩, 0, A1 ++ [x0], A3, 0, v5, _, _, _, _, _, _, _, _, _, _, _, _, _, _, _, _, _, _, _, _, _, _, _, _, _, _, _, _, _, _, _, _, _, _, _, _, _, _, _, _, _, _, _, _, _, _, _, ⟨rfl, Lib.hid (by have := HM3.out; omega), Lib.hid (by rw [HA.out, List.append_assoc]; rfl), (by have := HM3.out; simp only [List.length_append, List.length_cons, List.length_nil]; omega), (by have := HM3.out; omega), by omega, (fun h => by cases h), (by have h0 : A3 = [] := List.length_eq_zero_iff.1 (by have := HM3.out; omega); rw [h0]; exact .inl rfl), ?_, hb5⟩, rfl⟩⟩; have e1 : ins (A1 ++ [x0]) = ins A1 ++ [.int .i64 x0] := by simp [ins]
      rw [e1, List.length_append]; exact ho5
    · have hc2 : ¬ (ca : Int) = 1 := by omega
      refine wp_region_lit_txt [0, 1, 2, 3, 6, 7, 8, 9] (fun W => Below w.heap.size w W) (by kernel_rfl) (by kernel_rfl) (by kernel_rfl) hbq.drew ?_; have hoq : (w'.drewN nq).drew.ownsRow w.heap.size 3 1 o A1.length (ins A1) := hoq; have hbq := hbq.drew; generalize (w'.drewN nq).drew = wa at *
      iterate 3 ((refine txt_light ?_ rfl rfl ?_ ?_; rotate_left; · (intro w' hS; (try dsimp only at hS); go_simp; with_reducible rfl)); try simp only [Act.put, List.setIfInBounds_toArray, List.set_cons_zero, List.set_cons_succ])
      refine txt_light (.int .i64 x0) rfl rfl ?_ ?_
      · intro w' hS; obtain ⟨b', o', he, c0, _⟩ := (HR2.out.keep hS).at (i := 0) (v := .int .i64 x0) rfl
        cases he
        have c0 : w'.cell? ⟨b, off, none⟩ = some (.int .i64 x0) := c0; go_simp
      try simp only [Act.put, List.setIfInBounds_toArray, List.set_cons_zero, List.set_cons_succ]
      refine txt_heavy rfl rfl (fun K hK => ?_); go_step; have hbd := hbq.alloc hbq.size (.cells #[.int .i64 x0] 3); have hod := hoq.alloc (.cells #[.int .i64 x0] 3); have hrl := Rd.lit wa wa.heap.size [.int .i64 x0] 3 rfl; refine hK.out _ _ hbd ?_; clear hK K
      try simp only [Act.put, List.setIfInBounds_toArray, List.set_cons_zero, List.set_cons_succ]
      refine txt_heavy rfl rfl (fun K hK => ?_); refine wp_app (.tmp 43) (.tmp 47) 43 rfl w.heap.size 3 (.int .i64 0) 1 8 Try.underlying43 Try.infoIz rfl (by decide) o A1.length (ins A1) rfl hod (some ⟨wa.heap.size, 0, none⟩) 1 1 [.int .i64 x0] rfl (fun h => by cases h) hrl rfl (by simp [Value.oneCell']) (by omega) (by decide) hbd.size ?_; intro v5 w5 ho5 hg5; have hb5 := hbd.grown hg5 hbd.size (fun x hx => (hod.lt x hx).1); refine hK.out _ _ hb5 ?_; clear hK K
      try simp only [Act.put, List.setIfInBounds_toArray, List.set_cons_zero, List.set_cons_succ]
      iterate 4 ((refine txt_light ?_ rfl rfl ?_ ?_; rotate_left; · (intro w' hS; (try dsimp only at hS); go_simp; with_reducible rfl)); try simp only [Act.put, List.setIfInBounds_toArray, List.set_cons_zero, List.set_cons_succ])
      refine txt_nil ?_; go_wp2
      go_step3
      show (0 : Nat) = 0 ∧ J _ _; refine ⟨rfl, HJ.out (m - 1) _ _ (by omega) ⟨(some ⟨b, off + 1, none⟩), ca - 1, A1 ++ [x0], A3, m - 1, v5, _, _, _, _, _, _, _, _, _, _, _, _, _, _, _, _, _, _, _, _, _, _, _, _, _, _, _, _, _, _, _, _, _, _, _, _, _, _, _, _, _, _, _, _, _, _, _, ⟨rfl, Lib.hid (by have := HM3.out; omega), Lib.hid (by rw [HA.out, List.append_assoc]; rfl), (by have := HM3.out; simp only [List.length_append, List.length_cons, List.length_nil]; omega), (by have := HM3.out; omega), by omega, (fun h => by cases h), HR2.out.drop 1, ?_, hb5⟩, rfl⟩⟩; have e1 : ins (A1 ++ [x0]) = ins A1 ++ [.int .i64 x0] := by simp [ins]
      rw [e1, List.length_append]; exact ho5
  · intro J HL; obtain ⟨iu, hi, hzz⟩ := Option.map_eq_some_iff.1 Try.infoIz; simp only [Prod.mk.injEq] at hzz; obtain ⟨hz0, hz1, hz2⟩ := hzz
    go_wp2_with (at_make; go_must (refine wpList_make_own _ rfl _ (.tmp 12) 43 rfl w.heap.size 3 iu (.int .i64 0) 1 Try.underlying43 hi hz0 hz1 .i64 .i64 ((A.length : Int) + (mB : Int)) (A.length + mB) rfl rfl (by omega) (by rw [hz2]; omega) (by unfold maxLen; omega) (Nat.le_refl _) ?_); intro w2 hown2 hgrow2; have hB2 : Below w.heap.size w w2 := (Below.refl _ _).grown hgrow2 (Nat.le_refl _) (fun x hx => by cases hx))
    go_step3
    go_step; go_step; exact HL.out A.length _ _ ⟨pa, ca, [], A, A.length, .slice (some ⟨w.heap.size, 0, none⟩) 0 (A.length + mB), _, _, _, _, _, _, _, _, _, _, _, _, _, _, _, _, _, _, _, _, _, _, _, _, _, _, _, _, _, _, _, _, _, _, _, _, _, _, _, _, _, _, _, _, _, _, _, ⟨rfl, Lib.hid rfl, Lib.hid rfl, by simp, hla, by omega, hna, hra, hown2, hB2⟩, rfl⟩
end Go.Proofs.Ytccamjnomjcchaa
/- face.Sides: slices.Collect of the sides. -/
set_option linter.unusedVariables false
set_option linter.unusedSimpArgs false
set_option maxRecDepth 100000
namespace Go
open Go.RowKit
def sds (l : List Sd) : List Value := l.flatMap Sd.cells
theorem sds_snoc (l : List Sd) (s : Sd) : sds (l ++ [s]) = sds l ++ s.cells := by simp [sds]
theorem Sd.cells_one (s : Sd) : ∀ u ∈ s.cells, u.oneCell' = true := by
  intro u hu; simp [Sd.cells] at hu
  rcases hu with rfl | rfl | rfl | rfl | rfl | rfl <;> rfl
theorem putObj_below (N : Nat) (W : World) (l : Nat) (o' : Obj) (h : N ≤ l) : Below N W (W.putObj l o') :=
  ⟨rfl, rfl, rfl, by simp [World.putObj], fun k hk => World.putObj_heap_other (fun e => by omega)⟩
def ApI (w : World) (Bs : Nat) (T e : TypeId) (pre : List Sd) (W : World) : Prop :=
  ∃ v, Boxed W Bs T v ∧ W.ownsRow w.heap.size e 6 v pre.length (sds pre) ∧ Below w.heap.size w W
theorem ApI.own {w : World} {Bs : Nat} {T e : TypeId} {B : Nat} (hB : w.heap.size ≤ B) : OwnFrom B (ApI w Bs T e) := by
  intro pre X Y row hs hg hr; obtain ⟨v, h1, h2, h3⟩ := hs; refine ⟨v, boxed_own Bs T (fun (_ : Unit) => v) () X Y row h1 hg (fun r e => (hr r e).2), h2.kept hg ?_, h3.grown hg h3.size (fun k e => Nat.le_trans hB (hr k e).1)⟩
  rcases h2.2 with ⟨rfl, _⟩ | ⟨g, cap, cur, rfl, _, hgb, _⟩
  · exact .inl rfl
  · refine .inr fun e' => ?_; obtain ⟨o, ho, hc⟩ := (hr g (by simpa [Value.ownBlock] using e'.symm)).2; rw [hgb] at ho
    cases ho
    cases hc
end Go
namespace Go
open Go.RowKit
theorem Rd.sd {w : World} {a : Option Addr} {l : List Sd} (h : Rd w a (sds l)) (i : Nat) (hi : i < l.length) :
    ∃ b off, a = some ⟨b, off, none⟩ ∧ b < w.heap.size ∧ w.cell? ⟨b, off + i * 6, none⟩ = some (.int .i64 l[i].f) ∧ w.cell? ⟨b, off + i * 6 + 1, none⟩ = some (.int .i64 l[i].r) ∧ w.cell? ⟨b, off + i * 6 + 2, none⟩ = some (.int .i64 l[i].a.x) ∧ w.cell? ⟨b, off + i * 6 + 3, none⟩ = some (.int .i64 l[i].a.y) ∧ w.cell? ⟨b, off + i * 6 + 4, none⟩ = some (.int .i64 l[i].b.x) ∧ w.cell? ⟨b, off + i * 6 + 5, none⟩ = some (.int .i64 l[i].b.y) := by
  have g : ∀ j, j < 6 → (sds l)[i * 6 + j]? = (l[i]).cells[j]? := fun j hj => flatMap_get Sd.cells 6 (fun _ => rfl) l i j hi hj; obtain ⟨b, off, rfl, h0, hb⟩ := h.at (i := i * 6 + 0) (v := .int .i64 l[i].f) (by rw [g 0 (by omega)]; rfl); obtain ⟨b', off', e, h1, -⟩ := h.at (i := i * 6 + 1) (v := .int .i64 l[i].r) (by rw [g 1 (by omega)]; rfl)
  cases e
  obtain ⟨b', off', e, h2, -⟩ := h.at (i := i * 6 + 2) (v := .int .i64 l[i].a.x) (by rw [g 2 (by omega)]; rfl)
  cases e
  obtain ⟨b', off', e, h3, -⟩ := h.at (i := i * 6 + 3) (v := .int .i64 l[i].a.y) (by rw [g 3 (by omega)]; rfl)
  cases e
  obtain ⟨b', off', e, h4, -⟩ := h.at (i := i * 6 + 4) (v := .int .i64 l[i].b.x) (by rw [g 4 (by omega)]; rfl)
  cases e
  obtain ⟨b', off', e, h5, -⟩ := h.at (i := i * 6 + 5) (v := .int .i64 l[i].b.y) (by rw [g 5 (by omega)]; rfl)
  cases e
  exact ⟨b, off, rfl, hb, h0, by rw [Nat.add_assoc]; exact h1, by rw [Nat.add_assoc]; exact h2, by rw [Nat.add_assoc]; exact h3, by rw [Nat.add_assoc]; exact h4, by rw [Nat.add_assoc]; exact h5⟩
end Go
namespace Go.Proofs.Ytccamjnomjcchaa
open Go.RowKit
attribute [local go_sem] Oper.semAt_some
theorem Try.infoSd : (Try.prog.info? 82).map (fun i => (i.zero, i.size, i.bytes)) = some (some (.agg #[.int .i64 0, .int .i64 0, .int .i64 0, .int .i64 0, .int .i64 0, .int .i64 0]), 6, 48) := by kernel_rfl

set_option maxHeartbeats 3200000 in
theorem appseq_any (Bn : Nat) (a : Option Addr) (c : Nat) (L : List Fc) (hlen : L.length ≤ 1000000) (hl1 : ∀ f ∈ L, f.rs.length ≤ 1000000) (hl2 : ∀ f ∈ L, ∀ r ∈ f.rs, r.l.length ≤ 1000000) (hall : (allSd (L.map Fc.rings)).length ≤ 1000000)
    (w : World) (hr : Rd w a (fcs L)) (hok : ∀ f ∈ L, f.Ok w) (fr : Nat × Nat) (hBn : w.heap[Bn]? = some (.cells #[.slice a L.length c] 22 fr)) :
    Calls Try.prog 99 #[.slice none 0 0, .func (.func 100) #[] #[.pointer (some ⟨Bn, 0, none⟩)]] w fun e w' => ∃ v, e = .returned v ∧ w'.ownsRow w.heap.size 82 6 v (allSd (L.map Fc.rings)).length (sds (allSd (L.map Fc.rings))) ∧ Below w.heap.size w w' := by
  refine (callsIn_wide (n := 5)).1 ?_; refine callsIn_of_wp_marks Try.func99 rfl trivial ?_ rfl; simp only [Try.ntmps99, List.size_toArray, List.length_cons, List.length_nil, Nat.reduceAdd, Nat.reduceSub, Array.replicate_succ, Array.replicate_zero, List.push_toArray, List.append_toArray, List.nil_append, List.cons_append]; refine wpIn_wide.2 ?_; have HSL := Lib.hid (sides_leave (5 - 1) Bn a c L hlen hl1 hl2 w hr hok fr hBn); obtain ⟨i0, hi, hz0, hz1, hz2⟩ := info_parts Try.infoSd; obtain ⟨ALL, hALL⟩ : ∃ l, allSd (L.map Fc.rings) = l := ⟨_, rfl⟩; rw [hALL] at HSL hall ⊢; clear hALL; have kB := Boxed.new w 79 (.slice none 0 0); have hB0 := Below.new w (.cells #[.slice none 0 0] 79)
  go_wp2_with fail
  obtain ⟨W0, hW0⟩ : ∃ W, w.alloc (.cells #[.slice none 0 0] 79) = W := ⟨_, rfl⟩; have hsz : W0.heap.size = w.heap.size + 1 := by rw [← hW0]; simp
  rw [hW0] at kB hB0 ⊢; clear hW0; refine (wpIn_wide (n := 5)).1 ?_; refine wpIn_rangeFunc_leave rfl (by decide) (gf := 100) (lb := #[.pointer (some ⟨Bn, 0, none⟩)]) rfl trivial (enters_of Try.func100 (by kernel_rfl) rfl)
    HSL.out (fun h k => h.trans k) (fun W l o o' hl h1 h2 => putObj_below _ W l o' (by omega)) hB0 (fun _ => rfl)
    (ApI w w.heap.size 79 82) (fun _ _ _ => False) (ApI.own (by omega)) (fun _ => ownFrom_pure _ _) (ownFrom_pure _ _)
    ⟨_, kB, World.ownsRow_nil _ _ _ _, hB0⟩
    (fun (pre : List Sd) (x : Sd) a' W => ApI w w.heap.size 79 82 pre W ∧ pre ++ [x] <+: ALL ∧ ∃ Bv, w.heap.size + 1 ≤ Bv ∧ Blk W Bv x.cells ∧ a' = { tmps := List.toArray (Value.slice none 0 0 :: (Value.func (Fn.func 100) #[] #[Value.pointer (some ⟨Bn, 0, none⟩)]) :: Value.pointer (some ⟨w.heap.size, 0, none⟩) :: undef :: Value.slice none 0 0 :: Value.pointer (some ⟨Bv, 0, none⟩) :: (Value.func (Fn.func 100) #[] #[Value.pointer (some ⟨Bn, 0, none⟩)]) :: x.val :: undef :: undef :: undef :: undef :: undef :: []), defers := [] })
    ?hM ?assign ?body ?done ?stop
  case hM =>
    rintro pre x a' _ X Y row ⟨hI, hx, Bv, hb, bV, rfl⟩ hg hrow; have hne : some Bv ≠ row := by
      intro e; obtain ⟨o, ho, hc⟩ := (hrow Bv e.symm).2; obtain ⟨U, hU⟩ := bV; rw [hU] at ho
      cases ho
      cases hc
    exact ⟨ApI.own (B := W0.heap.size) (by omega) pre X Y row hI hg hrow, hx, Bv, hb, bV.grown hg hne, rfl⟩
  case assign =>
    rintro l' pre ⟨fi, ri, ⟨x1, y1⟩, ⟨x2, y2⟩⟩ W hI hx; dsimp only [Sd.val]; have HI := Lib.hid hI; obtain ⟨v, h1, h2, h3⟩ := hI; have hlt := h1.lt; clear h1 h2 h3
    gi_wp2
    exact ⟨KeepsOthers.alloc _ _, (Below.refl _ _).alloc (by omega) _, (ApI.own (B := W0.heap.size) (by omega)).alloc _ HI.out, hx, W.heap.size, by omega, Blk.new W [.int .i64 fi, .int .i64 ri, .int .i64 x1, .int .i64 y1, .int .i64 x2, .int .i64 y2] 82, rfl⟩
  case body =>
    rintro l' pre ⟨fi, ri, ⟨x1, y1⟩, ⟨x2, y2⟩⟩ a' W ⟨⟨v, kv, ho, hbl⟩, hpx, Bv, hb, bV, rfl⟩; have hpl : pre.length + 1 ≤ 1000000 := by
      have := hpx.length_le; simp at this; omega
    have HRR := Lib.hid bV; dsimp only [Sd.cells, Sd.val] at bV ⊢; have v0 := bV.cell 0 rfl; have v1 := bV.cell 1 rfl; have v2 := bV.cell 2 rfl; have v3 := bV.cell 3 rfl; have v4 := bV.cell 4 rfl; have v5 := bV.cell 5 rfl; have cB := kv.cell; have fB := kv.frozen; have hsW : w.heap.size ≤ W.heap.size := hbl.size
    gi_wp2_with (gi_at_builtin; go_must (refine wpListIn_append_own _ rfl (.tmp 8) (.tmp 10) 79 rfl w.heap.size 82 i0 (.agg #[.int .i64 0, .int .i64 0, .int .i64 0, .int .i64 0, .int .i64 0, .int .i64 0]) 6 48 Try.underlying79 hi hz0 hz1 hz2 rfl (by decide) v pre.length (sds pre) rfl (ho.below (Below.new _ _)) ⟨W.heap.size, 0, none⟩ 1 1 (Sd.cells ⟨fi, ri, ⟨x1, y1⟩, ⟨x2, y2⟩⟩) rfl rfl (Rd.lit _ _ _ _ (by simp)).add (Sd.cells_one _) (by unfold maxLen; omega) (by omega) (by simp; omega) ?_); intro v' w3 hown' hgrow _; obtain ⟨g', cap', rfl⟩ := ownsRow_succ hown'; obtain ⟨hv1, hv2, hr2, hk2, hb3⟩ := kv.appended (by decide) ho hsW (Nat.le_refl _) hown' hgrow; have hc1 := hv1.cell; have hf1 := hv1.frozen)
    refine ⟨hk2, hb3, _, hv2, ?_, hbl.trans hb3⟩; rw [sds_snoc, List.length_append]; exact hr2
  case done =>
    rintro D xs W hD rfl ⟨v, kv, ho, hbl⟩ hK; have cB := kv.cell; have hDl : D < W.heap.size := (Array.getElem?_eq_some_iff.1 hK).1; go_wp2; refine ⟨by simp, .inl ⟨_, _, rfl, run_takeDeferred hK, ?_⟩⟩; refine ⟨v, by simp [results, Try.results99, go_sem], v, rfl, ownsRow_putObj ho _ hK rfl, hbl.trans (putObj_below _ W D _ (by omega))⟩
  case stop =>
    rintro D cc pre W hD hF hK; exact hF.elim

theorem collect_any (Bn : Nat) (a : Option Addr) (c : Nat) (L : List Fc) (hlen : L.length ≤ 1000000) (hl1 : ∀ f ∈ L, f.rs.length ≤ 1000000) (hl2 : ∀ f ∈ L, ∀ r ∈ f.rs, r.l.length ≤ 1000000) (hall : (allSd (L.map Fc.rings)).length ≤ 1000000)
    (w : World) (hr : Rd w a (fcs L)) (hok : ∀ f ∈ L, f.Ok w) (fr : Nat × Nat) (hBn : w.heap[Bn]? = some (.cells #[.slice a L.length c] 22 fr)) :
    Calls Try.prog 72 #[.func (.func 100) #[] #[.pointer (some ⟨Bn, 0, none⟩)]] w fun e w' => ∃ v, e = .returned v ∧ w'.ownsRow w.heap.size 82 6 v (allSd (L.map Fc.rings)).length (sds (allSd (L.map Fc.rings))) ∧ Below w.heap.size w w' := by
  have H := Lib.hid (appseq_any Bn a c L hlen hl1 hl2 hall w hr hok fr hBn)
  go_enter Try.func72, Try.ntmps72
  go_wp2_with fail
  refine H.out.mono ?_; rintro e w1 ⟨v, rfl, ho, hb⟩; go_wp2; go_ret; exact ⟨v, rfl, ho, hb⟩

theorem fsides_any (a : Option Addr) (c : Nat) (L : List Fc) (hlen : L.length ≤ 1000000) (hl1 : ∀ f ∈ L, f.rs.length ≤ 1000000) (hl2 : ∀ f ∈ L, ∀ r ∈ f.rs, r.l.length ≤ 1000000) (hall : (allSd (L.map Fc.rings)).length ≤ 1000000)
    (w : World) (hr : Rd w a (fcs L)) (hok : ∀ f ∈ L, f.Ok w) :
    Calls Try.prog 44 #[.slice a L.length c] w fun e w' => ∃ v, e = .returned v ∧ w'.ownsRow w.heap.size 82 6 v (allSd (L.map Fc.rings)).length (sds (allSd (L.map Fc.rings))) ∧ Below w.heap.size w w' := by
  have hb := Below.new w (.cells #[.slice a L.length c] 22); have H := Lib.hid (collect_any w.heap.size a c L hlen hl1 hl2 hall (w.alloc (.cells #[.slice a L.length c] 22)) (hr.keep hb) (fun f hf => (hok f hf).keep hb) (0, 0) (heap_alloc_new w _))
  go_enter Try.func44, Try.ntmps44
  go_wp2_with fail
  refine (callsIn_wide.1 (sides_in 5 a L.length c _)).mono ?_; rintro e w1 ⟨rfl, rfl⟩
  go_wp2_with fail
  refine H.out.mono ?_; rintro e w2 ⟨v, rfl, ho, hb2⟩; go_wp2; go_ret; exact ⟨v, rfl, ho.mono (by simp), hb.trans (hb2.mono (by simp))⟩
end Go.Proofs.Ytccamjnomjcchaa
