/-
  (*rows.Index).Add of nothing; rows.New. rows.Meet, of boxes that may be. order.merged, of any two lists of numbers.
-/
import Derived.Test.YtccamjnomjcchaaPk15
import Derived.Test.YtccamjnomjcchaaPk4
import Derived.Test.YtccamjnomjcchaaPk14
/- (*rows.Index).Add of nothing; rows.New. -/
set_option linter.unusedVariables false
set_option linter.unusedSimpArgs false
set_option maxRecDepth 100000
namespace Go.Proofs.Ytccamjnomjcchaa
open Go.RowKit
set_option maxHeartbeats 3200000 in
theorem add_none (B : Nat) (w : World) (hi : IdxOk w B []) :
    Calls Try.prog 58 #[.pointer (some ⟨B + 1, 0, none⟩), .slice none 0 0] w fun e w' => (∃ v, e = .returned v) ∧ Below w.heap.size w w' := by
  obtain ⟨va, vg, f, m, n, hkp, hV, hn, hI, hok⟩ := hi; obtain ⟨xa, xc, hve, -, -, -, -, -⟩ := hI.all.form; subst hve; have kp := hkp.alloc (.cells #[.pointer (some ⟨B + 1, 0, none⟩)] 101); have kT := Blk.new w [.pointer (some ⟨B + 1, 0, none⟩)] 101; have q0 := kT.cell 0 rfl; have q1 := kp.cell 0 rfl; have hlt := hkp.lt; have hne : ¬ B + 1 = w.heap.size := by omega
  clear hV hI hok hn
  go_enter Try.func58, Try.ntmps58
  go_wp2; refine wp_loop_rounds 1 ?_; unfold Code.rounds; go_wp2; refine bodyPost_ret (v := .int .i64 0) (by simp [results, Try.results58, go_sem]) rfl ⟨⟨_, rfl⟩, Below.new _ _⟩

set_option maxHeartbeats 3200000 in
theorem new_any (w : World) :
    Calls Try.prog 56 #[.slice none 0 0] w fun e w' => e = .returned (.pointer (some ⟨w.heap.size + 1, 0, none⟩)) ∧ IdxOk w' w.heap.size [] ∧ Below w.heap.size w w' := by
  have hmm := @run_makeMap Try.prog; have hI0 : IdxOk ((w.alloc (.map #[] 0)).alloc (.cells #[.slice none 0 0, .map (some w.heap.size), .slice none 0 0] 147)) w.heap.size [] :=
    ⟨_, _, fun _ => none, 0, 0, Blk.lit (w.alloc (.map #[] 0)) (w.heap.size + 1) [.slice none 0 0, .map (some w.heap.size), .slice none 0 0] 147 (by simp), (VMap.made _ _ _ w).alloc _, by simp, ⟨World.ownsRow_nil _ _ _ _, World.ownsRow_nil _ _ _ _, GRows.made _ _ _ _ _, fun k h => (by cases h), fun a v h => (by cases h)⟩, by simp⟩
  have hb0 : Below w.heap.size w ((w.alloc (.map #[] 0)).alloc (.cells #[.slice none 0 0, .map (some w.heap.size), .slice none 0 0] 147)) := ((Below.refl _ w).alloc (Nat.le_refl _) _).alloc (by simp) _; have hAN := Lib.hid (add_none w.heap.size _ hI0)
  go_enter Try.func56, Try.ntmps56
  go_wp2_with fail
  generalize (w.alloc (.map #[] 0)).alloc (.cells #[.slice none 0 0, .map (some w.heap.size), .slice none 0 0] 147) = w1 at *; refine hAN.out.mono ?_; rintro e w2 ⟨⟨v, rfl⟩, hb2⟩; have HX := Lib.hid (hI0.keep hb2); have hb3 := hb0.trans (hb2.mono hb0.size); clear hI0; go_wp2; exact bodyPost_ret (v := .pointer (some ⟨w.heap.size + 1, 0, none⟩)) (by simp [results, Try.results56, go_sem]) rfl ⟨rfl, HX.out, hb3⟩
end Go.Proofs.Ytccamjnomjcchaa
/- rows.Meet, of boxes that may be. -/
set_option linter.unusedVariables false
set_option linter.unusedSimpArgs false
set_option maxRecDepth 100000
namespace Go.Proofs.Ytccamjnomjcchaa
open Go.RowKit
set_option maxHeartbeats 6400000 in
theorem meet_any (a b : Bx) (ha : a.Ok) (hb : b.Ok) (w : World) :
    Calls Try.prog 107 #[a.val, b.val] w fun e w' => e = .returned (.bool (meetF a b)) ∧ Below w.heap.size w w' := by
  have HA := Lib.hid (fun W => rright_any a ha W); have HB := Lib.hid (fun W => rright_any b hb W); obtain ⟨⟨x1, y1⟩, ⟨x2, y2⟩⟩ := a; obtain ⟨⟨x3, y3⟩, ⟨x4, y4⟩⟩ := b; dsimp only [Bx.val] at *; have HM : Hid (meetF ⟨⟨x1, y1⟩, ⟨x2, y2⟩⟩ ⟨⟨x3, y3⟩, ⟨x4, y4⟩⟩ = (decide (x1 ≤ x4) && decide (x3 ≤ x2) && decide (y1 ≤ y4) && decide (y3 ≤ y2))) := Lib.hid rfl; generalize meetF ⟨⟨x1, y1⟩, ⟨x2, y2⟩⟩ ⟨⟨x3, y3⟩, ⟨x4, y4⟩⟩ = M at *; clear ha hb; have hb0 := (Below.new w (.cells #[.int .i64 x1, .int .i64 y1, .int .i64 x2, .int .i64 y2] 104)).alloc (by simp) (.cells #[.int .i64 x3, .int .i64 y3, .int .i64 x4, .int .i64 y4] 104); have kA := (Blk.lit w w.heap.size [.int .i64 x1, .int .i64 y1, .int .i64 x2, .int .i64 y2] 104 rfl).alloc (.cells #[.int .i64 x3, .int .i64 y3, .int .i64 x4, .int .i64 y4] 104); have kB := Blk.lit (w.alloc (.cells #[.int .i64 x1, .int .i64 y1, .int .i64 x2, .int .i64 y2] 104)) (w.heap.size + 1) [.int .i64 x3, .int .i64 y3, .int .i64 x4, .int .i64 y4] 104 (by simp)
  go_enter Try.func107, Try.ntmps107
  go_wp2_with fail
  generalize (w.alloc (.cells #[.int .i64 x1, .int .i64 y1, .int .i64 x2, .int .i64 y2] 104)).alloc (.cells #[.int .i64 x3, .int .i64 y3, .int .i64 x4, .int .i64 y4] 104) = w0 at *; refine (HA.out w0).mono ?_; rintro e w1 ⟨rfl, hb1⟩; replace kA := kA.keep hb1; replace kB := kB.keep hb1; replace hb0 := hb0.trans (hb1.mono hb0.size); clear hb1; have q0 := kB.cell 0 rfl; have q1 := kB.cell 1 rfl; have q2 := kB.cell 2 rfl; have q3 := kB.cell 3 rfl
  go_wp2_with fail
  refine (HB.out w1).mono ?_; rintro e w2 ⟨rfl, hb2⟩; clear q0 q1 q2 q3; replace kA := kA.keep hb2; replace kB := kB.keep hb2; replace hb0 := hb0.trans (hb2.mono hb0.size); clear hb2; have q0 := kB.cell 0 rfl; have q1 := kB.cell 1 rfl; have q2 := kB.cell 2 rfl; have q3 := kB.cell 3 rfl; have p0 := kA.cell 0 rfl; have p1 := kA.cell 1 rfl; have p2 := kA.cell 2 rfl; have p3 := kA.cell 3 rfl
  by_cases h1 : x1 ≤ x4
  · by_cases h2 : x3 ≤ x2
    · by_cases h3 : y1 ≤ y4
      · by_cases h4 : y3 ≤ y2
        · have HM2 : Hid (M = true) := Lib.hid (by rw [HM.out, decide_eq_true h1, decide_eq_true h2, decide_eq_true h3, decide_eq_true h4]; rfl); clear HM; go_wp2; go_ret; exact ⟨ret_bool HM2.out.symm, hb0⟩
        · have HM2 : Hid (M = false) := Lib.hid (by rw [HM.out, decide_eq_false h4]; simp); clear HM; go_wp2; go_ret; exact ⟨ret_bool ((decide_eq_false (by omega)).trans HM2.out.symm), hb0⟩
      · have HM2 : Hid (M = false) := Lib.hid (by rw [HM.out, decide_eq_false h3]; simp); clear HM; go_wp2; go_ret; exact ⟨ret_bool HM2.out.symm, hb0⟩
    · have HM2 : Hid (M = false) := Lib.hid (by rw [HM.out, decide_eq_false h2]; simp); clear HM; go_wp2; go_ret; exact ⟨ret_bool HM2.out.symm, hb0⟩
  · have HM2 : Hid (M = false) := Lib.hid (by rw [HM.out, decide_eq_false h1]; simp); clear HM; go_wp2; go_ret; exact ⟨ret_bool HM2.out.symm, hb0⟩
end Go.Proofs.Ytccamjnomjcchaa
/- order.merged, of any two lists of numbers. -/
set_option linter.unusedVariables false
set_option linter.unusedSimpArgs false
set_option maxRecDepth 100000
namespace Go
open Go.RowKit
def mergeF : List Int → List Int → List Int
  | [], B => B
  | x :: A, [] => x :: A
  | x :: A, y :: B => if y < x then y :: mergeF (x :: A) B else x :: mergeF A (y :: B)
termination_by A B => A.length + B.length
theorem mergeF_nil (B : List Int) : mergeF [] B = B := by cases B <;> simp [mergeF]
theorem mergeF_nil' (A : List Int) : mergeF A [] = A := by cases A <;> simp [mergeF]
theorem mergeF_left {x y : Int} {A B : List Int} (h : ¬ y < x) : mergeF (x :: A) (y :: B) = x :: mergeF A (y :: B) := by rw [mergeF, if_neg h]
theorem mergeF_right {x y : Int} {A B : List Int} (h : y < x) : mergeF (x :: A) (y :: B) = y :: mergeF (x :: A) B := by rw [mergeF, if_pos h]
theorem mergeF_perm : ∀ (A B : List Int), (mergeF A B).Perm (A ++ B)
  | [], B => by rw [mergeF_nil]; simp
  | x :: A, [] => by rw [mergeF_nil']; simp
  | x :: A, y :: B => by
    by_cases h : y < x
    · rw [mergeF_right h]; refine ((mergeF_perm (x :: A) B).cons y).trans ?_; exact List.perm_middle.symm
    · rw [mergeF_left h]; exact (mergeF_perm A (y :: B)).cons x
termination_by A B => A.length + B.length
theorem mergeF_len (A B : List Int) : (mergeF A B).length = A.length + B.length := by rw [(mergeF_perm A B).length_eq, List.length_append]
theorem mergeF_sorted : ∀ (A B : List Int), A.Pairwise (· ≤ ·) → B.Pairwise (· ≤ ·) → (mergeF A B).Pairwise (· ≤ ·)
  | [], B, _, hB => by rw [mergeF_nil]; exact hB
  | x :: A, [], hA, _ => by rw [mergeF_nil']; exact hA
  | x :: A, y :: B, hA, hB => by
    have hA' := List.pairwise_cons.1 hA; have hB' := List.pairwise_cons.1 hB
    by_cases h : y < x
    · rw [mergeF_right h]; refine List.pairwise_cons.2 ⟨fun z hz => ?_, mergeF_sorted (x :: A) B hA hB'.2⟩
      rcases List.mem_append.1 ((mergeF_perm _ _).mem_iff.1 hz) with h1 | h1
      · rcases List.mem_cons.1 h1 with rfl | h1
        · omega
        · have := hA'.1 z h1; omega
      · exact hB'.1 z h1
    · rw [mergeF_left h]; refine List.pairwise_cons.2 ⟨fun z hz => ?_, mergeF_sorted A (y :: B) hA'.2 hB⟩
      rcases List.mem_append.1 ((mergeF_perm _ _).mem_iff.1 hz) with h1 | h1
      · exact hA'.1 z h1
      · rcases List.mem_cons.1 h1 with rfl | h1
        · omega
        · have := hB'.1 z h1; omega
termination_by A B => A.length + B.length
end Go
namespace Go.Proofs.Ytccamjnomjcchaa
open Go.RowKit

set_option maxHeartbeats 12800000 in
theorem umerged_any (pa pb : Option Addr) (ca cb : Nat) (A B : List Int) (hla : A.length ≤ ca) (hlb : B.length ≤ cb) (hcl : A.length + B.length ≤ 1000000) (hna : pa = none → ca = 0) (hnb : pb = none → cb = 0) (w : World) (hra : Rd w pa (ins A)) (hrb : Rd w pb (ins B)) :
    Calls Try.prog 102 #[.slice pa A.length ca, .slice pb B.length cb, .func (.func 76) #[] #[]] w fun e w' => ∃ v, e = .returned v ∧ w'.ownsRow w.heap.size 3 1 v (A.length + B.length) (ins (mergeF A B)) ∧ Below w.heap.size w w' := by
  obtain ⟨LA, hLA⟩ : ∃ n, A.length = n := ⟨_, rfl⟩; obtain ⟨LB, hLB⟩ : ∃ n, B.length = n := ⟨_, rfl⟩; have HLA := Lib.hid hLA; have HLB := Lib.hid hLB; rw [hLA] at hla hcl ⊢; rw [hLB] at hlb hcl ⊢; clear hLA hLB
  go_enter Try.func102, Try.ntmps102
  go_wp2; refine wp_goto_pre 0 (fun m a' w' => ∃ (pa pb : Option Addr) (ca cb ma mb : Nat) (O A2 B2 : List Int) (o u3 u4 u5 u6 u8 u9 u10 u11 u12 u13 u14 u15 u16 u17 u18 u19 u20 u21 u22 u23 u24 u25 u26 u27 u28 u29 u30 u31 u32 u33 u34 u35 u36 u37 u38 u39 u40 u41 u42 u43 u44 u45 u46 u47 u48 u49 u50 : Value),
    (ma + mb = m ∧ Hid (A2.length = ma) ∧ Hid (B2.length = mb) ∧ Hid (mergeF A B = O ++ mergeF A2 B2) ∧ O.length + ma + mb = LA + LB ∧ ma ≤ ca ∧ mb ≤ cb ∧ (pa = none → ca = 0) ∧ (pb = none → cb = 0) ∧ Rd w pa (ins A2) ∧ Rd w pb (ins B2) ∧ w'.ownsRow w.heap.size 3 1 o O.length (ins O) ∧ Below w.heap.size w w') ∧
    a' = { tmps := #[.slice pa ma ca, .slice pb mb cb, .func (.func 76) #[] #[], u3, u4, u5, u6, o, u8, u9, u10, u11, u12, u13, u14, u15, u16, u17, u18, u19, u20, u21, u22, u23, u24, u25, u26, u27, u28, u29, u30, u31, u32, u33, u34, u35, u36, u37, u38, u39, u40, u41, u42, u43, u44, u45, u46, u47, u48, u49, u50], defers := [] }) rfl ?_ ?_
  · rintro _ a' w' ⟨pa, pb, ca, cb, ma, mb, O, A2, B2, o, u3, u4, u5, u6, u8, u9, u10, u11, u12, u13, u14, u15, u16, u17, u18, u19, u20, u21, u22, u23, u24, u25, u26, u27, u28, u29, u30, u31, u32, u33, u34, u35, u36, u37, u38, u39, u40, u41, u42, u43, u44, u45, u46, u47, u48, u49, u50, ⟨rfl, HMA, HMB, HM, hlen, hl1, hl2, hn1, hn2, hr1, hr2, ho, hbb⟩, rfl⟩ J hJ; have HJ := Lib.hid hJ; clear hJ hra hrb
    by_cases hz1 : ma = 0
    · subst hz1
      go_wp2_with (at_builtin; first
        | (refine wpList_app' w hbb rfl (.tmp 22) (.tmp 23) 43 rfl 3 (.int .i64 0) 1 8 Try.underlying43 Try.infoIz rfl (by decide) o O.length (ins O) rfl ho pa 0 ca (ins A2) rfl hn1 (hr1.keep hbb) (by rw [ins_len, HMA.out]) (ins_one A2) (by omega) (by decide) ?_
           intro v3 w3 ho3 hg3 hb3)
        | (refine wpList_app' w hb3 rfl (.tmp 24) (.tmp 25) 43 rfl 3 (.int .i64 0) 1 8 Try.underlying43 Try.infoIz rfl (by decide) v3 (O.length + 0) (ins O ++ ins A2) rfl ho3 pb mb cb (ins B2) rfl hn2 (hr2.keep hb3) (by rw [ins_len, HMB.out]) (ins_one B2) (by omega) (by decide) ?_
           intro v4 w4 ho4 hg4 hb4))
      try rw [Exit.jump_ret]
      refine bodyPost_ret (v := v4) (by simp [results, Try.results102, go_sem]) rfl ⟨v4, rfl, ?_, hb4⟩; have e9 : ins (mergeF A B) = ins O ++ ins A2 ++ ins B2 := by
        rw [HM.out]; have h0 : A2 = [] := List.length_eq_zero_iff.1 HMA.out; rw [h0, mergeF_nil]; simp [ins]
      rw [e9, ← hlen]; exact ho4
    have e1 : ((ma : Int) == 0) = false := by rw [beq_eq_false_iff_ne]; omega
    by_cases hz2 : mb = 0
    · subst hz2
      go_wp2_with (at_builtin; first
        | (refine wpList_app' w hbb rfl (.tmp 22) (.tmp 23) 43 rfl 3 (.int .i64 0) 1 8 Try.underlying43 Try.infoIz rfl (by decide) o O.length (ins O) rfl ho pa ma ca (ins A2) rfl hn1 (hr1.keep hbb) (by rw [ins_len, HMA.out]) (ins_one A2) (by omega) (by decide) ?_
           intro v3 w3 ho3 hg3 hb3)
        | (refine wpList_app' w hb3 rfl (.tmp 24) (.tmp 25) 43 rfl 3 (.int .i64 0) 1 8 Try.underlying43 Try.infoIz rfl (by decide) v3 (O.length + ma) (ins O ++ ins A2) rfl ho3 pb 0 cb (ins B2) rfl hn2 (hr2.keep hb3) (by rw [ins_len, HMB.out]) (ins_one B2) (by omega) (by decide) ?_
           intro v4 w4 ho4 hg4 hb4))
      try rw [Exit.jump_ret]
      refine bodyPost_ret (v := v4) (by simp [results, Try.results102, go_sem]) rfl ⟨v4, rfl, ?_, hb4⟩; have e9 : ins (mergeF A B) = ins O ++ ins A2 ++ ins B2 := by
        rw [HM.out]; have h0 : B2 = [] := List.length_eq_zero_iff.1 HMB.out; rw [h0, mergeF_nil']; simp [ins]
      rw [e9, ← hlen]; exact ho4
    have e2 : ((mb : Int) == 0) = false := by rw [beq_eq_false_iff_ne]; omega
    obtain ⟨x0, A3, rfl⟩ : ∃ x l, A2 = x :: l := by
      cases A2 with
      | nil => exact absurd HMA.out.symm hz1
      | cons x l => exact ⟨x, l, rfl⟩
    obtain ⟨y0, B3, rfl⟩ : ∃ x l, B2 = x :: l := by
      cases B2 with
      | nil => exact absurd HMB.out.symm hz2
      | cons x l => exact ⟨x, l, rfl⟩
    have HMA3 : Hid (A3.length + 1 = ma) := HMA; have HMB3 : Hid (B3.length + 1 = mb) := HMB; have HR1 := Lib.hid hr1; have HR2 := Lib.hid hr2; obtain ⟨b, off, rfl, hca, -⟩ := (hr1.keep hbb).at (i := 0) (v := .int .i64 x0) rfl; obtain ⟨b2, off2, rfl, hcb, -⟩ := (hr2.keep hbb).at (i := 0) (v := .int .i64 y0) rfl; have hca : w'.cell? ⟨b, off, none⟩ = some (.int .i64 x0) := hca; have hcb : w'.cell? ⟨b2, off2, none⟩ = some (.int .i64 y0) := hcb; have hlen1 : (1 : Int) ≤ (ma : Int) := by omega
    have hlen2 : (1 : Int) ≤ (mb : Int) := by omega
    have hm0 : 0 < ma := by omega
    have hm1 : 0 < mb := by omega
    have hlen0 : (0 : Int) < (ma : Int) := by omega
    have hbl0 : (0 : Int) < (mb : Int) := by omega
    have hca1 : (1 : Int) ≤ (ca : Int) := by omega
    have hcb1 : (1 : Int) ≤ (cb : Int) := by omega
    clear hr1 hr2
    by_cases hcmp : y0 < x0
    · have hU := Lib.hid (uless_any y0 x0); rw [decide_eq_true hcmp] at hU; have HM2 : Hid (mergeF A B = (O ++ [y0]) ++ mergeF (x0 :: A3) B3) := Lib.hid (by rw [HM.out, mergeF_right hcmp]; simp); go_wp2
      go_quiet (refine Calls.quiet_of_same (hU.out _))
      have hoq : (w'.drewN nq).ownsRow w.heap.size 3 1 o O.length (ins O) := ho; have hbq := below_drewN hbb nq; go_wp2
      by_cases hc1 : cb = 1
      · subst hc1; have HL0 : Hid (B3.length = 0) := Lib.hid (by have := HMB3.out; omega); refine wp_region_lit_txt [0, 1, 2, 3, 6, 7, 8, 9] (fun W => Below w.heap.size w W) (by kernel_rfl) (by kernel_rfl) (by kernel_rfl) hbq.drew ?_; have hoq : (w'.drewN nq).drew.ownsRow w.heap.size 3 1 o O.length (ins O) := hoq; have hbq := hbq.drew; generalize (w'.drewN nq).drew = wa at *
        iterate 3 ((refine txt_light ?_ rfl rfl ?_ ?_; rotate_left; · (intro w' hS; (try dsimp only at hS); go_simp; with_reducible rfl)); try simp only [Act.put, List.setIfInBounds_toArray, List.set_cons_zero, List.set_cons_succ])
        refine txt_light (.int .i64 y0) rfl rfl ?_ ?_
        · intro w' hS; obtain ⟨b', o', he, c0, _⟩ := (HR2.out.keep hS).at (i := 0) (v := .int .i64 y0) rfl
          cases he
          have c0 : w'.cell? ⟨b2, off2, none⟩ = some (.int .i64 y0) := c0; go_simp
        try simp only [Act.put, List.setIfInBounds_toArray, List.set_cons_zero, List.set_cons_succ]
        refine txt_heavy rfl rfl (fun K hK => ?_); go_step; have hbd := hbq.alloc hbq.size (.cells #[.int .i64 y0] 3); have hod := hoq.alloc (.cells #[.int .i64 y0] 3); have hrl := Rd.lit wa wa.heap.size [.int .i64 y0] 3 rfl; refine hK.out _ _ hbd ?_; clear hK K
        try simp only [Act.put, List.setIfInBounds_toArray, List.set_cons_zero, List.set_cons_succ]
        refine txt_heavy rfl rfl (fun K hK => ?_); refine wp_app (.tmp 35) (.tmp 39) 43 rfl w.heap.size 3 (.int .i64 0) 1 8 Try.underlying43 Try.infoIz rfl (by decide) o O.length (ins O) rfl hod (some ⟨wa.heap.size, 0, none⟩) 1 1 [.int .i64 y0] rfl (fun h => by cases h) hrl rfl (by simp [Value.oneCell']) (by omega) (by decide) hbd.size ?_; intro v5 w5 ho5 hg5; have hb5 := hbd.grown hg5 hbd.size (fun x hx => (hod.lt x hx).1); refine hK.out _ _ hb5 ?_; clear hK K
        try simp only [Act.put, List.setIfInBounds_toArray, List.set_cons_zero, List.set_cons_succ]
        iterate 4 ((refine txt_light ?_ rfl rfl ?_ ?_; rotate_left; · (intro w' hS; (try dsimp only at hS); go_simp; with_reducible rfl)); try simp only [Act.put, List.setIfInBounds_toArray, List.set_cons_zero, List.set_cons_succ])
        refine txt_nil ?_; go_wp2
        go_step3
        show (0 : Nat) = 0 ∧ J _ _; refine ⟨rfl, HJ.out (ma + (0)) _ _ (by have := HMA3.out; have := HMB3.out; have := HL0.out; omega) ⟨some ⟨b, off, none⟩, some ⟨b2, off2, none⟩, ca, 0, ma, 0, O ++ [y0], x0 :: A3, B3, v5, _, _, _, _, _, _, _, _, _, _, _, _, _, _, _, _, _, _, _, _, _, _, _, _, _, _, _, _, _, _, _, _, _, _, _, _, _, _, _, _, _, _, _, _, _, _, _, ⟨rfl, Lib.hid (by have := HMA3.out; have := HMB3.out; have := HL0.out; first | omega | (simp; omega)), Lib.hid (by have := HMA3.out; have := HMB3.out; have := HL0.out; first | omega | (simp; omega)), HM2, (by have := HMA3.out; have := HMB3.out; have := HL0.out; simp only [List.length_append, List.length_cons, List.length_nil]; omega), (by have := HMA3.out; have := HMB3.out; have := HL0.out; omega), (by have := HMA3.out; have := HMB3.out; have := HL0.out; omega), (fun h => by cases h), (fun h => by cases h), HR1.out, (by have h0 : B3 = [] := List.length_eq_zero_iff.1 HL0.out; rw [h0]; exact .inl rfl), ?_, hb5⟩, rfl⟩⟩; have e1 : ins (O ++ [y0]) = ins O ++ [.int .i64 y0] := by simp [ins]
        rw [e1, List.length_append]; exact ho5
      · have hc2 : ¬ (cb : Int) = 1 := by omega
        refine wp_region_lit_txt [0, 1, 2, 3, 6, 7, 8, 9] (fun W => Below w.heap.size w W) (by kernel_rfl) (by kernel_rfl) (by kernel_rfl) hbq.drew ?_; have hoq : (w'.drewN nq).drew.ownsRow w.heap.size 3 1 o O.length (ins O) := hoq; have hbq := hbq.drew; generalize (w'.drewN nq).drew = wa at *
        iterate 3 ((refine txt_light ?_ rfl rfl ?_ ?_; rotate_left; · (intro w' hS; (try dsimp only at hS); go_simp; with_reducible rfl)); try simp only [Act.put, List.setIfInBounds_toArray, List.set_cons_zero, List.set_cons_succ])
        refine txt_light (.int .i64 y0) rfl rfl ?_ ?_
        · intro w' hS; obtain ⟨b', o', he, c0, _⟩ := (HR2.out.keep hS).at (i := 0) (v := .int .i64 y0) rfl
          cases he
          have c0 : w'.cell? ⟨b2, off2, none⟩ = some (.int .i64 y0) := c0; go_simp
        try simp only [Act.put, List.setIfInBounds_toArray, List.set_cons_zero, List.set_cons_succ]
        refine txt_heavy rfl rfl (fun K hK => ?_); go_step; have hbd := hbq.alloc hbq.size (.cells #[.int .i64 y0] 3); have hod := hoq.alloc (.cells #[.int .i64 y0] 3); have hrl := Rd.lit wa wa.heap.size [.int .i64 y0] 3 rfl; refine hK.out _ _ hbd ?_; clear hK K
        try simp only [Act.put, List.setIfInBounds_toArray, List.set_cons_zero, List.set_cons_succ]
        refine txt_heavy rfl rfl (fun K hK => ?_); refine wp_app (.tmp 35) (.tmp 39) 43 rfl w.heap.size 3 (.int .i64 0) 1 8 Try.underlying43 Try.infoIz rfl (by decide) o O.length (ins O) rfl hod (some ⟨wa.heap.size, 0, none⟩) 1 1 [.int .i64 y0] rfl (fun h => by cases h) hrl rfl (by simp [Value.oneCell']) (by omega) (by decide) hbd.size ?_; intro v5 w5 ho5 hg5; have hb5 := hbd.grown hg5 hbd.size (fun x hx => (hod.lt x hx).1); refine hK.out _ _ hb5 ?_; clear hK K
        try simp only [Act.put, List.setIfInBounds_toArray, List.set_cons_zero, List.set_cons_succ]
        iterate 4 ((refine txt_light ?_ rfl rfl ?_ ?_; rotate_left; · (intro w' hS; (try dsimp only at hS); go_simp; with_reducible rfl)); try simp only [Act.put, List.setIfInBounds_toArray, List.set_cons_zero, List.set_cons_succ])
        refine txt_nil ?_; go_wp2
        go_step3
        show (0 : Nat) = 0 ∧ J _ _; refine ⟨rfl, HJ.out (ma + (mb - 1)) _ _ (by have := HMA3.out; have := HMB3.out; omega) ⟨some ⟨b, off, none⟩, some ⟨b2, off2 + 1, none⟩, ca, cb - 1, ma, mb - 1, O ++ [y0], x0 :: A3, B3, v5, _, _, _, _, _, _, _, _, _, _, _, _, _, _, _, _, _, _, _, _, _, _, _, _, _, _, _, _, _, _, _, _, _, _, _, _, _, _, _, _, _, _, _, _, _, _, _, ⟨rfl, Lib.hid (by have := HMA3.out; have := HMB3.out; first | omega | (simp; omega)), Lib.hid (by have := HMA3.out; have := HMB3.out; first | omega | (simp; omega)), HM2, (by have := HMA3.out; have := HMB3.out; simp only [List.length_append, List.length_cons, List.length_nil]; omega), (by have := HMA3.out; have := HMB3.out; omega), (by have := HMA3.out; have := HMB3.out; omega), (fun h => by cases h), (fun h => by cases h), HR1.out, HR2.out.drop 1, ?_, hb5⟩, rfl⟩⟩; have e1 : ins (O ++ [y0]) = ins O ++ [.int .i64 y0] := by simp [ins]
        rw [e1, List.length_append]; exact ho5
    · have hU := Lib.hid (uless_any y0 x0); rw [decide_eq_false hcmp] at hU; have HM2 : Hid (mergeF A B = (O ++ [x0]) ++ mergeF A3 (y0 :: B3)) := Lib.hid (by rw [HM.out, mergeF_left hcmp]; simp); go_wp2
      go_quiet (refine Calls.quiet_of_same (hU.out _))
      have hoq : (w'.drewN nq).ownsRow w.heap.size 3 1 o O.length (ins O) := ho; have hbq := below_drewN hbb nq; go_wp2
      by_cases hc1 : ca = 1
      · subst hc1; have HL0 : Hid (A3.length = 0) := Lib.hid (by have := HMA3.out; omega); refine wp_region_lit_txt [0, 1, 2, 3, 6, 7, 8, 9] (fun W => Below w.heap.size w W) (by kernel_rfl) (by kernel_rfl) (by kernel_rfl) hbq.drew ?_; have hoq : (w'.drewN nq).drew.ownsRow w.heap.size 3 1 o O.length (ins O) := hoq; have hbq := hbq.drew; generalize (w'.drewN nq).drew = wa at *
        iterate 3 ((refine txt_light ?_ rfl rfl ?_ ?_; rotate_left; · (intro w' hS; (try dsimp only at hS); go_simp; with_reducible rfl)); try simp only [Act.put, List.setIfInBounds_toArray, List.set_cons_zero, List.set_cons_succ])
        refine txt_light (.int .i64 x0) rfl rfl ?_ ?_
        · intro w' hS; obtain ⟨b', o', he, c0, _⟩ := (HR1.out.keep hS).at (i := 0) (v := .int .i64 x0) rfl
          cases he
          have c0 : w'.cell? ⟨b, off, none⟩ = some (.int .i64 x0) := c0; go_simp
        try simp only [Act.put, List.setIfInBounds_toArray, List.set_cons_zero, List.set_cons_succ]
        refine txt_heavy rfl rfl (fun K hK => ?_); go_step; have hbd := hbq.alloc hbq.size (.cells #[.int .i64 x0] 3); have hod := hoq.alloc (.cells #[.int .i64 x0] 3); have hrl := Rd.lit wa wa.heap.size [.int .i64 x0] 3 rfl; refine hK.out _ _ hbd ?_; clear hK K
        try simp only [Act.put, List.setIfInBounds_toArray, List.set_cons_zero, List.set_cons_succ]
        refine txt_heavy rfl rfl (fun K hK => ?_); refine wp_app (.tmp 43) (.tmp 47) 43 rfl w.heap.size 3 (.int .i64 0) 1 8 Try.underlying43 Try.infoIz rfl (by decide) o O.length (ins O) rfl hod (some ⟨wa.heap.size, 0, none⟩) 1 1 [.int .i64 x0] rfl (fun h => by cases h) hrl rfl (by simp [Value.oneCell']) (by omega) (by decide) hbd.size ?_; intro v5 w5 ho5 hg5; have hb5 := hbd.grown hg5 hbd.size (fun x hx => (hod.lt x hx).1); refine hK.out _ _ hb5 ?_; clear hK K
        try simp only [Act.put, List.setIfInBounds_toArray, List.set_cons_zero, List.set_cons_succ]
        iterate 4 ((refine txt_light ?_ rfl rfl ?_ ?_; rotate_left; · (intro w' hS; (try dsimp only at hS); go_simp; with_reducible rfl)); try simp only [Act.put, List.setIfInBounds_toArray, List.set_cons_zero, List.set_cons_succ])
        refine txt_nil ?_; go_wp2
        go_step3
        show (0 : Nat) = 0 ∧ J _ _; refine ⟨rfl, HJ.out (0 + (mb)) _ _ (by have := HMA3.out; have := HMB3.out; have := HL0.out; omega) ⟨some ⟨b, off, none⟩, some ⟨b2, off2, none⟩, 0, cb, 0, mb, O ++ [x0], A3, y0 :: B3, v5, _, _, _, _, _, _, _, _, _, _, _, _, _, _, _, _, _, _, _, _, _, _, _, _, _, _, _, _, _, _, _, _, _, _, _, _, _, _, _, _, _, _, _, _, _, _, _, ⟨rfl, Lib.hid (by have := HMA3.out; have := HMB3.out; have := HL0.out; first | omega | (simp; omega)), Lib.hid (by have := HMA3.out; have := HMB3.out; have := HL0.out; first | omega | (simp; omega)), HM2, (by have := HMA3.out; have := HMB3.out; have := HL0.out; simp only [List.length_append, List.length_cons, List.length_nil]; omega), (by have := HMA3.out; have := HMB3.out; have := HL0.out; omega), (by have := HMA3.out; have := HMB3.out; have := HL0.out; omega), (fun h => by cases h), (fun h => by cases h), (by have h0 : A3 = [] := List.length_eq_zero_iff.1 HL0.out; rw [h0]; exact .inl rfl), HR2.out, ?_, hb5⟩, rfl⟩⟩; have e1 : ins (O ++ [x0]) = ins O ++ [.int .i64 x0] := by simp [ins]
        rw [e1, List.length_append]; exact ho5
      · have hc2 : ¬ (ca : Int) = 1 := by omega
        refine wp_region_lit_txt [0, 1, 2, 3, 6, 7, 8, 9] (fun W => Below w.heap.size w W) (by kernel_rfl) (by kernel_rfl) (by kernel_rfl) hbq.drew ?_; have hoq : (w'.drewN nq).drew.ownsRow w.heap.size 3 1 o O.length (ins O) := hoq; have hbq := hbq.drew; generalize (w'.drewN nq).drew = wa at *
        iterate 3 ((refine txt_light ?_ rfl rfl ?_ ?_; rotate_left; · (intro w' hS; (try dsimp only at hS); go_simp; with_reducible rfl)); try simp only [Act.put, List.setIfInBounds_toArray, List.set_cons_zero, List.set_cons_succ])
        refine txt_light (.int .i64 x0) rfl rfl ?_ ?_
        · intro w' hS; obtain ⟨b', o', he, c0, _⟩ := (HR1.out.keep hS).at (i := 0) (v := .int .i64 x0) rfl
          cases he
          have c0 : w'.cell? ⟨b, off, none⟩ = some (.int .i64 x0) := c0; go_simp
        try simp only [Act.put, List.setIfInBounds_toArray, List.set_cons_zero, List.set_cons_succ]
        refine txt_heavy rfl rfl (fun K hK => ?_); go_step; have hbd := hbq.alloc hbq.size (.cells #[.int .i64 x0] 3); have hod := hoq.alloc (.cells #[.int .i64 x0] 3); have hrl := Rd.lit wa wa.heap.size [.int .i64 x0] 3 rfl; refine hK.out _ _ hbd ?_; clear hK K
        try simp only [Act.put, List.setIfInBounds_toArray, List.set_cons_zero, List.set_cons_succ]
        refine txt_heavy rfl rfl (fun K hK => ?_); refine wp_app (.tmp 43) (.tmp 47) 43 rfl w.heap.size 3 (.int .i64 0) 1 8 Try.underlying43 Try.infoIz rfl (by decide) o O.length (ins O) rfl hod (some ⟨wa.heap.size, 0, none⟩) 1 1 [.int .i64 x0] rfl (fun h => by cases h) hrl rfl (by simp [Value.oneCell']) (by omega) (by decide) hbd.size ?_; intro v5 w5 ho5 hg5; have hb5 := hbd.grown hg5 hbd.size (fun x hx => (hod.lt x hx).1); refine hK.out _ _ hb5 ?_; clear hK K
        try simp only [Act.put, List.setIfInBounds_toArray, List.set_cons_zero, List.set_cons_succ]
        iterate 4 ((refine txt_light ?_ rfl rfl ?_ ?_; rotate_left; · (intro w' hS; (try dsimp only at hS); go_simp; with_reducible rfl)); try simp only [Act.put, List.setIfInBounds_toArray, List.set_cons_zero, List.set_cons_succ])
        refine txt_nil ?_; go_wp2
        go_step3
        show (0 : Nat) = 0 ∧ J _ _; refine ⟨rfl, HJ.out (ma - 1 + (mb)) _ _ (by have := HMA3.out; have := HMB3.out; omega) ⟨some ⟨b, off + 1, none⟩, some ⟨b2, off2, none⟩, ca - 1, cb, ma - 1, mb, O ++ [x0], A3, y0 :: B3, v5, _, _, _, _, _, _, _, _, _, _, _, _, _, _, _, _, _, _, _, _, _, _, _, _, _, _, _, _, _, _, _, _, _, _, _, _, _, _, _, _, _, _, _, _, _, _, _, ⟨rfl, Lib.hid (by have := HMA3.out; have := HMB3.out; first | omega | (simp; omega)), Lib.hid (by have := HMA3.out; have := HMB3.out; first | omega | (simp; omega)), HM2, (by have := HMA3.out; have := HMB3.out; simp only [List.length_append, List.length_cons, List.length_nil]; omega), (by have := HMA3.out; have := HMB3.out; omega), (by have := HMA3.out; have := HMB3.out; omega), (fun h => by cases h), (fun h => by cases h), HR1.out.drop 1, HR2.out, ?_, hb5⟩, rfl⟩⟩; have e1 : ins (O ++ [x0]) = ins O ++ [.int .i64 x0] := by simp [ins]
        rw [e1, List.length_append]; exact ho5
  · intro J HL; obtain ⟨iu, hi, hzz⟩ := Option.map_eq_some_iff.1 Try.infoIz; simp only [Prod.mk.injEq] at hzz; obtain ⟨hz0, hz1, hz2⟩ := hzz
    go_wp2_with (at_make; go_must (refine wpList_make_own _ rfl _ (.tmp 12) 43 rfl w.heap.size 3 iu (.int .i64 0) 1 Try.underlying43 hi hz0 hz1 .i64 .i64 ((LA : Int) + (LB : Int)) (LA + LB) rfl rfl (by omega) (by rw [hz2]; omega) (by unfold maxLen; omega) (Nat.le_refl _) ?_); intro w2 hown2 hgrow2; have hB2 : Below w.heap.size w w2 := (Below.refl _ _).grown hgrow2 (Nat.le_refl _) (fun x hx => by cases hx))
    go_step3
    go_step; go_step; exact HL.out (LA + LB) _ _ ⟨pa, pb, ca, cb, LA, LB, [], A, B, .slice (some ⟨w.heap.size, 0, none⟩) 0 (LA + LB), _, _, _, _, _, _, _, _, _, _, _, _, _, _, _, _, _, _, _, _, _, _, _, _, _, _, _, _, _, _, _, _, _, _, _, _, _, _, _, _, _, _, _, _, _, _, _, ⟨rfl, HLA, HLB, Lib.hid rfl, by simp, hla, hlb, hna, hnb, hra, hrb, hown2, hB2⟩, rfl⟩
end Go.Proofs.Ytccamjnomjcchaa
