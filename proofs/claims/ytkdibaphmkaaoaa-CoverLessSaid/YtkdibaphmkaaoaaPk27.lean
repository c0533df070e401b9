/-
  CoverLess: the walk.
-/
import Derived.Test.YtkdibaphmkaaoaaPk24
import Derived.Test.YtkdibaphmkaaoaaPk26
/- CoverLess: the walk. -/
set_option linter.unusedVariables false
set_option linter.unusedSimpArgs false
set_option maxRecDepth 100000
namespace Go.Proofs.Ytkdibaphmkaaoaa
open Go.RowKit
theorem u64_bd (z : Int) : 0 ≤ IntKind.u64.wrap z ∧ IntKind.u64.wrap z ≤ 18446744073709551615 := by
  have h : IntKind.u64.wrap z = z % 18446744073709551616 := by simp [IntKind.wrap, IntKind.signed, IntKind.bits]
  rw [h]
  omega
theorem fcs_take (l : List Fc) (n : Nat) : (fcs l).take (n * 2) = fcs (l.take n) := by
  induction l generalizing n with
  | nil => simp [fcs]
  | cons f l ih =>
    cases n with
    | zero => simp [fcs]
    | succ n =>
      rw [show (n + 1) * 2 = n * 2 + 1 + 1 by omega]
      show (f.rval :: f.aval :: fcs l).take (n * 2 + 1 + 1) = _
      rw [List.take_succ_cons, List.take_succ_cons, ih, List.take_succ_cons]
      rfl
theorem fcs_drop (l : List Fc) (n : Nat) : (fcs l).drop (n * 2) = fcs (l.drop n) := by
  induction l generalizing n with
  | nil => simp [fcs]
  | cons f l ih =>
    cases n with
    | zero => simp [fcs]
    | succ n =>
      rw [show (n + 1) * 2 = n * 2 + 1 + 1 by omega]
      show (f.rval :: f.aval :: fcs l).drop (n * 2 + 1 + 1) = _
      rw [List.drop_succ_cons, List.drop_succ_cons, ih, List.drop_succ_cons]
/-- cover.Valid of few faces. -/
theorem valid_few (a : Option Addr) (c : Nat) (fs : List Fc) (h10 : fs.length ≤ 10) (hsz : ∀ f ∈ fs, f.rs.length ≤ 8 ∧ f.ls.length ≤ 10 ∧ ∀ r ∈ f.rs, r.l.length ≤ 40) (hp : cntP (fs.map Fc.rings) ≤ 40) (hr80 : cntR (fs.map Fc.rings) ≤ 80) (hwf : ∀ f ∈ fs, ∀ r ∈ f.rs, ∀ x ∈ r.l, x.Wf) (w : World) (hr : Rd w a (fcs fs)) (hok : ∀ f ∈ fs, f.Ok w) :
    Calls Try.prog 12 #[.slice a fs.length c] w fun e w' => e = .returned (.int .i64 (validB (fs.map Fc.rings))) ∧ Below w.heap.size w w' := by
  refine (valid_any a c fs (by omega) (by omega) (by rw [allEd_len]; omega) (by omega) (fun f hf r hr => by have := (hsz f hf).2.2 r hr; omega) (fun f hf => by have := (hsz f hf).1; omega) hwf w hr hok).mono ?_
  rintro e w' ⟨⟨x, rfl, hx⟩, hb⟩
  rw [(validIs_iff _ _).1 hx]
  exact ⟨rfl, hb⟩
set_option maxHeartbeats 3200000 in
theorem cless_walk (a : Option Addr) (c : Nat) (X : List Fc) (hl : X.length ≤ c) (hm : c ≤ maxLen) (z : Int) (hz : (Lit.int .i64 z).wf = true) (w : World) (hr : Rd w a (fcs X)) (hx : ∀ y ∈ X, FcIn w y) :
    Calls Try.prog 5 #[.slice a X.length c, .int .i64 z] w fun e w' => e = .returned (.bool true) ∧ Below w.heap.size w w' := by
  have HFW := Lib.hid (few_any a c X hl hm 40 (by decide) w hr (fun f hf => (hx f hf).in))
  have HWF := Lib.hid (fun f hf => (hx f hf).2.2)
  generalize X.length = N at *
  clear hr hl hm
  go_enter Try.func5, Try.ntmps5
  go_wp2_with fail
  refine HFW.out.mono ?_
  rintro e w1 ⟨fs, v, rfl, hO, hT, hP, hb1⟩
  obtain ⟨s1, s2, s3, s4, s5⟩ := few_13 hP Pt.Wf (fun f hf => HWF.out f hf)
  obtain ⟨a1, c1, rfl, hc1, hc2, hc3, hR1, -⟩ := hO.form
  have HR1 := Lib.hid hR1
  have HT := Lib.hid hT
  have HV := Lib.hid (fun W (hW : Below w1.heap.size w1 W) => valid_few a1 c1 fs s1 s2 s3 s4 s5 W (hR1.keep hW) (fun f hf => (hT f hf).1.keep hW))
  obtain ⟨n, hn⟩ : ∃ n, fs.length = n := ⟨_, rfl⟩
  have HN := Lib.hid hn
  rw [hn] at hc1 s1 HV ⊢
  have HV2 : Hid (∀ W, Below w1.heap.size w1 W → Calls Try.prog 12 #[.slice a1 n c1] W fun e w' => e = .returned (.int .i64 (validB (fs.map Fc.rings))) ∧ Below W.heap.size W w') := HV
  have HS := Lib.hid (And.intro s2 (And.intro s3 (And.intro s4 s5)))
  clear hO hT hP hR1 s2 s3 s4 s5 HFW HWF hn HV hx
  obtain ⟨x, hxv⟩ : ∃ x, validB (fs.map Fc.rings) = x := ⟨_, rfl⟩
  have HX := Lib.hid hxv
  rw [hxv] at HV2
  clear hxv
  by_cases h0 : n = 0
  · subst h0
    go_wp2_with fail
    refine (known13 w1).mono ?_
    rintro e w2 ⟨rfl, hb2⟩
    have hb3 := hb1.trans (hb2.mono hb1.size)
    go_wp2
    go_ret
    exact ⟨rfl, hb3⟩
  · have h0' : (n : Int) ≠ 0 := by omega
    have h0'' : ((n : Int) == 0) = false := by simp [h0]
    go_wp2_with fail
    refine (HV2.out w1 (Below.refl _ _)).mono ?_
    rintro e w2 ⟨rfl, hb2⟩
    have hb3 := hb1.trans (hb2.mono hb1.size)
    by_cases hx0 : x = 0
    · subst hx0
      have HR2 := Lib.hid (HR1.out.keep hb2)
      have HT2 : Hid (∀ f ∈ fs, FcT w2 f) := Lib.hid (fun f hf => (HT.out f hf).keep hb2)
      obtain ⟨K, hK⟩ : ∃ K : Nat, ((IntKind.u64.wrap z).tmod (n : Int)) = (K : Int) ∧ K < n := by
        have h1 := u64_bd z
        refine ⟨((IntKind.u64.wrap z).tmod (n : Int)).toNat, ?_, ?_⟩
        · rw [Int.tmod_eq_emod_of_nonneg h1.1]
          have := Int.emod_nonneg (IntKind.u64.wrap z) h0'
          omega
        · rw [Int.tmod_eq_emod_of_nonneg h1.1]
          have := Int.emod_nonneg (IntKind.u64.wrap z) h0'
          have := Int.emod_lt_of_pos (IntKind.u64.wrap z) (show (0 : Int) < n by omega)
          omega
      obtain ⟨b, o, rfl, -, -, -⟩ := HR2.out.fc 0 (by rw [HN.out]; omega)
      have hck : K + 1 ≤ c1 := by omega
      have hkc : K ≤ c1 := by omega
      have hkn : K + 1 ≤ n := by omega
      have hwk : IntKind.i64.wrap ((K : Int) + 1) = ((K + 1 : Nat) : Int) := by rw [show ((K + 1 : Nat) : Int) = (K : Int) + 1 by omega]; exact IntWalk.i64_in _ (by omega)
      have htk : (((K + 1 : Nat) : Int)).toNat = K + 1 := by omega
      have hknI : ((K + 1 : Nat) : Int) ≤ (n : Int) := by omega
      have hk0I : (0 : Int) ≤ ((K + 1 : Nat) : Int) := by omega
      unfold maxLen at hc2
      obtain ⟨A, hA⟩ : ∃ A, fs.take K = A := ⟨_, rfl⟩
      obtain ⟨B, hB⟩ : ∃ B, fs.drop (K + 1) = B := ⟨_, rfl⟩
      have hAL : A.length = K := by rw [← hA, List.length_take, HN.out]; omega
      have hBL : B.length = n - (K + 1) := by rw [← hB, List.length_drop, HN.out]
      have hRA : Rd w2 (some ⟨b, o, none⟩) (fcs A) := by
        have := HR2.out.take (K * 2)
        rw [fcs_take, hA] at this
        exact this
      have hRB : Rd w2 (some ⟨b, o + (K + 1) * 2, none⟩) (fcs B) := by
        have := HR2.out.drop ((K + 1) * 2)
        rw [fcs_drop, hB] at this
        exact this
      obtain ⟨ab, hab⟩ : ∃ ab : Option Addr, (if c1 = K + 1 then some (⟨b, o, none⟩ : Addr) else some ⟨b, o + (K + 1) * 2, none⟩) = ab := ⟨_, rfl⟩
      have habn : ab ≠ none := by rw [← hab]; split <;> simp
      have hRB2 : Rd w2 ab (fcs B) := by
        by_cases hcc : c1 = K + 1
        · have : B = [] := List.eq_nil_of_length_eq_zero (by omega)
          rw [this]; exact Rd.nil _ _
        · rw [← hab, if_neg hcc]; exact hRB
      have hab2 := Lib.hid hab
      clear hRB hab
      have HAB := Lib.hid (And.intro hA hB)
      clear hA hB
      go_wp2
      refine wp_region_lit_txt [1, 2, 3, 5, 6, 7, 8, 10] (fun W => True) (by kernel_rfl) (by kernel_rfl) (by kernel_rfl) trivial ?_
      have hbd : Below w2.heap.size w2 w2.drew := (Below.refl _ _).drew
      replace hRA := hRA.drew
      replace hRB2 := hRB2.drew
      generalize w2.drew = W0 at *
      refine txt_heavy rfl rfl (fun K hK => ?_)
      go_step
      refine hK.out _ _ trivial ?_
      clear hK K
      try simp only [Act.put, List.getElem_toArray, List.getElem_cons_succ, List.getElem_cons_zero, List.setIfInBounds_toArray, List.set_cons_zero, List.set_cons_succ]
      (refine txt_light ?_ rfl rfl ?_ ?_; rotate_left; · (intro w' hS; (try dsimp only at hS); go_simp; with_reducible rfl)); try simp only [Act.put, List.getElem_toArray, List.getElem_cons_succ, List.getElem_cons_zero, List.setIfInBounds_toArray, List.set_cons_zero, List.set_cons_succ]
      (refine txt_light ?_ rfl rfl ?_ ?_; rotate_left; · (intro w' hS; (try dsimp only at hS); go_simp; with_reducible rfl)); try simp only [Act.put, List.getElem_toArray, List.getElem_cons_succ, List.getElem_cons_zero, List.setIfInBounds_toArray, List.set_cons_zero, List.set_cons_succ]
      (refine txt_light ?_ rfl rfl ?_ ?_; rotate_left; · (intro w' hS; (try dsimp only at hS); go_simp; with_reducible rfl)); try simp only [Act.put, List.getElem_toArray, List.getElem_cons_succ, List.getElem_cons_zero, List.setIfInBounds_toArray, List.set_cons_zero, List.set_cons_succ]
      refine txt_app W0 (Below.new W0 (.cells #[] 39)) rfl rfl (.tmp 25) (.tmp 28) 22 rfl 39 (.agg #[.slice none 0 0, .slice none 0 0]) 2 48 Try.underlying22 Try.infoFace rfl (by decide) (.slice (some ⟨W0.heap.size, 0, none⟩) 0 0) 0 [] rfl (ownsRow_empty W0 _ _) (some ⟨b, o, none⟩) K c1 (fcs A) rfl (by simp) (hRA.alloc _) (by rw [fcs_len, hAL]) (fcs_one A) (by omega) (by decide) ?_
      intro v5 w5 hown5 _ hbl5
      refine ⟨trivial, ?_⟩
      try simp only [Act.put, List.getElem_toArray, List.getElem_cons_succ, List.getElem_cons_zero, List.setIfInBounds_toArray, List.set_cons_zero, List.set_cons_succ]
      (refine txt_light ?_ rfl rfl ?_ ?_; rotate_left; · (intro w' hS; (try dsimp only at hS); go_simp; with_reducible rfl)); try simp only [Act.put, List.getElem_toArray, List.getElem_cons_succ, List.getElem_cons_zero, List.setIfInBounds_toArray, List.set_cons_zero, List.set_cons_succ]
      (refine txt_light ?_ rfl rfl ?_ ?_; rotate_left; · (intro w' hS; (try dsimp only at hS); go_simp; with_reducible rfl)); try simp only [Act.put, List.getElem_toArray, List.getElem_cons_succ, List.getElem_cons_zero, List.setIfInBounds_toArray, List.set_cons_zero, List.set_cons_succ]
      refine txt_light (.int .i64 ((K + 1 : Nat) : Int)) rfl rfl ?_ ?_
      · intro w' hS
        clear hS
        go_simp
      try simp only [Act.put, List.getElem_toArray, List.getElem_cons_succ, List.getElem_cons_zero, List.setIfInBounds_toArray, List.set_cons_zero, List.set_cons_succ]
      refine txt_light (.slice ab (n - (K + 1)) (c1 - (K + 1))) rfl rfl ?_ ?_
      · intro w' hS
        clear hS
        rw [← hab2.out]
        generalize hKK : K + 1 = KK at *
        clear hwk hkc
        by_cases hcc : c1 = KK
        · rw [if_pos hcc]
          clear hab2
          subst hcc
          go_simp
        · rw [if_neg hcc]
          clear hab2
          go_simp
      try simp only [Act.put, List.getElem_toArray, List.getElem_cons_succ, List.getElem_cons_zero, List.setIfInBounds_toArray, List.set_cons_zero, List.set_cons_succ]
      refine txt_app W0 hbl5 rfl rfl (.tmp 29) (.tmp 33) 22 rfl 39 (.agg #[.slice none 0 0, .slice none 0 0]) 2 48 Try.underlying22 Try.infoFace rfl (by decide) v5 (0 + K) ([] ++ fcs A) rfl hown5 ab (n - (K + 1)) (c1 - (K + 1)) (fcs B) rfl (fun h => absurd h habn) (hRB2.keep hbl5) (by rw [fcs_len, hBL]) (fcs_one B) (by omega) (by decide) ?_
      intro v6 w6 hown6 _ hbl6
      refine ⟨trivial, ?_⟩
      try simp only [Act.put, List.getElem_toArray, List.getElem_cons_succ, List.getElem_cons_zero, List.setIfInBounds_toArray, List.set_cons_zero, List.set_cons_succ]
      (refine txt_light ?_ rfl rfl ?_ ?_; rotate_left; · (intro w' hS; (try dsimp only at hS); go_simp; with_reducible rfl)); try simp only [Act.put, List.getElem_toArray, List.getElem_cons_succ, List.getElem_cons_zero, List.setIfInBounds_toArray, List.set_cons_zero, List.set_cons_succ]
      refine txt_nil ?_
      have hlen : 0 + K + (n - (K + 1)) = (A ++ B).length := by rw [List.length_append, hAL, hBL]; omega
      rw [hlen, List.nil_append, show fcs A ++ fcs B = fcs (A ++ B) by simp [fcs]] at hown6
      obtain ⟨x6, c6, rfl, -, -, -, hq6, -⟩ := hown6.form
      have hb6 : Below w2.heap.size w2 w6 := hbd.trans (hbl6.mono hbd.size)
      have hb7 := hb3.trans (hb6.mono hb3.size)
      have HVL : Hid (∀ W, Below w6.heap.size w6 W → Calls Try.prog 12 #[.slice x6 (A ++ B).length c6] W fun e w' => e = .returned (.int .i64 0) ∧ Below W.heap.size W w') := Lib.hid (fun W hW => by
        obtain ⟨hA, hB⟩ := HAB.out
        have hsub : ∀ f ∈ A ++ B, f ∈ fs := fun f hf => by
          rcases List.mem_append.1 hf with h | h
          · rw [← hA] at h; exact List.mem_of_mem_take h
          · rw [← hB] at h; exact List.mem_of_mem_drop h
        obtain ⟨g1, g2, g3, g4⟩ := HS.out
        have hKf : K < fs.length := by rw [HN.out]; omega
        obtain ⟨x, hx⟩ : ∃ x, fs[K]'hKf = x := ⟨_, rfl⟩
        have hfs : fs = A ++ x :: B := by
          rw [← hA, ← hB, ← hx, List.getElem_cons_drop, List.take_append_drop]
        have hcl : cntP ((A ++ B).map Fc.rings) ≤ 40 ∧ cntR ((A ++ B).map Fc.rings) ≤ 80 := by
          rw [hfs] at g2 g3
          simp only [List.map_append, List.map_cons, cntP_append, cntR_append, cntP, cntR] at g2 g3 ⊢
          omega
        have hv0 : validB ((A ++ B).map Fc.rings) = 0 := by
          have h1 : ValidIs (fs.map Fc.rings) 0 := (validIs_iff _ _).2 HX.out.symm
          rw [hfs, List.map_append, List.map_cons] at h1
          have h2 := less_valid _ _ _ h1
          rw [← List.map_append] at h2
          exact ((validIs_iff _ _).1 h2).symm
        have := valid_few x6 c6 (A ++ B) (by rw [List.length_append, hAL, hBL]; omega) (fun f hf => g1 f (hsub f hf)) hcl.1 hcl.2 (fun f hf => g4 f (hsub f hf)) W (hq6.keep hW) (fun f hf => ((HT2.out f (hsub f hf)).1.keep hb6).keep hW)
        rw [hv0] at this
        exact this)
      generalize (A ++ B).length = M at *
      clear hown5 hown6 hbl5 hbl6 hq6 hRA hRB2 HS HAB hwk htk hlen hbd HV2
      go_wp2_with fail
      refine (known13 w6).mono ?_
      rintro e w8 ⟨rfl, hb8⟩
      have hb9 := hb7.trans (hb8.mono hb7.size)
      have HVL2 := Lib.hid (HVL.out w8 hb8)
      go_wp2_with fail
      refine HVL2.out.mono ?_
      rintro e w9 ⟨rfl, hb10⟩
      have hb11 := hb9.trans (hb10.mono hb9.size)
      go_wp2
      go_ret
      exact ⟨rfl, hb11⟩
    · have hx0' : (x != 0) = true := by simp [hx0]
      clear HV2
      go_wp2_with fail
      refine (known13 w2).mono ?_
      rintro e w4 ⟨rfl, hb4⟩
      have hb5 := hb3.trans (hb4.mono hb3.size)
      go_wp2
      go_ret
      exact ⟨rfl, hb5⟩
theorem cless_law {w : World} (a : Option Addr) (c : Nat) (X : List Fc) (hl : X.length ≤ c) (hm : c ≤ maxLen) (hn : a = none → c = 0) (hr : Rd w a (fcs X)) (hx : ∀ y ∈ X, FcIn w y) (z : Int) (hz : (Lit.int .i64 z).wf = true) :
    Calls Try.prog 5 #[.slice a X.length c, .int .i64 z] w fun e w' => e = .returned (.bool true) ∧ Below w.heap.size w w' :=
  cless_walk a c X hl hm z hz w hr hx
end Go.Proofs.Ytkdibaphmkaaoaa
