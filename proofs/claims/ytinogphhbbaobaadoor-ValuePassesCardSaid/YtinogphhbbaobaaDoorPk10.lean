/-
  ValuePasses: the walk.
-/
import Derived.Test.YtinogphhbbaobaaDoorPk9
/- ValuePasses: the walk. -/
set_option linter.unusedVariables false
set_option linter.unusedSimpArgs false
set_option maxRecDepth 100000
namespace Go.Proofs.YtinogphhbbaobaaDoor
open Go.RowKit Go.Vint Go.Proto

set_option maxHeartbeats 8000000 in
theorem vpasses_any {w : World} (v : VV) (hv0 : ValIn v) (u : VV) (hu0 : ValIn u) (num : Int) (wn : (Lit.int .i64 num).wf = true) (n : Int) (wf : (Lit.int .i64 n).wf = true) :
    Calls Tryd.prog 3 #[vVal v, vVal u, .int .i64 num, .int .i64 n] w fun e w' => e = .returned (.bool true) ∧ Below w.heap.size w w' := by
  have hv := hv0.1
  have hu := hu0.1
  clear hv0 hu0
  obtain ⟨vk, vt, vn⟩ := v
  obtain ⟨uk, ut, un⟩ := u
  dsimp only at hv hu
  obtain ⟨vt', hvt⟩ : ∃ x, vt.extract 0 (min vt.size 100) = x := ⟨_, rfl⟩
  obtain ⟨ut', hut⟩ : ∃ x, ut.extract 0 (min ut.size 100) = x := ⟨_, rfl⟩
  have hvs : vt'.size ≤ maxLen := by rw [← hvt, ByteArray.size_extract]; omega
  have hus : ut'.size ≤ maxLen := by rw [← hut, ByteArray.size_extract]; omega
  have HC1 := Lib.hid (fun W => vcut_any vk vn vt hv W)
  have HC2 := Lib.hid (fun W => vcut_any uk un ut hu W)
  rw [hvt] at HC1
  rw [hut] at HC2
  have HB1 := Lib.hid (fun W => valbytes_any (vk, vt', vn) hvs W)
  have HB2 := Lib.hid (fun W => valbytes_any (uk, ut', un) hus W)
  have hEV : vE (vk, vt', vn) = 0 → vby (vk, vt', vn) = fby (vFld (vk, vt', vn)) := fun h => by rw [vby, if_pos h]
  have hEU : vE (uk, ut', un) = 0 → vby (uk, ut', un) = fby (vFld (uk, ut', un)) := fun h => by rw [vby, if_pos h]
  have HR1 := Lib.hid (fun m n h => reads_ov (vk, vt', vn) m n h)
  have HR2 := Lib.hid (fun m n h => reads_vo (vk, vt', vn) m n h)
  have HR3 := Lib.hid (reads_vu (vk, vt', vn) (uk, ut', un))
  have HL1 := Lib.hid (fun h => vFld_ok (vk, vt', vn) h)
  have HL2 := Lib.hid (fun h => vFld_ok (uk, ut', un) h)
  have HLen : Hid (∀ x : VV, vE x = 0 → (fby (vFld x)).length ≤ 84 ∧ ∀ y ∈ fby (vFld x), 0 ≤ y ∧ y ≤ 255) := by
    refine Lib.hid fun x h => ?_
    have hf := vFld_ok x h
    have := fby_len (vFld x) hf.1 hf.2.1 hf.2.2.1 (by omega)
    exact ⟨by omega, fby_bd _ hf.1 hf.2.1 hf.2.2.2.1⟩
  have HG1 := Lib.hid (HLen.out (vk, vt', vn))
  have HG2 := Lib.hid (HLen.out (uk, ut', un))
  obtain ⟨EV, hEVe⟩ : ∃ EV, vE (vk, vt', vn) = EV := ⟨_, rfl⟩
  obtain ⟨EU, hEUe⟩ : ∃ EU, vE (uk, ut', un) = EU := ⟨_, rfl⟩
  obtain ⟨BV, hBV⟩ : ∃ BV, vby (vk, vt', vn) = BV := ⟨_, rfl⟩
  obtain ⟨BU, hBU⟩ : ∃ BU, vby (uk, ut', un) = BU := ⟨_, rfl⟩
  rw [hEVe] at HB1 HL1 HG1 hEV HR3
  rw [hEVe] at HR1 HR2
  rw [hEUe] at HB2 HL2 HG2 hEU HR3
  rw [hBV] at HB1 hEV
  rw [hBU] at HB2 hEU
  have HEV := Lib.hid hEV
  have HEU := Lib.hid hEU
  clear hvs hus hv hu hvt hut HLen hEVe hEUe hBV hBU hEV hEU
  dsimp only [vVal] at *
  go_enter Tryd.func3, Tryd.ntmps3
  have hb0 := (Below.new w (.cells #[.int .i64 vk, .string vt, .int .i64 vn] 23)).alloc (by simp) (.cells #[.int .i64 uk, .string ut, .int .i64 un] 23)
  have kB := (Blk.lit w w.heap.size [.int .i64 vk, .string vt, .int .i64 vn] 23 rfl).alloc (.cells #[.int .i64 uk, .string ut, .int .i64 un] 23)
  have kC := Blk.lit (w.alloc (.cells #[.int .i64 vk, .string vt, .int .i64 vn] 23)) (w.heap.size + 1) [.int .i64 uk, .string ut, .int .i64 un] 23 (by simp)
  have hltB : w.heap.size + 1 < ((w.alloc (.cells #[.int .i64 vk, .string vt, .int .i64 vn] 23)).alloc (.cells #[.int .i64 uk, .string ut, .int .i64 un] 23)).heap.size := kC.lt
  go_wp2_with fail
  have HB0 := Lib.hid (hb0.drew)
  have kB0 := kB.drew
  have kC0 := kC.drew
  clear hb0 kB kC hltB
  generalize ((w.alloc (.cells #[.int .i64 vk, .string vt, .int .i64 vn] 23)).alloc (.cells #[.int .i64 uk, .string ut, .int .i64 un] 23)) = W0 at *
  obtain ⟨B, hB⟩ : ∃ B, w.heap.size = B := ⟨_, rfl⟩
  rw [hB] at kB0 kC0 ⊢
  have hwB : w.heap.size ≤ B := by omega
  have hwC : w.heap.size ≤ B + 1 := by omega
  clear hB
  refine wp_region_lit_txtZ (some 5) [2] (fun W => Blk W (B + 1) [.int .i64 uk, .string ut, .int .i64 un]) (by kernel_rfl) (by kernel_rfl) (by kernel_rfl) (by kernel_rfl) kC0 ?_
  refine txt_heavy rfl rfl (fun K hK => ?_)
  have b0 := kB0.cell 0 rfl
  have b1 := kB0.cell 1 rfl
  have b2 := kB0.cell 2 rfl
  go_step
  refine hK.out _ _ kC0 ?_
  clear hK K b0 b1 b2
  try simp only [Act.put, List.getElem_toArray, List.getElem_cons_succ, List.getElem_cons_zero, List.setIfInBounds_toArray, List.set_cons_zero, List.set_cons_succ]
  refine txt_call [.agg #[.int .i64 vk, .string vt, .int .i64 vn]] Tryd.f6 rfl rfl Tryd.func6 (by kernel_rfl) (by kernel_rfl) rfl ((HC1.out _).mono ?_)
  rintro e W1 ⟨rfl, hb1⟩
  have kB1 := kB0.keep hb1
  have kC1 := kC0.keep hb1
  have HB1' := Lib.hid (HB0.out.trans (hb1.mono HB0.out.size))
  refine ⟨_, rfl, kC1, ?_⟩
  clear HC1 kB0 kC0 HB0 hb1
  try simp only [Act.put, List.getElem_toArray, List.getElem_cons_succ, List.getElem_cons_zero, List.setIfInBounds_toArray, List.set_cons_zero, List.set_cons_succ]
  refine txt_light (.agg #[.int .i64 uk, .string ut, .int .i64 un]) rfl rfl ?_ ?_
  · intro w' hS
    have c0 := hS.cell 0 rfl
    have c1 := hS.cell 1 rfl
    have c2 := hS.cell 2 rfl
    clear hS
    go_simp
  try simp only [Act.put, List.getElem_toArray, List.getElem_cons_succ, List.getElem_cons_zero, List.setIfInBounds_toArray, List.set_cons_zero, List.set_cons_succ]
  refine txt_call [.agg #[.int .i64 uk, .string ut, .int .i64 un]] Tryd.f6 rfl rfl Tryd.func6 (by kernel_rfl) (by kernel_rfl) rfl ((HC2.out _).mono ?_)
  rintro e W2 ⟨rfl, hb2⟩
  have kB2 := kB1.keep hb2
  have kC2 := kC1.keep hb2
  have HB2' := Lib.hid (HB1'.out.trans (hb2.mono HB1'.out.size))
  refine ⟨_, rfl, kC2, ?_⟩
  clear HC2 kB1 kC1 HB1' hb2
  try simp only [Act.put, List.getElem_toArray, List.getElem_cons_succ, List.getElem_cons_zero, List.setIfInBounds_toArray, List.set_cons_zero, List.set_cons_succ]
  refine txt_heavy rfl rfl (fun K hK => ?_)
  have sc0 := kB2.cell 0 rfl
  have sf0 := kB2.free 0
  have sk0 := kB2.set 0 (.int .i64 vk)
  have sc1 := sk0.cell 1 rfl
  have sf1 := sk0.free 1
  have sk1 := sk0.set 1 (.string vt')
  have sc2 := sk1.cell 2 rfl
  have sf2 := sk1.free 2
  have kB3 := sk1.set 2 (.int .i64 vn)
  go_step
  have kC3 := ((kC2.set_at (b' := B) (o := 0) (by omega) (.int .i64 vk)).set_at (b' := B) (o := 1) (by omega) (.string vt')).set_at (b' := B) (o := 2) (by omega) (.int .i64 vn)
  have HB3' := Lib.hid (((HB2'.out.set_at (b := B) (o := 0) hwB (.int .i64 vk)).set_at (b := B) (o := 1) hwB (.string vt')).set_at (b := B) (o := 2) hwB (.int .i64 vn))
  refine hK.out _ _ kC3 ?_
  clear hK K kC2 HB2' sc0 sc1 sc2 sf0 sf1 sf2 sk0 sk1 kB2
  generalize (((W2.setCell ⟨B, 0, none⟩ (.int .i64 vk)).setCell ⟨B, 1, none⟩ (.string vt')).setCell ⟨B, 2, none⟩ (.int .i64 vn)) = W3 at *
  try simp only [Act.put, List.getElem_toArray, List.getElem_cons_succ, List.getElem_cons_zero, List.setIfInBounds_toArray, List.set_cons_zero, List.set_cons_succ]
  refine txt_last rfl rfl rfl (fun K hK => ?_)
  have sc0 := kC3.cell 0 rfl
  have sf0 := kC3.free 0
  have sk0 := kC3.set 0 (.int .i64 uk)
  have sc1 := sk0.cell 1 rfl
  have sf1 := sk0.free 1
  have sk1 := sk0.set 1 (.string ut')
  have sc2 := sk1.cell 2 rfl
  have sf2 := sk1.free 2
  have kC4 := sk1.set 2 (.int .i64 un)
  go_step
  have kB4 := ((kB3.set_at (b' := B + 1) (o := 0) (by omega) (.int .i64 uk)).set_at (b' := B + 1) (o := 1) (by omega) (.string ut')).set_at (b' := B + 1) (o := 2) (by omega) (.int .i64 un)
  have HB4' := Lib.hid (((HB3'.out.set_at (b := B + 1) (o := 0) hwC (.int .i64 uk)).set_at (b := B + 1) (o := 1) hwC (.string ut')).set_at (b := B + 1) (o := 2) hwC (.int .i64 un))
  refine hK.out _ _ ?_
  clear hK K HB3' sc0 sc1 sc2 sf0 sf1 sf2 sk0 sk1 kC3 kB3
  generalize (((W3.setCell ⟨B + 1, 0, none⟩ (.int .i64 uk)).setCell ⟨B + 1, 1, none⟩ (.string ut')).setCell ⟨B + 1, 2, none⟩ (.int .i64 un)) = W4 at *
  refine txt_nil ?_
  try simp only [Act.put, List.getElem_toArray, List.getElem_cons_succ, List.getElem_cons_zero, List.setIfInBounds_toArray, List.set_cons_zero, List.set_cons_succ]
  have b0 := kB4.cell 0 rfl
  have b1 := kB4.cell 1 rfl
  have b2 := kB4.cell 2 rfl
  go_wp2_with fail
  refine (HB1.out _).mono ?_
  rintro e W5 ⟨v5, rfl, hown5, hb5⟩
  obtain ⟨pv, cv, rfl, hv1, hv2, hv3, hrv, -⟩ := hown5.form
  have kB5 := kB4.keep hb5
  have kC5 := kC4.keep hb5
  have HB5' := Lib.hid (HB4'.out.trans (hb5.mono HB4'.out.size))
  clear HB1 b0 b1 b2 kB4 kC4 HB4' hb5 hown5
  have c0 := kC5.cell 0 rfl
  have c1 := kC5.cell 1 rfl
  have c2 := kC5.cell 2 rfl
  go_wp2_with fail
  refine (HB2.out _).mono ?_
  rintro e W6 ⟨v6, rfl, hown6, hb6⟩
  obtain ⟨pu, cu, rfl, hu1, hu2, hu3, hru, -⟩ := hown6.form
  have hrv6 := hrv.keep hb6
  have kB6 := kB5.keep hb6
  have HB6' := Lib.hid (HB5'.out.trans (hb6.mono HB5'.out.size))
  clear HB2 c0 c1 c2 kB5 kC5 HB5' hb6 hown6 hrv
  by_cases hEV : EV = 0
  · subst hEV
    by_cases hEU : EU = 0
    · subst hEU
      obtain ⟨q0, hq0⟩ : ∃ q, IntKind.u64.wrap num = q := ⟨_, rfl⟩
      obtain ⟨q, hq⟩ : ∃ q, IntKind.u64.wrap n = q := ⟨_, rfl⟩
      have hq1 : 0 ≤ q ∧ q ≤ 18446744073709551615 := by rw [← hq, IntKind.wrap_u64]; omega
      have hq2 : 0 ≤ q0 ∧ q0 ≤ 18446744073709551615 := by rw [← hq0, IntKind.wrap_u64]; omega
      obtain ⟨m0, hm0⟩ : ∃ m, q0.tmod 1000 = m := ⟨_, rfl⟩
      have hm2 : 0 ≤ m0 ∧ m0 ≤ 999 := by rw [← hm0, Int.tmod_eq_emod_of_nonneg hq2.1]; omega
      obtain ⟨m, hm⟩ : ∃ m, 8 + m0 = m := ⟨_, rfl⟩
      have hm1 : 8 ≤ m ∧ m ≤ 1007 := by omega
      have hm3 : 0 ≤ m0 := hm2.1
      have hm4 : m0 ≤ 999 := hm2.2
      have hm5 : 8 ≤ m := hm1.1
      have hm6 : m ≤ 1007 := hm1.2
      have hBV := HEV.out rfl
      have hBU := HEU.out rfl
      obtain ⟨hlV, hdV⟩ := HG1.out rfl
      obtain ⟨hlU, hdU⟩ := HG2.out rfl
      rw [← hBV] at hlV hdV
      rw [← hBU] at hlU hdU
      have hoc := other_ok m q hm1.1 hm1.2 hq1.1 hq1.2
      have hol := fby_len ⟨m, 0, q, []⟩ hoc hq1.1 hq1.2 (by simp)
      have hod := fby_bd ⟨m, 0, q, []⟩ hoc hq1.1 (by simp)
      have hr1 := HR1.out m q rfl hm1.1 hm1.2 hq1.1 hq1.2
      have hr2 := HR2.out m q rfl hm1.1 hm1.2 hq1.1 hq1.2
      have hr3 := HR3.out rfl rfl
      have hr4 := reads_o m q hm1.1 hm1.2 hq1.1 hq1.2
      have hpw : pwr [(⟨m, 0, q, []⟩ : Fld)] = (fby ⟨m, 0, q, []⟩, 0) := by
        rw [pwr_ok _ (by intro f hf; obtain rfl := List.mem_singleton.1 hf; exact hoc)]; simp
      obtain ⟨BO, hBO⟩ : ∃ BO, fby ⟨m, 0, q, []⟩ = BO := ⟨_, rfl⟩
      rw [← hBV] at hr1 hr2 hr3
      rw [← hBU] at hr3
      rw [hBO] at hr1 hr2 hr4 hod hol hpw
      have hlO : BO.length ≤ 20 := by simpa using hol
      have HX1 := Lib.hid hr1
      have HX2 := Lib.hid hr2
      have HX3 := Lib.hid hr3
      have HX4 := Lib.hid hr4
      have HDV := Lib.hid hdV
      have HDU := Lib.hid hdU
      have HDO := Lib.hid hod
      have HPW := Lib.hid hpw
      have HRD : Hid (∀ (W : World) (a : Option Addr) (c : Nat) (L : List Int) (k : Nat), L.length = k → (∀ x ∈ L, 0 ≤ x ∧ x ≤ 255) → L.length ≤ 1000000 → L.length ≤ c → c ≤ maxLen → Rd W a (L.map (Value.int .u8)) → Calls Tryd.prog 10 #[.slice a k c] W fun e w' => e = .returned (.tuple #[vVal (vrd L).1, .int .i64 (vrd L).2]) ∧ Below W.heap.size W w') :=
        Lib.hid fun W a c L k hk h1 h2 h3 h4 h5 => by subst hk; exact valread_any a c L h1 h2 h3 h4 W h5
      have hbX := Below.new W6 (.cells #[.int .i64 m, .int .i64 0, .int .u64 q, .slice none 0 0] 33)
      have hw := pwrite_any (some ⟨W6.heap.size, 0, none⟩) 1 [⟨⟨m, 0, q, []⟩, none, 0⟩] (by intro x hx; obtain rfl := List.mem_singleton.1 hx; exact ⟨fun y hy => (by cases hy), hq1.1, hq1.2, by simp⟩) (by simp) _ (Rd.new W6 (flat [⟨⟨m, 0, q, []⟩, none, 0⟩]) 33) (by intro x hx; obtain rfl := List.mem_singleton.1 hx; exact ⟨Rd.nil _ _, by simp, by simp [maxLen], by simp⟩)
      simp only [List.map_cons, List.map_nil, HPW.out] at hw
      have HW := Lib.hid hw
      have HBX := Lib.hid hbX
      clear hbX hw hq1 hq2 hm2 hm1 HPW
      clear HEV HEU HG1 HG2 HR1 HR2 HR3 HL1 HL2 hBV hBU hdV hdU hoc hol hod hr1 hr2 hr3 hr4 hpw hBO
      clear wn wf
      go_wp2_with fail
      refine HW.out.mono ?_
      rintro e W7 ⟨v7, rfl, hown7, hb7⟩
      obtain ⟨po, co, rfl, ho1, ho2, ho3, hro, -⟩ := hown7.form
      have hb7' := HBX.out.trans (hb7.mono HBX.out.size)
      have hrv := hrv6.keep hb7'
      replace hru := hru.keep hb7'
      have kB := kB6.keep hb7'
      have HBW0 := Lib.hid (HB6'.out.trans (hb7'.mono HB6'.out.size))
      clear HW HBX hown7 hb7 hb7' hrv6 kB6 HB6' hq hq0 hm0 hm
      have he1 := ownsRow_emptyB W7 (W7.heap.size) 5 1 (by simp)
      have hx1 := Below.new W7 (.cells #[] 5)
      go_wp2_with (at_builtin; go_must (first
        | (refine wpList_appB W7 (W7.heap.size) (by simp) hx1 rfl (.tmp 58) (.tmp 59) 25 rfl 5 (.int .u8 0) 1 1 Tryd.underlying25 Tryd.infoU8 rfl (by decide) (.slice (some ⟨W7.heap.size, 0, none⟩) 0 0) 0 [] rfl he1 po BO.length co (BO.map (Value.int .u8)) rfl ho3 (hro.keep hx1) (by simp) (ints_one .u8 _) (by omega) (by decide) ?_; intro vv1 X1 hown1 hg1 hbn1; have hrs1 := hrv.keep hbn1; clear he1 hx1 hg1)
        | (refine wpList_appB W7 (W7.heap.size) (by simp) hbn1 rfl (.tmp 60) (.tmp 61) 25 rfl 5 (.int .u8 0) 1 1 Tryd.underlying25 Tryd.infoU8 rfl (by decide) vv1 (0 + BO.length) ([] ++ BO.map (Value.int .u8)) rfl hown1 pv BV.length cv (BV.map (Value.int .u8)) rfl hv3 hrs1 (by simp) (ints_one .u8 _) (by omega) (by decide) ?_; intro vw1 Y1 hownb1 hgb1 hbm1; obtain ⟨pp1, cc1, rfl, hp11, hp12, -, hrr1, -⟩ := hownb1.form; have hrr1' : Rd Y1 pp1 ((BO ++ BV).map (Value.int .u8)) := (by simpa using hrr1); clear hown1 hbn1 hownb1 hgb1 hrs1 hrr1)))
      have hcl1 := HRD.out Y1 pp1 cc1 (BO ++ BV) (BO.length + BV.length) List.length_append (fun x hx => (List.mem_append.1 hx).elim (HDO.out x) (HDV.out x)) (by rw [List.length_append]; omega) (by rw [List.length_append]; omega) hp12 hrr1'
      rw [HX1.out] at hcl1
      dsimp only [vVal] at hcl1
      have HCL1 := Lib.hid hcl1
      clear hcl1 hrr1'
      go_wp2_with fail
      refine HCL1.out.mono ?_
      rintro e Z1 ⟨rfl, hbz1⟩
      have hbt1 := hbm1.trans (hbz1.mono hbm1.size)
      have hbu1 := Below.new Z1 (.cells #[.int .i64 vk, .string vt', .int .i64 vn] 23)
      have hbv1 := hbt1.trans (hbu1.mono hbt1.size)
      have HBW1 := Lib.hid (HBW0.out.trans (hbv1.mono HBW0.out.size))
      replace hrv := hrv.keep hbv1
      replace hru := hru.keep hbv1
      replace hro := hro.keep hbv1
      replace kB := kB.keep hbv1
      have kR1 := Blk.lit Z1 Z1.heap.size [.int .i64 vk, .string vt', .int .i64 vn] 23 rfl
      clear HCL1 hbm1 hbz1 hbt1 hbu1 hbv1 HBW0
      have he2 := ownsRow_emptyB (Z1.alloc (.cells #[.int .i64 vk, .string vt', .int .i64 vn] 23)) (Z1.heap.size + 1) 5 1 (by simp)
      have hx2 := Below.new (Z1.alloc (.cells #[.int .i64 vk, .string vt', .int .i64 vn] 23)) (.cells #[] 5)
      go_wp2_with (at_builtin; go_must (first
        | (refine wpList_appB (Z1.alloc (.cells #[.int .i64 vk, .string vt', .int .i64 vn] 23)) (Z1.heap.size + 1) (by simp) hx2 rfl (.tmp 67) (.tmp 68) 25 rfl 5 (.int .u8 0) 1 1 Tryd.underlying25 Tryd.infoU8 rfl (by decide) (.slice (some ⟨Z1.heap.size + 1, 0, none⟩) 0 0) 0 [] rfl he2 pv BV.length cv (BV.map (Value.int .u8)) rfl hv3 (hrv.keep hx2) (by simp) (ints_one .u8 _) (by omega) (by decide) ?_; intro vv2 X2 hown2 hg2 hbn2; have hrs2 := hro.keep hbn2; clear he2 hx2 hg2)
        | (refine wpList_appB (Z1.alloc (.cells #[.int .i64 vk, .string vt', .int .i64 vn] 23)) (Z1.heap.size + 1) (by simp) hbn2 rfl (.tmp 69) (.tmp 70) 25 rfl 5 (.int .u8 0) 1 1 Tryd.underlying25 Tryd.infoU8 rfl (by decide) vv2 (0 + BV.length) ([] ++ BV.map (Value.int .u8)) rfl hown2 po BO.length co (BO.map (Value.int .u8)) rfl ho3 hrs2 (by simp) (ints_one .u8 _) (by omega) (by decide) ?_; intro vw2 Y2 hownb2 hgb2 hbm2; obtain ⟨pp2, cc2, rfl, hp21, hp22, -, hrr2, -⟩ := hownb2.form; have hrr2' : Rd Y2 pp2 ((BV ++ BO).map (Value.int .u8)) := (by simpa using hrr2); clear hown2 hbn2 hownb2 hgb2 hrs2 hrr2)))
      have hcl2 := HRD.out Y2 pp2 cc2 (BV ++ BO) (BV.length + BO.length) List.length_append (fun x hx => (List.mem_append.1 hx).elim (HDV.out x) (HDO.out x)) (by rw [List.length_append]; omega) (by rw [List.length_append]; omega) hp22 hrr2'
      rw [HX2.out] at hcl2
      dsimp only [vVal] at hcl2
      have HCL2 := Lib.hid hcl2
      clear hcl2 hrr2'
      go_wp2_with fail
      refine HCL2.out.mono ?_
      rintro e Z2 ⟨rfl, hbz2⟩
      have hbt2 := hbm2.trans (hbz2.mono hbm2.size)
      have hbu2 := Below.new Z2 (.cells #[.int .i64 vk, .string vt', .int .i64 vn] 23)
      have hbv2 := hbt2.trans (hbu2.mono hbt2.size)
      have HBW2 := Lib.hid (HBW1.out.trans (hbv2.mono HBW1.out.size))
      replace hrv := hrv.keep hbv2
      replace hru := hru.keep hbv2
      replace hro := hro.keep hbv2
      replace kB := kB.keep hbv2
      replace kR1 := kR1.keep hbv2
      have kR2 := Blk.lit Z2 Z2.heap.size [.int .i64 vk, .string vt', .int .i64 vn] 23 rfl
      clear HCL2 hbm2 hbz2 hbt2 hbu2 hbv2 HBW1
      have he3 := ownsRow_emptyB (Z2.alloc (.cells #[.int .i64 vk, .string vt', .int .i64 vn] 23)) (Z2.heap.size + 1) 5 1 (by simp)
      have hx3 := Below.new (Z2.alloc (.cells #[.int .i64 vk, .string vt', .int .i64 vn] 23)) (.cells #[] 5)
      go_wp2_with (at_builtin; go_must (first
        | (refine wpList_appB (Z2.alloc (.cells #[.int .i64 vk, .string vt', .int .i64 vn] 23)) (Z2.heap.size + 1) (by simp) hx3 rfl (.tmp 76) (.tmp 77) 25 rfl 5 (.int .u8 0) 1 1 Tryd.underlying25 Tryd.infoU8 rfl (by decide) (.slice (some ⟨Z2.heap.size + 1, 0, none⟩) 0 0) 0 [] rfl he3 pv BV.length cv (BV.map (Value.int .u8)) rfl hv3 (hrv.keep hx3) (by simp) (ints_one .u8 _) (by omega) (by decide) ?_; intro vv3 X3 hown3 hg3 hbn3; have hrs3 := hru.keep hbn3; clear he3 hx3 hg3)
        | (refine wpList_appB (Z2.alloc (.cells #[.int .i64 vk, .string vt', .int .i64 vn] 23)) (Z2.heap.size + 1) (by simp) hbn3 rfl (.tmp 78) (.tmp 79) 25 rfl 5 (.int .u8 0) 1 1 Tryd.underlying25 Tryd.infoU8 rfl (by decide) vv3 (0 + BV.length) ([] ++ BV.map (Value.int .u8)) rfl hown3 pu BU.length cu (BU.map (Value.int .u8)) rfl hu3 hrs3 (by simp) (ints_one .u8 _) (by omega) (by decide) ?_; intro vw3 Y3 hownb3 hgb3 hbm3; obtain ⟨pp3, cc3, rfl, hp31, hp32, -, hrr3, -⟩ := hownb3.form; have hrr3' : Rd Y3 pp3 ((BV ++ BU).map (Value.int .u8)) := (by simpa using hrr3); clear hown3 hbn3 hownb3 hgb3 hrs3 hrr3)))
      have hcl3 := HRD.out Y3 pp3 cc3 (BV ++ BU) (BV.length + BU.length) List.length_append (fun x hx => (List.mem_append.1 hx).elim (HDV.out x) (HDU.out x)) (by rw [List.length_append]; omega) (by rw [List.length_append]; omega) hp32 hrr3'
      obtain ⟨⟨⟨rk3, rt3, rn3⟩, re3⟩, hre3⟩ : ∃ z, vrd (BV ++ BU) = z := ⟨_, rfl⟩
      have hrf3 : re3 = 8 := by have := HX3.out; rw [hre3] at this; exact this
      rw [hre3] at hcl3
      dsimp only [vVal] at hcl3
      rw [hrf3] at hcl3
      clear hre3 hrf3
      have HCL3 := Lib.hid hcl3
      clear hcl3 hrr3'
      go_wp2_with fail
      refine HCL3.out.mono ?_
      rintro e Z3 ⟨rfl, hbz3⟩
      have hbt3 := hbm3.trans (hbz3.mono hbm3.size)
      have hbu3 := Below.new Z3 (.cells #[.int .i64 rk3, .string rt3, .int .i64 rn3] 23)
      have hbv3 := hbt3.trans (hbu3.mono hbt3.size)
      have HBW3 := Lib.hid (HBW2.out.trans (hbv3.mono HBW2.out.size))
      replace hrv := hrv.keep hbv3
      replace hru := hru.keep hbv3
      replace hro := hro.keep hbv3
      replace kB := kB.keep hbv3
      replace kR1 := kR1.keep hbv3
      replace kR2 := kR2.keep hbv3
      clear HCL3 hbm3 hbz3 hbt3 hbu3 hbv3 HBW2
      obtain ⟨⟨⟨rk4, rt4, rn4⟩, re4⟩, hre4⟩ : ∃ z, vrd BO = z := ⟨_, rfl⟩
      have hrf4 : re4 = 7 := by have := HX4.out; rw [hre4] at this; exact this
      have hcl4 := HRD.out _ po co BO BO.length rfl HDO.out (by omega) ho1 ho2 hro
      rw [hre4] at hcl4
      dsimp only [vVal] at hcl4
      rw [hrf4] at hcl4
      have HCL4 := Lib.hid hcl4
      clear hcl4 hre4 hrf4
      go_wp2_with fail
      refine HCL4.out.mono ?_
      rintro e Z4 ⟨rfl, hbz4⟩
      have hbu4 := hbz4.trans ((Below.new Z4 (.cells #[.int .i64 rk4, .string rt4, .int .i64 rn4] 23)).mono hbz4.size)
      replace kR1 := kR1.keep hbu4
      replace kR2 := kR2.keep hbu4
      replace kB := kB.keep hbu4
      have HBW4 := Lib.hid (HBW3.out.trans (hbu4.mono HBW3.out.size))
      clear HCL4 hbz4 hbu4 HBW3 hrv hru hro
      go_wp2_with fail
      refine (vknown_any _).mono ?_
      rintro e Z5 ⟨rfl, hbz5⟩
      replace kR1 := kR1.keep hbz5
      replace kR2 := kR2.keep hbz5
      replace kB := kB.keep hbz5
      have hbz := HBW4.out.trans (hbz5.mono HBW4.out.size)
      have b0 := kB.cell 0 rfl
      have b1 := kB.cell 1 rfl
      have b2 := kB.cell 2 rfl
      have x0 := kR1.cell 0 rfl
      have x1 := kR1.cell 1 rfl
      have x2 := kR1.cell 2 rfl
      have y0 := kR2.cell 0 rfl
      have y1 := kR2.cell 1 rfl
      have y2 := kR2.cell 2 rfl
      clear hbz5
      go_wp2
      go_ret
      exact ⟨rfl, hbz⟩
    · have e1 : (EU != 0) = true := by simpa using hEU
      go_wp2_with fail
      refine (vknown_any _).mono ?_
      rintro e W7 ⟨rfl, hb7⟩
      have hbz := HB6'.out.trans (hb7.mono HB6'.out.size)
      clear hb7
      go_wp2
      go_ret
      exact ⟨rfl, hbz⟩
  · have e1 : (EV != 0) = true := by simpa using hEV
    go_wp2_with fail
    refine (vknown_any _).mono ?_
    rintro e W7 ⟨rfl, hb7⟩
    have hbz := HB6'.out.trans (hb7.mono HB6'.out.size)
    clear hb7
    go_wp2
    go_ret
    exact ⟨rfl, hbz⟩
end Go.Proofs.YtinogphhbbaobaaDoor
