/-
  ProtoJoins: the walk.
-/
import Derived.Test.YtoicahfpnnhgpaaPwritesl
set_option linter.unusedVariables false
set_option linter.unusedSimpArgs false
namespace Go.Proto
theorem pwr_facts (F : List Fld) (hF : ∀ f ∈ F, (∀ x ∈ f.bs, 0 ≤ x ∧ x ≤ 255) ∧ 0 ≤ f.n ∧ f.n ≤ 18446744073709551615 ∧ f.bs.length ≤ 50) (hl : F.length ≤ 20) :
    ((pwr F).2 = 0 → (∀ f ∈ F, chk f = 0) ∧ (pwr F).1 = F.flatMap fby) ∧ (pwr F).1.length ≤ 1400 := by
  have h1 : (pwr F).2 = 0 → (∀ f ∈ F, chk f = 0) ∧ (pwr F).1 = F.flatMap fby := by
    intro h
    have h2 := pwrF_zero F [] h
    exact ⟨h2, by rw [pwr_ok F h2]⟩
  refine ⟨h1, ?_⟩
  by_cases h : (pwr F).2 = 0
  · obtain ⟨h2, h3⟩ := h1 h
    rw [h3]
    have := fbys_len F 50 (by omega) (fun f hf => ⟨h2 f hf, (hF f hf).2⟩)
    omega
  · have : ∀ (l : List Fld) (acc : List Int), (pwrF acc l).2 ≠ 0 → (pwrF acc l).1 = [] := by
      intro l
      induction l with
      | nil => intro acc h; exact absurd rfl h
      | cons f l ih =>
        intro acc h
        rw [pwrF] at h ⊢
        split
        · rename_i h2; rw [if_pos h2] at h; exact ih _ h
        · rfl
    have := this F [] h
    show (pwrF [] F).1.length ≤ _
    rw [this]; simp
end Go.Proto
namespace Go.Proofs.Ytoicahfpnnhgpaa
open Go.RowKit Go.Vint Go.Proto

theorem flat_one (xs : List FC) : ∀ u ∈ flat xs, u.oneCell' = true := by
  intro u hu
  obtain ⟨x, -, hu⟩ := List.mem_flatMap.1 hu
  exact FC.cells_one x u hu

set_option maxHeartbeats 1600000 in
theorem pjoins_walk {w : World} (a0 : Option Addr) (c0 : Nat) (X0 : List FC) (hl0 : X0.length ≤ c0) (hm0 : c0 ≤ maxLen) (hn0 : a0 = none → c0 = 0) (hr0 : Rd w a0 (flat X0)) (hw0 : ∀ y ∈ X0, FIn w y)
    (a1 : Option Addr) (c1 : Nat) (X1 : List FC) (hl1 : X1.length ≤ c1) (hm1 : c1 ≤ maxLen) (hn1 : a1 = none → c1 = 0) (hr1 : Rd w a1 (flat X1)) (hw1 : ∀ y ∈ X1, FIn w y) (nm : Int) (_wf : (Lit.int .i64 nm).wf = true) :
    Calls Try.prog 6 #[.slice a0 X0.length c0, .slice a1 X1.length c1, .int .i64 nm] w fun e w' => e = .returned (.bool true) ∧ Below w.heap.size w w' := by
  have h1 := cut_call a0 c0 X0 w w (Below.refl _ _) hr0 hw0 (by omega)
  have h2 := fun W hW => cut_call a1 c1 X1 w W hW hr1 hw1 (by omega)
  have H1 := Lib.hid h1
  have H2 := Lib.hid h2
  clear h1 h2 hr0 hw0 hr1 hw1 hl0 hl1 hm0 hm1 hn0 hn1
  go_enter Try.func6, Try.ntmps6
  go_wp2_with fail
  refine H1.out.mono ?_
  rintro e w1 ⟨p0, d0, X, rfl, -, hX20, hXc, -, hp0, hrX, hokX, hcX, hb1⟩
  clear H1
  go_wp2_with fail
  refine (H2.out w1 hb1).mono ?_
  rintro e w2 ⟨p1, d1, Y, rfl, -, hY20, hYc, -, hp1, hrY, hokY, hcY, hb2⟩
  have hb3 := hb1.trans (hb2.mono hb1.size)
  have HRX : Hid (∀ W, Below w2.heap.size w2 W → Rd W p0 (flat X) ∧ ∀ x ∈ X, x.Ok W) := Lib.hid fun W h => ⟨(hrX.keep hb2).keep h, fun x hx => ((hokX x hx).keep hb2).keep h⟩
  have HRY : Hid (∀ W, Below w2.heap.size w2 W → Rd W p1 (flat Y) ∧ ∀ x ∈ Y, x.Ok W) := Lib.hid fun W h => ⟨hrY.keep h, fun x hx => (hokY x hx).keep h⟩
  have HBX : Hid (∀ x ∈ X, Byt x.f) := Lib.hid fun x hx => (hcX x hx).1
  have HBY : Hid (∀ x ∈ Y, Byt x.f) := Lib.hid fun x hx => (hcY x hx).1
  have HCX := Lib.hid hcX
  have HCY := Lib.hid hcY
  obtain ⟨NX, hNX⟩ : ∃ N, X.length = N := ⟨_, rfl⟩
  obtain ⟨NY, hNY⟩ : ∃ N, Y.length = N := ⟨_, rfl⟩
  obtain ⟨FX, hFX⟩ : ∃ F, X.map (·.f) = F := ⟨_, rfl⟩
  obtain ⟨FY, hFY⟩ : ∃ F, Y.map (·.f) = F := ⟨_, rfl⟩
  have hFXl : FX.length = NX := by rw [← hFX, ← hNX]; simp
  have hFYl : FY.length = NY := by rw [← hFY, ← hNY]; simp
  have HFX : Hid (∀ f ∈ FX, Byt f ∧ 0 ≤ f.n ∧ f.n ≤ 18446744073709551615 ∧ f.bs.length ≤ 50) := by
    refine Lib.hid fun f hf => ?_
    rw [← hFX] at hf
    obtain ⟨x, hx, rfl⟩ := List.mem_map.1 hf
    exact hcX x hx
  have HFY : Hid (∀ f ∈ FY, Byt f ∧ 0 ≤ f.n ∧ f.n ≤ 18446744073709551615 ∧ f.bs.length ≤ 50) := by
    refine Lib.hid fun f hf => ?_
    rw [← hFY] at hf
    obtain ⟨x, hx, rfl⟩ := List.mem_map.1 hf
    exact hcY x hx
  have hwX := fun W h => pwrite_any p0 d0 X (fun x hx => ⟨(HCX.out x hx).1, (HCX.out x hx).2.1, (HCX.out x hx).2.2.1, by have := (HCX.out x hx).2.2.2; omega⟩) (by omega) W (HRX.out W h).1 (HRX.out W h).2
  have hwY := fun W h => pwrite_any p1 d1 Y (fun x hx => ⟨(HCY.out x hx).1, (HCY.out x hx).2.1, (HCY.out x hx).2.2.1, by have := (HCY.out x hx).2.2.2; omega⟩) (by omega) W (HRY.out W h).1 (HRY.out W h).2
  have hpX := pwr_facts FX HFX.out (by omega)
  have hpY := pwr_facts FY HFY.out (by omega)
  rw [hNX, hFX] at hwX
  rw [hNY, hFY] at hwY
  rw [hNX] at hX20 hXc ⊢
  rw [hNY] at hY20 hYc ⊢
  obtain ⟨B1, e1, hB1⟩ : ∃ B er, pwr FX = (B, er) := ⟨_, _, rfl⟩
  obtain ⟨B2, e2, hB2⟩ : ∃ B er, pwr FY = (B, er) := ⟨_, _, rfl⟩
  rw [hB1] at hwX hpX
  rw [hB2] at hwY hpY
  obtain ⟨hpX, hB1l⟩ := hpX
  obtain ⟨hpY, hB2l⟩ := hpY
  try dsimp only at hB1l hB2l
  have HWX := Lib.hid hwX
  have HWY := Lib.hid hwY
  have HPX := Lib.hid hpX
  have HPY := Lib.hid hpY
  have HNX := Lib.hid hNX
  have HNY := Lib.hid hNY
  have HMX := Lib.hid hFX
  have HMY := Lib.hid hFY
  have HLX := Lib.hid hFXl
  have HLY := Lib.hid hFYl
  have hs3 := hb3.size
  clear H2 hrX hokX hcX hrY hokY hcY hb1 hb2 hwX hwY hpX hpY hNX hNY hFX hFY hFXl hFYl hB1 hB2
  go_wp2_with fail
  refine (HWX.out w2 (Below.refl _ _)).mono ?_
  rintro e w3 ⟨v3, rfl, hown3, hb4⟩
  try dsimp only at hown3
  obtain ⟨p3, d3, rfl, -, -, h33, hr3, -⟩ := hown3.form
  clear HWX hown3
  go_wp2_with fail
  refine (HWY.out w3 hb4).mono ?_
  rintro e w4 ⟨v4, rfl, hown4, hb5⟩
  try dsimp only at hown4
  obtain ⟨p4, d4, rfl, -, -, h43, hr4, -⟩ := hown4.form
  have hb6 := hb4.trans (hb5.mono hb4.size)
  have hr34 := hr3.keep hb5
  clear HWY hown4 hb4 hb5 hr3
  by_cases he1 : e1 = 0
  · by_cases he2 : e2 = 0
    · subst he1 he2
      obtain ⟨hkX, hBX⟩ := HPX.out rfl
      obtain ⟨hkY, hBY⟩ := HPY.out rfl
      try dsimp only at hBX hBY
      have hpa := pall_fby (FX ++ FY) (fun f hf => by
        rcases List.mem_append.1 hf with hf | hf
        · exact ⟨hkX f hf, (HFX.out f hf).2.1, (HFX.out f hf).2.2.1, by have := (HFX.out f hf).2.2.2; omega⟩
        · exact ⟨hkY f hf, (HFY.out f hf).2.1, (HFY.out f hf).2.2.1, by have := (HFY.out f hf).2.2.2; omega⟩)
      rw [List.flatMap_append, ← hBX, ← hBY] at hpa
      have hBb : ∀ x ∈ B1 ++ B2, 0 ≤ x ∧ x ≤ 255 := by
        intro x hx
        rcases List.mem_append.1 hx with hx | hx
        · rw [hBX] at hx
          obtain ⟨f, hf, hx⟩ := List.mem_flatMap.1 hx
          exact fby_bd f (hkX f hf) (HFX.out f hf).2.1 (HFX.out f hf).1 x hx
        · rw [hBY] at hx
          obtain ⟨f, hf, hx⟩ := List.mem_flatMap.1 hx
          exact fby_bd f (hkY f hf) (HFY.out f hf).2.1 (HFY.out f hf).1 x hx
      have HPA := Lib.hid hpa
      have HBB := Lib.hid hBb
      clear HPX HPY hkX hBX hkY hBY hpa hBb
      have hs6 := hb6.size
      have hrX4 := (HRX.out w4 hb6).1
      have hrY4 := (HRY.out w4 hb6).1
      go_wp2_with (first
        | (at_builtin; refine wpList_app' w4 (Below.new w4 (.cells #[] 25)) rfl (.tmp 37) (.tmp 38) 36 rfl 25 (.agg #[.int .i64 0, .int .i64 0, .int .u64 0, .slice none 0 0]) 4 48 Try.underlying36 Try.infoField rfl (by decide) (.slice (some ⟨w4.heap.size, 0, none⟩) 0 0) 0 [] rfl (ownsRow_empty w4 _ _) p0 NX d0 (flat X) rfl hp0 (hrX4.alloc _) (by rw [flat_len, HNX.out]) (flat_one X) (by omega) (by decide) ?_; intro v5 w5 hown5 hg5 hbl5)
        | (at_builtin; refine wpList_app' w4 hbl5 rfl (.tmp 39) (.tmp 40) 36 rfl 25 (.agg #[.int .i64 0, .int .i64 0, .int .u64 0, .slice none 0 0]) 4 48 Try.underlying36 Try.infoField rfl (by decide) v5 (0 + NX) ([] ++ flat X) rfl hown5 p1 NY d1 (flat Y) rfl hp1 (hrY4.keep hbl5) (by rw [flat_len, HNY.out]) (flat_one Y) (by omega) (by decide) ?_; intro v6 w6 hown6 hg6 hbl6; rw [Nat.zero_add, List.nil_append, ← flat_append] at hown6; have hr36 := hr34.keep hbl6; have hr46 := hr4.keep hbl6; clear hown5 hbl5 hg5 hg6 hrX4 hrY4 hr34 hr4)
        | (at_builtin; refine wpList_app' w6 (Below.new w6 (.cells #[] 5)) rfl (.tmp 43) (.tmp 44) 22 rfl 5 (.int .u8 0) 1 1 Try.underlying22 Try.infoU8 rfl (by decide) (.slice (some ⟨w6.heap.size, 0, none⟩) 0 0) 0 [] rfl (ownsRow_empty w6 _ _) p3 B1.length d3 (B1.map (Value.int .u8)) rfl h33 (hr36.alloc _) (by simp) (ints_one .u8 _) (by omega) (by decide) ?_; intro v7 w7 hown7 hg7 hbl7)
        | (at_builtin; refine wpList_app' w6 hbl7 rfl (.tmp 45) (.tmp 46) 22 rfl 5 (.int .u8 0) 1 1 Try.underlying22 Try.infoU8 rfl (by decide) v7 (0 + B1.length) ([] ++ B1.map (Value.int .u8)) rfl hown7 p4 B2.length d4 (B2.map (Value.int .u8)) rfl h43 (hr46.keep hbl7) (by simp) (ints_one .u8 _) (by omega) (by decide) ?_; intro v8 w8 hown8 hg8 hbl8; rw [Nat.zero_add, List.nil_append, ← List.length_append, ← List.map_append] at hown8; have hf8 := hown8.form; obtain ⟨p8, d8, rfl, h81, h82, h83, hr8, -⟩ := hf8; clear hown7 hbl7 hg7 hg8 hr36 hr46 hown8))
      obtain ⟨p6, d6, rfl, -, -, h63, hr6, -⟩ := hown6.form
      obtain ⟨Z, hZ⟩ : ∃ Z, X ++ Y = Z := ⟨_, rfl⟩
      obtain ⟨NZ, hNZ⟩ : ∃ N, NX + NY = N := ⟨_, rfl⟩
      have hZl : Z.length = NZ := by rw [← hZ, List.length_append, HNX.out, HNY.out, hNZ]
      have hZm : Z.map (·.f) = FX ++ FY := by rw [← hZ, List.map_append, HMX.out, HMY.out]
      have hZb : ∀ x ∈ Z, Byt x.f := by
        intro x hx
        rw [← hZ] at hx
        rcases List.mem_append.1 hx with hx | hx
        · exact HBX.out x hx
        · exact HBY.out x hx
      have hZc : ∀ x ∈ Z, x.f.bs.length ≤ 50 := by
        intro x hx
        rw [← hZ] at hx
        rcases List.mem_append.1 hx with hx | hx
        · exact (HCX.out x hx).2.2.2
        · exact (HCY.out x hx).2.2.2
      have hZ40 : NZ ≤ 40 := by omega
      have hb7 := hb6.trans (hbl6.mono hs6)
      have hs7 := hb7.size
      have hb9 := hb7.trans (hbl8.mono hs7)
      have hZok : ∀ x ∈ Z, x.Ok w8 := by
        intro x hx
        rw [← hZ] at hx
        rcases List.mem_append.1 hx with hx | hx
        · exact (HRX.out w8 hb9).2 x hx
        · exact (HRY.out w8 hb9).2 x hx
      rw [hNZ]
      rw [hZ] at hr6
      have hrZ := hr6.keep hbl8
      have HZL := Lib.hid hZl
      have HZM := Lib.hid hZm
      have HZB := Lib.hid hZb
      have HZC := Lib.hid hZc
      have HRZ : Hid (∀ W, Below w8.heap.size w8 W → Rd W p6 (flat Z) ∧ ∀ x ∈ Z, x.Ok W) := Lib.hid fun W h => ⟨hrZ.keep h, fun x hx => (hZok x hx).keep h⟩
      have hal := protoAll_any p8 d8 (B1 ++ B2) HBB.out (by simp; omega) h81 h82 w8 hr8
      rw [HPA.out, List.length_append] at hal
      have HAL := Lib.hid hal
      have hs9 := hb9.size
      clear hZ hNZ hZl hZm hZb hZc hZok hr6 hrZ hown6 hal hr8 h81 h82 h83 hb6 hbl6 hbl8 hb7 HPA HBB
      refine HAL.out.mono ?_
      rintro e w10 ⟨v10, rfl, xs, hxs, hown10, hok10, hb10⟩
      try dsimp only at hxs
      obtain ⟨p10, d10, rfl, -, -, -, hr10, -⟩ := hown10.form
      have hxl : xs.length ≤ 40 := by
        have : xs.length = (FX ++ FY).length := by rw [← hxs]; simp
        rw [List.length_append, HLX.out, HLY.out] at this; omega
      have HXS := Lib.hid hxs
      have hb11 := hb9.trans (hb10.mono hs9)
      have hs11 := hb11.size
      have hoX := only_any p0 d0 X nm w10 (HRX.out w10 hb11).1 (HRX.out w10 hb11).2 (by rw [HNX.out]; omega) (fun x hx => by have := (HCX.out x hx).2.2.2; omega)
      rw [HNX.out, HMX.out] at hoX
      have HOX := Lib.hid hoX
      clear HAL hown10 hxs hoX
      go_wp2_with fail
      refine HOX.out.mono ?_
      rintro e w11 ⟨v11, rfl, y1, hy1, hown11, hly1, hb12⟩
      have hf11 := hown11.form
      obtain ⟨p11, d11, rfl, -, -, -, -, -⟩ := hf11
      have hb13 := hb11.trans (hb12.mono hs11)
      have hoY := only_any p1 d1 Y nm w11 (HRY.out w11 hb13).1 (HRY.out w11 hb13).2 (by rw [HNY.out]; omega) (fun x hx => by have := (HCY.out x hx).2.2.2; omega)
      rw [HNY.out, HMY.out] at hoY
      have HOY := Lib.hid hoY
      have HY1 := Lib.hid hy1
      have HLY1 := Lib.hid hly1
      have hy1l : y1.length ≤ 20 := by
        have h1 : y1.length = (FX.filter (fun f => decide (f.num = nm))).length := by rw [← hy1]; simp
        have h2 := List.length_filter_le (fun f : Fld => decide (f.num = nm)) FX
        rw [HLX.out] at h2; omega
      clear HOX hoY hy1 hly1 hb13
      go_wp2_with fail
      refine HOY.out.mono ?_
      rintro e w12 ⟨v12, rfl, y2, hy2, hown12, hly2, hb14⟩
      obtain ⟨p12, d12, rfl, -, -, h123, hr12, -⟩ := hown12.form
      have hown11b := hown11.below hb14
      have hb15 := hb12.trans (hb14.mono hb12.size)
      have HY2 := Lib.hid hy2
      have hy2l : y2.length ≤ 20 := by
        have h1 : y2.length = (FY.filter (fun f => decide (f.num = nm))).length := by rw [← hy2]; simp
        have h2 := List.length_filter_le (fun f : Fld => decide (f.num = nm)) FY
        rw [HLY.out] at h2; omega
      have hl12 : ∀ y ∈ y1 ++ y2, Lies w12 y := by
        intro y hy
        rcases List.mem_append.1 hy with hy | hy
        · exact (HLY1.out y hy).kept (KeepT.of_below hb14)
        · exact hly2 y hy
      have HL12 := Lib.hid hl12
      clear HOY hown11 hown12 hy2 hly2 hl12 hb12 hb14
      go_wp2_with (at_builtin; go_must (refine wpList_app' w10 hb15 rfl (.tmp 54) (.tmp 57) 36 rfl 25 (.agg #[.int .i64 0, .int .i64 0, .int .u64 0, .slice none 0 0]) 4 48 Try.underlying36 Try.infoField rfl (by decide) (.slice p11 y1.length d11) y1.length (flat y1) rfl hown11b p12 y2.length d12 (flat y2) rfl h123 hr12 (by rw [flat_len]) (flat_one y2) (by omega) (by decide) ?_); intro v13 w13 hown13 hg13 hb16; have hkT13 : KeepT 5 22 w12 w13 := KeepT.of_row hown11b (by decide) (by decide) hg13; have HKT := Lib.hid hkT13; clear hown11b hr12 hg13 hkT13 hb15)
      rw [← flat_append] at hown13
      obtain ⟨U, hU⟩ : ∃ U, y1 ++ y2 = U := ⟨_, rfl⟩
      have hUl : U.length = y1.length + y2.length := by rw [← hU, List.length_append]
      have hUm : U.map (·.f) = (FX ++ FY).filter (fun f => decide (f.num = nm)) := by rw [← hU, List.map_append, HY1.out, HY2.out, List.filter_append]
      have hUk : ∀ y ∈ U, Lies w13 y := by
        intro y hy
        rw [← hU] at hy
        exact (HL12.out y hy).kept HKT.out
      have hFb : ∀ f ∈ FX ++ FY, Byt f := by
        intro f hf
        rcases List.mem_append.1 hf with hf | hf
        · exact (HFX.out f hf).1
        · exact (HFY.out f hf).1
      rw [hU] at hown13
      rw [← hUl] at hown13
      obtain ⟨p13, d13, rfl, -, -, -, hr13, -⟩ := hown13.form
      have hs10 := hb10.size
      have hb17 := hb10.trans (hb16.mono hs10)
      have hU40 : U.length ≤ 40 := by omega
      have hr10b := hr10.keep hb16
      have hok10b : ∀ x ∈ xs, x.Ok w13 := fun x hx => (hok10 x hx).keep hb16
      have HUM := Lib.hid hUm
      have HFBB := Lib.hid hFb
      have HUK := Lib.hid hUk
      clear hUl hUm hUk hFb hU hown13 hb16 hr10 hok10 hb10 HKT HL12 HLY1 hb11
      refine (pknown_any w13).mono ?_
      rintro e w14 ⟨rfl, hb18⟩
      have hb19 := hb17.trans (hb18.mono hb17.size)
      have hbx : ∀ x ∈ xs, Byt x.f := fun x hx => HFBB.out x.f (by rw [← HXS.out]; exact List.mem_map_of_mem hx)
      have hs1 := same2_any p10 p6 d10 d6 xs Z hbx HZB.out (by omega) (by rw [HZL.out]; omega) w14 (hr10b.keep hb18) (HRZ.out w14 hb19).1 (fun x hx => (hok10b x hx).keep hb18) (HRZ.out w14 hb19).2
      rw [show decide (xs.map (·.f) = Z.map (·.f)) = true from decide_eq_true (HXS.out.trans HZM.out.symm), HZL.out] at hs1
      have HS1 := Lib.hid hs1
      clear hb17 hbx hs1 hr10b hok10b
      go_wp2_with fail
      refine HS1.out.mono ?_
      rintro e w15 ⟨rfl, hb20⟩
      have hb21 := hb18.trans (hb20.mono hb18.size)
      have hb22 := hb19.trans (hb20.mono hb19.size)
      have hoZ := only_any p6 d6 Z nm w15 (HRZ.out w15 hb22).1 (HRZ.out w15 hb22).2 (by rw [HZL.out]; omega) (fun x hx => by have := HZC.out x hx; omega)
      rw [HZL.out, HZM.out] at hoZ
      have HOZ := Lib.hid hoZ
      clear HS1 hb18 hb19 hb20 hoZ
      go_wp2_with fail
      refine HOZ.out.mono ?_
      rintro e w16 ⟨v16, rfl, y3, hy3, hown16, hly3, hb23⟩
      obtain ⟨p16, d16, rfl, -, -, -, hr16, -⟩ := hown16.form
      have hb24 := hb21.trans (hb23.mono hb21.size)
      have hb25 := hb22.trans (hb23.mono hb22.size)
      have hy3l : y3.length ≤ 40 := by
        have h1 : y3.length = ((FX ++ FY).filter (fun f => decide (f.num = nm))).length := by rw [← hy3]; simp
        have h2 := List.length_filter_le (fun f : Fld => decide (f.num = nm)) (FX ++ FY)
        rw [List.length_append, HLX.out, HLY.out] at h2; omega
      have hs2 := same2_any p16 p13 d16 d13 y3 U (fun y hy => HFBB.out y.f (by have : y.f ∈ y3.map (·.f) := List.mem_map_of_mem hy; rw [hy3] at this; exact (List.mem_filter.1 this).1))
        (fun y hy => HFBB.out y.f (by have : y.f ∈ U.map (·.f) := List.mem_map_of_mem hy; rw [HUM.out] at this; exact (List.mem_filter.1 this).1)) (by omega) (by omega) w16 hr16 (hr13.keep hb24) (fun y hy => (hly3 y hy).1) (fun y hy => (HUK.out y hy).1.keep hb24)
      rw [show decide (y3.map (·.f) = U.map (·.f)) = true from decide_eq_true (hy3.trans HUM.out.symm)] at hs2
      have HS2 := Lib.hid hs2
      clear HOZ hown16 hly3 hb23 hr16 hy3 hr13 hs2 hb21 hb22
      go_wp2_with fail
      refine HS2.out.mono ?_
      rintro e w17 ⟨rfl, hb26⟩
      have hbF := (hb3.trans (hb9.mono hs3)).trans ((hb25.trans (hb26.mono hb25.size)).mono (by omega))
      clear HS2 hb25 hb26
      go_wp2
      go_ret
      exact ⟨rfl, hbF⟩
    · have hne1 : (e1 != 0) = false := by simp [he1]
      have hne2 : (e2 != 0) = true := by simpa using he2
      go_wp2_with fail
      refine (pknown_any _).mono ?_
      rintro e w6 ⟨rfl, hb9⟩
      go_wp2
      go_ret
      exact ⟨rfl, (hb3.trans (hb6.mono hs3)).trans (hb9.mono (by have := hb6.size; omega))⟩
  · have hne : (e1 != 0) = true := by simpa using he1
    go_wp2_with fail
    refine (pknown_any _).mono ?_
    rintro e w6 ⟨rfl, hb9⟩
    go_wp2
    go_ret
    exact ⟨rfl, (hb3.trans (hb6.mono hs3)).trans (hb9.mono (by have := hb6.size; omega))⟩
end Go.Proofs.Ytoicahfpnnhgpaa
