/-
  ProtoWrites: the walk.
-/
import Derived.Test.YtoicahfpnnhgpaaPonlyl
import Derived.Test.YtoicahfpnnhgpaaRefwrite
import Derived.Test.YtoicahfpnnhgpaaPback
set_option linter.unusedVariables false
set_option linter.unusedSimpArgs false
namespace Go.Proofs.Ytoicahfpnnhgpaa
open Go.RowKit Go.Vint Go.Proto

set_option maxHeartbeats 800000 in
theorem pwrites_walk {w : World} (a0 : Option Addr) (c0 : Nat) (X0 : List FC) (hl0 : X0.length ≤ c0) (hm0 : c0 ≤ maxLen) (hn0 : a0 = none → c0 = 0) (hr0 : Rd w a0 (flat X0)) (hw0 : ∀ y ∈ X0, FIn w y) :
    Calls Try.prog 5 #[.slice a0 X0.length c0] w fun e w' => e = .returned (.bool true) ∧ Below w.heap.size w w' := by
  have h1 := cut_call a0 c0 X0 w w (Below.refl _ _) hr0 hw0 (by omega)
  have H1 := Lib.hid h1
  clear h1 hr0 hw0 hl0 hm0 hn0
  go_enter Try.func5, Try.ntmps5
  go_wp2_with fail
  refine H1.out.mono ?_
  rintro e w1 ⟨p0, d0, X, rfl, -, hX20, hXc, -, hp0, hrX, hokX, hcX, hb1⟩
  obtain ⟨N, hN⟩ : ∃ N, X.length = N := ⟨_, rfl⟩
  obtain ⟨FX, hFX⟩ : ∃ FX, X.map (·.f) = FX := ⟨_, rfl⟩
  have hFl : FX.length = N := by rw [← hFX, ← hN]; simp
  have HRX : Hid (∀ W, Below w1.heap.size w1 W → Rd W p0 (flat X) ∧ ∀ x ∈ X, x.Ok W) := Lib.hid fun W h => ⟨hrX.keep h, fun x hx => (hokX x hx).keep h⟩
  have HCX := Lib.hid hcX
  have HBX : Hid (∀ x ∈ X, Byt x.f) := Lib.hid fun x hx => (hcX x hx).1
  have HFF : Hid (∀ f ∈ FX, Byt f ∧ 0 ≤ f.n ∧ f.n ≤ 18446744073709551615 ∧ f.bs.length ≤ 50) := by
    refine Lib.hid fun f hf => ?_
    rw [← hFX] at hf
    obtain ⟨x, hx, rfl⟩ := List.mem_map.1 hf
    exact hcX x hx
  have HN := Lib.hid hN
  have HFX := Lib.hid hFX
  have HFL := Lib.hid hFl
  have hw1 := pwrite_any p0 d0 X (fun x hx => ⟨(hcX x hx).1, (hcX x hx).2.1, (hcX x hx).2.2.1, by have := (hcX x hx).2.2.2; omega⟩) (by omega) w1 hrX hokX
  rw [hN, hFX] at hw1
  rw [hN] at hX20 hXc ⊢
  have HW1 := Lib.hid hw1
  have hwz : (pwr FX).2 = 0 → (∀ f ∈ FX, chk f = 0) ∧ (pwr FX).1 = FX.flatMap fby := by
    intro h
    have h2 := pwrF_zero FX [] h
    exact ⟨h2, by rw [pwr_ok FX h2]⟩
  have hrw := fun a c W h => rwrite_any a c FX (fun f hf => ⟨(HFF.out f hf).1, (HFF.out f hf).2.1, (HFF.out f hf).2.2.1, by have := (HFF.out f hf).2.2.2; omega⟩) (by omega) W h
  have hBl : (pwr FX).2 = 0 → (pwr FX).1.length ≤ 1400 := by
    intro h
    obtain ⟨h2, h3⟩ := hwz h
    rw [h3]
    have := fbys_len FX 50 (by omega) (fun f hf => ⟨h2 f hf, (HFF.out f hf).2⟩)
    omega
  have hBl2 : (pwr FX).1.length ≤ 1400 := by
    by_cases h : (pwr FX).2 = 0
    · exact hBl h
    · have : ∀ (l : List Fld) (acc : List Int), (pwrF acc l).2 ≠ 0 → (pwrF acc l).1 = [] := by
        intro l
        induction l with
        | nil => intro acc h; exact absurd rfl h
        | cons f l ih =>
          intro acc h
          rw [pwrF] at h ⊢
          split
          · rename_i h2; rw [if_pos h2] at h; exact ih _ h
          · rfl
      have := this FX [] h
      show (pwrF [] FX).1.length ≤ _
      rw [this]; simp
  obtain ⟨B, er, hBe⟩ : ∃ B er, pwr FX = (B, er) := ⟨_, _, rfl⟩
  rw [hBe] at hwz hrw HW1 hBl2
  have HWZ := Lib.hid hwz
  have HRW := Lib.hid hrw
  have hB1 : B.length ≤ 1400 := hBl2
  clear H1 hN hFX hFl hw1 hwz hrw hBl hBl2 hBe hcX hrX hokX
  go_wp2_with fail
  refine HW1.out.mono ?_
  rintro e w2 ⟨v2, rfl, hown2, hb2⟩
  try dsimp only at hown2
  obtain ⟨p2, d2, rfl, h21, h22, h23, hr2, -⟩ := hown2.form
  have hb3 := hb1.trans (hb2.mono hb1.size)
  have hof := ofs_any p0 d0 X (by rw [HN.out]; omega) w2 (HRX.out w2 hb2).1 (HRX.out w2 hb2).2
  rw [HN.out, HFX.out] at hof
  have HOF := Lib.hid hof
  clear HW1 hown2 hof
  go_wp2_with fail
  refine HOF.out.mono ?_
  rintro e w3 ⟨v3, rfl, hown3, hb4⟩
  obtain ⟨p3, d3, rfl, -, -, -, hr3, -⟩ := hown3.form
  have hb5 := hb2.trans (hb4.mono hb2.size)
  have hrw3 := HRW.out p3 d3 w3 hr3
  rw [HFL.out] at hrw3
  have HRW3 := Lib.hid hrw3
  have hr23 := hr2.keep hb4
  clear HOF hown3 hr3 hrw3 HRW hr2 hb2 hb4 hb3
  go_wp2_with fail
  refine HRW3.out.mono ?_
  rintro e w4 ⟨v4, rfl, hown4, hb6⟩
  try dsimp only at hown4
  obtain ⟨p4, d4, rfl, -, -, -, hr4, -⟩ := hown4.form
  have hb7 := hb5.trans (hb6.mono hb5.size)
  have hr24 := hr23.keep hb6
  have hee : (er != er) = false := by simp
  clear HRW3 hown4 hb6 hb5 hr23
  go_wp2_with fail
  refine (rsame_any p2 p4 d2 d4 B B (by omega) (by omega) w4 hr24 hr4).mono ?_
  rintro e w5 ⟨rfl, n5, rfl⟩
  simp only [decide_true]
  have hb8 := below_drewN hb7 n5
  have hr25 : Rd (w4.drewN n5) p2 (B.map (Value.int .u8)) := hr24.drewN n5
  clear hr24 hr4 hb7
  generalize w4.drewN n5 = w5 at *
  have hbA := hb1.trans (hb8.mono hb1.size)
  have hsA := hbA.size
  by_cases he : er = 0
  · subst he
    obtain ⟨hk1, hk2⟩ := HWZ.out rfl
    try dsimp only at hk2
    have hpa := pall_fby FX (fun f hf => ⟨hk1 f hf, (HFF.out f hf).2.1, (HFF.out f hf).2.2.1, by have := (HFF.out f hf).2.2.2; omega⟩)
    rw [← hk2] at hpa
    have hBb : ∀ x ∈ B, 0 ≤ x ∧ x ≤ 255 := by
      intro x hx
      rw [hk2] at hx
      obtain ⟨f, hf, hx⟩ := List.mem_flatMap.1 hx
      exact fby_bd f (hk1 f hf) (HFF.out f hf).2.1 (HFF.out f hf).1 x hx
    have hal := protoAll_any p2 d2 B hBb (by omega) h21 h22 w5 hr25
    rw [hpa] at hal
    have HAL := Lib.hid hal
    clear hk1 hk2 hpa hBb hal HWZ
    go_wp2_with fail
    refine HAL.out.mono ?_
    rintro e w6 ⟨v6, rfl, xs, hxs, hown6, hok6, hb9⟩
    try dsimp only at hxs
    obtain ⟨p6, d6, rfl, -, -, -, hr6, -⟩ := hown6.form
    have hb10 := hb8.trans (hb9.mono hb8.size)
    have hxl : xs.length ≤ 20 := by
      have : xs.length = FX.length := by rw [← hxs]; simp
      rw [HFL.out] at this; omega
    have HXS := Lib.hid hxs
    clear HAL hown6 hb9 hb8 hxs
    go_wp2_with fail
    refine (pknown_any _).mono ?_
    rintro e w7 ⟨rfl, hb11⟩
    have hb12 := hb10.trans (hb11.mono hb10.size)
    have hr7 := hr6.keep hb11
    have hok7 : ∀ x ∈ xs, x.Ok w7 := fun x hx => (hok6 x hx).keep hb11
    have hof := ofs_any p0 d0 X (by rw [HN.out]; omega) w7 (HRX.out w7 hb12).1 (HRX.out w7 hb12).2
    rw [HN.out, HFX.out] at hof
    have HOF := Lib.hid hof
    clear hb10 hb11 hr6 hok6 hof
    go_wp2_with fail
    refine HOF.out.mono ?_
    rintro e w8 ⟨v8, rfl, hown8, hb13⟩
    obtain ⟨p8, d8, rfl, -, -, -, hr8, -⟩ := hown8.form
    have hb14 := hb12.trans (hb13.mono hb12.size)
    have hr78 := hr7.keep hb13
    have hok8 : ∀ x ∈ xs, x.Ok w8 := fun x hx => (hok7 x hx).keep hb13
    have hbx : ∀ x ∈ xs, Byt x.f := fun x hx => (HFF.out x.f (by rw [← HXS.out]; exact List.mem_map_of_mem hx)).1
    have HBB := Lib.hid hbx
    have hsm := psame_any p6 p8 d6 d8 xs FX hbx (fun f hf => (HFF.out f hf).1) (by omega) (by rw [HFL.out]; omega) w8 hr78 hr8 hok8
    rw [show decide (xs.map (·.f) = FX) = true from decide_eq_true HXS.out, HFL.out] at hsm
    have HSM := Lib.hid hsm
    clear HOF hown8 hb13 hb12 hr7 hok7 hr8 hbx hsm
    go_wp2_with fail
    refine HSM.out.mono ?_
    rintro e w9 ⟨rfl, hb15⟩
    have hb16 := hb14.trans (hb15.mono hb14.size)
    have hr79 := hr78.keep hb15
    have hok9 : ∀ x ∈ xs, x.Ok w9 := fun x hx => (hok8 x hx).keep hb15
    have hs2 := same2_any p6 p0 d6 d0 xs X HBB.out HBX.out (by omega) (by rw [HN.out]; omega) w9 hr79 (HRX.out w9 hb16).1 hok9 (HRX.out w9 hb16).2
    rw [show decide (xs.map (·.f) = X.map (·.f)) = true from decide_eq_true (HXS.out.trans HFX.out.symm), HN.out] at hs2
    have HS2 := Lib.hid hs2
    clear HSM hb15 hb14 hr78 hok8 hs2 hr79 hok9
    go_wp2_with fail
    refine HS2.out.mono ?_
    rintro e w10 ⟨rfl, hb17⟩
    have hbF := hb1.trans ((hb16.trans (hb17.mono hb16.size)).mono hb1.size)
    clear HS2 hb16 hb17
    go_wp2
    go_ret
    exact ⟨rfl, hbF⟩
  · have hne : (er != 0) = true := by simpa using he
    go_wp2_with fail
    refine (pknown_any _).mono ?_
    rintro e w6 ⟨rfl, hb9⟩
    have hbF := hbA.trans (hb9.mono hsA)
    go_wp2
    go_ret
    exact ⟨rfl, hbF⟩
end Go.Proofs.Ytoicahfpnnhgpaa
