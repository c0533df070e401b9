/-
  ProtoOnly: the walk.
-/
import Derived.Test.YtoicahfpnnhgpaaPonly
import Derived.Test.YtoicahfpnnhgpaaPsame2
import Derived.Test.YtoicahfpnnhgpaaPknown
import Derived.Test.YtoicahfpnnhgpaaOpenF
set_option linter.unusedVariables false
set_option linter.unusedSimpArgs false
namespace Go.Proofs.Ytoicahfpnnhgpaa
open Go.RowKit Go.Vint Go.Proto

/-- What is known of a field that was cut. -/
def FCut (x : FC) : Prop := Byt x.f ∧ 0 ≤ x.f.n ∧ x.f.n ≤ 18446744073709551615 ∧ x.f.bs.length ≤ 50

theorem cut_facts {w : World} (xs : List FC) (hw : ∀ y ∈ xs, FIn w y) : ∀ x ∈ (xs.take 20).map FC.cut, x.Ok w ∧ FCut x := by
  intro x hx
  obtain ⟨y, hy, rfl⟩ := List.mem_map.1 hx
  obtain ⟨h1, h2, h3, -, -⟩ := hw y (List.mem_of_mem_take hy)
  exact ⟨FC.Ok.cut h1, fun z hz => h2 z (List.mem_of_mem_take hz), h3.1, h3.2, by simp [FC.cut]; omega⟩

theorem cut_call (a : Option Addr) (c : Nat) (xs : List FC) (w0 w : World) (hb : Below w0.heap.size w0 w) (hr : Rd w0 a (flat xs)) (hw : ∀ y ∈ xs, FIn w0 y) (hl : xs.length ≤ maxLen) :
    Calls Try.prog 17 #[.slice a xs.length c] w fun e w' => ∃ (a' : Option Addr) (c' : Nat) (X : List FC), e = .returned (.slice a' X.length c') ∧ X = (xs.take 20).map FC.cut ∧ X.length ≤ 20 ∧ X.length ≤ c' ∧ c' ≤ maxLen ∧ (a' = none → c' = 0) ∧ Rd w' a' (flat X) ∧ (∀ x ∈ X, x.Ok w') ∧ (∀ x ∈ X, FCut x) ∧ Below w.heap.size w w' := by
  have hcf := cut_facts xs hw
  refine (cut_any a c xs w (hr.keep hb) (fun x hx => (hw x hx).1.keep hb) hl).mono ?_
  rintro e w' ⟨v, rfl, hown, hb2⟩
  obtain ⟨a', c', rfl, h1, h2, h3, h4, -⟩ := hown.form
  exact ⟨a', c', _, rfl, rfl, by simp; omega, h1, h2, h3, h4, fun x hx => ((hcf x hx).1.keep hb).keep hb2, fun x hx => (hcf x hx).2, hb2⟩

set_option maxHeartbeats 4000000 in
theorem ponly_walk {w : World} (a0 : Option Addr) (c0 : Nat) (X0 : List FC) (hl0 : X0.length ≤ c0) (hm0 : c0 ≤ maxLen) (hn0 : a0 = none → c0 = 0) (hr0 : Rd w a0 (flat X0)) (hw0 : ∀ y ∈ X0, FIn w y)
    (a1 : Option Addr) (c1 : Nat) (X1 : List FC) (hl1 : X1.length ≤ c1) (hm1 : c1 ≤ maxLen) (hn1 : a1 = none → c1 = 0) (hr1 : Rd w a1 (flat X1)) (hw1 : ∀ y ∈ X1, FIn w y) (nm : Int) (_wf : (Lit.int .i64 nm).wf = true) :
    Calls Try.prog 4 #[.slice a0 X0.length c0, .slice a1 X1.length c1, .int .i64 nm] w fun e w' => e = .returned (.bool true) ∧ Below w.heap.size w w' := by
  have h1 := cut_call a0 c0 X0 w w (Below.refl _ _) hr0 hw0 (by omega)
  have h2 := fun W hW => cut_call a1 c1 X1 w W hW hr1 hw1 (by omega)
  have H1 := Lib.hid h1
  have H2 := Lib.hid h2
  clear h1 h2 hr0 hw0 hr1 hw1 hl0 hl1 hm0 hm1 hn0 hn1
  go_enter Try.func4, Try.ntmps4
  go_wp2_with fail
  refine H1.out.mono ?_
  rintro e w1 ⟨p0, d0, X, rfl, -, hX20, hXc, -, hp0, hrX, hokX, hcX, hb1⟩
  clear H1
  go_wp2_with fail
  refine (H2.out w1 hb1).mono ?_
  rintro e w2 ⟨p1, d1, Y, rfl, -, hY20, hYc, -, hp1, hrY, hokY, hcY, hb2⟩
  have hb3 := hb1.trans (hb2.mono hb1.size)
  have hrX2 := hrX.keep hb2
  have hokX2 : ∀ x ∈ X, x.Ok w2 := fun x hx => (hokX x hx).keep hb2
  clear H2 hrX hokX hb1 hb2
  go_wp2_with fail
  refine (ofs_any p0 d0 X (by omega) w2 hrX2 hokX2).mono ?_
  rintro e w3 ⟨v3, rfl, hown3, hb4⟩
  obtain ⟨p3, d3, rfl, h31, -, h33, hr3, -⟩ := hown3.form
  have hb5 := hb3.trans (hb4.mono hb3.size)
  have hrX3 := hrX2.keep hb4
  have hrY3 := hrY.keep hb4
  have hokX3 : ∀ x ∈ X, x.Ok w3 := fun x hx => (hokX2 x hx).keep hb4
  have hokY3 : ∀ x ∈ Y, x.Ok w3 := fun x hx => (hokY x hx).keep hb4
  obtain ⟨N, hN⟩ : ∃ N, X.length = N := ⟨_, rfl⟩
  obtain ⟨FX, hFX⟩ : ∃ FX, X.map (·.f) = FX := ⟨_, rfl⟩
  have hFl : FX.length = N := by rw [← hFX, ← hN]; simp
  rw [hFX] at hr3
  clear hrX2 hrY hokX2 hokY hown3 hb3 hb4
  rw [hN] at hX20 hXc h31 ⊢
  have HN := Lib.hid hN
  have HFX := Lib.hid hFX
  have HFL := Lib.hid hFl
  have HKX := Lib.hid (And.intro hokX3 hcX)
  have HKY := Lib.hid (And.intro hokY3 hcY)
  clear hN hFX hFl hokX3 hcX hokY3 hcY
  go_wp2
  go_loopw [8, 9] (fun o i wr => ∃ (k : Nat) (S : List Fld), k ≤ N ∧ i = .int .i64 k ∧ S.length ≤ k ∧ S = (FX.take k).filter (fun f => decide (f.num = nm)) ∧ wr.ownsRow w3.heap.size 30 4 o S.length (rflat S) ∧ Below w3.heap.size w3 wr) (fun _ i _ => N - (intOf i).toNat)
  case atStart => exact ⟨0, [], Nat.zero_le _, rfl, Nat.le_refl _, rfl, World.ownsRow_nil _ _ _ _, Below.refl _ _⟩
  case round =>
    obtain ⟨k, S, hk, rfl, hSk, hS, hown, hbl⟩ := hrel
    have HS := Lib.hid hS
    clear hS
    by_cases hlt : k < N
    · have hlt2 : k < FX.length := by rw [HFL.out]; exact hlt
      obtain ⟨y, hyk⟩ : ∃ y, FX[k] = y := ⟨_, rfl⟩
      have g0 := fun j hj => rflat_get FX k j hlt2 hj
      rw [hyk] at g0
      obtain ⟨b1, off1, rfl, -, _⟩ := hr3.at (i := k * 4 + 0) (g0 0 (by omega))
      have HC1 : ∀ j v, j < 4 → (rcells y)[j]? = some v → wr.cell? ⟨b1, off1 + k * 4 + j, none⟩ = some v := by
        intro j v hj hv
        obtain ⟨b', o', e, hc, -⟩ := (hr3.keep hbl).at (i := k * 4 + j) (v := v) (by rw [g0 j hj, hv])
        cases e
        rw [Nat.add_assoc]; exact hc
      have q0 := HC1 0 _ (by omega) rfl
      have q1 := HC1 1 _ (by omega) rfl
      have q2 := HC1 2 _ (by omega) rfl
      have q3 := HC1 3 _ (by omega) rfl
      have HST1 : Hid (y.num = nm → (FX.take (k + 1)).filter (fun f => decide (f.num = nm)) = S ++ [y]) := by
        refine Lib.hid fun h => ?_
        rw [List.take_succ_eq_append_getElem hlt2, List.filter_append, hyk, ← HS.out]
        simp [h]
      have HST0 : Hid (¬ y.num = nm → (FX.take (k + 1)).filter (fun f => decide (f.num = nm)) = S) := by
        refine Lib.hid fun h => ?_
        rw [List.take_succ_eq_append_getElem hlt2, List.filter_append, hyk, ← HS.out]
        simp [h]
      rw [Nat.add_zero] at q0
      clear g0 hyk HC1
      obtain ⟨num, kind, n, bs⟩ := y
      dsimp only at q0 q1 q2 q3
      by_cases hq : num = nm
      · subst hq
        have heq : (num == num) = true := by simp
        have hst := Lib.hid (HST1.out rfl)
        clear HST0 HST1
        go_wp2_with (at_builtin; go_must (refine wpList_appLitAt w3 hbl rfl (.tmp 29) (.tmp 34) 39 rfl 30 (.agg #[.int .i64 0, .int .i64 0, .int .u64 0, .string ⟨#[]⟩]) 4 40 Try.underlying39 Try.infoF rfl (by decide) (by decide) u8 S.length (rflat S) rfl hown 1 1 wr.heap.size rfl (rcells ⟨num, kind, n, bs⟩) _ rfl rfl (rcells_one _) (by omega) ?_); intro v2 w2 hown2 _ hbl2 _; clear hown hbl)
        go_roundw
        case rel =>
          refine ⟨k + 1, S ++ [⟨num, kind, n, bs⟩], by omega, by go_num, by simp; omega, hst.out.symm, ?_, hbl2⟩
          rw [rflat_snoc, List.length_append]
          exact hown2
        case measure => simp [intOf]; omega
      · have heq : (num == nm) = false := by simpa using hq
        have hst := Lib.hid (HST0.out hq)
        clear HST0 HST1
        go_wp2
        go_roundw
        case rel => exact ⟨k + 1, S, by omega, by go_num, by omega, hst.out.symm, hown, hbl⟩
        case measure => simp [intOf]; omega
    · obtain rfl : k = N := by omega
      have HSS : Hid (S = FX.filter (fun f => decide (f.num = nm))) := by
        refine Lib.hid ?_
        rw [HS.out, List.take_of_length_le (by rw [HFL.out]; exact Nat.le_refl _)]
      obtain ⟨pS, dS, rfl, -, -, -, hrS, -⟩ := hown.form
      clear HS hown
      go_wp2_with fail
      have hs5 := hb5.size
      have hbA := hb5.trans (hbl.mono hs5)
      have hsA := hbA.size
      have HRX : Hid (∀ W, Below wr.heap.size wr W → Rd W p0 (flat X) ∧ ∀ x ∈ X, x.Ok W) := Lib.hid fun W h => ⟨(hrX3.keep hbl).keep h, fun x hx => ((HKX.out.1 x hx).keep hbl).keep h⟩
      have HRY : Hid (∀ W, Below wr.heap.size wr W → Rd W p1 (flat Y) ∧ ∀ x ∈ Y, x.Ok W) := Lib.hid fun W h => ⟨(hrY3.keep hbl).keep h, fun x hx => ((HKY.out.1 x hx).keep hbl).keep h⟩
      have HCX := Lib.hid HKX.out.2
      have HCY := Lib.hid HKY.out.2
      have HBX : Hid (∀ x ∈ X, Byt x.f) := Lib.hid fun x hx => (HCX.out x hx).1
      have HBY : Hid (∀ x ∈ Y, Byt x.f) := Lib.hid fun x hx => (HCY.out x hx).1
      have HBF : Hid (∀ f ∈ FX, Byt f) := by
        refine Lib.hid fun f hf => ?_
        rw [← HFX.out] at hf
        obtain ⟨x, hx, rfl⟩ := List.mem_map.1 hf
        exact HBX.out x hx
      have HBS : Hid (∀ f ∈ S, Byt f) := Lib.hid fun f hf => HBF.out f (by rw [HSS.out] at hf; exact (List.mem_filter.1 hf).1)
      clear hrX3 hrY3 hr3 HKX HKY hb5 hbl
      refine (pknown_any wr).mono ?_
      rintro e w4 ⟨rfl, hb6⟩
      have hl4 := only_any p0 d0 X nm w4 (HRX.out w4 hb6).1 (HRX.out w4 hb6).2 (by rw [HN.out]; omega) (fun x hx => by have := (HCX.out x hx).2.2.2; omega)
      rw [HN.out, HFX.out] at hl4
      have HL4 := Lib.hid hl4
      clear hl4
      go_wp2_with fail
      refine HL4.out.mono ?_
      rintro e w5 ⟨v5, rfl, ys, hys, hown5, hly, hb7⟩
      have hb8 := hb6.trans (hb7.mono hb6.size)
      obtain ⟨p5, d5, rfl, -, -, -, hr5, -⟩ := hown5.form
      rw [← HSS.out] at hys
      have hyl : ys.length = S.length := by rw [← hys]; simp
      have hsm := psame_any p5 pS d5 dS ys S (fun y hy => HBS.out y.f (by rw [← hys]; exact List.mem_map_of_mem hy)) HBS.out (by omega) (by omega) w5 hr5 (hrS.keep hb8) (fun y hy => (hly y hy).1)
      rw [show decide (ys.map (·.f) = S) = true from decide_eq_true hys] at hsm
      have HSM := Lib.hid hsm
      clear HL4 hb7 hown5 hr5 hsm hys hyl hly hb6
      go_wp2_with fail
      refine HSM.out.mono ?_
      rintro e w6 ⟨rfl, hb9⟩
      have hbB := hb8.trans (hb9.mono hb8.size)
      obtain ⟨D, hD⟩ : ∃ D : Bool, decide (FX = Y.map (·.f)) = D := ⟨_, rfl⟩
      have hs2 := same2_any p0 p1 d0 d1 X Y HBX.out HBY.out (by rw [HN.out]; omega) (by omega) w6 (HRX.out w6 hbB).1 (HRY.out w6 hbB).1 (HRX.out w6 hbB).2 (HRY.out w6 hbB).2
      rw [HN.out, HFX.out, hD] at hs2
      have HS2 := Lib.hid hs2
      have HD := Lib.hid hD
      clear HSM hb8 hb9 hs2 hrS hD
      go_wp2_with fail
      refine HS2.out.mono ?_
      rintro e w7 ⟨rfl, hb10⟩
      have hbC := hbB.trans (hb10.mono hbB.size)
      have hof := ofs_any p1 d1 Y (by omega) w7 (HRY.out w7 hbC).1 (HRY.out w7 hbC).2
      have HOF := Lib.hid hof
      clear HS2 hbB hb10 hof
      go_wp2_with fail
      refine HOF.out.mono ?_
      rintro e w8 ⟨v8, rfl, hown8, hb11⟩
      obtain ⟨p8, d8, rfl, -, -, -, hr8, -⟩ := hown8.form
      have hbD := hbC.trans (hb11.mono hbC.size)
      have hsm2 := psame_any p0 p8 d0 d8 X (Y.map (·.f)) HBX.out (fun f hf => by obtain ⟨y, hy, rfl⟩ := List.mem_map.1 hf; exact HBY.out y hy) (by rw [HN.out]; omega) (by simp; omega) w8 (HRX.out w8 hbD).1 hr8 (HRX.out w8 hbD).2
      rw [HN.out, HFX.out, HD.out, List.length_map] at hsm2
      have HSM2 := Lib.hid hsm2
      have hDD : (D == D) = true := by simp
      clear HOF hown8 hb11 hbC hr8 hsm2
      go_wp2_with fail
      refine HSM2.out.mono ?_
      rintro e w9 ⟨rfl, hb12⟩
      have hbE := hbD.trans (hb12.mono hbD.size)
      have hs3 := same2_any p0 p0 d0 d0 X X HBX.out HBX.out (by rw [HN.out]; omega) (by rw [HN.out]; omega) w9 (HRX.out w9 hbE).1 (HRX.out w9 hbE).1 (HRX.out w9 hbE).2 (HRX.out w9 hbE).2
      rw [HN.out, show decide (X.map (·.f) = X.map (·.f)) = true from decide_eq_true rfl] at hs3
      have HS3 := Lib.hid hs3
      clear HSM2 hb12 hbD hs3
      go_wp2_with fail
      refine HS3.out.mono ?_
      rintro e w10 ⟨rfl, hb13⟩
      have hbF := hbA.trans ((hbE.trans (hb13.mono hbE.size)).mono hsA)
      clear HS3 hbE hb13
      go_wp2
      go_ret
      exact ⟨rfl, hbF⟩
end Go.Proofs.Ytoicahfpnnhgpaa
