/-
  graticuleref08.Write.
-/
import Derived.Test.YtoicahfpnnhgpaaRefw
set_option linter.unusedVariables false
set_option linter.unusedSimpArgs false
namespace Go.Proofs.Ytoicahfpnnhgpaa
open Go.RowKit Go.Vint Go.Proto

set_option maxHeartbeats 4000000 in
theorem rwrite_any (a : Option Addr) (c : Nat) (ys : List Fld) (hx : ∀ f ∈ ys, Byt f ∧ 0 ≤ f.n ∧ f.n ≤ 18446744073709551615 ∧ f.bs.length ≤ 1000000) (hl : ys.length ≤ 1000000) (w : World) (hr : Rd w a (rflat ys)) :
    Calls Try.prog 21 #[.slice a ys.length c] w fun e w' => ∃ v, e = .returned (.tuple #[v, .int .i64 (pwr ys).2]) ∧
      w'.ownsRow w.heap.size 5 1 v (pwr ys).1.length ((pwr ys).1.map (Value.int .u8)) ∧ Below w.heap.size w w' := by
  go_enter Try.func21, Try.ntmps21
  go_wp2
  go_loopw [4, 5] (fun o i wr => ∃ (k : Nat) (A : List Int), k ≤ ys.length ∧ i = .int .i64 k ∧ A.length ≤ 1000020 * k ∧ pwr ys = pwrF A (ys.drop k) ∧ wr.ownsRow w.heap.size 5 1 o A.length (A.map (Value.int .u8)) ∧ Below w.heap.size w wr) (fun _ i _ => ys.length - (intOf i).toNat)
  case atStart => exact ⟨0, [], Nat.zero_le _, rfl, by simp, rfl, World.ownsRow_nil _ _ _ _, Below.refl _ _⟩
  case round =>
    obtain ⟨k, A, hk, rfl, hA, hP, hown, hbl⟩ := hrel
    have HP := Lib.hid hP
    clear hP
    by_cases hlt : k < ys.length
    · obtain ⟨y, hyk⟩ : ∃ y, ys[k] = y := ⟨_, rfl⟩
      have h0 := fun j hj => rflat_get ys k j hlt hj
      rw [hyk] at h0
      have hym : y ∈ ys := by rw [← hyk]; exact List.getElem_mem _
      obtain ⟨hyb, hn0, hn1, hbsl⟩ := hx y hym
      obtain ⟨b1, off1, rfl, -, _⟩ := hr.at (i := k * 4 + 0) (h0 0 (by omega))
      have HC1 : ∀ W, Below w.heap.size w W → ∀ j v, j < 4 → (rcells y)[j]? = some v → W.cell? ⟨b1, off1 + k * 4 + j, none⟩ = some v := by
        intro W hW j v hj hv
        obtain ⟨b', o', e, hc, -⟩ := (hr.keep hW).at (i := k * 4 + j) (v := v) (by rw [h0 j hj, hv])
        cases e
        rw [Nat.add_assoc]; exact hc
      have HST := pwrF_step A ys k hlt
      have HER := pwrF_err A ys k hlt
      rw [hyk] at HST HER
      replace HST := Lib.hid HST
      replace HER := Lib.hid HER
      have hfl := fun h => fby_len y h hn0 hn1 hbsl
      have HFL := Lib.hid hfl
      have hck := fun W => rcheck_any y W ⟨hn0, hn1⟩
      have HCK := Lib.hid hck
      have hfb := fun h W => rfby_any y h hyb ⟨hn0, hn1⟩ hbsl W
      have HFB := Lib.hid hfb
      have c0 := HC1 wr hbl 0 _ (by omega) rfl
      have c1 := HC1 wr hbl 1 _ (by omega) rfl
      have c2 := HC1 wr hbl 2 _ (by omega) rfl
      have c3 := HC1 wr hbl 3 _ (by omega) rfl
      have HCC := Lib.hid HC1
      clear h0 hr hyk hym hx hfl hck HC1 hfb
      obtain ⟨num, kind, n, bs⟩ := y
      dsimp only [rcells] at *
      rw [Nat.add_zero] at c0
      obtain ⟨ck, hcke⟩ : ∃ ck, chk ⟨num, kind, n, bs⟩ = ck := ⟨_, rfl⟩
      obtain ⟨FB, hFB⟩ : ∃ FB, fby ⟨num, kind, n, bs⟩ = FB := ⟨_, rfl⟩
      rw [hcke] at HST HER HFL HCK HFB
      rw [hFB] at HST HFL HFB
      clear hcke hFB
      by_cases h0 : ck = 0
      · subst h0
        replace HST := Lib.hid (HP.out.trans (HST.out rfl))
        have hFl := HFL.out rfl
        go_wp2_with fail
        refine (HCK.out _).mono ?_
        rintro e w1 ⟨rfl, hb1⟩
        have hbl1 := hbl.trans (hb1.mono hbl.size)
        have hown1 := hown.below hb1
        have d0 : w1.cell? ⟨b1, off1 + k * 4, none⟩ = some (.int .i64 num) := HCC.out w1 hbl1 0 _ (by omega) rfl
        have d1 : w1.cell? ⟨b1, off1 + k * 4 + 1, none⟩ = some (.int .i64 kind) := HCC.out w1 hbl1 1 _ (by omega) rfl
        have d2 : w1.cell? ⟨b1, off1 + k * 4 + 2, none⟩ = some (.int .u64 n) := HCC.out w1 hbl1 2 _ (by omega) rfl
        have d3 : w1.cell? ⟨b1, off1 + k * 4 + 3, none⟩ = some (.string (strOfNums bs)) := HCC.out w1 hbl1 3 _ (by omega) rfl
        clear HER HCK HFL hb1 hown hbl c0 c1 c2 c3 HCC HP
        go_wp2_with fail
        refine (HFB.out trivial _).mono ?_
        rintro e w2 ⟨v2, rfl, hv2, hb2⟩
        obtain ⟨a2, e2, rfl, -, -, ha2, hr2, -⟩ := hv2.form
        have hown2 := hown1.below hb2
        have hbl2 := hbl1.trans (hb2.mono hbl1.size)
        clear HFB hown1 hbl1 hb2 hv2 d0 d1 d2 d3
        go_wp2_with (at_builtin; go_must (refine wpList_app' w hbl2 rfl (.tmp 21) (.tmp 26) 22 rfl 5 (.int .u8 0) 1 1 Try.underlying22 Try.infoU8 rfl (by decide) u4 A.length (A.map (Value.int .u8)) rfl hown2 a2 FB.length e2 (FB.map (Value.int .u8)) rfl ha2 hr2 (by simp) (ints_one .u8 _) (by omega) (by decide) ?_); intro v5 w5 hown5 hg5 hbl5; clear hown2 hbl2 hg5 hr2)
        go_roundw
        case rel =>
          refine ⟨k + 1, A ++ FB, by omega, by go_num, by simp only [List.length_append]; omega, HST.out, ?_, hbl5⟩
          simpa using hown5
        case measure => simp [intOf]; omega
      · have HE := Lib.hid (HP.out.trans (HER.out h0))
        have hne : (ck != 0) = true := by simpa using h0
        go_wp2_with fail
        refine (HCK.out _).mono ?_
        rintro e w1 ⟨rfl, hb1⟩
        have hbl1 := hbl.trans (hb1.mono hbl.size)
        clear HST HER HFL HCK hb1 hown HFB HCC c0 c1 c2 c3
        go_wp2
        refine bodyPost_ret (v := .tuple #[.slice none 0 0, .int .i64 ck]) (by simp [results, Try.results21, go_sem]) rfl ⟨.slice none 0 0, ?_, ?_, hbl1⟩
        · rw [HE.out]
        · rw [HE.out]; exact World.ownsRow_nil _ _ _ _
    · obtain rfl : k = ys.length := by omega
      have HE := Lib.hid HP.out
      rw [List.drop_of_length_le (by simp)] at HE
      go_wp2
      refine bodyPost_ret (v := .tuple #[u4, .int .i64 0]) (by simp [results, Try.results21, go_sem]) rfl ⟨u4, ?_, ?_, hbl⟩
      · rw [HE.out]; rfl
      · rw [HE.out]; exact hown
end Go.Proofs.Ytoicahfpnnhgpaa
