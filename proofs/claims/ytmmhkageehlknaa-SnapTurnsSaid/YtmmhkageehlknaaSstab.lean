/-
  slices.stableCmpFunc over cuts.
-/
import Derived.Test.YtmmhkageehlknaaSsym
import Derived.Test.YtmmhkageehlknaaSrt1
set_option linter.unusedVariables false
set_option linter.unusedSimpArgs false
set_option maxRecDepth 100000
namespace Go.Proofs.Ytmmhkageehlknaa
open Go.RowKit Go.Srt

set_option maxHeartbeats 1600000 in
theorem cu_stab_any (H : Ord cmpC CuOk) (base g c n : Nat) (l : List Cu) (hn : l.length = n) (hc : n ≤ c) (hn2 : n ≤ 1000000) (hok : ∀ x ∈ l, CuOk x) (w : World) (h : w.ownsRow base 71 4 (.slice (some ⟨g, 0, none⟩) n c) n (cus l)) :
    Calls Try.prog 59 #[.slice (some ⟨g, 0, none⟩) n c, .int .i64 n, .func (.func 51) #[] #[]] w fun e w' => e = .returned (.tuple #[]) ∧ (∃ l' : List Cu, Prm 0 n l l' ∧ SR cmpC l' 0 n ∧ w'.ownsRow base 71 4 (.slice (some ⟨g, 0, none⟩) n c) n (cus l')) ∧ w.grownBy w' (some g) := by
  go_enter Try.func59, Try.ntmps59
  have HOK := Lib.hid hok
  have HN := Lib.hid hn
  clear hok hn
  go_wp2
  go_loopw [7, 8] (fun aa bb wr => ∃ (q A B : Nat) (l1 : List Cu), Hid (A = q * 20) ∧ A + 20 = B ∧ A ≤ n ∧ aa = .int .i64 (A : Int) ∧ bb = .int .i64 (B : Int) ∧ l1.length = n ∧ Hid (Prm 0 n l l1) ∧ Hid (Dn cmpC l1 20 q) ∧ wr.ownsRow base 71 4 (.slice (some ⟨g, 0, none⟩) n c) n (cus l1) ∧ w.grownBy wr (some g)) (fun aa _ _ => n - (intOf aa).toNat)
  case atStart => exact ⟨0, 0, 20, l, Lib.hid rfl, rfl, Nat.zero_le _, rfl, rfl, HN.out, Lib.hid (Prm.refl _ _ _), Lib.hid (fun j hj => by omega), h, ⟨rfl, rfl, rfl, Nat.le_refl _, fun _ _ _ => rfl⟩⟩
  case round =>
    obtain ⟨q, A, B, l1, HA, hAB, hAn, rfl, rfl, hL, HP, HD, hown, hg⟩ := hrel
    have HOK1 := Lib.hid (HP.out.all HOK.out)
    by_cases hlt : B ≤ n
    · have hlt' : (B : Int) ≤ (n : Int) := by omega
      have hins := inssort_any A B base g c n l1 hL hc (by omega) hlt hn2 HOK1.out
      have hio := ins_ok H A l1 HOK1.out (B - (A + 1)) (by omega)
      rw [show A + 1 + (B - (A + 1)) = B by omega] at hio
      have HIO := Lib.hid hio
      have hlen := insC_len cmpC A l1 (B - (A + 1))
      generalize insC cmpC A l1 (B - (A + 1)) = l2 at *
      have HI := Lib.hid hins
      clear hins hio
      go_wp2_with fail
      refine (HI.out _ hown).mono ?_
      rintro e w1 ⟨rfl, hown1, hg1⟩
      have hg2 := hg.trans hg1
      obtain ⟨hp2, hs2⟩ := HIO.out
      have HP2 := Lib.hid (HP.out.trans (hp2.wide (Nat.zero_le _) hlt))
      have HD2 := Lib.hid (HD.out.step HA.out (fun i hi => hp2.out i (.inl hi)) (by rw [hAB]; exact hs2))
      have hL2 : l2.length = n := by rw [hlen]; exact hL
      obtain ⟨C, hC⟩ : ∃ C, B + 20 = C := ⟨_, rfl⟩
      have hwc : IntKind.i64.wrap ((B : Int) + 20) = (C : Int) := by
        rw [show (B : Int) + 20 = (C : Int) by omega]; exact IntWalk.i64_in _ (by omega)
      have HBQ : Hid (B = (q + 1) * 20) := Lib.hid (by have := HA.out; omega)
      have hme : n - B < n - A := by omega
      clear hp2 hs2 HI HIO hlen hAB
      go_wp2
      refine ⟨⟨q + 1, B, C, l2, HBQ, hC, hlt, rfl, rfl, hL2, HP2, HD2, hown1, hg2⟩, by simp [intOf]; exact hme⟩
    · have hlt' : ¬ (B : Int) ≤ (n : Int) := by omega
      have hins := inssort_any A n base g c n l1 hL hc hAn (Nat.le_refl _) hn2 HOK1.out
      have hio : Prm A n l1 (insC cmpC A l1 (n - (A + 1))) ∧ SR cmpC (insC cmpC A l1 (n - (A + 1))) A n := by
        by_cases hAe : A = n
        · rw [show n - (A + 1) = 0 by omega]
          exact ⟨Prm.refl _ _ _, fun i j h1 h2 h3 => by omega⟩
        · have := ins_ok H A l1 HOK1.out (n - (A + 1)) (by omega)
          rwa [show A + 1 + (n - (A + 1)) = n by omega] at this
      have HIO := Lib.hid hio
      have hlen := insC_len cmpC A l1 (n - (A + 1))
      generalize insC cmpC A l1 (n - (A + 1)) = l2 at *
      have HI := Lib.hid hins
      clear hins hio
      go_wp2_with fail
      refine (HI.out _ hown).mono ?_
      rintro e w1 ⟨rfl, hown1, hg1⟩
      have hg2 := hg.trans hg1
      obtain ⟨hp2, hs2⟩ := HIO.out
      have HP2 := Lib.hid (HP.out.trans (hp2.wide (Nat.zero_le _) (Nat.le_refl _)))
      have HB2 := Lib.hid (HD.out.fin HA.out (fun i hi => hp2.out i (.inl hi)) hs2 (by omega))
      have hL2 : l2.length = n := by rw [hlen]; exact hL
      clear hp2 hs2 HI HIO hlen hAB HP HD HA HOK1 hown hg hg1 hL hAn hlt hlt'
      go_wp2
      go_loopw [6] (fun bb wr => ∃ (bs : Nat) (l1 : List Cu), 1 ≤ bs ∧ bs ≤ 2 * n + 20 ∧ bb = .int .i64 (bs : Int) ∧ l1.length = n ∧ Hid (Prm 0 n l l1) ∧ Hid (Bl cmpC l1 bs n 0) ∧ wr.ownsRow base 71 4 (.slice (some ⟨g, 0, none⟩) n c) n (cus l1) ∧ w.grownBy wr (some g)) (fun bb _ => n - (intOf bb).toNat)
      case atStart => exact ⟨20, l2, by omega, by omega, rfl, hL2, HP2, HB2, hown1, hg2⟩
      case round =>
        clear hown1 hg2 HP2 HB2 hL2
        obtain ⟨bs, l1, hbs1, hbs2, rfl, hL, HP, HBL, hown, hg⟩ := hrel
        by_cases hlt : bs < n
        · have hlt' : (bs : Int) < (n : Int) := by omega
          obtain ⟨D, hD⟩ : ∃ D, bs + bs = D := ⟨_, rfl⟩
          have hwd : IntKind.i64.wrap (2 * (bs : Int)) = (D : Int) := by
            rw [show 2 * (bs : Int) = (D : Int) by omega]; exact IntWalk.i64_in _ (by omega)
          have hwd2 : IntKind.i64.wrap ((bs : Int) * 2) = (D : Int) := by
            rw [show (bs : Int) * 2 = (D : Int) by omega]; exact IntWalk.i64_in _ (by omega)
          have HDD := Lib.hid hD
          clear hD
          go_wp2
          go_loopw [7, 8] (fun aa bb wr => ∃ (q A B : Nat) (l1 : List Cu), Hid (A = q * D) ∧ A + D = B ∧ A ≤ n ∧ aa = .int .i64 (A : Int) ∧ bb = .int .i64 (B : Int) ∧ l1.length = n ∧ Hid (Prm 0 n l l1) ∧ Hid (Dn cmpC l1 D q) ∧ Hid (Bl cmpC l1 bs n A) ∧ wr.ownsRow base 71 4 (.slice (some ⟨g, 0, none⟩) n c) n (cus l1) ∧ w.grownBy wr (some g)) (fun aa _ _ => n - (intOf aa).toNat)
          case atStart => exact ⟨0, 0, D, l1, Lib.hid (by omega), by omega, Nat.zero_le _, rfl, rfl, hL, HP, Lib.hid (fun j hj => by omega), HBL, hown, hg⟩
          case round =>
            clear hown hg HP HBL hL
            obtain ⟨q, A, B, l1, HA, hAB, hAn, rfl, rfl, hL, HP, HD, HBL, hown, hg⟩ := hrel
            have hD := HDD.out
            have HOK1 := Lib.hid (HP.out.all HOK.out)
            obtain ⟨M, hM⟩ : ∃ M, A + bs = M := ⟨_, rfl⟩
            have hwm : IntKind.i64.wrap ((A : Int) + (bs : Int)) = (M : Int) := by
              rw [show (A : Int) + (bs : Int) = (M : Int) by omega]; exact IntWalk.i64_in _ (by omega)
            by_cases hle : B ≤ n
            · have hle' : (B : Int) ≤ (n : Int) := by omega
              have hsy := cu_sym_any H base g c n hc hn2 (B - A) A M B l1 (Nat.le_refl _) hL (by omega) (by omega) hle HOK1.out (HBL.out.head.less (Nat.le_refl _) (by omega)) (HBL.out.second.less (by omega) (by omega))
              have HSY := Lib.hid hsy
              clear hsy
              have HD0 := Lib.hid hD
              have HM0 := Lib.hid hM
              have HAB0 := Lib.hid hAB
              clear hD hM hAB
              go_wp2_with fail
              refine (HSY.out _ hown).mono ?_
              rintro e w1 ⟨rfl, ⟨l2, hp2, hs2, hown1⟩, hg1⟩
              have hg2 := hg.trans hg1
              have hD := HD0.out
              have hAB := HAB0.out
              have HP2 := Lib.hid (HP.out.trans (hp2.wide (Nat.zero_le _) hle))
              have HD2 := Lib.hid (HD.out.step HA.out (fun i hi => hp2.out i (.inl hi)) (by rw [hAB]; exact hs2))
              have HBL2 := Lib.hid (HBL.out.step (t := B) (by omega) (fun i hi => hp2.out i (.inr hi)))
              have hL2 : l2.length = n := by rw [hp2.len]; exact hL
              obtain ⟨C, hC⟩ : ∃ C, B + D = C := ⟨_, rfl⟩
              have hwc : IntKind.i64.wrap ((B : Int) + (D : Int)) = (C : Int) := by
                rw [show (B : Int) + (D : Int) = (C : Int) by omega]; exact IntWalk.i64_in _ (by omega)
              have HBQ : Hid (B = (q + 1) * D) := Lib.hid (by have := HA.out; rw [Nat.add_mul]; omega)
              have hme : n - B < n - A := by omega
              have HCC := Lib.hid hC
              clear hp2 hs2 HSY hD hAB hC
              go_wp2
              refine ⟨⟨q + 1, B, C, l2, HBQ, HCC.out, hle, rfl, rfl, hL2, HP2, HD2, HBL2, hown1, hg2⟩, by simp [intOf]; exact hme⟩
            · have hle' : ¬ (B : Int) ≤ (n : Int) := by omega
              by_cases hml : M < n
              · have hml' : (M : Int) < (n : Int) := by omega
                have hsy := cu_sym_any H base g c n hc hn2 (n - A) A M n l1 (Nat.le_refl _) hL (by omega) hml (Nat.le_refl _) HOK1.out (HBL.out.head.less (Nat.le_refl _) (by omega)) (HBL.out.second.less (by omega) (by omega))
                have HSY := Lib.hid hsy
                have hme : n - D < n - bs := by omega
                have hDb : 1 ≤ D ∧ D ≤ 2 * n + 20 := by omega
                have HNB : Hid (n ≤ A + D) := Lib.hid (by omega)
                clear hsy hD hM hAB
                go_wp2_with fail
                refine (HSY.out _ hown).mono ?_
                rintro e w1 ⟨rfl, ⟨l2, hp2, hs2, hown1⟩, hg1⟩
                have hg2 := hg.trans hg1
                have HP2 := Lib.hid (HP.out.trans (hp2.wide (Nat.zero_le _) (Nat.le_refl _)))
                have HB2 := Lib.hid (HD.out.fin HA.out (fun i hi => hp2.out i (.inl hi)) hs2 HNB.out)
                have hL2 : l2.length = n := by rw [hp2.len]; exact hL
                clear hp2 hs2 HSY
                go_wp2
                refine ⟨⟨D, l2, hDb.1, hDb.2, rfl, hL2, HP2, HB2, hown1, hg2⟩, by simp [intOf]; exact hme⟩
              · have hml' : ¬ (M : Int) < (n : Int) := by omega
                have HB2 := Lib.hid (HD.out.fin (n := n) HA.out (l' := l1) (fun i hi => rfl) (HBL.out.head.less (Nat.le_refl _) (by omega)) (by omega))
                have hme : n - D < n - bs := by omega
                have hDb : 1 ≤ D ∧ D ≤ 2 * n + 20 := by omega
                clear hD hM hAB
                go_wp2
                refine ⟨⟨D, l1, hDb.1, hDb.2, rfl, hL, HP, HB2, hown, hg⟩, by simp [intOf]; exact hme⟩
        · have hlt' : ¬ (bs : Int) < (n : Int) := by omega
          have hres := HBL.out.head
          rw [show min (0 + bs) n = n by omega] at hres
          have hpr := HP.out
          go_wp2
          refine ⟨rfl, .tuple #[], by simp [results, Try.results59, go_sem], rfl, ⟨_, hpr, hres, hown⟩, hg⟩
end Go.Proofs.Ytmmhkageehlknaa
