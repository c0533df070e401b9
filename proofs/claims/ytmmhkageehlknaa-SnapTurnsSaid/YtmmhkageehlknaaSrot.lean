/-
  slices.rotateCmpFunc over cuts.
-/
import Derived.Test.YtmmhkageehlknaaSswr
set_option linter.unusedVariables false
set_option linter.unusedSimpArgs false
set_option maxRecDepth 100000
namespace Go.Proofs.Ytmmhkageehlknaa
open Go.RowKit Go.Srt

set_option maxHeartbeats 1600000 in
theorem cu_rot_any (base g c n : Nat) (l : List Cu) (hn : l.length = n) (hc : n ≤ c) (hn2 : n ≤ 1000000) (a m b : Nat) (ham : a < m) (hmb : m < b) (hbn : b ≤ n) (w : World) (h : w.ownsRow base 71 4 (.slice (some ⟨g, 0, none⟩) n c) n (cus l)) :
    Calls Try.prog 63 #[.slice (some ⟨g, 0, none⟩) n c, .int .i64 a, .int .i64 m, .int .i64 b, .func (.func 51) #[] #[]] w fun e w' => e = .returned (.tuple #[]) ∧ (∃ l' : List Cu, Rot a m b l l' ∧ Prm a b l l' ∧ w'.ownsRow base 71 4 (.slice (some ⟨g, 0, none⟩) n c) n (cus l')) ∧ w.grownBy w' (some g) := by
  have hs1 : IntKind.i64.wrap ((m : Int) - (a : Int)) = ((m - a : Nat) : Int) := by
    rw [show (m : Int) - (a : Int) = ((m - a : Nat) : Int) by omega]; exact IntWalk.i64_in _ (by omega)
  have hs2 : IntKind.i64.wrap ((b : Int) - (m : Int)) = ((b - m : Nat) : Int) := by
    rw [show (b : Int) - (m : Int) = ((b - m : Nat) : Int) by omega]; exact IntWalk.i64_in _ (by omega)
  obtain ⟨i0, hi0⟩ : ∃ i0, m - a = i0 := ⟨_, rfl⟩
  obtain ⟨j0, hj0⟩ : ∃ j0, b - m = j0 := ⟨_, rfl⟩
  rw [hi0] at hs1
  rw [hj0] at hs2
  go_enter Try.func63, Try.ntmps63
  have HB := Lib.hid (show b ≤ l.length by omega)
  go_wp2
  go_loopw [10, 11] (fun ii jj wr => ∃ (i j : Nat) (l1 : List Cu), 1 ≤ i ∧ 1 ≤ j ∧ i ≤ i0 ∧ j ≤ j0 ∧ ii = .int .i64 (i : Int) ∧ jj = .int .i64 (j : Int) ∧ l1.length = n ∧ Hid (Prm a b l l1) ∧ Hid (∀ l', Rot (m - i) m (m + j) l1 l' → Rot a m b l l') ∧ wr.ownsRow base 71 4 (.slice (some ⟨g, 0, none⟩) n c) n (cus l1) ∧ w.grownBy wr (some g)) (fun ii jj _ => (intOf ii).toNat + (intOf jj).toNat)
  case atStart => exact ⟨i0, j0, l, by omega, by omega, Nat.le_refl _, Nat.le_refl _, rfl, rfl, hn, Lib.hid (Prm.refl _ _ _), Lib.hid (fun l' h => by rw [show m - i0 = a by omega, show m + j0 = b by omega] at h; exact h), h, ⟨rfl, rfl, rfl, Nat.le_refl _, fun _ _ _ => rfl⟩⟩
  case round =>
    obtain ⟨i, j, l1, hi1, hj1, hi2, hj2, rfl, rfl, hL, HP, HR, hown, hg⟩ := hrel
    clear hs1 hs2
    have hwx : IntKind.i64.wrap ((m : Int) - (i : Int)) = ((m - i : Nat) : Int) := by
      rw [show (m : Int) - (i : Int) = ((m - i : Nat) : Int) by omega]; exact IntWalk.i64_in _ (by omega)
    by_cases hij : i = j
    · subst hij
      have hsw := cu_swr_any base g c n l1 hL hc hn2 (m - i) m i (by omega) (by omega)
      have HS := Lib.hid hsw
      clear hsw
      go_wp2_with fail
      refine (HS.out _ hown).mono ?_
      rintro e w1 ⟨rfl, hown1, hg1⟩
      have hg2 := hg.trans hg1
      have hres := HR.out _ (Rot.even (l := l1) (by omega) (by omega))
      have hpr := HP.out.trans (swpR_prm l1 (m - i) m i a b (by omega) (by omega) (by omega) (by rw [hL]; exact hbn))
      go_wp2
      refine ⟨rfl, .tuple #[], by simp [results, Try.results63, go_sem], rfl, ⟨_, hres, hpr, hown1⟩, hg2⟩
    · by_cases hlt : j < i
      · have hne : ¬ (i : Int) = (j : Int) := by omega
        have hlt' : (j : Int) < (i : Int) := by omega
        have hwi : IntKind.i64.wrap ((i : Int) - (j : Int)) = ((i - j : Nat) : Int) := by
          rw [show (i : Int) - (j : Int) = ((i - j : Nat) : Int) by omega]; exact IntWalk.i64_in _ (by omega)
        have hsw := cu_swr_any base g c n l1 hL hc hn2 (m - i) m j (by omega) (by omega)
        have HS := Lib.hid hsw
        clear hsw
        go_wp2_with fail
        refine (HS.out _ hown).mono ?_
        rintro e w1 ⟨rfl, hown1, hg1⟩
        have hg2 := hg.trans hg1
        have HP2 := Lib.hid (HP.out.trans (swpR_prm l1 (m - i) m j a b (by omega) (by omega) (by omega) (by rw [hL]; exact hbn)))
        have HR2 := Lib.hid (fun l' (h : Rot (m - (i - j)) m (m + j) (swpR l1 (m - i) m j) l') => HR.out l' (Rot.less (l := l1) hlt (by omega) (by omega) h))
        go_wp2
        refine ⟨⟨i - j, j, _, by omega, hj1, by omega, hj2, rfl, rfl, by rw [swpR_len]; exact hL, HP2, HR2, hown1, hg2⟩, by simp [intOf]; omega⟩
      · have hlt2 : i < j := by omega
        have hne : ¬ (i : Int) = (j : Int) := by omega
        have hlt' : ¬ (j : Int) < (i : Int) := by omega
        have hwi : IntKind.i64.wrap ((j : Int) - (i : Int)) = ((j - i : Nat) : Int) := by
          rw [show (j : Int) - (i : Int) = ((j - i : Nat) : Int) by omega]; exact IntWalk.i64_in _ (by omega)
        have hwm : IntKind.i64.wrap ((m : Int) + (j : Int)) = ((m + j : Nat) : Int) := by
          rw [show (m : Int) + (j : Int) = ((m + j : Nat) : Int) by omega]; exact IntWalk.i64_in _ (by omega)
        have hwn : IntKind.i64.wrap (((m + j : Nat) : Int) - (i : Int)) = ((m + j - i : Nat) : Int) := by
          rw [show ((m + j : Nat) : Int) - (i : Int) = ((m + j - i : Nat) : Int) by omega]; exact IntWalk.i64_in _ (by omega)
        have hsw := cu_swr_any base g c n l1 hL hc hn2 (m - i) (m + j - i) i (by omega) (by omega)
        obtain ⟨Z, hZ⟩ : ∃ Z, m + j = Z := ⟨_, rfl⟩
        obtain ⟨Y, hY⟩ : ∃ Y, Z - i = Y := ⟨_, rfl⟩
        rw [hZ] at hwm hwn hsw HR
        rw [hY] at hwn hsw
        have HZ := Lib.hid hZ
        have HY := Lib.hid hY
        have HS := Lib.hid hsw
        clear hsw hZ hY
        go_wp2_with fail
        refine (HS.out _ hown).mono ?_
        rintro e w1 ⟨rfl, hown1, hg1⟩
        have hg2 := hg.trans hg1
        have hZ := HZ.out
        have hY := HY.out
        have HP2 := Lib.hid (HP.out.trans (swpR_prm l1 (m - i) Y i a b (by omega) (by omega) (by omega) (by rw [hL]; exact hbn)))
        have HR2 := Lib.hid (fun l' (h : Rot (m - i) m (m + (j - i)) (swpR l1 (m - i) Y i) l') => HR.out l' (by
          subst hY hZ
          exact Rot.more (l := l1) hlt2 (by omega) (by omega) h))
        clear hZ hY
        go_wp2
        refine ⟨⟨i, j - i, _, hi1, by omega, hi2, by omega, rfl, rfl, by rw [swpR_len]; exact hL, HP2, HR2, hown1, hg2⟩, by simp [intOf]; omega⟩
end Go.Proofs.Ytmmhkageehlknaa
