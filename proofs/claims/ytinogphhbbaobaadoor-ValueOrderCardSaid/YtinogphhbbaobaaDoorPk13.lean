/-
  slices.stableCmpFunc over values, stable. slices.Clone, slices.SortStableFunc over values; value.Sort: in order, stable. A region that draws its order, walked over each order in which its heavy operations may come up; the light ones are taken first.
-/
import Derived.Test.YtinogphhbbaobaaDoorPk12
import Derived.Test.YtinogphhbbaobaaDoorPk10
import Derived.Lib.SliceRun
import Derived.Test.YtinogphhbbaobaaDoorPk3
/- slices.stableCmpFunc over values, stable. -/
set_option linter.unusedVariables false
set_option linter.unusedSimpArgs false
set_option maxRecDepth 100000
namespace Go.Proofs.YtinogphhbbaobaaDoor
open Go.RowKit Go.Srt

set_option maxHeartbeats 1600000 in
theorem vg_stab_any (H : Ord cmpG VgOk) (base g c n : Nat) (l : List Vg) (hn : l.length = n) (hc : n ≤ c) (hn2 : n ≤ 1000000) (hok : ∀ x ∈ l, VgOk x) (hx0 : ∀ i j, i < j → j < n → l[i]!.g < l[j]!.g) (w : World) (h : w.ownsRow base 23 3 (.slice (some ⟨g, 0, none⟩) n c) n (vgs l)) :
    Calls Tryd.prog 45 #[.slice (some ⟨g, 0, none⟩) n c, .int .i64 n, .func (.func 30) #[] #[]] w fun e w' => e = .returned (.tuple #[]) ∧ (∃ l' : List Vg, Prm 0 n l l' ∧ SR cmpG l' 0 n ∧ w'.ownsRow base 23 3 (.slice (some ⟨g, 0, none⟩) n c) n (vgs l')) ∧ w.grownBy w' (some g) := by
  go_enter Tryd.func45, Tryd.ntmps45
  have HOK := Lib.hid hok; have HN := Lib.hid hn; have HX0 := Lib.hid hx0; clear hok hn hx0; go_wp2
  go_loopw [7, 8] (fun aa bb wr => ∃ (q A B : Nat) (l1 : List Vg), Hid (A = q * 20) ∧ A + 20 = B ∧ A ≤ n ∧ aa = .int .i64 (A : Int) ∧ bb = .int .i64 (B : Int) ∧ l1.length = n ∧ Hid (Prm 0 n l l1) ∧ Hid (Dn cmpG l1 20 q) ∧ Hid (XBf Vg.g l1 n 20 0) ∧ Hid (∀ i, A ≤ i → l1[i]! = l[i]!) ∧ wr.ownsRow base 23 3 (.slice (some ⟨g, 0, none⟩) n c) n (vgs l1) ∧ w.grownBy wr (some g)) (fun aa _ _ => n - (intOf aa).toNat)
  case atStart => exact ⟨0, 0, 20, l, Lib.hid rfl, rfl, Nat.zero_le _, rfl, rfl, HN.out, Lib.hid (Prm.refl _ _ _), Lib.hid (fun j hj => by omega), Lib.hid (xbf_start HX0.out), Lib.hid (fun i _ => rfl), h, ⟨rfl, rfl, rfl, Nat.le_refl _, fun _ _ _ => rfl⟩⟩
  case round =>
    obtain ⟨q, A, B, l1, HA, hAB, hAn, rfl, rfl, hL, HP, HD, HXB, HUN, hown, hg⟩ := hrel; have HXO : Hid (∀ i j, A ≤ i → i < j → j < n → l1[i]!.g < l1[j]!.g) := Lib.hid (fun i j h1 h2 h3 => by rw [HUN.out i h1, HUN.out j (by omega)]; exact HX0.out i j h2 h3); have HOK1 := Lib.hid (HP.out.all HOK.out)
    by_cases hlt : B ≤ n
    · have hlt' : (B : Int) ≤ (n : Int) := by omega
      have hins := vinssort_any H A B base g c n l1 hL hc (by omega) hlt hn2 HOK1.out (fun i j h1 h2 h3 => HXO.out i j h1 h2 (by omega)); have hio := ins_ok H A l1 HOK1.out (B - (A + 1)) (by omega); rw [show A + 1 + (B - (A + 1)) = B by omega] at hio; have HIO := Lib.hid hio; have hlen := insC_len cmpG A l1 (B - (A + 1)); generalize insC cmpG A l1 (B - (A + 1)) = l2 at *; have HI := Lib.hid hins; clear hins hio
      go_wp2_with fail
      refine (HI.out _ hown).mono ?_; rintro e w1 ⟨rfl, hown1, hg1⟩; have hg2 := hg.trans hg1; obtain ⟨hp2, hs2⟩ := HIO.out; have HP2 := Lib.hid (HP.out.trans (hp2.wide (Nat.zero_le _) hlt)); have HD2 := Lib.hid (HD.out.step HA.out (fun i hi => hp2.out i (.inl hi)) (by rw [hAB]; exact hs2)); have HXB2 := Lib.hid (xbf_prm (A0 := 0) HXB.out hp2 HA.out (by omega) hlt (by omega)); have HUN2 : Hid (∀ i, B ≤ i → l2[i]! = l[i]!) := Lib.hid (fun i hi => (hp2.out i (.inr hi)).trans (HUN.out i (by omega))); have hL2 : l2.length = n := by rw [hlen]; exact hL
      obtain ⟨C, hC⟩ : ∃ C, B + 20 = C := ⟨_, rfl⟩; have hwc : IntKind.i64.wrap ((B : Int) + 20) = (C : Int) := by
        rw [show (B : Int) + 20 = (C : Int) by omega]; exact IntWalk.i64_in _ (by omega)
      have HBQ : Hid (B = (q + 1) * 20) := Lib.hid (by have := HA.out; omega); have hme : n - B < n - A := by omega
      clear hp2 hs2 HI HIO hlen hAB; go_wp2; refine ⟨⟨q + 1, B, C, l2, HBQ, hC, hlt, rfl, rfl, hL2, HP2, HD2, HXB2, HUN2, hown1, hg2⟩, by simp [intOf]; exact hme⟩
    · have hlt' : ¬ (B : Int) ≤ (n : Int) := by omega
      have hins := vinssort_any H A n base g c n l1 hL hc hAn (Nat.le_refl _) hn2 HOK1.out (fun i j h1 h2 h3 => HXO.out i j h1 h2 (by omega)); have hio : Prm A n l1 (insC cmpG A l1 (n - (A + 1))) ∧ SR cmpG (insC cmpG A l1 (n - (A + 1))) A n := by
        by_cases hAe : A = n
        · rw [show n - (A + 1) = 0 by omega]; exact ⟨Prm.refl _ _ _, fun i j h1 h2 h3 => by omega⟩
        · have := ins_ok H A l1 HOK1.out (n - (A + 1)) (by omega)
          rwa [show A + 1 + (n - (A + 1)) = n by omega] at this
      have HIO := Lib.hid hio; have hlen := insC_len cmpG A l1 (n - (A + 1)); generalize insC cmpG A l1 (n - (A + 1)) = l2 at *; have HI := Lib.hid hins; clear hins hio
      go_wp2_with fail
      refine (HI.out _ hown).mono ?_; rintro e w1 ⟨rfl, hown1, hg1⟩; have hg2 := hg.trans hg1; obtain ⟨hp2, hs2⟩ := HIO.out; have HP2 := Lib.hid (HP.out.trans (hp2.wide (Nat.zero_le _) (Nat.le_refl _))); have HB2 := Lib.hid (HD.out.fin HA.out (fun i hi => hp2.out i (.inl hi)) hs2 (by omega)); have HXB2 := Lib.hid (xbf_prm (A0 := 0) HXB.out hp2 HA.out (by omega) (Nat.le_refl _) (by omega)); have hL2 : l2.length = n := by rw [hlen]; exact hL
      clear HXB HUN HXO HX0; clear hp2 hs2 HI HIO hlen hAB HP HD HA HOK1 hown hg hg1 hL hAn hlt hlt'; go_wp2
      go_loopw [6] (fun bb wr => ∃ (bs : Nat) (l1 : List Vg), 1 ≤ bs ∧ bs ≤ 2 * n + 20 ∧ bb = .int .i64 (bs : Int) ∧ l1.length = n ∧ Hid (Prm 0 n l l1) ∧ Hid (Bl cmpG l1 bs n 0) ∧ Hid (XBf Vg.g l1 n bs 0) ∧ wr.ownsRow base 23 3 (.slice (some ⟨g, 0, none⟩) n c) n (vgs l1) ∧ w.grownBy wr (some g)) (fun bb _ => n - (intOf bb).toNat)
      case atStart => exact ⟨20, l2, by omega, by omega, rfl, hL2, HP2, HB2, HXB2, hown1, hg2⟩
      case round =>
        clear hown1 hg2 HP2 HB2 HXB2 hL2; obtain ⟨bs, l1, hbs1, hbs2, rfl, hL, HP, HBL, HXB, hown, hg⟩ := hrel
        by_cases hlt : bs < n
        · have hlt' : (bs : Int) < (n : Int) := by omega
          obtain ⟨D, hD⟩ : ∃ D, bs + bs = D := ⟨_, rfl⟩; have hwd : IntKind.i64.wrap (2 * (bs : Int)) = (D : Int) := by
            rw [show 2 * (bs : Int) = (D : Int) by omega]; exact IntWalk.i64_in _ (by omega)
          have hwd2 : IntKind.i64.wrap ((bs : Int) * 2) = (D : Int) := by
            rw [show (bs : Int) * 2 = (D : Int) by omega]; exact IntWalk.i64_in _ (by omega)
          have HDD := Lib.hid hD; clear hD; go_wp2
          go_loopw [7, 8] (fun aa bb wr => ∃ (q A B : Nat) (l1 : List Vg), Hid (A = q * D) ∧ A + D = B ∧ A ≤ n ∧ aa = .int .i64 (A : Int) ∧ bb = .int .i64 (B : Int) ∧ l1.length = n ∧ Hid (Prm 0 n l l1) ∧ Hid (Dn cmpG l1 D q) ∧ Hid (Bl cmpG l1 bs n A) ∧ Hid (XBf Vg.g l1 n D 0) ∧ Hid (XBf Vg.g l1 n bs A) ∧ wr.ownsRow base 23 3 (.slice (some ⟨g, 0, none⟩) n c) n (vgs l1) ∧ w.grownBy wr (some g)) (fun aa _ _ => n - (intOf aa).toNat)
          case atStart => exact ⟨0, 0, D, l1, Lib.hid (by omega), by omega, Nat.zero_le _, rfl, rfl, hL, HP, Lib.hid (fun j hj => by omega), HBL, Lib.hid (xbf_dbl HXB.out HDD.out), HXB, hown, hg⟩
          case round =>
            clear hown hg HP HBL HXB hL; obtain ⟨q, A, B, l1, HA, hAB, hAn, rfl, rfl, hL, HP, HD, HBL, HXD, HXB, hown, hg⟩ := hrel; have hD := HDD.out; have HOK1 := Lib.hid (HP.out.all HOK.out); obtain ⟨M, hM⟩ : ∃ M, A + bs = M := ⟨_, rfl⟩; have hwm : IntKind.i64.wrap ((A : Int) + (bs : Int)) = (M : Int) := by
              rw [show (A : Int) + (bs : Int) = (M : Int) by omega]; exact IntWalk.i64_in _ (by omega)
            by_cases hle : B ≤ n
            · have hle' : (B : Int) ≤ (n : Int) := by omega
              have hsy := vg_sym_any H base g c n hc hn2 (B - A) A M B l1 (Nat.le_refl _) hL (by omega) (by omega) hle HOK1.out (HBL.out.head.less (Nat.le_refl _) (by omega)) (HBL.out.second.less (by omega) (by omega)) (xbf_merge HXB.out HA.out hD hM (by omega) hle (by omega)); have HSY := Lib.hid hsy; clear hsy; have HD0 := Lib.hid hD; have HM0 := Lib.hid hM; have HAB0 := Lib.hid hAB; clear hD hM hAB
              go_wp2_with fail
              refine (HSY.out _ hown).mono ?_; rintro e w1 ⟨rfl, ⟨l2, hp2, hs2, hown1⟩, hg1⟩; have hg2 := hg.trans hg1; have hD := HD0.out; have hAB := HAB0.out; have HP2 := Lib.hid (HP.out.trans (hp2.wide (Nat.zero_le _) hle)); have HD2 := Lib.hid (HD.out.step HA.out (fun i hi => hp2.out i (.inl hi)) (by rw [hAB]; exact hs2)); have HBL2 := Lib.hid (HBL.out.step (t := B) (by omega) (fun i hi => hp2.out i (.inr hi))); have HXD2 := Lib.hid (xbf_prm (A0 := 0) HXD.out hp2 HA.out (by omega) hle (by omega)); have HXB2 := Lib.hid (xbf_later (A' := B) HXB.out (by omega) (fun i hi => hp2.out i (.inr hi))); have hL2 : l2.length = n := by rw [hp2.len]; exact hL
              obtain ⟨C, hC⟩ : ∃ C, B + D = C := ⟨_, rfl⟩; have hwc : IntKind.i64.wrap ((B : Int) + (D : Int)) = (C : Int) := by
                rw [show (B : Int) + (D : Int) = (C : Int) by omega]; exact IntWalk.i64_in _ (by omega)
              have HBQ : Hid (B = (q + 1) * D) := Lib.hid (by have := HA.out; rw [Nat.add_mul]; omega); have hme : n - B < n - A := by omega
              have HCC := Lib.hid hC; clear hp2 hs2 HSY hD hAB hC; go_wp2; refine ⟨⟨q + 1, B, C, l2, HBQ, HCC.out, hle, rfl, rfl, hL2, HP2, HD2, HBL2, HXD2, HXB2, hown1, hg2⟩, by simp [intOf]; exact hme⟩
            · have hle' : ¬ (B : Int) ≤ (n : Int) := by omega
              by_cases hml : M < n
              · have hml' : (M : Int) < (n : Int) := by omega
                have hsy := vg_sym_any H base g c n hc hn2 (n - A) A M n l1 (Nat.le_refl _) hL (by omega) hml (Nat.le_refl _) HOK1.out (HBL.out.head.less (Nat.le_refl _) (by omega)) (HBL.out.second.less (by omega) (by omega)) (xbf_merge HXB.out HA.out hD hM (by omega) (Nat.le_refl _) (by omega)); have HSY := Lib.hid hsy; have hme : n - D < n - bs := by omega
                have hDb : 1 ≤ D ∧ D ≤ 2 * n + 20 := by omega
                have HNB : Hid (n ≤ A + D) := Lib.hid (by omega); clear hsy hD hM hAB
                go_wp2_with fail
                refine (HSY.out _ hown).mono ?_; rintro e w1 ⟨rfl, ⟨l2, hp2, hs2, hown1⟩, hg1⟩; have hg2 := hg.trans hg1; have HP2 := Lib.hid (HP.out.trans (hp2.wide (Nat.zero_le _) (Nat.le_refl _))); have HB2 := Lib.hid (HD.out.fin HA.out (fun i hi => hp2.out i (.inl hi)) hs2 HNB.out); have HXD2 := Lib.hid (xbf_prm (A0 := 0) HXD.out hp2 HA.out HNB.out (Nat.le_refl _) (by omega)); have hL2 : l2.length = n := by rw [hp2.len]; exact hL
                clear hp2 hs2 HSY; go_wp2; refine ⟨⟨D, l2, hDb.1, hDb.2, rfl, hL2, HP2, HB2, HXD2, hown1, hg2⟩, by simp [intOf]; exact hme⟩
              · have hml' : ¬ (M : Int) < (n : Int) := by omega
                have HB2 := Lib.hid (HD.out.fin (n := n) HA.out (l' := l1) (fun i hi => rfl) (HBL.out.head.less (Nat.le_refl _) (by omega)) (by omega)); have hme : n - D < n - bs := by omega
                have hDb : 1 ≤ D ∧ D ≤ 2 * n + 20 := by omega
                clear hD hM hAB; go_wp2; refine ⟨⟨D, l1, hDb.1, hDb.2, rfl, hL, HP, HB2, HXD, hown, hg⟩, by simp [intOf]; exact hme⟩
        · have hlt' : ¬ (bs : Int) < (n : Int) := by omega
          have hres := HBL.out.head; rw [show min (0 + bs) n = n by omega] at hres; have hpr := HP.out; go_wp2; refine ⟨rfl, .tuple #[], by simp [results, Tryd.results45, go_sem], rfl, ⟨_, hpr, hres, hown⟩, hg⟩
end Go.Proofs.YtinogphhbbaobaaDoor
/- slices.Clone, slices.SortStableFunc over values; value.Sort: in order, stable. -/
set_option linter.unusedVariables false
set_option linter.unusedSimpArgs false
set_option maxRecDepth 100000
namespace Go
theorem vgs_one (l : List Vg) : ∀ u ∈ vgs l, u.oneCell' = true := by
  intro u hu; unfold vgs at hu; obtain ⟨x, -, hx⟩ := List.mem_flatMap.1 hu; simp only [Vg.cells, List.mem_cons, List.not_mem_nil, or_false] at hx
  rcases hx with rfl | rfl | rfl <;> rfl
end Go
namespace Go.Proofs.YtinogphhbbaobaaDoor
open Go.RowKit Go.Srt

set_option maxHeartbeats 1600000 in
theorem vinssort_nil (w : World) : Calls Tryd.prog 65 #[.slice none 0 0, .int .i64 0, .int .i64 0, .func (.func 30) #[] #[]] w fun e w' => e = .returned (.tuple #[]) ∧ w' = w := by
  go_enter Tryd.func65, Tryd.ntmps65
  go_wp2
  go_loopw [8] (fun i wr => i = .int .i64 1 ∧ wr = w) (fun _ _ => 0)
  case atStart => exact ⟨rfl, rfl⟩
  case round =>
    obtain ⟨rfl, rfl⟩ := hrel; go_wp2; refine ⟨rfl, .tuple #[], by simp [results, Tryd.results65, go_sem], rfl, rfl⟩

set_option maxHeartbeats 1600000 in
theorem vstable_nil (w : World) : Calls Tryd.prog 45 #[.slice none 0 0, .int .i64 0, .func (.func 30) #[] #[]] w fun e w' => e = .returned (.tuple #[]) ∧ w' = w := by
  go_enter Tryd.func45, Tryd.ntmps45
  go_wp2
  go_loopw [7, 8] (fun aa bb wr => aa = .int .i64 0 ∧ bb = .int .i64 20 ∧ wr = w) (fun _ _ _ => 0)
  case atStart => exact ⟨rfl, rfl, rfl⟩
  case round =>
    obtain ⟨rfl, rfl, rfl⟩ := hrel
    go_wp2_with fail
    refine (vinssort_nil _).mono ?_; rintro e w1 ⟨rfl, rfl⟩; go_wp2
    go_loopw [6] (fun bb wr => bb = .int .i64 20 ∧ wr = w1) (fun _ _ => 0)
    case atStart => exact ⟨rfl, rfl⟩
    case round =>
      obtain ⟨rfl, rfl⟩ := hrel; go_wp2; refine ⟨rfl, .tuple #[], by simp [results, Tryd.results45, go_sem], rfl, rfl⟩

theorem vsort_nil (w : World) : Calls Tryd.prog 29 #[.slice none 0 0, .func (.func 30) #[] #[]] w fun e w' => e = .returned (.tuple #[]) ∧ w' = w := by
  go_enter Tryd.func29, Tryd.ntmps29
  go_wp2_with fail
  refine (vstable_nil _).mono ?_; rintro e w1 ⟨rfl, rfl⟩; go_wp2; refine ⟨rfl, .tuple #[], by simp [results, Tryd.results29, go_sem], rfl, rfl⟩

set_option maxHeartbeats 1600000 in
theorem sortv_any (base : Nat) (l : List Vg) (hl : l.length ≤ 1000) (hx : ∀ i j, i < j → j < l.length → l[i]!.g < l[j]!.g) (v : Value) (w : World) (h : w.ownsRow base 23 3 v l.length (vgs l)) :
    Calls Tryd.prog 29 #[v, .func (.func 30) #[] #[]] w fun e w' => e = .returned (.tuple #[]) ∧
      ∃ l2 : List Vg, l2.Perm l ∧ SR cmpG l2 0 l2.length ∧ w'.ownsRow base 23 3 v l.length (vgs l2) ∧ w.grownBy w' v.ownBlock := by
  have h' := h; obtain ⟨h1, ⟨rfl, h2⟩ | ⟨g, cap, cur, rfl, hb, hg, h3, h4, h5, h6⟩⟩ := h
  · obtain rfl : l = [] := List.length_eq_zero_iff.1 h2; refine (vsort_nil w).mono ?_; rintro e w1 ⟨rfl, rfl⟩; exact ⟨rfl, [], List.Perm.refl _, fun i j _ _ h => by simp at h, h', World.grownBy.refl _ _⟩
  · have hst := vg_stab_any cmpG_ord base g cap l.length l rfl h3 (by omega) (fun _ _ => trivial) hx w h'; have HST := Lib.hid hst; clear hst
    go_enter Tryd.func29, Tryd.ntmps29
    go_wp2_with fail
    refine HST.out.mono ?_; rintro e w1 ⟨rfl, ⟨l2, hp, hs, hown⟩, hgr⟩; have hpp := hp.prm; rw [← hp.len] at hs; clear hp; go_wp2; refine ⟨rfl, .tuple #[], by simp [results, Tryd.results29, go_sem], rfl, l2, hpp, hs, hown, hgr⟩
theorem Tryd.infoZV : (Tryd.prog.info? 23).map (fun i => (i.zero, i.size, i.bytes)) = some (some (.agg #[.int .i64 0, .string ⟨#[]⟩, .int .i64 0]), 3, 32) := by kernel_rfl

set_option maxHeartbeats 1600000 in
theorem cloneV_any (a : Option Addr) (c : Nat) (L : List Vg) (hlen : L.length ≤ 1000000) (w : World) (hr : Rd w a (vgs L)) (hc : a = none → c = 0) :
    Calls Tryd.prog 28 #[.slice a L.length c] w fun e w' => ∃ v, e = .returned v ∧ w'.ownsRow w.heap.size 23 3 v L.length (vgs L) ∧ Below w.heap.size w w' := by
  have hnil := fun a n c => Lib.run_eql_slice_nil (P := Tryd.prog) w 37 23 a n c 0 0 Tryd.underlying37
  cases a with
  | none =>
    have h0 : L = [] := by
      rcases hr with h | ⟨_, _, h, _⟩
      · have h2 := congrArg List.length h; rw [vgs_len] at h2; exact List.length_eq_zero_iff.1 (by simp only [List.length_nil] at h2; omega)
      · cases h
    subst h0
    go_enter Tryd.func28, Tryd.ntmps28
    go_wp2; go_ret; exact ⟨_, rfl, World.ownsRow_nil _ _ _ _, Below.refl _ _⟩
  | some ad =>
    obtain ⟨n, hn⟩ : ∃ n, L.length = n := ⟨_, rfl⟩; have HN := Lib.hid hn; rw [hn] at hlen ⊢; clear hn
    go_enter Tryd.func28, Tryd.ntmps28
    go_wp2_with (at_builtin; go_must (refine wpList_app' w (Below.new w (.cells #[] 23)) rfl (.tmp 5) (.tmp 6) 37 rfl 23 (.agg #[.int .i64 0, .string ⟨#[]⟩, .int .i64 0]) 3 32 Tryd.underlying37 Tryd.infoZV rfl (by decide) (.slice (some ⟨w.heap.size, 0, none⟩) 0 0) 0 [] rfl (ownsRow_empty w _ _) (some ad) n c (vgs L) rfl hc (hr.alloc _) (by rw [vgs_len, HN.out]; try omega) (vgs_one L) (by omega) (by decide) ?_); intro v1 w1 hown1 _ hbl1)
    go_ret; refine ⟨_, rfl, ?_, hbl1⟩
    simpa using hown1


set_option maxHeartbeats 1600000 in
theorem vsort_any (a : Option Addr) (c : Nat) (X : List Vg) (hlen : X.length ≤ 1000) (hx : ∀ i j, i < j → j < X.length → X[i]!.g < X[j]!.g) (w : World) (hr : Rd w a (vgs X)) (hc : a = none → c = 0) :
    Calls Tryd.prog 13 #[.slice a X.length c] w fun e w' => (∃ v, e = .returned v ∧ ∃ l2 : List Vg, l2.Perm X ∧ SR cmpG l2 0 l2.length ∧ w'.ownsRow w.heap.size 23 3 v X.length (vgs l2)) ∧ Below w.heap.size w w' := by
  have HCL := Lib.hid (cloneV_any a c X (by omega) w hr hc); have HSO := Lib.hid (fun v W h => sortv_any w.heap.size X hlen hx v W h); generalize hN : X.length = N at *; clear hN hr
  go_enter Tryd.func13, Tryd.ntmps13
  go_wp2_with fail
  refine HCL.out.mono ?_; rintro e w1 ⟨v, rfl, hown, hb1⟩
  go_wp2_with fail
  refine (HSO.out v w1 hown).mono ?_; rintro e w2 ⟨rfl, l2, hp, hs, hown2, hgr⟩; have hbw : Below w.heap.size w w2 := hb1.grown hgr hb1.size (fun k hk => (hown.lt k hk).1); have HP := Lib.hid hp; have HS := Lib.hid hs; clear hp hs; go_wp2; go_ret; exact ⟨⟨v, rfl, l2, HP.out, HS.out, hown2⟩, hbw⟩
end Go.Proofs.YtinogphhbbaobaaDoor
/- A region that draws its order, walked over each order in which its heavy operations may come up; the light ones are taken first. -/
set_option linter.unusedVariables false
set_option linter.unusedSimpArgs false
namespace Go
open Go.RowKit
section
variable {P : Program} {ops : Array Oper} {lt : Nat → Bool} {Q : Exit → Act → World → Prop} {S : World → Prop}

def wpSched (P : Program) (ops : Array Oper) (lt : Nat → Bool) (Q : Exit → Act → World → Prop) (S : World → Prop) : Nat → Array Bool → Act → World → Prop
  | 0, listed, a, w => Region.ready .any ops listed = [] ∧ Q .normal a w
  | f + 1, listed, a, w =>
    match (Region.ready .any ops listed).find? lt with
    | some j => Region.free .any ops listed j = true ∧ ∃ o v, ops[j]? = some o ∧ YieldsIf P ops S o v a ∧ S w ∧ wpSched P ops lt Q S f (listed.setIfInBounds j true) (a.put o.dst v) w
    | none => (Region.ready .any ops listed = [] → Q .normal a w) ∧
      ∀ i ∈ Region.ready .any ops listed, wpOp P ops Q i (fun a' w' => S w' ∧ wpSched P ops lt Q S f (listed.setIfInBounds i true) a' w') a w

theorem wpSched_sound (hs : Region.noSelect ops = true) (hQ : ∀ c a w, ¬ Q (.panic c) a w) : ∀ (f : Nat) (listed : Array Bool) (a : Act) (w : World),
    wpSched P ops lt Q S f listed a w → wpAnyZ P .any ops Q S none f listed a w := by
  intro f
  induction f with
  | zero => intro listed a w h; exact wpAnyZ_done h.1 h.2 0
  | succ f ih =>
    intro listed a w h; unfold wpSched at h
    cases hf : (Region.ready .any ops listed).find? lt with
    | some j =>
      rw [hf] at h; simp only at h; obtain ⟨h1, o, v, ho, hy, hS, h2⟩ := h; have hr : (Region.ready .any ops listed).contains j = true := by
        have := List.mem_of_find?_eq_some hf
        simpa using this
      exact wpAnyZ_take rfl ho hs (fun c a w h => absurd h (hQ c _ w)) f listed a w h1 hr hy hS (ih _ _ _ h2)
    | none =>
      rw [hf] at h; simp only at h; exact ⟨h.1, fun i hi => wpOp_mono (fun a' w' h' => ⟨fun _ => h'.1, ih _ _ _ h'.2⟩) (h.2 i hi)⟩

theorem sched_light {f : Nat} {listed : Array Bool} {a : Act} {w : World} (j : Nat) (o : Oper) (v : Value) (hr : (Region.ready .any ops listed).find? lt = some j) (hf : Region.free .any ops listed j = true) (ho : ops[j]? = some o)
    (hw : Region.wanted o (yielded ops a.tmps) = true) (hv : ∀ w', S w' → (execOp a.eval o).run P w' = .ok (.value v) w') (hS : S w) (h : wpSched P ops lt Q S f (listed.setIfInBounds j true) (a.put o.dst v) w) : wpSched P ops lt Q S (f + 1) listed a w := by
  unfold wpSched; rw [hr]; exact ⟨hf, o, v, ho, .inl ⟨hw, hv⟩, hS, h⟩
theorem sched_fork {f : Nat} {listed : Array Bool} {a : Act} {w : World} (rs : List Nat) (hr : Region.ready .any ops listed = rs) (hl : rs.find? lt = none) (hne : rs ≠ [])
    (h : ∀ i ∈ rs, wpOp P ops Q i (fun a' w' => S w' ∧ wpSched P ops lt Q S f (listed.setIfInBounds i true) a' w') a w) : wpSched P ops lt Q S (f + 1) listed a w := by
  unfold wpSched; rw [hr, hl]; exact ⟨fun h0 => absurd h0 hne, h⟩
theorem sched_heavy {f : Nat} {listed : Array Bool} {a : Act} {w : World} (i : Nat) (o : Oper) (ho : ops[i]? = some o) (hw : Region.wanted o (yielded ops a.tmps) = true)
    (h : ∀ K : Act → World → Prop, Hid (∀ a w, S w → wpSched P ops lt Q S f (listed.setIfInBounds i true) a w → K a w) → o.wp P a w K Q) :
    wpOp P ops Q i (fun a' w' => S w' ∧ wpSched P ops lt Q S f (listed.setIfInBounds i true) a' w') a w := by
  unfold wpOp; simp only [ho]; rw [if_pos hw]; exact .inl (h _ (fun a w h1 h2 => ⟨h1, h2⟩))
theorem sched_done {listed : Array Bool} {a : Act} {w : World} (hr : Region.ready .any ops listed = []) (h : Q .normal a w) : wpSched P ops lt Q S 0 listed a w := ⟨hr, h⟩

theorem sched_end {listed : Array Bool} {a : Act} {w : World} (hr : Region.ready .any ops listed = []) (h : Q .normal a w) : wpSched P ops lt (OnlyQ Q) S 0 listed a w := sched_done hr h

theorem wp_region_sched {id : Nat} {a : Act} {w : World} (n : Nat) (lts : List Nat) (S : World → Prop) (hn : ops.size = n) (hm : P.follows .mixedOrders = true) (hs : Region.noSelect ops = true)
    (h : wpSched P ops (lts.contains ·) (OnlyQ Q) S n (Array.replicate n false) a w.drew) : (Code.region id ops true).wp P Q a w := by
  subst hn; refine Code.wp_mono OnlyQ.imp ?_; refine wp_region_any hm (wpAny_of_Z (S := S) (z := none) _ _ _ _ ?_); exact wpSched_sound hs (fun c a w h => h) _ _ _ _ h
end
attribute [irreducible] wpSched
end Go
