/-
  Sorting by blocks, in plain terms. slices.stableCmpFunc over cuts. slices.SortStableFunc over cuts: another order of the same cuts, in order. seg.thin. The cuts of a segment, in plain terms: whatever order sorts them, the points are the same.
-/
import Derived.Test.YtediblljgakoeaaPk8
import Derived.Test.YtediblljgakoeaaPk10
import Derived.Test.YtediblljgakoeaaPk7
import Derived.Test.YtediblljgakoeaaPk3
import Derived.Maps.AppendAt
import Derived.Scope
/- Sorting by blocks, in plain terms. -/
set_option linter.unusedVariables false
set_option linter.unusedSimpArgs false
namespace Go.Srt
variable {α : Type} [Inhabited α]
/-- From s on, each block is in order. -/
def Bl (c : α → α → Int) (l : List α) (bs n s : Nat) : Prop := ∀ j, SR c l (s + j * bs) (min (s + j * bs + bs) n)
/-- The first q blocks are in order. -/
def Dn (c : α → α → Int) (l : List α) (B q : Nat) : Prop := ∀ j, j < q → SR c l (j * B) (j * B + B)
theorem SR.less {c : α → α → Int} {l : List α} {a b a' b' : Nat} (h : SR c l a b) (ha : a ≤ a') (hb : b' ≤ b) : SR c l a' b' := fun i j h1 h2 h3 => h i j (by omega) h2 (by omega)
theorem Bl.head {c : α → α → Int} {l : List α} {bs n s : Nat} (h : Bl c l bs n s) : SR c l s (min (s + bs) n) := by
  have := h 0; rwa [Nat.zero_mul, Nat.add_zero] at this
theorem Bl.second {c : α → α → Int} {l : List α} {bs n s : Nat} (h : Bl c l bs n s) : SR c l (s + bs) (min (s + bs + bs) n) := by
  have := h 1; rwa [Nat.one_mul] at this
theorem Bl.step {c : α → α → Int} {l l' : List α} {bs n s t : Nat} (h : Bl c l bs n s) (ht : t = s + (bs + bs)) (he : ∀ i, t ≤ i → l'[i]! = l[i]!) : Bl c l' bs n t := by
  intro j
  have := h (j + 2)
  rw [show s + (j + 2) * bs = t + j * bs by rw [ht, Nat.add_mul]; omega] at this
  exact this.congr (fun i h1 _ => he i (by omega))
theorem Dn.step {c : α → α → Int} {l l' : List α} {B q A : Nat} (h : Dn c l B q) (hA : A = q * B) (he : ∀ i, i < A → l'[i]! = l[i]!) (hs : SR c l' A (A + B)) : Dn c l' B (q + 1) := by
  intro j hj
  by_cases hq : j = q
  · subst hq; rw [← hA]; exact hs
  · have h1 : j * B + B ≤ q * B := by
      have := Nat.mul_le_mul_right B (show j + 1 ≤ q by omega)
      rw [Nat.add_mul] at this; omega
    exact (h j (by omega)).congr (fun i _ h2 => he i (by omega))
theorem Dn.fin {c : α → α → Int} {l l' : List α} {B q A n : Nat} (h : Dn c l B q) (hA : A = q * B) (he : ∀ i, i < A → l'[i]! = l[i]!) (hs : SR c l' A n) (hn : n ≤ A + B) : Bl c l' B n 0 := by
  intro j
  rw [Nat.zero_add]
  rcases Nat.lt_trichotomy j q with hj | hj | hj
  · have h1 : j * B + B ≤ q * B := by
      have := Nat.mul_le_mul_right B (show j + 1 ≤ q by omega)
      rw [Nat.add_mul] at this; omega
    exact ((h j hj).congr (fun i _ h2 => he i (by omega))).less (Nat.le_refl _) (by omega)
  · subst hj; rw [← hA]; exact hs.less (Nat.le_refl _) (by omega)
  · have h1 : q * B + B ≤ j * B := by
      have := Nat.mul_le_mul_right B (show q + 1 ≤ j by omega)
      rw [Nat.add_mul] at this; omega
    intro x y h2 h3 h4
    omega
end Go.Srt
/- slices.stableCmpFunc over cuts. -/
set_option linter.unusedVariables false
set_option linter.unusedSimpArgs false
set_option maxRecDepth 100000
namespace Go.Proofs.Ytediblljgakoeaa
open Go.RowKit Go.Srt

set_option maxHeartbeats 1600000 in
theorem cu_stab_any (H : Ord cmpC CuOk) (base g c n : Nat) (l : List Cu) (hn : l.length = n) (hc : n ≤ c) (hn2 : n ≤ 1000000) (hok : ∀ x ∈ l, CuOk x) (w : World) (h : w.ownsRow base 84 4 (.slice (some ⟨g, 0, none⟩) n c) n (cus l)) :
    Calls Try.prog 51 #[.slice (some ⟨g, 0, none⟩) n c, .int .i64 n, .func (.func 44) #[] #[]] w fun e w' => e = .returned (.tuple #[]) ∧ (∃ l' : List Cu, Prm 0 n l l' ∧ SR cmpC l' 0 n ∧ w'.ownsRow base 84 4 (.slice (some ⟨g, 0, none⟩) n c) n (cus l')) ∧ w.grownBy w' (some g) := by
  go_enter Try.func51, Try.ntmps51
  have HOK := Lib.hid hok
  have HN := Lib.hid hn
  clear hok hn
  go_wp2
  go_loopw [7, 8] (fun aa bb wr => ∃ (q A B : Nat) (l1 : List Cu), Hid (A = q * 20) ∧ A + 20 = B ∧ A ≤ n ∧ aa = .int .i64 (A : Int) ∧ bb = .int .i64 (B : Int) ∧ l1.length = n ∧ Hid (Prm 0 n l l1) ∧ Hid (Dn cmpC l1 20 q) ∧ wr.ownsRow base 84 4 (.slice (some ⟨g, 0, none⟩) n c) n (cus l1) ∧ w.grownBy wr (some g)) (fun aa _ _ => n - (intOf aa).toNat)
  case atStart => exact ⟨0, 0, 20, l, Lib.hid rfl, rfl, Nat.zero_le _, rfl, rfl, HN.out, Lib.hid (Prm.refl _ _ _), Lib.hid (fun j hj => by omega), h, ⟨rfl, rfl, rfl, Nat.le_refl _, fun _ _ _ => rfl⟩⟩
  case round =>
    obtain ⟨q, A, B, l1, HA, hAB, hAn, rfl, rfl, hL, HP, HD, hown, hg⟩ := hrel
    have HOK1 := Lib.hid (HP.out.all HOK.out)
    by_cases hlt : B ≤ n
    · have hlt' : (B : Int) ≤ (n : Int) := by omega
      have hins := inssort_any A B base g c n l1 hL hc (by omega) hlt hn2 HOK1.out
      have hio := ins_ok H A l1 HOK1.out (B - (A + 1)) (by omega)
      rw [show A + 1 + (B - (A + 1)) = B by omega] at hio
      have HIO := Lib.hid hio
      have hlen := insC_len cmpC A l1 (B - (A + 1))
      generalize insC cmpC A l1 (B - (A + 1)) = l2 at *
      have HI := Lib.hid hins
      clear hins hio
      go_wp2_with fail
      refine (HI.out _ hown).mono ?_
      rintro e w1 ⟨rfl, hown1, hg1⟩
      have hg2 := hg.trans hg1
      obtain ⟨hp2, hs2⟩ := HIO.out
      have HP2 := Lib.hid (HP.out.trans (hp2.wide (Nat.zero_le _) hlt))
      have HD2 := Lib.hid (HD.out.step HA.out (fun i hi => hp2.out i (.inl hi)) (by rw [hAB]; exact hs2))
      have hL2 : l2.length = n := by rw [hlen]; exact hL
      obtain ⟨C, hC⟩ : ∃ C, B + 20 = C := ⟨_, rfl⟩
      have hwc : IntKind.i64.wrap ((B : Int) + 20) = (C : Int) := by
        rw [show (B : Int) + 20 = (C : Int) by omega]; exact IntWalk.i64_in _ (by omega)
      have HBQ : Hid (B = (q + 1) * 20) := Lib.hid (by have := HA.out; omega)
      have hme : n - B < n - A := by omega
      clear hp2 hs2 HI HIO hlen hAB
      go_wp2
      refine ⟨⟨q + 1, B, C, l2, HBQ, hC, hlt, rfl, rfl, hL2, HP2, HD2, hown1, hg2⟩, by simp [intOf]; exact hme⟩
    · have hlt' : ¬ (B : Int) ≤ (n : Int) := by omega
      have hins := inssort_any A n base g c n l1 hL hc hAn (Nat.le_refl _) hn2 HOK1.out
      have hio : Prm A n l1 (insC cmpC A l1 (n - (A + 1))) ∧ SR cmpC (insC cmpC A l1 (n - (A + 1))) A n := by
        by_cases hAe : A = n
        · rw [show n - (A + 1) = 0 by omega]
          exact ⟨Prm.refl _ _ _, fun i j h1 h2 h3 => by omega⟩
        · have := ins_ok H A l1 HOK1.out (n - (A + 1)) (by omega)
          rwa [show A + 1 + (n - (A + 1)) = n by omega] at this
      have HIO := Lib.hid hio
      have hlen := insC_len cmpC A l1 (n - (A + 1))
      generalize insC cmpC A l1 (n - (A + 1)) = l2 at *
      have HI := Lib.hid hins
      clear hins hio
      go_wp2_with fail
      refine (HI.out _ hown).mono ?_
      rintro e w1 ⟨rfl, hown1, hg1⟩
      have hg2 := hg.trans hg1
      obtain ⟨hp2, hs2⟩ := HIO.out
      have HP2 := Lib.hid (HP.out.trans (hp2.wide (Nat.zero_le _) (Nat.le_refl _)))
      have HB2 := Lib.hid (HD.out.fin HA.out (fun i hi => hp2.out i (.inl hi)) hs2 (by omega))
      have hL2 : l2.length = n := by rw [hlen]; exact hL
      clear hp2 hs2 HI HIO hlen hAB HP HD HA HOK1 hown hg hg1 hL hAn hlt hlt'
      go_wp2
      go_loopw [6] (fun bb wr => ∃ (bs : Nat) (l1 : List Cu), 1 ≤ bs ∧ bs ≤ 2 * n + 20 ∧ bb = .int .i64 (bs : Int) ∧ l1.length = n ∧ Hid (Prm 0 n l l1) ∧ Hid (Bl cmpC l1 bs n 0) ∧ wr.ownsRow base 84 4 (.slice (some ⟨g, 0, none⟩) n c) n (cus l1) ∧ w.grownBy wr (some g)) (fun bb _ => n - (intOf bb).toNat)
      case atStart => exact ⟨20, l2, by omega, by omega, rfl, hL2, HP2, HB2, hown1, hg2⟩
      case round =>
        clear hown1 hg2 HP2 HB2 hL2
        obtain ⟨bs, l1, hbs1, hbs2, rfl, hL, HP, HBL, hown, hg⟩ := hrel
        by_cases hlt : bs < n
        · have hlt' : (bs : Int) < (n : Int) := by omega
          obtain ⟨D, hD⟩ : ∃ D, bs + bs = D := ⟨_, rfl⟩
          have hwd : IntKind.i64.wrap (2 * (bs : Int)) = (D : Int) := by
            rw [show 2 * (bs : Int) = (D : Int) by omega]; exact IntWalk.i64_in _ (by omega)
          have hwd2 : IntKind.i64.wrap ((bs : Int) * 2) = (D : Int) := by
            rw [show (bs : Int) * 2 = (D : Int) by omega]; exact IntWalk.i64_in _ (by omega)
          have HDD := Lib.hid hD
          clear hD
          go_wp2
          go_loopw [7, 8] (fun aa bb wr => ∃ (q A B : Nat) (l1 : List Cu), Hid (A = q * D) ∧ A + D = B ∧ A ≤ n ∧ aa = .int .i64 (A : Int) ∧ bb = .int .i64 (B : Int) ∧ l1.length = n ∧ Hid (Prm 0 n l l1) ∧ Hid (Dn cmpC l1 D q) ∧ Hid (Bl cmpC l1 bs n A) ∧ wr.ownsRow base 84 4 (.slice (some ⟨g, 0, none⟩) n c) n (cus l1) ∧ w.grownBy wr (some g)) (fun aa _ _ => n - (intOf aa).toNat)
          case atStart => exact ⟨0, 0, D, l1, Lib.hid (by omega), by omega, Nat.zero_le _, rfl, rfl, hL, HP, Lib.hid (fun j hj => by omega), HBL, hown, hg⟩
          case round =>
            clear hown hg HP HBL hL
            obtain ⟨q, A, B, l1, HA, hAB, hAn, rfl, rfl, hL, HP, HD, HBL, hown, hg⟩ := hrel
            have hD := HDD.out
            have HOK1 := Lib.hid (HP.out.all HOK.out)
            obtain ⟨M, hM⟩ : ∃ M, A + bs = M := ⟨_, rfl⟩
            have hwm : IntKind.i64.wrap ((A : Int) + (bs : Int)) = (M : Int) := by
              rw [show (A : Int) + (bs : Int) = (M : Int) by omega]; exact IntWalk.i64_in _ (by omega)
            by_cases hle : B ≤ n
            · have hle' : (B : Int) ≤ (n : Int) := by omega
              have hsy := cu_sym_any H base g c n hc hn2 (B - A) A M B l1 (Nat.le_refl _) hL (by omega) (by omega) hle HOK1.out (HBL.out.head.less (Nat.le_refl _) (by omega)) (HBL.out.second.less (by omega) (by omega))
              have HSY := Lib.hid hsy
              clear hsy
              have HD0 := Lib.hid hD
              have HM0 := Lib.hid hM
              have HAB0 := Lib.hid hAB
              clear hD hM hAB
              go_wp2_with fail
              refine (HSY.out _ hown).mono ?_
              rintro e w1 ⟨rfl, ⟨l2, hp2, hs2, hown1⟩, hg1⟩
              have hg2 := hg.trans hg1
              have hD := HD0.out
              have hAB := HAB0.out
              have HP2 := Lib.hid (HP.out.trans (hp2.wide (Nat.zero_le _) hle))
              have HD2 := Lib.hid (HD.out.step HA.out (fun i hi => hp2.out i (.inl hi)) (by rw [hAB]; exact hs2))
              have HBL2 := Lib.hid (HBL.out.step (t := B) (by omega) (fun i hi => hp2.out i (.inr hi)))
              have hL2 : l2.length = n := by rw [hp2.len]; exact hL
              obtain ⟨C, hC⟩ : ∃ C, B + D = C := ⟨_, rfl⟩
              have hwc : IntKind.i64.wrap ((B : Int) + (D : Int)) = (C : Int) := by
                rw [show (B : Int) + (D : Int) = (C : Int) by omega]; exact IntWalk.i64_in _ (by omega)
              have HBQ : Hid (B = (q + 1) * D) := Lib.hid (by have := HA.out; rw [Nat.add_mul]; omega)
              have hme : n - B < n - A := by omega
              have HCC := Lib.hid hC
              clear hp2 hs2 HSY hD hAB hC
              go_wp2
              refine ⟨⟨q + 1, B, C, l2, HBQ, HCC.out, hle, rfl, rfl, hL2, HP2, HD2, HBL2, hown1, hg2⟩, by simp [intOf]; exact hme⟩
            · have hle' : ¬ (B : Int) ≤ (n : Int) := by omega
              by_cases hml : M < n
              · have hml' : (M : Int) < (n : Int) := by omega
                have hsy := cu_sym_any H base g c n hc hn2 (n - A) A M n l1 (Nat.le_refl _) hL (by omega) hml (Nat.le_refl _) HOK1.out (HBL.out.head.less (Nat.le_refl _) (by omega)) (HBL.out.second.less (by omega) (by omega))
                have HSY := Lib.hid hsy
                have hme : n - D < n - bs := by omega
                have hDb : 1 ≤ D ∧ D ≤ 2 * n + 20 := by omega
                have HNB : Hid (n ≤ A + D) := Lib.hid (by omega)
                clear hsy hD hM hAB
                go_wp2_with fail
                refine (HSY.out _ hown).mono ?_
                rintro e w1 ⟨rfl, ⟨l2, hp2, hs2, hown1⟩, hg1⟩
                have hg2 := hg.trans hg1
                have HP2 := Lib.hid (HP.out.trans (hp2.wide (Nat.zero_le _) (Nat.le_refl _)))
                have HB2 := Lib.hid (HD.out.fin HA.out (fun i hi => hp2.out i (.inl hi)) hs2 HNB.out)
                have hL2 : l2.length = n := by rw [hp2.len]; exact hL
                clear hp2 hs2 HSY
                go_wp2
                refine ⟨⟨D, l2, hDb.1, hDb.2, rfl, hL2, HP2, HB2, hown1, hg2⟩, by simp [intOf]; exact hme⟩
              · have hml' : ¬ (M : Int) < (n : Int) := by omega
                have HB2 := Lib.hid (HD.out.fin (n := n) HA.out (l' := l1) (fun i hi => rfl) (HBL.out.head.less (Nat.le_refl _) (by omega)) (by omega))
                have hme : n - D < n - bs := by omega
                have hDb : 1 ≤ D ∧ D ≤ 2 * n + 20 := by omega
                clear hD hM hAB
                go_wp2
                refine ⟨⟨D, l1, hDb.1, hDb.2, rfl, hL, HP, HB2, hown, hg⟩, by simp [intOf]; exact hme⟩
        · have hlt' : ¬ (bs : Int) < (n : Int) := by omega
          have hres := HBL.out.head
          rw [show min (0 + bs) n = n by omega] at hres
          have hpr := HP.out
          go_wp2
          refine ⟨rfl, .tuple #[], by simp [results, Try.results51, go_sem], rfl, ⟨_, hpr, hres, hown⟩, hg⟩
end Go.Proofs.Ytediblljgakoeaa
/- slices.SortStableFunc over cuts: another order of the same cuts, in order. -/
set_option linter.unusedVariables false
set_option linter.unusedSimpArgs false
set_option maxRecDepth 100000
namespace Go
open Go.RowKit Go.Srt
/-- As many as a contract speaks of. -/
def sortMax : Nat := 1000
theorem tri (a b c d e f : Int) (hb : 1 ≤ b) (hd : 1 ≤ d) (hf : 1 ≤ f) (h1 : a * d ≤ c * b) (h2 : c * f ≤ e * d) : a * f ≤ e * b := by
  have k1 : a * d * f ≤ c * b * f := Int.mul_le_mul_of_nonneg_right h1 (by omega)
  have k2 : c * f * b ≤ e * d * b := Int.mul_le_mul_of_nonneg_right h2 (by omega)
  have k3 : c * b * f = c * f * b := by grind
  have k4 : d * (a * f) ≤ d * (e * b) := by
    have e1 : d * (a * f) = a * d * f := by grind
    have e2 : d * (e * b) = e * d * b := by grind
    omega
  exact Int.le_of_mul_le_mul_left k4 (by omega)
theorem cmpOrd : Ord cmpC CuOk := by
  refine ⟨fun x y _ _ h => by unfold cmpC at *; omega, fun x y z hx hy hz h1 h2 => ?_⟩
  unfold cmpC at *
  have := tri x.p x.w y.p y.w z.p z.w hx.2.1 hy.2.1 hz.2.1 (by omega) (by omega)
  omega
end Go
namespace Go.Proofs.Ytediblljgakoeaa
open Go.RowKit Go.Srt

set_option maxHeartbeats 1600000 in
theorem inssort_nil (w : World) : Calls Try.prog 53 #[.slice none 0 0, .int .i64 0, .int .i64 0, .func (.func 44) #[] #[]] w fun e w' => e = .returned (.tuple #[]) ∧ w' = w := by
  go_enter Try.func53, Try.ntmps53
  go_wp2
  go_loopw [8] (fun i wr => i = .int .i64 1 ∧ wr = w) (fun _ _ => 0)
  case atStart => exact ⟨rfl, rfl⟩
  case round =>
    obtain ⟨rfl, rfl⟩ := hrel
    go_wp2
    refine ⟨rfl, .tuple #[], by simp [results, Try.results53, go_sem], rfl, rfl⟩

set_option maxHeartbeats 1600000 in
theorem stable_nil (w : World) : Calls Try.prog 51 #[.slice none 0 0, .int .i64 0, .func (.func 44) #[] #[]] w fun e w' => e = .returned (.tuple #[]) ∧ w' = w := by
  go_enter Try.func51, Try.ntmps51
  go_wp2
  go_loopw [7, 8] (fun aa bb wr => aa = .int .i64 0 ∧ bb = .int .i64 20 ∧ wr = w) (fun _ _ _ => 0)
  case atStart => exact ⟨rfl, rfl, rfl⟩
  case round =>
    obtain ⟨rfl, rfl, rfl⟩ := hrel
    go_wp2_with fail
    refine (inssort_nil _).mono ?_
    rintro e w1 ⟨rfl, rfl⟩
    go_wp2
    go_loopw [6] (fun bb wr => bb = .int .i64 20 ∧ wr = w1) (fun _ _ => 0)
    case atStart => exact ⟨rfl, rfl⟩
    case round =>
      obtain ⟨rfl, rfl⟩ := hrel
      go_wp2
      refine ⟨rfl, .tuple #[], by simp [results, Try.results51, go_sem], rfl, rfl⟩

theorem sort_nil (w : World) : Calls Try.prog 43 #[.slice none 0 0, .func (.func 44) #[] #[]] w fun e w' => e = .returned (.tuple #[]) ∧ w' = w := by
  go_enter Try.func43, Try.ntmps43
  go_wp2_with fail
  refine (stable_nil _).mono ?_
  rintro e w1 ⟨rfl, rfl⟩
  go_wp2
  refine ⟨rfl, .tuple #[], by simp [results, Try.results43, go_sem], rfl, rfl⟩

set_option maxHeartbeats 1600000 in
theorem sortc_any (base : Nat) (l : List Cu) (hl : l.length ≤ sortMax) (hok : ∀ x ∈ l, CuOk x) (v : Value) (w : World) (h : w.ownsRow base 84 4 v l.length (cus l)) :
    Calls Try.prog 43 #[v, .func (.func 44) #[] #[]] w fun e w' => e = .returned (.tuple #[]) ∧
      ∃ l2 : List Cu, l2.Perm l ∧ SR cmpC l2 0 l2.length ∧ w'.ownsRow base 84 4 v l.length (cus l2) ∧ w.grownBy w' v.ownBlock := by
  have h' := h
  obtain ⟨h1, ⟨rfl, h2⟩ | ⟨g, cap, cur, rfl, hb, hg, h3, h4, h5, h6⟩⟩ := h
  · obtain rfl : l = [] := List.length_eq_zero_iff.1 h2
    refine (sort_nil w).mono ?_
    rintro e w1 ⟨rfl, rfl⟩
    exact ⟨rfl, [], List.Perm.refl _, fun i j _ _ h => by simp at h, h', World.grownBy.refl _ _⟩
  · have hst := cu_stab_any cmpOrd base g cap l.length l rfl h3 (by unfold sortMax at hl; omega) hok w h'
    have HST := Lib.hid hst
    clear hst
    go_enter Try.func43, Try.ntmps43
    go_wp2_with fail
    refine HST.out.mono ?_
    rintro e w1 ⟨rfl, ⟨l2, hp, hs, hown⟩, hgr⟩
    have hpp := hp.prm
    rw [← hp.len] at hs
    clear hp
    go_wp2
    refine ⟨rfl, .tuple #[], by simp [results, Try.results43, go_sem], rfl, l2, hpp, hs, hown, hgr⟩
end Go.Proofs.Ytediblljgakoeaa
/- seg.thin. -/
set_option linter.unusedVariables false
set_option linter.unusedSimpArgs false
namespace Go
open Go.RowKit
theorem grown_setq (w : World) (B i : Nat) (v : Value) : w.grownBy (w.setCell ⟨B, i, none⟩ v) (some B) :=
  ⟨rfl, rfl, rfl, by rw [size_setCell]; exact Nat.le_refl _, fun k _ h => Below.heap_setCell _ _ _ _ (by intro e; exact h (by rw [e]))⟩
theorem Rd.cu {w : World} {a : Option Addr} {l : List Cu} (h : Rd w a (cus l)) (i : Nat) (hi : i < l.length) :
    ∃ b off, a = some ⟨b, off, none⟩ ∧ b < w.heap.size ∧ w.cell? ⟨b, off + i * 4, none⟩ = some (.int .i64 l[i].x) ∧ w.cell? ⟨b, off + i * 4 + 1, none⟩ = some (.int .i64 l[i].y) ∧ w.cell? ⟨b, off + i * 4 + 2, none⟩ = some (.int .i64 l[i].p) ∧ w.cell? ⟨b, off + i * 4 + 3, none⟩ = some (.int .i64 l[i].w) := by
  obtain ⟨b, off, rfl, h0, hb⟩ := h.at (i := i * 4 + 0) (v := .int .i64 l[i].x) (by rw [cus_get l i 0 hi (by omega)]; rfl)
  obtain ⟨_, _, e1, h1, -⟩ := h.at (i := i * 4 + 1) (v := .int .i64 l[i].y) (by rw [cus_get l i 1 hi (by omega)]; rfl)
  obtain ⟨_, _, e2, h2, -⟩ := h.at (i := i * 4 + 2) (v := .int .i64 l[i].p) (by rw [cus_get l i 2 hi (by omega)]; rfl)
  obtain ⟨_, _, e3, h3, -⟩ := h.at (i := i * 4 + 3) (v := .int .i64 l[i].w) (by rw [cus_get l i 3 hi (by omega)]; rfl)
  cases e1; cases e2; cases e3
  exact ⟨b, off, rfl, hb, h0, by rw [Nat.add_assoc]; exact h1, by rw [Nat.add_assoc]; exact h2, by rw [Nat.add_assoc]; exact h3⟩
theorem own_take {W : World} {base g c n s m : Nat} {e : TypeId} {xs : List Value} (h : W.ownsRow base e s (.slice (some ⟨g, 0, none⟩) n c) n xs) (hm : m ≤ n) :
    W.ownsRow base e s (.slice (some ⟨g, 0, none⟩) m c) m (xs.take (m * s)) := by
  obtain ⟨cur, hg, h3, h4, h5, h6, h1, hb⟩ := ownsRow_cur h
  have hms : m * s ≤ n * s := Nat.mul_le_mul_right _ hm
  refine ⟨by rw [List.length_take]; omega, .inr ⟨g, c, cur, rfl, hb, hg, by omega, h4, h5, ?_⟩⟩
  rw [← h6, List.take_take, Nat.min_eq_left hms]
theorem noGoto_ret1 {Q : Exit → Act → World → Prop} {a : Act} {w : World} : Exit.noGoto Q .ret a w = Q .ret a w := rfl
def Cu.at (c : Cu) : Pt := ⟨c.x, c.y⟩
def thStep (s : Pt × List Pt) (c : Cu) : Pt × List Pt := if c.at = s.1 then s else (c.at, s.2 ++ [c.at])
def thAll (a : Pt) (l : List Cu) : Pt × List Pt := l.foldl thStep (a, [])
def thinF (a b : Pt) (l : List Cu) : List Pt := let s := thAll a l; if s.2 ≠ [] ∧ s.1 = b then s.2.dropLast else s.2
theorem thAll_take (a : Pt) (l : List Cu) (k : Nat) (hk : k < l.length) : thAll a (l.take (k + 1)) = thStep (thAll a (l.take k)) l[k] := by
  unfold thAll; rw [List.take_succ_eq_append_getElem hk, List.foldl_append]; rfl
end Go
namespace Go.Proofs.Ytediblljgakoeaa
open Go.RowKit
theorem Try.infoTP : (Try.prog.info? 32).map (fun i => (i.zero, i.size, i.bytes)) = some (some (.agg #[.int .i64 0, .int .i64 0]), 2, 16) := by kernel_rfl

set_option maxHeartbeats 1600000 in
theorem thin_any (a b : Pt) (ra : Option Addr) (rc : Nat) (l : List Cu) (hl : l.length ≤ 1000000) (w : World) (hr : Rd w ra (cus l)) :
    Calls Try.prog 45 #[a.val, b.val, .slice ra l.length rc] w fun e w' => ∃ v, e = .returned v ∧ w'.ownsRow w.heap.size 32 2 v (thinF a b l).length (pts (thinF a b l)) ∧ Below w.heap.size w w' := by
  have hS0 : thAll a (l.take 0) = (a, []) := rfl
  have HF : Hid (thinF a b l = (if (thAll a l).2 ≠ [] ∧ (thAll a l).1 = b then (thAll a l).2.dropLast else (thAll a l).2)) := Lib.hid rfl
  generalize thinF a b l = R at *
  have HTK := Lib.hid (fun k hk => thAll_take a l k hk)
  obtain ⟨S, hS⟩ : ∃ S : Nat → Pt × List Pt, S = fun k => thAll a (l.take k) := ⟨_, rfl⟩
  have HS0 : Hid (S 0 = (a, [])) := Lib.hid (by rw [hS]; rfl)
  have HS1 : Hid (∀ k (hk : k < l.length), S (k + 1) = thStep (S k) l[k]) := Lib.hid (fun k hk => by rw [hS]; exact HTK.out k hk)
  have HF2 : Hid (R = (if (S l.length).2 ≠ [] ∧ (S l.length).1 = b then (S l.length).2.dropLast else (S l.length).2)) := Lib.hid (by rw [hS, HF.out]; simp only [List.take_length])
  clear HTK HF hS0 hS
  obtain ⟨ax, ay⟩ := a
  obtain ⟨bx, by'⟩ := b
  dsimp only [Pt.val]
  go_enter Try.func45, Try.ntmps45
  go_wp2
  refine wp_scope_straight ?_
  go_wp2
  refine wp_label ?_
  go_wp2
  go_loopw [7, 14] (fun o i wr => ∃ (k : Nat) (L : Pt) (out : List Pt), k ≤ l.length ∧ i = .int .i64 k ∧ Hid (S k = (L, out)) ∧ out.length ≤ k ∧ wr.ownsRow (w.heap.size + 3) 32 2 o out.length (pts out) ∧ Blk wr (w.heap.size + 1 + 1) [.int .i64 L.x, .int .i64 L.y] ∧ Blk wr (w.heap.size + 1) [.int .i64 bx, .int .i64 by'] ∧ Below w.heap.size w wr) (fun _ i _ => l.length - (intOf i).toNat)
  case atStart => exact ⟨0, ⟨ax, ay⟩, [], Nat.zero_le _, rfl, HS0, Nat.le_refl _, World.ownsRow_nil _ _ _ _, Blk.lit _ _ [.int .i64 ax, .int .i64 ay] _ (by simp), (Blk.lit _ _ [.int .i64 bx, .int .i64 by'] _ (by simp)).alloc _, (((Below.refl _ _).alloc (Nat.le_refl _) _).alloc (by simp) _).alloc (by simp; omega) _⟩
  case round =>
    obtain ⟨k, L, out, hk, rfl, HS, hol, hown, hlast, hbb, hbl⟩ := hrel
    by_cases hlt : k < l.length
    · obtain ⟨b1, off1, rfl, -, c0, c1, c2, c3⟩ := (hr.keep hbl).cu k hlt
      have HST : Hid (S (k + 1) = thStep (L, out) l[k]) := Lib.hid (by rw [HS1.out k hlt, HS.out])
      generalize l[k] = c at *
      obtain ⟨x, y, p, q⟩ := c
      obtain ⟨lx, ly⟩ := L
      dsimp only at c0 c1 c2 c3 hlast
      have l0 := hlast.cell 0 rfl
      have l1 := hlast.cell 1 rfl
      have f0 := hlast.free 0
      have f1 := hlast.free 1
      have hsl := hlast.lt
      have hs := hbl.size
      by_cases he : (⟨x, y⟩ : Pt) = ⟨lx, ly⟩
      · have hex : x = lx := congrArg Pt.x he
        have hey : y = ly := congrArg Pt.y he
        clear he
        subst hex hey
        go_wp2
        refine ⟨⟨k + 1, ⟨x, y⟩, out, by omega, by first | rfl | go_num, Lib.hid (by rw [HST.out, thStep]; exact if_pos rfl), by omega, hown.below (Below.new _ _), hlast.alloc _, hbb.alloc _, hbl.alloc hs _⟩, by simp [intOf]; omega⟩
      · have HE : Hid (¬ (⟨x, y⟩ : Pt) = ⟨lx, ly⟩) := Lib.hid he
        by_cases hex : x = lx
        · have hey : ¬ y = ly := fun h => he (by rw [hex, h])
          subst hex
          clear he
          have hob : ∀ g, u7.ownBlock = some g → w.heap.size + 3 ≤ g := fun g e => (hown.lt g e).1
          have hgs1 := grown_setq wr (w.heap.size + 1 + 1) 0 (.int .i64 x)
          have hgs2 := grown_setq (wr.setCell ⟨w.heap.size + 1 + 1, 0, none⟩ (.int .i64 x)) (w.heap.size + 1 + 1) 1 (.int .i64 y)
          have hownS := (hown.kept hgs1 (.inr (by intro e; have := hob _ e; omega))).kept hgs2 (.inr (by intro e; have := hob _ e; omega))
          have hblS := (hbl.grown hgs1 hs (fun k hk => by cases hk; omega)).grown hgs2 (by rw [size_setCell]; exact hs) (fun k hk => by cases hk; omega)
          have hlS : Blk _ _ [.int .i64 x, .int .i64 y] := (hlast.set 0 (.int .i64 x)).set 1 (.int .i64 y)
          have hbS := (hbb.set_at (b' := w.heap.size + 1 + 1) (o := 0) (by omega) (.int .i64 x)).set_at (b' := w.heap.size + 1 + 1) (o := 1) (by omega) (.int .i64 y)
          have hszS : ((wr.setCell ⟨w.heap.size + 1 + 1, 0, none⟩ (.int .i64 x)).setCell ⟨w.heap.size + 1 + 1, 1, none⟩ (.int .i64 y)).heap.size = wr.heap.size := by rw [size_setCell, size_setCell]
          have HSZ := Lib.hid hszS
          clear hszS hgs1 hgs2
          obtain ⟨ti, hti, hz0, hz1, hz2⟩ := info_parts Try.infoTP
          go_wp2_with (at_builtin; go_must (refine wpList_append_own_at ((((wr.setCell ⟨w.heap.size + 1 + 1, 0, none⟩ (.int .i64 x)).setCell ⟨w.heap.size + 1 + 1, 1, none⟩ (.int .i64 y)).alloc (.cells #[.int .i64 x, .int .i64 y, .int .i64 p, .int .i64 q] 84)).alloc (.cells #[.int .i64 x, .int .i64 y] 32)) rfl (.tmp 24) (.tmp 26) 42 rfl (w.heap.size + 3) 32 ti (.agg #[.int .i64 0, .int .i64 0]) 2 16 Try.underlying42 hti hz0 hz1 hz2 rfl (by decide) u7 out.length (pts out) rfl ((hownS.below (Below.new _ _)).below (Below.new _ _)) ⟨wr.heap.size + 1, 0, none⟩ 1 1 [.int .i64 x, .int .i64 y] rfl rfl (Rd.lit _ (wr.heap.size + 1) [.int .i64 x, .int .i64 y] 32 (by simp [HSZ.out])).add (by simp [Value.oneCell']) (by unfold maxLen; omega) (by omega) (by simp [HSZ.out]; omega) ?_); intro v2 w2 hown2 hg3 _ _)
          go_roundw
          case rel =>
            refine ⟨k + 1, ⟨x, y⟩, out ++ [⟨x, y⟩], by omega, by go_num, Lib.hid (by rw [HST.out, thStep]; exact if_neg HE.out), by simp; omega, ?_, ((hlS.alloc _).alloc _).grown hg3 (fun e => by have := hob _ e.symm; omega), ((hbS.alloc _).alloc _).grown hg3 (fun e => by have := hob _ e.symm; omega), ((hblS.alloc (by rw [HSZ.out]; exact hs) _).alloc (by simp [HSZ.out]; omega) _).grown hg3 (by simp [HSZ.out]; omega) (fun k e => by have := hob _ e; omega)⟩
            rw [pts_snoc, List.length_append]
            exact hown2
          case measure => simp [intOf]; omega
        · clear he
          have hob : ∀ g, u7.ownBlock = some g → w.heap.size + 3 ≤ g := fun g e => (hown.lt g e).1
          have hgs1 := grown_setq wr (w.heap.size + 1 + 1) 0 (.int .i64 x)
          have hgs2 := grown_setq (wr.setCell ⟨w.heap.size + 1 + 1, 0, none⟩ (.int .i64 x)) (w.heap.size + 1 + 1) 1 (.int .i64 y)
          have hownS := (hown.kept hgs1 (.inr (by intro e; have := hob _ e; omega))).kept hgs2 (.inr (by intro e; have := hob _ e; omega))
          have hblS := (hbl.grown hgs1 hs (fun k hk => by cases hk; omega)).grown hgs2 (by rw [size_setCell]; exact hs) (fun k hk => by cases hk; omega)
          have hlS : Blk _ _ [.int .i64 x, .int .i64 y] := (hlast.set 0 (.int .i64 x)).set 1 (.int .i64 y)
          have hbS := (hbb.set_at (b' := w.heap.size + 1 + 1) (o := 0) (by omega) (.int .i64 x)).set_at (b' := w.heap.size + 1 + 1) (o := 1) (by omega) (.int .i64 y)
          have hszS : ((wr.setCell ⟨w.heap.size + 1 + 1, 0, none⟩ (.int .i64 x)).setCell ⟨w.heap.size + 1 + 1, 1, none⟩ (.int .i64 y)).heap.size = wr.heap.size := by rw [size_setCell, size_setCell]
          have HSZ := Lib.hid hszS
          clear hszS hgs1 hgs2
          obtain ⟨ti, hti, hz0, hz1, hz2⟩ := info_parts Try.infoTP
          go_wp2_with (at_builtin; go_must (refine wpList_append_own_at ((((wr.setCell ⟨w.heap.size + 1 + 1, 0, none⟩ (.int .i64 x)).setCell ⟨w.heap.size + 1 + 1, 1, none⟩ (.int .i64 y)).alloc (.cells #[.int .i64 x, .int .i64 y, .int .i64 p, .int .i64 q] 84)).alloc (.cells #[.int .i64 x, .int .i64 y] 32)) rfl (.tmp 24) (.tmp 26) 42 rfl (w.heap.size + 3) 32 ti (.agg #[.int .i64 0, .int .i64 0]) 2 16 Try.underlying42 hti hz0 hz1 hz2 rfl (by decide) u7 out.length (pts out) rfl ((hownS.below (Below.new _ _)).below (Below.new _ _)) ⟨wr.heap.size + 1, 0, none⟩ 1 1 [.int .i64 x, .int .i64 y] rfl rfl (Rd.lit _ (wr.heap.size + 1) [.int .i64 x, .int .i64 y] 32 (by simp [HSZ.out])).add (by simp [Value.oneCell']) (by unfold maxLen; omega) (by omega) (by simp [HSZ.out]; omega) ?_); intro v2 w2 hown2 hg3 _ _)
          go_roundw
          case rel =>
            refine ⟨k + 1, ⟨x, y⟩, out ++ [⟨x, y⟩], by omega, by go_num, Lib.hid (by rw [HST.out, thStep]; exact if_neg HE.out), by simp; omega, ?_, ((hlS.alloc _).alloc _).grown hg3 (fun e => by have := hob _ e.symm; omega), ((hbS.alloc _).alloc _).grown hg3 (fun e => by have := hob _ e.symm; omega), ((hblS.alloc (by rw [HSZ.out]; exact hs) _).alloc (by simp [HSZ.out]; omega) _).grown hg3 (by simp [HSZ.out]; omega) (fun k e => by have := hob _ e; omega)⟩
            rw [pts_snoc, List.length_append]
            exact hown2
          case measure => simp [intOf]; omega
    · obtain rfl : k = l.length := by omega
      have HR : Hid (R = if out ≠ [] ∧ L = ⟨bx, by'⟩ then out.dropLast else out) := Lib.hid (by rw [HF2.out, HS.out])
      obtain ⟨lx, ly⟩ := L
      dsimp only at hlast
      have l0 := hlast.cell 0 rfl
      have l1 := hlast.cell 1 rfl
      have b0 := hbb.cell 0 rfl
      have b1 := hbb.cell 1 rfl
      have hsl := hlast.lt
      have hsb := hbb.lt
      have hdown := hown.mono (by omega : w.heap.size ≤ w.heap.size + 3)
      clear HS HS1 HF2 HS0 hlast hbb hown
      rcases List.eq_nil_or_concat out with rfl | ⟨o2, pp, rfl⟩
      · have hR2 : R = [] := by rw [HR.out]; simp
        subst hR2
        have HD := Lib.hid hdown
        clear hdown HR
        obtain ⟨oa, oc, rfl, -⟩ := HD.out.form
        go_wp2
        rw [noGoto_ret1]
        go_ret
        exact ⟨_, rfl, HD.out, hbl⟩
      · have hl2 : (o2.concat pp).length = o2.length + 1 := by simp
        have HR2 : Hid (R = if (⟨lx, ly⟩ : Pt) = ⟨bx, by'⟩ then o2 else o2 ++ [pp]) := Lib.hid (by rw [HR.out]; simp)
        have HP : Hid ((pts (o2.concat pp)).take (o2.length * 2) = pts o2) := Lib.hid (by rw [pts_take]; simp)
        have HC : Hid (o2.concat pp = o2 ++ [pp]) := Lib.hid (by simp)
        obtain ⟨oa, oc, rfl, hoc, hom, hon, -, hob⟩ := hdown.form
        rw [hl2] at hoc hol
        have hoa : ∃ g, oa = some ⟨g, 0, none⟩ := by
          obtain ⟨-, h | ⟨g, cap, cur, h, -⟩⟩ := hdown
          · omega
          · cases h; exact ⟨g, rfl⟩
        obtain ⟨g, rfl⟩ := hoa
        rw [hl2] at hdown
        have HDT := Lib.hid (own_take hdown (m := o2.length) (by omega))
        have HD := Lib.hid hdown
        rw [hl2]
        have HLO := Lib.hid hl2
        clear hdown HR hl2 hob hon
        generalize o2.concat pp = oo at *
        have hpos : (0 : Int) < (o2.length : Int) + 1 := by omega
        have hm1 : IntKind.i64.wrap (((o2.length + 1 : Nat) : Int) - 1) = (o2.length : Int) := by
          have : ((o2.length + 1 : Nat) : Int) - 1 = (o2.length : Int) := by omega
          rw [this]; exact IntWalk.i64_in _ (by unfold maxLen at hom; omega)
        by_cases hx : lx = bx
        · by_cases hy : ly = by'
          · have hRe : R = o2 := by rw [HR2.out, hx, hy]; simp
            subst hx hy
            subst hRe
            go_wp2
            try rw [noGoto_ret1]
            go_ret
            refine ⟨_, rfl, ?_, hbl⟩
            rw [← HP.out]
            exact HDT.out
          · have hRe : R = o2 ++ [pp] := by rw [HR2.out, if_neg (by simp [hy])]
            subst hx hRe
            go_wp2
            rw [noGoto_ret1]
            go_ret
            refine ⟨_, rfl, ?_, hbl⟩
            rw [← HC.out]
            rw [HLO.out]; exact HD.out
        · have hRe : R = o2 ++ [pp] := by rw [HR2.out, if_neg (by simp [hx])]
          subst hRe
          go_wp2
          rw [noGoto_ret1]
          go_ret
          refine ⟨_, rfl, ?_, hbl⟩
          rw [← HC.out]
          rw [HLO.out]; exact HD.out
end Go.Proofs.Ytediblljgakoeaa
/- The cuts of a segment, in plain terms: whatever order sorts them, the points are the same. -/
set_option linter.unusedVariables false
set_option linter.unusedSimpArgs false
namespace Go
open Go.RowKit Go.Srt
theorem sorted_map {α β : Type} {c : α → α → Int} (f : α → β) : ∀ (l2 l3 : List α), (∀ x ∈ l2, ∀ y ∈ l2, c x y ≤ 0 → c y x ≤ 0 → f x = f y) → l2.Perm l3 →
    (∀ x ∈ l2, c x x ≤ 0) → l2.Pairwise (fun x y => c x y ≤ 0) → l3.Pairwise (fun x y => c x y ≤ 0) → l2.map f = l3.map f := by
  intro l2
  induction l2 with
  | nil => intro l3 _ hp _ _ _; rw [List.Perm.nil_eq hp]
  | cons x t ih =>
    intro l3 ht hp hr h2 h3
    obtain ⟨A, B, rfl⟩ := List.append_of_mem (hp.mem_iff.1 (List.mem_cons_self ..))
    have hp' : t.Perm (A ++ B) := List.Perm.cons_inv (hp.trans List.perm_middle)
    have hsub : (A ++ B).Pairwise (fun x y => c x y ≤ 0) := h3.sublist (List.Sublist.append_left (List.sublist_cons_self ..) A)
    have hrec := ih (A ++ B) (fun u hu v hv => ht u (List.mem_cons_of_mem _ hu) v (List.mem_cons_of_mem _ hv)) hp' (fun u hu => hr u (List.mem_cons_of_mem _ hu)) (List.pairwise_cons.1 h2).2 hsub
    have hA : ∀ y ∈ A, f y = f x := by
      intro y hy
      have hy2 : y ∈ x :: t := hp.mem_iff.2 (List.mem_append_left _ hy)
      have h1 : c y x ≤ 0 := (List.pairwise_append.1 h3).2.2 y hy x (List.mem_cons_self ..)
      have h4 : c x y ≤ 0 := by
        rcases List.mem_cons.1 hy2 with rfl | h
        · exact hr _ (List.mem_cons_self ..)
        · exact (List.pairwise_cons.1 h2).1 y h
      exact ht y hy2 x (List.mem_cons_self ..) h1 h4
    have hrep : ∀ A : List α, (∀ y ∈ A, f y = f x) → f x :: A.map f = A.map f ++ [f x] := by
      intro A
      induction A with
      | nil => intro _; rfl
      | cons a A ihA =>
        intro h
        have e := ihA (fun y hy => h y (List.mem_cons_of_mem _ hy))
        rw [List.map_cons, h a (List.mem_cons_self ..), List.cons_append, ← e]
    rw [List.map_cons, hrec, List.map_append, ← List.cons_append, hrep A hA, List.map_append, List.map_cons, List.append_assoc]
    rfl

def cutX (a b : Pt) (c : Int) : Option Cu := if (atF a b c).2 then some ⟨c, (atF a b c).1, ((c - a.x).natAbs : Nat), ((b.x - a.x).natAbs : Nat)⟩ else none
def cutY (a b : Pt) (c : Int) : Option Cu := if (atF ⟨a.y, a.x⟩ ⟨b.y, b.x⟩ c).2 then some ⟨(atF ⟨a.y, a.x⟩ ⟨b.y, b.x⟩ c).1, c, ((c - a.y).natAbs : Nat), ((b.y - a.y).natAbs : Nat)⟩ else none
theorem at_in {a b : Pt} {c : Int} (h : (atF a b c).2 = true) : ((-16777216 ≤ a.x ∧ a.x ≤ 16777216) ∧ (-16777216 ≤ b.x ∧ b.x ≤ 16777216)) ∧ ((a.x < c ∧ c < b.x ∧ (atF a b c).1 = roundF (a.y * (b.x - a.x) + (b.y - a.y) * (c - a.x)) (b.x - a.x)) ∨ (b.x < c ∧ c < a.x ∧ (atF a b c).1 = roundF (b.y * (a.x - b.x) + (a.y - b.y) * (c - b.x)) (a.x - b.x))) := by
  revert h
  unfold atF
  by_cases hs : b.x < a.x
  · simp only [hs, if_true]
    split
    · simp
    · rename_i h
      intro _
      obtain ⟨h1, h2⟩ := not_or.1 h
      have h1 := (Bool.not_eq_false _).mp h1
      simp only [List.all_cons, List.all_nil, Bool.and_true, Bool.and_eq_true, okPt_iff] at h1
      exact ⟨by omega, .inr ⟨by omega, by omega, rfl⟩⟩
  · simp only [hs, if_false]
    split
    · simp
    · rename_i h
      intro _
      obtain ⟨h1, h2⟩ := not_or.1 h
      have h1 := (Bool.not_eq_false _).mp h1
      simp only [List.all_cons, List.all_nil, Bool.and_true, Bool.and_eq_true, okPt_iff] at h1
      exact ⟨by omega, .inl ⟨by omega, by omega, rfl⟩⟩
theorem at_bd {a b : Pt} {c : Int} (h : (atF a b c).2 = true) : (-16777216 ≤ a.x ∧ a.x ≤ 16777216) ∧ (-16777216 ≤ b.x ∧ b.x ≤ 16777216) ∧ (-16777216 ≤ c ∧ c ≤ 16777216) := by
  have := at_in h; omega
theorem roundF_exact (d k : Int) (hk : 0 < k) : roundF (d * k) k = d := by
  unfold roundF
  rw [Int.mul_ediv_cancel _ (by omega), if_neg (by omega)]
theorem at_exact {a b : Pt} {c d : Int} (h : (atF a b c).2 = true) (he : (c - a.x) * (b.y - a.y) = (d - a.y) * (b.x - a.x)) : (atF a b c).1 = d := by
  obtain ⟨-, ⟨h1, h2, e⟩ | ⟨h1, h2, e⟩⟩ := at_in h
  · rw [e, show a.y * (b.x - a.x) + (b.y - a.y) * (c - a.x) = d * (b.x - a.x) by grind]
    exact roundF_exact _ _ (by omega)
  · rw [e, show b.y * (a.x - b.x) + (a.y - b.y) * (c - b.x) = d * (a.x - b.x) by grind]
    exact roundF_exact _ _ (by omega)
theorem cutX_some {a b : Pt} {c : Int} {k : Cu} (h : cutX a b c = some k) : (atF a b c).2 = true ∧ k = ⟨c, (atF a b c).1, ((c - a.x).natAbs : Nat), ((b.x - a.x).natAbs : Nat)⟩ := by
  unfold cutX at h
  split at h
  · rename_i h2; cases h; exact ⟨h2, rfl⟩
  · cases h
theorem cutY_some {a b : Pt} {c : Int} {k : Cu} (h : cutY a b c = some k) : (atF ⟨a.y, a.x⟩ ⟨b.y, b.x⟩ c).2 = true ∧ k = ⟨(atF ⟨a.y, a.x⟩ ⟨b.y, b.x⟩ c).1, c, ((c - a.y).natAbs : Nat), ((b.y - a.y).natAbs : Nat)⟩ := by
  unfold cutY at h
  split at h
  · rename_i h2; cases h; exact ⟨h2, rfl⟩
  · cases h
theorem cutX_ok {a b : Pt} {c : Int} {k : Cu} (h : cutX a b c = some k) : CuOk k := by
  obtain ⟨h2, rfl⟩ := cutX_some h
  have := at_in h2
  exact ⟨⟨by dsimp only; omega, by dsimp only; omega⟩, by dsimp only; omega, by dsimp only; omega⟩
theorem cutY_ok {a b : Pt} {c : Int} {k : Cu} (h : cutY a b c = some k) : CuOk k := by
  obtain ⟨h2, rfl⟩ := cutY_some h
  have := at_in h2
  dsimp only at this
  exact ⟨⟨by dsimp only; omega, by dsimp only; omega⟩, by dsimp only; omega, by dsimp only; omega⟩
def cutRow (a b : Pt) (xs ys : List Int) : List Cu := xs.filterMap (cutX a b) ++ ys.filterMap (cutY a b)
theorem cutRow_mem {a b : Pt} {xs ys : List Int} {k : Cu} (h : k ∈ cutRow a b xs ys) : (∃ c, cutX a b c = some k) ∨ ∃ c, cutY a b c = some k := by
  rcases List.mem_append.1 h with h | h
  · obtain ⟨c, -, h⟩ := List.mem_filterMap.1 h; exact .inl ⟨c, h⟩
  · obtain ⟨c, -, h⟩ := List.mem_filterMap.1 h; exact .inr ⟨c, h⟩
theorem cutRow_ok {a b : Pt} {xs ys : List Int} {k : Cu} (h : k ∈ cutRow a b xs ys) : CuOk k := by
  rcases cutRow_mem h with ⟨c, h⟩ | ⟨c, h⟩
  · exact cutX_ok h
  · exact cutY_ok h
theorem abs_tie {c a b : Int} {d a' b' : Int} (h1 : (a < c ∧ c < b) ∨ (b < c ∧ c < a)) (h2 : (a' < d ∧ d < b') ∨ (b' < d ∧ d < a'))
    (he : ((c - a).natAbs : Int) * ((b' - a').natAbs : Int) = ((d - a').natAbs : Int) * ((b - a).natAbs : Int)) : (c - a) * (b' - a') = (d - a') * (b - a) := by
  rcases h1 with h1 | h1 <;> rcases h2 with h2 | h2
  · rw [show ((c - a).natAbs : Int) = c - a by omega, show ((b' - a').natAbs : Int) = b' - a' by omega, show ((d - a').natAbs : Int) = d - a' by omega, show ((b - a).natAbs : Int) = b - a by omega] at he
    exact he
  · rw [show ((c - a).natAbs : Int) = c - a by omega, show ((b' - a').natAbs : Int) = -(b' - a') by omega, show ((d - a').natAbs : Int) = -(d - a') by omega, show ((b - a).natAbs : Int) = b - a by omega] at he
    grind
  · rw [show ((c - a).natAbs : Int) = -(c - a) by omega, show ((b' - a').natAbs : Int) = b' - a' by omega, show ((d - a').natAbs : Int) = d - a' by omega, show ((b - a).natAbs : Int) = -(b - a) by omega] at he
    grind
  · rw [show ((c - a).natAbs : Int) = -(c - a) by omega, show ((b' - a').natAbs : Int) = -(b' - a') by omega, show ((d - a').natAbs : Int) = -(d - a') by omega, show ((b - a).natAbs : Int) = -(b - a) by omega] at he
    grind
theorem at_side {a b : Pt} {c : Int} (h : (atF a b c).2 = true) : (a.x < c ∧ c < b.x) ∨ (b.x < c ∧ c < a.x) := by
  have := at_in h; omega
theorem mul_cancel {c d k : Int} (hk : k ≠ 0) (h : c * k = d * k) : c = d := Int.eq_of_mul_eq_mul_right hk h
/-- What is as far is the same point. -/
theorem cut_tie {a b : Pt} {xs ys : List Int} {x y : Cu} (hx : x ∈ cutRow a b xs ys) (hy : y ∈ cutRow a b xs ys) (h1 : cmpC x y ≤ 0) (h2 : cmpC y x ≤ 0) : x.at = y.at := by
  have he : x.p * y.w = y.p * x.w := by unfold cmpC at h1 h2; omega
  clear h1 h2
  rcases cutRow_mem hx with ⟨c, hx⟩ | ⟨c, hx⟩ <;> rcases cutRow_mem hy with ⟨d, hy⟩ | ⟨d, hy⟩
  · obtain ⟨i1, rfl⟩ := cutX_some hx
    obtain ⟨i2, rfl⟩ := cutX_some hy
    have s1 := at_side i1
    have s2 := at_side i2
    dsimp only at he
    have := abs_tie s1 s2 he
    have := mul_cancel (by omega) this
    obtain rfl : c = d := by omega
    rfl
  · obtain ⟨i1, rfl⟩ := cutX_some hx
    obtain ⟨i2, rfl⟩ := cutY_some hy
    have s1 := at_side i1
    have s2 := at_side i2
    dsimp only at he s2
    have hh := abs_tie s1 s2 he
    have e1 := at_exact i1 hh
    have e2 := at_exact (a := ⟨a.y, a.x⟩) (b := ⟨b.y, b.x⟩) (d := c) i2 hh.symm
    unfold Cu.at
    dsimp only
    rw [e1, e2]
  · obtain ⟨i1, rfl⟩ := cutY_some hx
    obtain ⟨i2, rfl⟩ := cutX_some hy
    have s1 := at_side i1
    have s2 := at_side i2
    dsimp only at he s1
    have hh := abs_tie s1 s2 he
    have e1 := at_exact (a := ⟨a.y, a.x⟩) (b := ⟨b.y, b.x⟩) (d := d) i1 hh
    have e2 := at_exact i2 hh.symm
    unfold Cu.at
    dsimp only
    rw [e1, e2]
  · obtain ⟨i1, rfl⟩ := cutY_some hx
    obtain ⟨i2, rfl⟩ := cutY_some hy
    have s1 := at_side i1
    have s2 := at_side i2
    dsimp only at he s1 s2
    have := abs_tie s1 s2 he
    have := mul_cancel (by omega) this
    obtain rfl : c = d := by omega
    rfl
/-- Points ahead of which the same point lies, left out. -/
def thinP (a b : Pt) (l : List Pt) : List Pt := let s := l.foldl (fun (s : Pt × List Pt) c => if c = s.1 then s else (c, s.2 ++ [c])) (a, []); if s.2 ≠ [] ∧ s.1 = b then s.2.dropLast else s.2
theorem thinF_map (a b : Pt) (l : List Cu) : thinF a b l = thinP a b (l.map Cu.at) := by
  have : thAll a l = (l.map Cu.at).foldl (fun (s : Pt × List Pt) c => if c = s.1 then s else (c, s.2 ++ [c])) (a, []) := by
    unfold thAll
    rw [List.foldl_map]
    rfl
  unfold thinF thinP
  rw [this]
def cutPts (a b : Pt) (xs ys : List Int) : List Pt := (insC cmpC 0 (cutRow a b xs ys) ((cutRow a b xs ys).length - 1)).map Cu.at
def cutsF (a b : Pt) (xs ys : List Int) : List Pt := thinP a b (cutPts a b xs ys)
theorem cutPts_of (a b : Pt) (xs ys : List Int) (l2 : List Cu) (hp : l2.Perm (cutRow a b xs ys)) (hs : SR cmpC l2 0 l2.length) : l2.map Cu.at = cutPts a b xs ys := by
  obtain ⟨p, s⟩ := ins_ok cmpOrd 0 (cutRow a b xs ys) (fun x hx => cutRow_ok hx) ((cutRow a b xs ys).length - 1) (by omega)
  refine sorted_map (c := cmpC) Cu.at l2 _ (fun x hx y hy h1 h2 => cut_tie (hp.mem_iff.1 hx) (hp.mem_iff.1 hy) h1 h2) (hp.trans p.prm.symm) (fun x _ => by unfold cmpC; omega) hs.pairwise (SR.pairwise ?_)
  intro i j h1 h2 h3
  rw [insC_len] at h3
  exact s i j h1 h2 (by omega)
theorem cutsF_of (a b : Pt) (xs ys : List Int) (l2 : List Cu) (hp : l2.Perm (cutRow a b xs ys)) (hs : SR cmpC l2 0 l2.length) : thinF a b l2 = cutsF a b xs ys := by
  rw [thinF_map, cutPts_of a b xs ys l2 hp hs]; rfl
end Go
