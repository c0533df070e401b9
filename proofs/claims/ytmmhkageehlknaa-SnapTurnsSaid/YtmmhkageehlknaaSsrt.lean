/-
  slices.SortStableFunc over cuts: another order of the same cuts, in order.
-/
import Derived.Test.YtmmhkageehlknaaSstab
set_option linter.unusedVariables false
set_option linter.unusedSimpArgs false
set_option maxRecDepth 100000
namespace Go
open Go.RowKit Go.Srt
/-- As many as a contract speaks of. -/
def sortMax : Nat := 1000
theorem tri (a b c d e f : Int) (hb : 1 ≤ b) (hd : 1 ≤ d) (hf : 1 ≤ f) (h1 : a * d ≤ c * b) (h2 : c * f ≤ e * d) : a * f ≤ e * b := by
  have k1 : a * d * f ≤ c * b * f := Int.mul_le_mul_of_nonneg_right h1 (by omega)
  have k2 : c * f * b ≤ e * d * b := Int.mul_le_mul_of_nonneg_right h2 (by omega)
  have k3 : c * b * f = c * f * b := by grind
  have k4 : d * (a * f) ≤ d * (e * b) := by
    have e1 : d * (a * f) = a * d * f := by grind
    have e2 : d * (e * b) = e * d * b := by grind
    omega
  exact Int.le_of_mul_le_mul_left k4 (by omega)
theorem cmpOrd : Ord cmpC CuOk := by
  refine ⟨fun x y _ _ h => by unfold cmpC at *; omega, fun x y z hx hy hz h1 h2 => ?_⟩
  unfold cmpC at *
  have := tri x.p x.w y.p y.w z.p z.w hx.2.1 hy.2.1 hz.2.1 (by omega) (by omega)
  omega
end Go
namespace Go.Proofs.Ytmmhkageehlknaa
open Go.RowKit Go.Srt

set_option maxHeartbeats 1600000 in
theorem inssort_nil (w : World) : Calls Try.prog 61 #[.slice none 0 0, .int .i64 0, .int .i64 0, .func (.func 51) #[] #[]] w fun e w' => e = .returned (.tuple #[]) ∧ w' = w := by
  go_enter Try.func61, Try.ntmps61
  go_wp2
  go_loopw [8] (fun i wr => i = .int .i64 1 ∧ wr = w) (fun _ _ => 0)
  case atStart => exact ⟨rfl, rfl⟩
  case round =>
    obtain ⟨rfl, rfl⟩ := hrel
    go_wp2
    refine ⟨rfl, .tuple #[], by simp [results, Try.results61, go_sem], rfl, rfl⟩

set_option maxHeartbeats 1600000 in
theorem stable_nil (w : World) : Calls Try.prog 59 #[.slice none 0 0, .int .i64 0, .func (.func 51) #[] #[]] w fun e w' => e = .returned (.tuple #[]) ∧ w' = w := by
  go_enter Try.func59, Try.ntmps59
  go_wp2
  go_loopw [7, 8] (fun aa bb wr => aa = .int .i64 0 ∧ bb = .int .i64 20 ∧ wr = w) (fun _ _ _ => 0)
  case atStart => exact ⟨rfl, rfl, rfl⟩
  case round =>
    obtain ⟨rfl, rfl, rfl⟩ := hrel
    go_wp2_with fail
    refine (inssort_nil _).mono ?_
    rintro e w1 ⟨rfl, rfl⟩
    go_wp2
    go_loopw [6] (fun bb wr => bb = .int .i64 20 ∧ wr = w1) (fun _ _ => 0)
    case atStart => exact ⟨rfl, rfl⟩
    case round =>
      obtain ⟨rfl, rfl⟩ := hrel
      go_wp2
      refine ⟨rfl, .tuple #[], by simp [results, Try.results59, go_sem], rfl, rfl⟩

theorem sort_nil (w : World) : Calls Try.prog 50 #[.slice none 0 0, .func (.func 51) #[] #[]] w fun e w' => e = .returned (.tuple #[]) ∧ w' = w := by
  go_enter Try.func50, Try.ntmps50
  go_wp2_with fail
  refine (stable_nil _).mono ?_
  rintro e w1 ⟨rfl, rfl⟩
  go_wp2
  refine ⟨rfl, .tuple #[], by simp [results, Try.results50, go_sem], rfl, rfl⟩

set_option maxHeartbeats 1600000 in
theorem sortc_any (base : Nat) (l : List Cu) (hl : l.length ≤ sortMax) (hok : ∀ x ∈ l, CuOk x) (v : Value) (w : World) (h : w.ownsRow base 71 4 v l.length (cus l)) :
    Calls Try.prog 50 #[v, .func (.func 51) #[] #[]] w fun e w' => e = .returned (.tuple #[]) ∧
      ∃ l2 : List Cu, l2.Perm l ∧ SR cmpC l2 0 l2.length ∧ w'.ownsRow base 71 4 v l.length (cus l2) ∧ w.grownBy w' v.ownBlock := by
  have h' := h
  obtain ⟨h1, ⟨rfl, h2⟩ | ⟨g, cap, cur, rfl, hb, hg, h3, h4, h5, h6⟩⟩ := h
  · obtain rfl : l = [] := List.length_eq_zero_iff.1 h2
    refine (sort_nil w).mono ?_
    rintro e w1 ⟨rfl, rfl⟩
    exact ⟨rfl, [], List.Perm.refl _, fun i j _ _ h => by simp at h, h', World.grownBy.refl _ _⟩
  · have hst := cu_stab_any cmpOrd base g cap l.length l rfl h3 (by unfold sortMax at hl; omega) hok w h'
    have HST := Lib.hid hst
    clear hst
    go_enter Try.func50, Try.ntmps50
    go_wp2_with fail
    refine HST.out.mono ?_
    rintro e w1 ⟨rfl, ⟨l2, hp, hs, hown⟩, hgr⟩
    have hpp := hp.prm
    rw [← hp.len] at hs
    clear hp
    go_wp2
    refine ⟨rfl, .tuple #[], by simp [results, Try.results50, go_sem], rfl, l2, hpp, hs, hown, hgr⟩
end Go.Proofs.Ytmmhkageehlknaa
