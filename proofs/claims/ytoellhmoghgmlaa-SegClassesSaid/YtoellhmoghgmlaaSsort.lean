/-
  slices.stableCmpFunc, SortStableFunc over fewer than twenty cuts.
-/
import Derived.Test.YtoellhmoghgmlaaSins
set_option linter.unusedVariables false
set_option linter.unusedSimpArgs false
set_option maxRecDepth 100000
namespace Go.Proofs.Ytoellhmoghgmlaa
open Go.RowKit Go.Srt

set_option maxHeartbeats 1600000 in
theorem stable_any (base g c n : Nat) (l : List Cu) (hn : l.length = n) (hc : n ≤ c) (hn2 : n < 20) (hok : ∀ x ∈ l, CuOk x) (w : World) (h : w.ownsRow base 55 4 (.slice (some ⟨g, 0, none⟩) n c) n (cus l)) :
    Calls Try.prog 37 #[.slice (some ⟨g, 0, none⟩) n c, .int .i64 n, .func (.func 26) #[] #[]] w fun e w' => e = .returned (.tuple #[]) ∧
      w'.ownsRow base 55 4 (.slice (some ⟨g, 0, none⟩) n c) n (cus (insC cmpC 0 l (n - 1))) ∧ w.grownBy w' (some g) := by
  have hins := fun w1 h1 => inssort_any 0 n base g c n l hn hc (Nat.zero_le _) (Nat.le_refl _) (by omega) hok w1 h1
  have HI := Lib.hid hins
  have hnn : (n : Int) < 20 := by omega
  clear hins hok hn
  go_enter Try.func37, Try.ntmps37
  go_wp2
  go_loopw [7, 8] (fun aa bb wr => aa = .int .i64 0 ∧ bb = .int .i64 20 ∧ wr.ownsRow base 55 4 (.slice (some ⟨g, 0, none⟩) n c) n (cus l) ∧ w.grownBy wr (some g)) (fun _ _ _ => 0)
  case atStart => exact ⟨rfl, rfl, h, ⟨rfl, rfl, rfl, Nat.le_refl _, fun _ _ _ => rfl⟩⟩
  case round =>
    obtain ⟨rfl, rfl, hown, hg⟩ := hrel
    have hnn0 : ¬ (20 : Int) ≤ (n : Int) := by omega
    go_wp2_with fail
    refine (HI.out _ hown).mono ?_
    rintro e w1 ⟨rfl, hown1, hg1⟩
    have hg2 := hg.trans hg1
    go_wp2
    go_loopw [6] (fun bb wr => bb = .int .i64 20 ∧ wr.ownsRow base 55 4 (.slice (some ⟨g, 0, none⟩) n c) n (cus (insC cmpC 0 l (n - 1))) ∧ w.grownBy wr (some g)) (fun _ _ => 0)
    case atStart => exact ⟨rfl, hown1, hg2⟩
    case round =>
      obtain ⟨rfl, hown3, hg3⟩ := hrel
      have hnn' : ¬ (20 : Int) < (n : Int) := by omega
      go_wp2
      refine ⟨rfl, .tuple #[], by simp [results, Try.results37, go_sem], rfl, hown3, hg3⟩

theorem sort_any (base g c n : Nat) (l : List Cu) (hn : l.length = n) (hc : n ≤ c) (hn2 : n < 20) (hok : ∀ x ∈ l, CuOk x) (w : World) (h : w.ownsRow base 55 4 (.slice (some ⟨g, 0, none⟩) n c) n (cus l)) :
    Calls Try.prog 25 #[.slice (some ⟨g, 0, none⟩) n c, .func (.func 26) #[] #[]] w fun e w' => e = .returned (.tuple #[]) ∧
      w'.ownsRow base 55 4 (.slice (some ⟨g, 0, none⟩) n c) n (cus (insC cmpC 0 l (n - 1))) ∧ w.grownBy w' (some g) := by
  have HI := Lib.hid (fun w1 h1 => stable_any base g c n l hn hc hn2 hok w1 h1)
  clear hok hn
  go_enter Try.func25, Try.ntmps25
  go_wp2_with fail
  refine (HI.out _ h).mono ?_
  rintro e w1 ⟨rfl, hown1, hg1⟩
  go_wp2
  refine ⟨rfl, .tuple #[], by simp [results, Try.results25, go_sem], rfl, hown1, hg1⟩
end Go.Proofs.Ytoellhmoghgmlaa
