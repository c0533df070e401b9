/-
  graticuleref08.Check.
-/
import Derived.Test.YtoicahfpnnhgpaaPof
import Derived.Test.YtoicahfpnnhgpaaBclone
set_option linter.unusedVariables false
set_option linter.unusedSimpArgs false
namespace Go.Proofs.Ytoicahfpnnhgpaa
open Go.RowKit Go.Vint Go.Proto

set_option maxHeartbeats 4000000 in
theorem rcheck_any (f : Fld) (w : World) (hn : 0 ≤ f.n ∧ f.n ≤ 18446744073709551615) :
    Calls Try.prog 30 #[.agg (rcells f).toArray] w fun e w' => e = .returned (.int .i64 (chk f)) ∧ Below w.heap.size w w' := by
  obtain ⟨num, kind, n, bs⟩ := f
  dsimp only [rcells] at *
  obtain ⟨l, hl⟩ : ∃ l, bs.length = l := ⟨_, rfl⟩
  obtain ⟨ck, hck⟩ : ∃ ck, chk ⟨num, kind, n, bs⟩ = ck := ⟨_, rfl⟩
  have hC : Hid (ck = if num < 1 ∨ 536870911 < num then 5 else if kind ≠ 0 ∧ kind ≠ 1 ∧ kind ≠ 2 ∧ kind ≠ 5 then 14 else if kind = 2 ∧ 0 < n ∨ kind ≠ 2 ∧ 0 < l then 3 else if kind = 5 ∧ 4294967295 < n then 5 else 0) := by
    refine Lib.hid ?_
    rw [← hl, ← hck]
    unfold chk
    have e : bs ≠ [] ↔ 0 < bs.length := List.length_pos_iff.symm
    simp only [e]
  obtain ⟨s, hs⟩ : ∃ s, strOfNums bs = s := ⟨_, rfl⟩
  have hsz : s.toList.isEmpty = decide (l = 0) := by
    rw [← hs, ← hl, Lib.strOfNums_toList]
    cases bs <;> simp [Lib.bytesOf]
  rw [hck, hs]
  clear hl hck hs
  by_cases h0 : l = 0
  · rw [decide_eq_true h0] at hsz
    subst h0
    go_enter Try.func30, Try.ntmps30
    go_wp2
    all_goals (go_ret; refine ⟨ret_int ?_, Below.new _ _⟩; rw [hC.out]; clear hC; (repeat' split) <;> first | rfl | omega | (exfalso; simp only [bne_iff_ne, bne_eq_false_iff_eq, ne_eq] at *; omega))
  · rw [decide_eq_false h0] at hsz
    go_enter Try.func30, Try.ntmps30
    go_wp2
    all_goals (go_ret; refine ⟨ret_int ?_, Below.new _ _⟩; rw [hC.out]; clear hC; (repeat' split) <;> first | rfl | omega | (exfalso; simp only [bne_iff_ne, bne_eq_false_iff_eq, ne_eq] at *; omega))
end Go.Proofs.Ytoicahfpnnhgpaa
