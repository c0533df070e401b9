/-
  bytes.Clone and bytes.Equal.
-/
import Derived.Test.YtoicahfpnnhgpaaProg
import Derived.Test.YtoicahfpnnhgpaaLib
import Derived.Test.YtoicahfpnnhgpaaInfo
import Derived.Test.YtoicahfpnnhgpaaStr
import Derived.Lib.Bytes
import Derived.Lib.SliceRun
set_option linter.unusedVariables false
set_option linter.unusedSimpArgs false
namespace Go
theorem strOfNums_toList_iff (xs ys : List Int) (hx : ∀ x ∈ xs, 0 ≤ x ∧ x ≤ 255) (hy : ∀ x ∈ ys, 0 ≤ x ∧ x ≤ 255) : (strOfNums xs).toList = (strOfNums ys).toList ↔ xs = ys := by
  constructor
  · intro h
    refine strOfNums_inj xs ys hx hy ?_
    rw [Lib.strOfNums_toList, Lib.strOfNums_toList] at h
    unfold strOfNums
    unfold Lib.bytesOf at h
    rw [h]
  · rintro rfl
    rfl
end Go
namespace Go.Proofs.Ytoicahfpnnhgpaa
open Go.RowKit

theorem bequal_any (a b : Option Addr) (c d : Nat) (L M : List Int) (hL : ∀ x ∈ L, 0 ≤ x ∧ x ≤ 255) (hM : ∀ x ∈ M, 0 ≤ x ∧ x ≤ 255) (w : World) (hr : Rd w a (L.map (Value.int .u8))) (hs : Rd w b (M.map (Value.int .u8))) :
    Calls Try.prog 29 #[.slice a L.length c, .slice b M.length d] w fun e w' => e = .returned (.bool (decide (L = M))) ∧ w = w' := by
  have h1 := run_convert_rd (P := Try.prog) w 22 5 9 Try.underlying22 Try.underlying5 Try.underlying9 a c L hr
  have h2 := run_convert_rd (P := Try.prog) w 22 5 9 Try.underlying22 Try.underlying5 Try.underlying9 b d M hs
  go_enter Try.func29, Try.ntmps29
  go_wp2
  go_ret
  refine ⟨ret_bool ?_, rfl⟩
  have h := strOfNums_toList_iff L M hL hM
  by_cases q : L = M
  · simp [q]
  · rw [decide_eq_false q]
    simp [h, q]

theorem bclone_any (a : Option Addr) (c : Nat) (L : List Int) (hlen : L.length ≤ 1000000) (w : World) (hr : Rd w a (L.map (Value.int .u8))) (hc : a = none → c = 0) :
    Calls Try.prog 28 #[.slice a L.length c] w fun e w' => ∃ v, e = .returned v ∧ w'.ownsRow w.heap.size 5 1 v L.length (L.map (Value.int .u8)) ∧ Below w.heap.size w w' := by
  have hnil := fun a n c => Lib.run_eql_slice_nil (P := Try.prog) w 22 5 a n c 0 0 Try.underlying22
  cases a with
  | none =>
    have h0 : L = [] := by
      rcases hr with h | ⟨_, _, h, _⟩
      · simpa using h
      · cases h
    subst h0
    go_enter Try.func28, Try.ntmps28
    go_wp2
    go_ret
    exact ⟨_, rfl, World.ownsRow_nil _ _ _ _, Below.refl _ _⟩
  | some ad =>
    go_enter Try.func28, Try.ntmps28
    go_wp2_with (at_builtin; go_must (refine wpList_app' w (Below.new w (.cells #[] 5)) rfl (.tmp 5) (.tmp 6) 22 rfl 5 (.int .u8 0) 1 1 Try.underlying22 Try.infoU8 rfl (by decide) (.slice (some ⟨w.heap.size, 0, none⟩) 0 0) 0 [] rfl (ownsRow_empty w _ _) (some ad) L.length c (L.map (Value.int .u8)) rfl hc (hr.alloc _) (by simp) (ints_one .u8 _) (by omega) (by decide) ?_); intro v1 w1 hown1 _ hbl1)
    go_ret
    refine ⟨_, rfl, ?_, hbl1⟩
    simpa using hown1
end Go.Proofs.Ytoicahfpnnhgpaa
