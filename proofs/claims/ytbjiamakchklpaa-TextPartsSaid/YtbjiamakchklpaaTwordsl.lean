/-
  TextWords: the walk.
-/
import Derived.Test.YtbjiamakchklpaaTknown
import Derived.Test.YtbjiamakchklpaaTcutl
import Derived.Test.YtbjiamakchklpaaTrwords
set_option linter.unusedVariables false
set_option linter.unusedSimpArgs false
set_option maxRecDepth 100000
namespace Go
open Go.RowKit
theorem wcells_at (l : List (List UInt8 × Bool)) (k : Nat) (x : List UInt8 × Bool) (h : l[k]? = some x) : (wcells l)[k * 2]? = some (.string ⟨x.1.toArray⟩) ∧ (wcells l)[k * 2 + 1]? = some (.bool x.2) := by
  induction l generalizing k with
  | nil => simp at h
  | cons y l ih =>
    cases k with
    | zero => simp at h; subst h; exact ⟨rfl, rfl⟩
    | succ k =>
      have := ih k (by simpa using h)
      simp only [wcells, List.flatMap_cons, wcell] at this ⊢
      rw [show (k + 1) * 2 = k * 2 + 1 + 1 by omega, show k * 2 + 1 + 1 + 1 = (k * 2 + 1) + 1 + 1 by omega]
      simp only [List.cons_append, List.nil_append, List.getElem?_cons_succ]
      exact this
end Go
namespace Go.Proofs.Ytbjiamakchklpaa
open Go.RowKit

set_option maxHeartbeats 6400000 in
theorem words_law {w : World} (s : ByteArray) (hs : s.size ≤ maxLen) :
    Calls Try.prog 4 #[.string s] w fun e w' => e = .returned (.bool true) ∧ Below w.heap.size w w' := by
  have HC := Lib.hid (cutl_any s hs)
  have hcs : (s.extract 0 (min s.size 200)).size ≤ 200 := by rw [ByteArray.size_extract]; omega
  generalize s.extract 0 (min s.size 200) = C at *
  have HW := Lib.hid (words_any C (by omega))
  have HRW := Lib.hid (rwords_any C (by omega))
  generalize wordsT C = W at *
  obtain ⟨W1, W2, W3⟩ := W
  dsimp only at *
  go_enter Try.func4, Try.ntmps4
  go_wp2_with fail
  refine (HC.out _).mono ?_
  rintro e w1 ⟨rfl, rfl⟩
  clear HC
  go_wp2_with fail
  refine (HW.out _).mono ?_
  rintro e w2 ⟨v2, rfl, ho2, hb2⟩
  obtain ⟨a, c, rfl, hc1, hc2, -, hr, -⟩ := ho2.form
  go_wp2_with fail
  refine (HRW.out _).mono ?_
  rintro e w3 ⟨v3, rfl, ho3, hb3⟩
  obtain ⟨a3, c3, rfl, hc31, hc32, -, hr3, -⟩ := ho3.form
  have hr := hr.keep hb3
  have hbb := hb2.trans (hb3.mono hb2.size)
  clear HW HRW ho2 ho3 hb2 hb3
  go_wp2
  go_loopw [9] (fun i wr => ∃ k : Nat, i = .int .i64 (k : Int) ∧ k ≤ W1.length ∧ Rd wr a (wcells W1) ∧ Rd wr a3 (wcells W1) ∧ Below w1.heap.size w1 wr) (fun i _ => W1.length - (intOf i).toNat)
  case atStart => exact ⟨0, rfl, by omega, hr, hr3, hbb⟩
  case round =>
    clear hr hr3 hbb
    obtain ⟨k, rfl, hk, hr, hr3, hbb⟩ := hrel
    by_cases hkl : k < W1.length
    · have hki : (k : Int) < (W1.length : Int) := by omega
      obtain ⟨x, hx⟩ : ∃ x, W1[k]? = some x := ⟨_, List.getElem?_eq_getElem hkl⟩
      obtain ⟨h1, h2⟩ := wcells_at W1 k x hx
      obtain ⟨b, off, rfl, c0, -⟩ := hr.at h1
      obtain ⟨b', off', he, c1, -⟩ := hr.at h2
      cases he
      obtain ⟨b3, off3, rfl, d0, -⟩ := hr3.at h1
      obtain ⟨b', off', he, d1, -⟩ := hr3.at h2
      cases he
      obtain ⟨X1, X2⟩ := x
      dsimp only at *
      have c1 : wr.cell? ⟨b, off + k * 2 + 1, none⟩ = some (.bool X2) := c1
      have d1 : wr.cell? ⟨b3, off3 + k * 2 + 1, none⟩ = some (.bool X2) := d1
      have hkm : k + 1 ≤ 9223372036854775807 := by unfold maxLen at hc2; omega
      clear h1 h2 hx
      go_wp2
      go_quiet (fail)
      go_wp2
      exact ⟨⟨k + 1, val_int (by omega), by omega, hr.drewN nq, hr3.drewN nq, below_drewN hbb nq⟩, by simp [intOf]; omega⟩
    · have hki : ¬ (k : Int) < (W1.length : Int) := by omega
      clear hr hr3
      go_wp2_with fail
      refine (tknown_any _).mono ?_
      rintro e w9 ⟨rfl, hb9⟩
      have hbb := hbb.trans (hb9.mono hbb.size)
      go_wp2
      go_ret
      exact ⟨rfl, hbb⟩
end Go.Proofs.Ytbjiamakchklpaa
