/-
  The chapter's examples hold: graticulelaw02.known answers true.
-/
import Derived.Test.YtmnekbnhodadcaaScuts
import Derived.Test.YtmnekbnhodadcaaSclass
set_option linter.unusedVariables false
set_option linter.unusedSimpArgs false
set_option maxRecDepth 100000
namespace Go.Proofs.Ytmnekbnhodadcaa
open Go.RowKit

set_option maxHeartbeats 800000 in
theorem sknown_any (w : World) :
    Calls Try.prog 10 #[] w fun e w' => e = .returned (.bool true) ∧ Below w.heap.size w w' := by
  have c1 := sclass_any ⟨0, 0⟩ ⟨4, 4⟩ ⟨0, 4⟩ ⟨4, 0⟩
  have c2 := sclass_any ⟨0, 0⟩ ⟨4, 0⟩ ⟨2, 0⟩ ⟨2, 3⟩
  rw [show clsR ⟨0, 0⟩ ⟨4, 4⟩ ⟨0, 4⟩ ⟨4, 0⟩ = (3, 0) by decide +kernel] at c1
  rw [show clsR ⟨0, 0⟩ ⟨4, 0⟩ ⟨2, 0⟩ ⟨2, 3⟩ = (2, 0) by decide +kernel] at c2
  have c3 := cuts_any ⟨0, 0⟩ ⟨5, 3⟩
  have C1 := Lib.hid c1
  have C2 := Lib.hid c2
  clear c1 c2
  go_enter Try.func10, Try.ntmps10
  go_wp2_with fail
  refine (C1.out _).mono ?_
  rintro e w1 ⟨rfl, hb1⟩
  have hs1 := hb1.size
  go_wp2_with fail
  refine (C2.out _).mono ?_
  rintro e w2 ⟨rfl, hb2⟩
  have hb3 := hb1.trans (hb2.mono hs1)
  clear hb1 hb2 C1 C2 hs1
  have hs3 := hb3.size
  have e0 : (cutsF ⟨0, 0⟩ ⟨5, 3⟩ [2, 4] [1]) = [⟨2, 1⟩, ⟨4, 2⟩] := by decide +kernel
  have c3 := cuts_any ⟨0, 0⟩ ⟨5, 3⟩ (some ⟨w2.heap.size, 0, none⟩) (some ⟨w2.heap.size + 1, 0, none⟩) 2 1 [2, 4] [1] (by decide) _ ((Rd.new w2 [.int .i64 2, .int .i64 4] 3).alloc (.cells #[.int .i64 1] 3)) (Rd.lit _ _ [.int .i64 1] 3 (by simp))
  rw [e0] at c3
  have C3 := Lib.hid c3
  clear c3 e0
  go_wp2_with fail
  refine C3.out.mono ?_
  rintro e w4 ⟨v, rfl, hown, hb4⟩
  have hb5 : Below w.heap.size w w4 := ((hb3.alloc hs3 _).alloc (by simp; omega) _).trans (hb4.mono (by simp; omega))
  obtain ⟨p, c, rfl, -, -, -, hr, -⟩ := hown.form
  obtain ⟨b, off, rfl, q0, hbb⟩ := hr.at (i := 0) (v := .int .i64 2) rfl
  obtain ⟨_, _, e1, q1, -⟩ := hr.at (i := 1) (v := .int .i64 1) rfl
  obtain ⟨_, _, e2, q2, -⟩ := hr.at (i := 2) (v := .int .i64 4) rfl
  obtain ⟨_, _, e3, q3, -⟩ := hr.at (i := 3) (v := .int .i64 2) rfl
  cases e1; cases e2; cases e3
  rw [Nat.add_zero] at q0
  clear hr hown hb4 hb3
  go_wp2
  go_ret
  exact ⟨rfl, hb5⟩
end Go.Proofs.Ytmnekbnhodadcaa
