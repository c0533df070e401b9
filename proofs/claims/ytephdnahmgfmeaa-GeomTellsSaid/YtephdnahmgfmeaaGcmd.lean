/-
  geom's reader: command, with the two functions that it is given.
-/
import Derived.Test.YtephdnahmgfmeaaGtake
set_option linter.unusedVariables false
set_option linter.unusedSimpArgs false
set_option maxRecDepth 100000
namespace Go.Proofs.Ytephdnahmgfmeaa
open Go.RowKit Go.Vint

theorem only_any (n : Int) (w : World) :
    Calls Try.prog 43 #[.int .u64 n] w fun e w' => e = .returned (.func (.func 52) #[] #[.pointer (some ⟨w.heap.size, 0, none⟩)]) ∧ w' = w.alloc (.cells #[.int .u64 n] 44) := by
  go_enter Try.func43, Try.ntmps43
  go_wp2
  go_ret
  exact ⟨rfl, rfl⟩

theorem only1_any (n : Int) (C : Nat) (w : World) (hc : Cell1 w C (.int .u64 n)) :
    Calls Try.prog 52 #[.int .u64 n, .pointer (some ⟨C, 0, none⟩)] w fun e w' => e = .returned (.bool true) ∧ w = w' := by
  have c0 := hc.cell
  go_enter Try.func52, Try.ntmps52
  go_wp2
  go_ret
  exact ⟨rfl, rfl⟩

theorem part1_any (m kind : Int) (C : Nat) (w : World) (hm : kind - 1 ≤ m ∧ m ≤ 1000000) (hk : 1 ≤ kind) (hc : Cell1 w C (.int .i64 kind)) :
    Calls Try.prog 45 #[.int .u64 (m * 8 + 2), .pointer (some ⟨C, 0, none⟩)] w fun e w' => e = .returned (.bool true) ∧ w = w' := by
  have c0 := hc.cell
  have h7 : bits BinOp.and IntKind.u64 (m * 8 + 2) 7 = 2 := by rw [u64_and7 _ (by omega) (by omega)]; omega
  have h3 : (m * 8 + 2) / 8 = m := by omega
  have hd : decide (kind - 1 ≤ m) = true := decide_eq_true hm.1
  go_enter Try.func45, Try.ntmps45
  go_wp2
  go_ret
  exact ⟨rfl, rfl⟩

set_option maxHeartbeats 800000 in
theorem command_only (w0 w : World) (B b off c : Nat) (L : List Int) (k : Nat) (p : Pt) (C : Nat) (v : Int) (hv : L[k]? = some v) (hv1 : v ≤ 4294967295) (hL : L.length ≤ 1000000) (hc : L.length ≤ c) (hC : Cell1 w C (.int .u64 v)) (hCB : C ≠ B) (h : RdS w0 w B b off c L k p) :
    Calls Try.prog 42 #[.pointer (some ⟨B, 0, none⟩), .func (.func 52) #[] #[.pointer (some ⟨C, 0, none⟩)]] w fun e w' => e = .returned (.tuple #[.int .u64 v, .int .i64 0]) ∧ RdS w0 w' B b off c L (k + 1) p ∧ w.grownBy w' (some B) := by
  have ht := take_ok w0 w B b off c L k p v hv hv1 hL hc h
  have HT := Lib.hid ht
  clear ht hv hL hc h
  go_enter Try.func42, Try.ntmps42
  go_wp2_with fail
  refine HT.out.mono ?_
  rintro e w1 ⟨rfl, h1, hg1⟩
  have hC1 := hC.grown hg1 (by simpa using hCB)
  clear HT
  go_wp2_with fail
  refine (only1_any v C w1 hC1).mono ?_
  rintro e w2 ⟨rfl, rfl⟩
  go_wp2
  refine bodyPost_ret (v := .tuple #[.int .u64 v, .int .i64 0]) (by simp [results, Try.results42, go_sem]) rfl ⟨rfl, h1, hg1⟩

set_option maxHeartbeats 800000 in
theorem command_part (w0 w : World) (B b off c : Nat) (L : List Int) (k : Nat) (p : Pt) (C : Nat) (m kind : Int) (hv : L[k]? = some (m * 8 + 2)) (hm : kind - 1 ≤ m ∧ m ≤ 1000000) (hk : 1 ≤ kind) (hL : L.length ≤ 1000000) (hc : L.length ≤ c) (hC : Cell1 w C (.int .i64 kind)) (hCB : C ≠ B) (h : RdS w0 w B b off c L k p) :
    Calls Try.prog 42 #[.pointer (some ⟨B, 0, none⟩), .func (.func 45) #[] #[.pointer (some ⟨C, 0, none⟩)]] w fun e w' => e = .returned (.tuple #[.int .u64 (m * 8 + 2), .int .i64 0]) ∧ RdS w0 w' B b off c L (k + 1) p ∧ w.grownBy w' (some B) := by
  have ht := take_ok w0 w B b off c L k p _ hv (by omega) hL hc h
  have hp := fun W h => part1_any m kind C W hm hk h
  have HT := Lib.hid ht
  have HP := Lib.hid hp
  clear ht hp hv hL hc h
  generalize m * 8 + 2 = v at *
  go_enter Try.func42, Try.ntmps42
  go_wp2_with fail
  refine HT.out.mono ?_
  rintro e w1 ⟨rfl, h1, hg1⟩
  have hC1 := hC.grown hg1 (by simpa using hCB)
  clear HT
  go_wp2_with fail
  refine (HP.out w1 hC1).mono ?_
  rintro e w2 ⟨rfl, rfl⟩
  go_wp2
  refine bodyPost_ret (v := .tuple #[.int .u64 v, .int .i64 0]) (by simp [results, Try.results42, go_sem]) rfl ⟨rfl, h1, hg1⟩
end Go.Proofs.Ytephdnahmgfmeaa
