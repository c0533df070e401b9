/-
  graticuleref04.Compare, graticulelaw04.Ints of rows that are the same.
-/
import Derived.Test.YtdginfjlelpkmaaLib
import Derived.Test.YtdginfjlelpkmaaIns
import Derived.Test.YtdginfjlelpkmaaProg
set_option linter.unusedVariables false
set_option linter.unusedSimpArgs false
set_option maxRecDepth 100000
namespace Go.Proofs.Ytdginfjlelpkmaa
open Go.RowKit
theorem rsign_zero (w : World) :
    Calls Try.prog 61 #[.int .i64 0] w fun e w' => e = .returned (.int .i64 0) ∧ w' = w := by
  go_enter Try.func61, Try.ntmps61
  go_wp2
  go_ret
  exact ⟨rfl, rfl⟩

set_option maxHeartbeats 3200000 in
theorem rcompare_same (a b : Option Addr) (c d : Nat) (l : List Int) (hl : l.length ≤ 1000000) (w : World) (ha : Rd w a (ins l)) (hb : Rd w b (ins l)) :
    Calls Try.prog 42 #[.slice a l.length c, .slice b l.length d] w fun e w' => e = .returned (.int .i64 0) ∧ ∃ q, w' = w.drewN q := by
  have HS := Lib.hid rsign_zero
  obtain ⟨m, hm⟩ : ∃ m, l.length = m := ⟨_, rfl⟩
  have HM := Lib.hid hm
  rw [hm] at hl ⊢
  clear hm
  have HA := Lib.hid ha
  have HB := Lib.hid hb
  clear ha hb
  go_enter Try.func42, Try.ntmps42
  go_wp2
  go_loopw [5] (fun o wr => ∃ (k : Nat), k ≤ m ∧ o = .int .i64 k ∧ ∃ q, wr = w.drewN q) (fun o _ => m - (intOf o).toNat)
  case atStart => exact ⟨0, by omega, rfl, 0, rfl⟩
  case round =>
    obtain ⟨k, hk, rfl, q, rfl⟩ := hrel
    by_cases hlt : k < m
    · have hlt2 : (k : Int) < (m : Int) := by omega
      have hkl : k < l.length := by rw [HM.out]; exact hlt
      obtain ⟨b1, o1, rfl, hc, -⟩ := HA.out.at (i := k) (v := .int .i64 l[k]!) (by simp [ins, hkl])
      obtain ⟨b2, o2, rfl, hd, -⟩ := HB.out.at (i := k) (v := .int .i64 l[k]!) (by simp [ins, hkl])
      generalize l[k]! = x at *
      go_wp2
      go_quiet (fail)
      go_wp2
      go_quiet (fail)
      go_wp2
      exact ⟨⟨k + 1, by omega, val_int (by omega), _, rfl⟩, by simp [intOf]; omega⟩
    · have hk3 : k = m := by omega
      subst hk3
      go_wp2_with fail
      refine (HS.out _).mono ?_
      rintro e w1 ⟨rfl, rfl⟩
      go_wp2
      go_ret
      exact ⟨rfl, q, rfl⟩

set_option maxHeartbeats 800000 in
theorem ints_same (a b : Option Addr) (c d : Nat) (l : List Int) (hl : l.length ≤ 1000000) (w : World) (ha : Rd w a (ins l)) (hb : Rd w b (ins l)) :
    Calls Try.prog 21 #[.slice a l.length c, .slice b l.length d] w fun e w' => e = .returned (.bool true) ∧ ∃ q, w' = w.drewN q := by
  have h := rcompare_same a b c d l hl w ha hb
  generalize l.length = m at *
  clear ha hb
  go_enter Try.func21, Try.ntmps21
  go_wp2_with fail
  refine h.mono ?_
  rintro e w1 ⟨rfl, q, rfl⟩
  go_wp2
  go_ret
  exact ⟨rfl, q, rfl⟩
end Go.Proofs.Ytdginfjlelpkmaa
