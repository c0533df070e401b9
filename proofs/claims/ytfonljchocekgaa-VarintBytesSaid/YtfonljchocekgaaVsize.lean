/-
  varint.Size.
-/
import Derived.Test.YtfonljchocekgaaProg
import Derived.Test.YtfonljchocekgaaLib
import Derived.Test.YtfonljchocekgaaVmath
namespace Go.Proofs.Ytfonljchocekgaa
open Go.RowKit Go.Vint

theorem vsize_any (n : Int) (h0 : 0 ≤ n) (h1 : n ≤ 18446744073709551615) (w : World) :
    Calls Try.prog 8 #[.int .u64 n] w fun e w' => e = .returned (.int .i64 ((vb n).length : Nat)) ∧ w = w' := by
  have hl := vb_len10 n h1
  go_enter Try.func8, Try.ntmps8
  go_wp2
  go_loop [0, 3] (fun v s => ∃ m : Int, ∃ k : Nat, 0 ≤ m ∧ m ≤ 18446744073709551615 ∧ v = .int .u64 m ∧ s = .int .i64 k ∧ k + (vb m).length = 1 + (vb n).length) (fun v _ => (intOf v).toNat)
  case atStart => exact ⟨n, 1, h0, h1, rfl, rfl, rfl⟩
  case round =>
    obtain ⟨m, k, hm0, hm1, rfl, rfl, hk⟩ := hrel
    have hp := vb_pos m
    have hk1 : k ≤ 10 := by omega
    by_cases hlt : m < 128
    · have HK : Hid (k = (vb n).length) := by rw [vb_lo hlt] at hk; simp at hk; show k = _; omega
      clear hk hp
      go_wp2
      go_ret
      exact ⟨ret_int (by rw [← HK.out]), rfl⟩
    · have HK := Lib.hid hk
      clear hk hp
      go_wp2
      go_round
      case rel =>
        refine ⟨m / 128, k + 1, by omega, by omega, rfl, by go_num, ?_⟩
        have := HK.out
        rw [vb_hi hlt, List.length_cons] at this
        omega
      case measure => simp [intOf]; omega
end Go.Proofs.Ytfonljchocekgaa
