/-
  graticuleref07.Zig.
-/
import Derived.Test.YtephdnahmgfmeaaProg
import Derived.Test.YtephdnahmgfmeaaLib
import Derived.Test.YtephdnahmgfmeaaVmath
import Derived.Test.YtephdnahmgfmeaaBits
namespace Go.Proofs.Ytephdnahmgfmeaa
open Go.RowKit Go.Vint

theorem rzig_any (n : Int) (h0 : -9223372036854775808 ≤ n) (h1 : n ≤ 9223372036854775807) (w : World) :
    Calls Try.prog 31 #[.int .i64 n] w fun e w' => e = .returned (.int .u64 (zig n)) ∧ w = w' := by
  by_cases hn : n < 0
  · have HZ : Hid (zig n = -2 * n - 1) := by show _ = _; unfold zig; rw [if_pos hn]
    go_enter Try.func31, Try.ntmps31
    go_wp2
    go_ret
    exact ⟨ret_int (by rw [HZ.out]; omega), rfl⟩
  · have HZ : Hid (zig n = 2 * n) := by show _ = _; unfold zig; rw [if_neg hn]
    go_enter Try.func31, Try.ntmps31
    go_wp2
    go_ret
    exact ⟨ret_int (by rw [HZ.out]), rfl⟩
end Go.Proofs.Ytephdnahmgfmeaa
