/-
  varint.Zig.
-/
import Derived.Test.YtephdnahmgfmeaaProg
import Derived.Test.YtephdnahmgfmeaaLib
import Derived.Test.YtephdnahmgfmeaaVmath
import Derived.Test.YtephdnahmgfmeaaBits
namespace Go.Proofs.Ytephdnahmgfmeaa
open Go.RowKit Go.Vint

theorem vzig_any (n : Int) (h0 : -9223372036854775808 ≤ n) (h1 : n ≤ 9223372036854775807) (w : World) :
    Calls Try.prog 28 #[.int .i64 n] w fun e w' => e = .returned (.int .u64 (zig n)) ∧ w = w' := by
  go_enter Try.func28, Try.ntmps28
  go_wp2
  go_ret
  refine ⟨ret_int ?_, rfl⟩
  unfold zig
  split
  · exact zig_neg n (by omega) h0
  · exact zig_nonneg n (by omega) h1
end Go.Proofs.Ytephdnahmgfmeaa
