/-
  varint.Zag.
-/
import Derived.Test.YtephdnahmgfmeaaProg
import Derived.Test.YtephdnahmgfmeaaLib
import Derived.Test.YtephdnahmgfmeaaVmath
import Derived.Test.YtephdnahmgfmeaaBits
namespace Go.Proofs.Ytephdnahmgfmeaa
open Go.RowKit Go.Vint

theorem vzag_any (u : Int) (h0 : 0 ≤ u) (h1 : u ≤ 18446744073709551615) (w : World) :
    Calls Try.prog 54 #[.int .u64 u] w fun e w' => e = .returned (.int .i64 (zag u)) ∧ w = w' := by
  have ha : bits BinOp.and IntKind.u64 u 1 = u % 2 := u64_and1 u h0 (by omega)
  have HB := Lib.hid (zag_bits u h0 h1)
  go_enter Try.func54, Try.ntmps54
  go_wp2
  go_ret
  exact ⟨ret_int HB.out, rfl⟩
end Go.Proofs.Ytephdnahmgfmeaa
