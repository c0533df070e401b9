/-
  proto.Skip.
-/
import Derived.Test.YtoicahfpnnhgpaaPread
namespace Go.Proofs.Ytoicahfpnnhgpaa
open Go.RowKit Go.Vint Go.Proto

theorem pskip_any (a : Option Addr) (c : Nat) (L : List Int) (hb : ∀ x ∈ L, 0 ≤ x ∧ x ≤ 255) (hlen : L.length ≤ 1073741824) (hlc : L.length ≤ c) (hcm : c ≤ maxLen) (w : World) (hr : Rd w a (L.map (Value.int .u8))) :
    Calls Try.prog 9 #[.slice a L.length c] w fun e w' => e = .returned (.tuple #[.int .i64 (prd L).2.1, .int .i64 (prd L).2.2]) ∧ Below w.heap.size w w' := by
  go_enter Try.func9, Try.ntmps9
  go_wp2_with fail
  refine (pread_any a c L hb hlen hlc hcm w hr).mono ?_
  rintro e w1 ⟨⟨ao, co, rfl, -, -, -, -, -⟩, hb1⟩
  go_wp2
  refine bodyPost_ret (v := .tuple #[.int .i64 (prd L).2.1, .int .i64 (prd L).2.2]) (by simp [results, Try.results9, go_sem]) rfl ⟨rfl, hb1.alloc hb1.size _⟩
end Go.Proofs.Ytoicahfpnnhgpaa
