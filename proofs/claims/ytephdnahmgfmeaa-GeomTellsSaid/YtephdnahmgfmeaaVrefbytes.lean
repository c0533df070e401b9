/-
  graticuleref07.Bytes.
-/
import Derived.Test.YtephdnahmgfmeaaVbytes
namespace Go.Proofs.Ytephdnahmgfmeaa
open Go.RowKit Go.Vint

theorem rbytes_any : ∀ (k : Nat) (n : Int), n.toNat ≤ k → 0 ≤ n → n ≤ 18446744073709551615 → ∀ (w : World),
    Calls Try.prog 15 #[.int .u64 n] w fun e w' => ∃ v, e = .returned v ∧ w'.ownsRow w.heap.size 5 1 v (vb n).length ((vb n).map (Value.int .u8)) ∧ Below w.heap.size w w' := by
  intro k
  induction k with
  | zero =>
    intro n hk h0 h1 w
    have hlt : n < 128 := by omega
    have HV : Hid (vb n = [n]) := vb_lo hlt
    go_enter Try.func15, Try.ntmps15
    go_wp2
    go_ret
    rw [HV.out]
    exact ⟨_, rfl, ownsRow_lit w _ 1 1 [.int .u8 n] rfl (by decide), Below.new w _⟩
  | succ k ih =>
    intro n hk h0 h1 w
    by_cases hlt : n < 128
    · have HV : Hid (vb n = [n]) := vb_lo hlt
      clear ih
      go_enter Try.func15, Try.ntmps15
      go_wp2
      go_ret
      rw [HV.out]
      exact ⟨_, rfl, ownsRow_lit w _ 1 1 [.int .u8 n] rfl (by decide), Below.new w _⟩
    · have HV : Hid (vb n = (128 + n % 128) :: vb (n / 128)) := vb_hi hlt
      have hc := ih (n / 128) (by omega) (by omega) (by omega) (w.alloc (.cells #[.int .u8 (128 + n % 128)] 5))
      have HC := Lib.hid hc
      have hl := vb_len10 (n / 128) (by omega)
      clear ih hc
      go_enter Try.func15, Try.ntmps15
      go_wp2_with fail
      refine HC.out.mono ?_
      rintro e w1 ⟨v, rfl, hown, hb⟩
      obtain ⟨a, c, rfl, -, -, hz, hr, -⟩ := hown.form
      have ho := (ownsRow_lit w 5 1 1 [.int .u8 (128 + n % 128)] rfl (by decide)).below hb
      have hb1 : Below w.heap.size w w1 := (Below.new w _).trans (hb.mono (by simp))
      clear hown hb
      go_wp2_with (at_builtin; go_must (refine wpList_app' w hb1 rfl (.tmp 12) (.tmp 15) 38 rfl 5 (.int .u8 0) 1 1 Try.underlying38 Try.infoU8 rfl (by decide) _ 1 [.int .u8 (128 + n % 128)] rfl ho a (vb (n / 128)).length c ((vb (n / 128)).map (Value.int .u8)) rfl hz hr (by simp) (ints_one .u8 _) (by omega) (by decide) ?_); intro v2 w2 hown2 _ hb2)
      clear hb1 ho hr
      go_wp2
      go_ret
      refine ⟨_, rfl, ?_, hb2⟩
      rw [HV.out]
      rw [Nat.add_comm 1] at hown2
      simpa using hown2
end Go.Proofs.Ytephdnahmgfmeaa
