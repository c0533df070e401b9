/-
  graticuleref07.Bytes, Zig, Zag; varint.Zag.
-/
import Derived.Test.YtfonljchocekgaaVbytes
namespace Go.Proofs.Ytfonljchocekgaa
open Go.RowKit Go.Vint

theorem rbytes_any : ∀ (k : Nat) (n : Int), n.toNat ≤ k → 0 ≤ n → n ≤ 18446744073709551615 → ∀ (w : World),
    Calls Try.prog 15 #[.int .u64 n] w fun e w' => ∃ v, e = .returned v ∧ w'.ownsRow w.heap.size 5 1 v (vb n).length ((vb n).map (Value.int .u8)) ∧ Below w.heap.size w w' := by
  intro k
  induction k with
  | zero =>
    intro n hk h0 h1 w
    have hlt : n < 128 := by omega
    have HV : Hid (vb n = [n]) := vb_lo hlt
    go_enter Try.func15, Try.ntmps15
    go_wp2
    go_ret
    rw [HV.out]
    exact ⟨_, rfl, ownsRow_lit w _ 1 1 [.int .u8 n] rfl (by decide), Below.new w _⟩
  | succ k ih =>
    intro n hk h0 h1 w
    by_cases hlt : n < 128
    · have HV : Hid (vb n = [n]) := vb_lo hlt
      clear ih
      go_enter Try.func15, Try.ntmps15
      go_wp2
      go_ret
      rw [HV.out]
      exact ⟨_, rfl, ownsRow_lit w _ 1 1 [.int .u8 n] rfl (by decide), Below.new w _⟩
    · have HV : Hid (vb n = (128 + n % 128) :: vb (n / 128)) := vb_hi hlt
      have hc := ih (n / 128) (by omega) (by omega) (by omega) (w.alloc (.cells #[.int .u8 (128 + n % 128)] 5))
      have HC := Lib.hid hc
      have hl := vb_len10 (n / 128) (by omega)
      clear ih hc
      go_enter Try.func15, Try.ntmps15
      go_wp2_with fail
      refine HC.out.mono ?_
      rintro e w1 ⟨v, rfl, hown, hb⟩
      obtain ⟨a, c, rfl, -, -, hz, hr, -⟩ := hown.form
      have ho := (ownsRow_lit w 5 1 1 [.int .u8 (128 + n % 128)] rfl (by decide)).below hb
      have hb1 : Below w.heap.size w w1 := (Below.new w _).trans (hb.mono (by simp))
      clear hown hb
      go_wp2_with (at_builtin; go_must (refine wpList_app' w hb1 rfl (.tmp 12) (.tmp 15) 24 rfl 5 (.int .u8 0) 1 1 Try.underlying24 Try.infoU8 rfl (by decide) _ 1 [.int .u8 (128 + n % 128)] rfl ho a (vb (n / 128)).length c ((vb (n / 128)).map (Value.int .u8)) rfl hz hr (by simp) (ints_one .u8 _) (by omega) (by decide) ?_); intro v2 w2 hown2 _ hb2)
      clear hb1 ho hr
      go_wp2
      go_ret
      refine ⟨_, rfl, ?_, hb2⟩
      rw [HV.out]
      rw [Nat.add_comm 1] at hown2
      simpa using hown2

theorem rzig_any (n : Int) (h0 : -9223372036854775808 ≤ n) (h1 : n ≤ 9223372036854775807) (w : World) :
    Calls Try.prog 17 #[.int .i64 n] w fun e w' => e = .returned (.int .u64 (zig n)) ∧ w = w' := by
  by_cases hn : n < 0
  · have HZ : Hid (zig n = -2 * n - 1) := by show _ = _; unfold zig; rw [if_pos hn]
    go_enter Try.func17, Try.ntmps17
    go_wp2
    go_ret
    exact ⟨ret_int (by rw [HZ.out]; omega), rfl⟩
  · have HZ : Hid (zig n = 2 * n) := by show _ = _; unfold zig; rw [if_neg hn]
    go_enter Try.func17, Try.ntmps17
    go_wp2
    go_ret
    exact ⟨ret_int (by rw [HZ.out]), rfl⟩

theorem vzag_any (u : Int) (h0 : 0 ≤ u) (h1 : u ≤ 18446744073709551615) (w : World) :
    Calls Try.prog 18 #[.int .u64 u] w fun e w' => e = .returned (.int .i64 (zag u)) ∧ w = w' := by
  have ha : bits BinOp.and IntKind.u64 u 1 = u % 2 := u64_and1 u h0 (by omega)
  have HB := Lib.hid (zag_bits u h0 h1)
  go_enter Try.func18, Try.ntmps18
  go_wp2
  go_ret
  exact ⟨ret_int HB.out, rfl⟩

theorem rzag_any (u : Int) (h0 : 0 ≤ u) (h1 : u ≤ 18446744073709551615) (w : World) :
    Calls Try.prog 19 #[.int .u64 u] w fun e w' => e = .returned (.int .i64 (zag u)) ∧ w = w' := by
  by_cases hu : u % 2 = 1
  · have HZ : Hid (zag u = -(u / 2) - 1) := by show _ = _; unfold zag; rw [if_pos hu]
    have hb : (u % 2 == 1) = true := by simp [hu]
    have HU := Lib.hid hu
    clear hu
    go_enter Try.func19, Try.ntmps19
    go_wp2
    go_ret
    exact ⟨ret_int HZ.out.symm, rfl⟩
  · have HZ : Hid (zag u = u / 2) := by show _ = _; unfold zag; rw [if_neg hu]
    have hb : (u % 2 == 1) = false := by simp [hu]
    go_enter Try.func19, Try.ntmps19
    go_wp2
    go_ret
    exact ⟨ret_int HZ.out.symm, rfl⟩
end Go.Proofs.Ytfonljchocekgaa
