/-
  varint.Bytes.
-/
import Derived.Test.YtephdnahmgfmeaaProg
import Derived.Test.YtephdnahmgfmeaaLib
import Derived.Test.YtephdnahmgfmeaaInfo
import Derived.Test.YtephdnahmgfmeaaVmath
import Derived.Test.YtephdnahmgfmeaaBits
namespace Go.Proofs.Ytephdnahmgfmeaa
open Go.RowKit Go.Vint

theorem vbytes_any (a : Option Addr) (c : Nat) (L : List Int) (hb : ∀ x ∈ L, 0 ≤ x ∧ x ≤ 18446744073709551615) (hlen : L.length ≤ 1000000) (w : World) (hr : Rd w a (L.map (Value.int .u64))) :
    Calls Try.prog 29 #[.slice a L.length c] w fun e w' => ∃ v, e = .returned v ∧ w'.ownsRow w.heap.size 5 1 v (vbs L).length ((vbs L).map (Value.int .u8)) ∧ Below w.heap.size w w' := by
  go_enter Try.func29, Try.ntmps29
  go_wp2
  go_loopw [3, 8] (fun o i wr => ∃ k : Nat, k ≤ L.length ∧ i = .int .i64 k ∧ wr.ownsRow w.heap.size 5 1 o (vbs (L.take k)).length ((vbs (L.take k)).map (Value.int .u8)) ∧ Below w.heap.size w wr) (fun _ i _ => L.length - (intOf i).toNat)
  case atStart => exact ⟨0, Nat.zero_le _, rfl, World.ownsRow_nil _ _ _ _, Below.refl _ _⟩
  case round =>
    obtain ⟨k, hk, rfl, hown, hbl⟩ := hrel
    by_cases hlt : k < L.length
    · obtain ⟨b, off, rfl, hcell, _⟩ := (hr.keep hbl).at (i := k) (v := .int .u64 L[k]) (by simp [hlt])
      have hx := hb L[k] (by simp)
      have hA : (vbs (L.take k)).length ≤ 10 * k := by
        have := vbs_len (L.take k) (fun x hx => (hb x (List.mem_of_mem_take hx)).2)
        simp at this; omega
      have HT : Hid (vbs (L.take (k + 1)) = vbs (L.take k) ++ vb L[k]) := by rw [List.take_succ_eq_append_getElem hlt, vbs_snoc]; rfl
      have hlb := vb_len10 L[k] hx.2
      go_wp2
      refine wp_goto_head 0 (fun n a' w' => ∃ (m : Int) (B : List Int) (o : Value) (u9 u10 u11 u12 u13 u14 u15 u16 u17 u18 u19 u20 u21 u22 u23 u24 u25 u26 u27 : Value),
        (n = m.toNat ∧ 0 ≤ m ∧ m ≤ 18446744073709551615 ∧ B ++ vb m = vbs (L.take k) ++ vb L[k] ∧ w'.ownsRow w.heap.size 5 1 o B.length (B.map (Value.int .u8)) ∧ Below w.heap.size w w') ∧
        a' = { tmps := #[.slice (some ⟨b, off, none⟩) L.length c, undef, .slice none 0 0, o, undef, .int .u64 m, .slice (some ⟨b, off, none⟩) L.length c, .int .i64 (L.length : Nat), .int .i64 (k : Nat), u9, u10, u11, u12, u13, u14, u15, u16, u17, u18, u19, u20, u21, u22, u23, u24, u25, u26, u27, undef], defers := [] })
        (L[k]).toNat ⟨L[k], vbs (L.take k), _, _, _, _, _, _, _, _, _, _, _, _, _, _, _, _, _, _, _, _, ⟨rfl, hx.1, hx.2, rfl, hown, hbl⟩, rfl⟩ ?_
      rintro n a' w' ⟨m, B, o, u9, u10, u11, u12, u13, u14, u15, u16, u17, u18, u19, u20, u21, u22, u23, u24, u25, u26, u27, ⟨hn, hm0, hm1, hB, hown', hbl'⟩, rfl⟩ J hJ
      have HB := Lib.hid hB
      have HN := Lib.hid hn
      have HJ := Lib.hid hJ
      clear hB hn hJ
      have hs := hbl'.size
      by_cases hm : m < 128
      · have hL : B.length ≤ 10 * k + 10 := by
          have := congrArg List.length HB.out
          simp at this; omega
        go_wp2_with (at_builtin; go_must (refine wpList_appLit rfl _ _ 38 rfl w.heap.size 5 (.int .u8 0) 1 1 Try.underlying38 Try.infoU8 rfl (by decide) (by decide) o _ _ rfl hown' 1 1 [.int .u8 m] _ rfl rfl (ints_one .u8 [m]) (by omega) hs ?_); intro v1 w1 hown1 hgrow1)
        rw [Exit.jump_exit]
        have hbl1 := hbl'.grown hgrow1 hs (fun k hk => (hown'.lt k hk).1)
        have HE : Hid ((vbs (L.take (k + 1))) = B ++ [m]) := by
          rw [HT.out, ← HB.out, vb_lo hm]; rfl
        clear hgrow1 HJ hown' hbl' hbl hown hcell hr
        go_wp2
        go_roundw
        case rel => exact ⟨k + 1, by omega, by go_num, by rw [HE.out]; simpa using hown1, hbl1⟩
        case measure => simp [intOf]; omega
      · have hL : B.length ≤ 10 * k + 10 := by
          have := congrArg List.length HB.out
          simp at this; omega
        go_wp2_with (at_builtin; go_must (refine wpList_appLit rfl _ _ 38 rfl w.heap.size 5 (.int .u8 0) 1 1 Try.underlying38 Try.infoU8 rfl (by decide) (by decide) o _ _ rfl hown' 1 1 [.int .u8 (bits BinOp.or IntKind.u8 (m % 256) 128)] _ rfl rfl (ints_one .u8 [_]) (by omega) hs ?_); intro v1 w1 hown1 hgrow1)
        have hbl1 := hbl'.grown hgrow1 hs (fun k hk => (hown'.lt k hk).1)
        go_step3
        refine Exit.jump_goto (HJ.out (m / 128).toNat _ _ (by rw [HN.out]; omega) ⟨m / 128, B ++ [128 + m % 128], v1, _, _, _, _, _, _, _, _, _, _, _, _, _, _, _, _, _, _, _, ⟨rfl, by omega, by omega, ?_, ?_, hbl1⟩, rfl⟩)
        · rw [← HB.out, vb_hi (n := m) (by omega)]; simp
        · rw [u8_or128' _ (by omega) (by omega)] at hown1
          have e : m % 256 % 128 = m % 128 := by omega
          rw [e] at hown1
          simpa using hown1
    · obtain rfl : k = L.length := by omega
      rw [List.take_length] at hown
      go_wp2
      go_ret
      exact ⟨_, rfl, hown, hbl⟩
end Go.Proofs.Ytephdnahmgfmeaa
