/-
  graticulelaw23.numbers.
-/
import Derived.Test.YtephdnahmgfmeaaProg
import Derived.Test.YtephdnahmgfmeaaLib
namespace Go.Proofs.Ytephdnahmgfmeaa
open Go.RowKit

theorem gsame_any (a b : Option Addr) (c d : Nat) (L M : List Int) (hl : L.length ≤ 140737488355328) (hm : M.length ≤ 140737488355328) (w : World) (hr : Rd w a (L.map (Value.int .u64))) (hs : Rd w b (M.map (Value.int .u64))) :
    Calls Try.prog 18 #[.slice a L.length c, .slice b M.length d] w fun e w' => e = .returned (.bool (decide (L = M))) ∧ ∃ n, w' = w.drewN n := by
  by_cases hlen : L.length = M.length
  · have hne : ((L.length : Int) != (M.length : Int)) = false := by simp [hlen]
    go_enter Try.func18, Try.ntmps18
    have HL := Lib.hid hlen
    clear hlen
    go_wp2
    go_loopw [5] (fun i wr => ∃ k : Nat, k ≤ L.length ∧ i = .int .i64 k ∧ L.take k = M.take k ∧ ∃ n, wr = w.drewN n) (fun i _ => L.length - (intOf i).toNat)
    case atStart => exact ⟨0, Nat.zero_le _, rfl, rfl, 0, rfl⟩
    case round =>
      obtain ⟨k, hk, rfl, heq, n, rfl⟩ := hrel
      have HE := Lib.hid heq
      clear heq
      by_cases hlt : k < L.length
      · have hlt2 : k < M.length := by have := HL.out; omega
        obtain ⟨b1, off1, rfl, hcell1, _⟩ := hr.at (i := k) (v := .int .u64 L[k]) (by simp [hlt])
        obtain ⟨b2, off2, rfl, hcell2, _⟩ := hs.at (i := k) (v := .int .u64 M[k]) (by simp [hlt2])
        by_cases hx : L[k] = M[k]
        · have hb : (L[k] != M[k]) = false := by simp [hx]
          have HX := Lib.hid hx
          clear hx
          go_wp2
          go_quiet (fail)
          go_wp2
          go_roundw
          case rel => exact ⟨k + 1, by omega, by go_num, by rw [List.take_succ_eq_append_getElem hlt, List.take_succ_eq_append_getElem hlt2, HE.out, HX.out], n + nq, by simp⟩
          case measure => simp [intOf]; omega
        · have hb : (L[k] != M[k]) = true := by simpa using hx
          go_wp2
          go_quiet (fail)
          go_wp2
          go_ret
          refine ⟨ret_bool ?_, n + nq, by simp⟩
          symm; apply decide_eq_false; intro h; exact hx (by simp [h])
      · go_wp2
        go_ret
        refine ⟨ret_bool ?_, n, rfl⟩
        symm; apply decide_eq_true
        have := HE.out
        rwa [List.take_of_length_le (by omega), List.take_of_length_le (by have := HL.out; omega)] at this
  · have hne : ((L.length : Int) != (M.length : Int)) = true := by simp; omega
    go_enter Try.func18, Try.ntmps18
    go_wp2
    go_ret
    refine ⟨ret_bool ?_, 0, rfl⟩
    symm; apply decide_eq_false; intro h; rw [h] at hlen; exact hlen rfl
end Go.Proofs.Ytephdnahmgfmeaa
