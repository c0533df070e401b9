/-
  exact.within, Right, Cross.
-/
import Derived.Test.YtdginfjlelpkmaaProg
import Derived.Test.YtdginfjlelpkmaaPts
set_option linter.unusedVariables false
set_option linter.unusedSimpArgs false
namespace Go.Proofs.Ytdginfjlelpkmaa
open Go.RowKit

theorem xwithin_any (n lo hi : Int) (w : World) :
    Calls Try.prog 66 #[.int .i64 n, .int .i64 lo, .int .i64 hi] w fun e w' => e = .returned (.bool (decide (lo ≤ n ∧ n ≤ hi))) ∧ w = w' := by
  go_enter Try.func66, Try.ntmps66
  by_cases h1 : lo ≤ n
  · go_wp2
    go_ret
    refine ⟨ret_bool ?_, rfl⟩
    simp [h1]
  · go_wp2
    go_ret
    refine ⟨ret_bool ?_, rfl⟩
    symm; rw [Bool.and_eq_false_iff]
    exact .inl (decide_eq_false (by omega))

set_option maxHeartbeats 800000 in
theorem xright_any (a : Option Addr) (c : Nat) (l : List Pt) (hl : l.length ≤ maxLen) (w : World) (hr : Rd w a (pts l)) :
    Calls Try.prog 51 #[.slice a l.length c] w fun e w' => e = .returned (.bool (l.all okPt)) ∧ Below w.heap.size w w' := by
  go_enter Try.func51, Try.ntmps51
  unfold maxLen at hl
  go_wp2
  go_loopw [7] (fun i wr => ∃ k : Nat, k ≤ l.length ∧ i = .int .i64 k ∧ (l.take k).all okPt = true ∧ Below w.heap.size w wr) (fun i _ => l.length - (intOf i).toNat)
  case atStart => exact ⟨0, Nat.zero_le _, rfl, rfl, Below.refl _ _⟩
  case round =>
    obtain ⟨k, hk, rfl, hall, hbl⟩ := hrel
    have HA := Lib.hid hall
    clear hall
    by_cases hlt : k < l.length
    · obtain ⟨b, off, rfl, hb, c0, c1⟩ := (hr.keep hbl).pt k hlt
      have HST : Hid ((l.take (k + 1)).all okPt = okPt l[k]) := by
        refine Lib.hid ?_
        rw [List.take_succ_eq_append_getElem hlt, List.all_append, HA.out]
        simp
      have HNO : Hid (okPt l[k] = false → l.all okPt = false) := by
        refine Lib.hid fun h => ?_
        rw [List.all_eq_false]
        exact ⟨l[k], List.getElem_mem _, by simp [h]⟩
      generalize l[k] = p at *
      obtain ⟨x, y⟩ := p
      dsimp only at c0 c1
      have hs := hbl.size
      by_cases hx : -16777216 ≤ x ∧ x ≤ 16777216
      · by_cases hy : -16777216 ≤ y ∧ y ≤ 16777216
        · have HX := Lib.hid hx
          have HY := Lib.hid hy
          clear hx hy
          go_wp2_with fail
          refine (xwithin_any x (-16777216) 16777216 _).mono ?_
          rintro e w1 ⟨rfl, rfl⟩
          rw [decide_eq_true HX.out]
          go_wp2_with fail
          refine (xwithin_any y (-16777216) 16777216 _).mono ?_
          rintro e w1 ⟨rfl, rfl⟩
          rw [decide_eq_true HY.out]
          go_wp2
          go_roundw
          case rel =>
            refine ⟨k + 1, by omega, by go_num, ?_, hbl.alloc hs _⟩
            rw [HST.out, okPt_iff]
            exact ⟨HX.out, HY.out⟩
          case measure => simp [intOf]; omega
        · have HX := Lib.hid hx
          have HY := Lib.hid hy
          clear hx hy
          go_wp2_with fail
          refine (xwithin_any x (-16777216) 16777216 _).mono ?_
          rintro e w1 ⟨rfl, rfl⟩
          rw [decide_eq_true HX.out]
          go_wp2_with fail
          refine (xwithin_any y (-16777216) 16777216 _).mono ?_
          rintro e w1 ⟨rfl, rfl⟩
          rw [decide_eq_false HY.out]
          go_wp2
          go_ret
          refine ⟨ret_bool (HNO.out ?_).symm, hbl.alloc hs _⟩
          simp [okPt, HY.out]
      · have HX := Lib.hid hx
        clear hx
        go_wp2_with fail
        refine (xwithin_any x (-16777216) 16777216 _).mono ?_
        rintro e w1 ⟨rfl, rfl⟩
        rw [decide_eq_false HX.out]
        go_wp2
        go_ret
        refine ⟨ret_bool (HNO.out ?_).symm, hbl.alloc hs _⟩
        simp [okPt, HX.out]
    · obtain rfl : k = l.length := by omega
      have HA := Lib.hid HA.out
      rw [List.take_length] at HA
      go_wp2
      go_ret
      exact ⟨ret_bool HA.out.symm, hbl⟩

end Go.Proofs.Ytdginfjlelpkmaa
