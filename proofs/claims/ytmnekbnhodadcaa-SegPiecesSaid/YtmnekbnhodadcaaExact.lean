/-
  exact.within, Right, Cross.
-/
import Derived.Test.YtmnekbnhodadcaaProg
import Derived.Test.YtmnekbnhodadcaaPts
set_option linter.unusedVariables false
set_option linter.unusedSimpArgs false
namespace Go.Proofs.Ytmnekbnhodadcaa
open Go.RowKit

theorem xwithin_any (n lo hi : Int) (w : World) :
    Calls Try.prog 28 #[.int .i64 n, .int .i64 lo, .int .i64 hi] w fun e w' => e = .returned (.bool (decide (lo ≤ n ∧ n ≤ hi))) ∧ w = w' := by
  go_enter Try.func28, Try.ntmps28
  by_cases h1 : lo ≤ n
  · go_wp2
    go_ret
    refine ⟨ret_bool ?_, rfl⟩
    simp [h1]
  · go_wp2
    go_ret
    refine ⟨ret_bool ?_, rfl⟩
    symm; rw [Bool.and_eq_false_iff]
    exact .inl (decide_eq_false (by omega))

set_option maxHeartbeats 800000 in
theorem xright_any (a : Option Addr) (c : Nat) (l : List Pt) (hl : l.length ≤ maxLen) (w : World) (hr : Rd w a (pts l)) :
    Calls Try.prog 16 #[.slice a l.length c] w fun e w' => e = .returned (.bool (l.all okPt)) ∧ Below w.heap.size w w' := by
  go_enter Try.func16, Try.ntmps16
  unfold maxLen at hl
  go_wp2
  go_loopw [7] (fun i wr => ∃ k : Nat, k ≤ l.length ∧ i = .int .i64 k ∧ (l.take k).all okPt = true ∧ Below w.heap.size w wr) (fun i _ => l.length - (intOf i).toNat)
  case atStart => exact ⟨0, Nat.zero_le _, rfl, rfl, Below.refl _ _⟩
  case round =>
    obtain ⟨k, hk, rfl, hall, hbl⟩ := hrel
    have HA := Lib.hid hall
    clear hall
    by_cases hlt : k < l.length
    · obtain ⟨b, off, rfl, hb, c0, c1⟩ := (hr.keep hbl).pt k hlt
      have HST : Hid ((l.take (k + 1)).all okPt = okPt l[k]) := by
        refine Lib.hid ?_
        rw [List.take_succ_eq_append_getElem hlt, List.all_append, HA.out]
        simp
      have HNO : Hid (okPt l[k] = false → l.all okPt = false) := by
        refine Lib.hid fun h => ?_
        rw [List.all_eq_false]
        exact ⟨l[k], List.getElem_mem _, by simp [h]⟩
      generalize l[k] = p at *
      obtain ⟨x, y⟩ := p
      dsimp only at c0 c1
      have hs := hbl.size
      by_cases hx : -16777216 ≤ x ∧ x ≤ 16777216
      · by_cases hy : -16777216 ≤ y ∧ y ≤ 16777216
        · have HX := Lib.hid hx
          have HY := Lib.hid hy
          clear hx hy
          go_wp2_with fail
          refine (xwithin_any x (-16777216) 16777216 _).mono ?_
          rintro e w1 ⟨rfl, rfl⟩
          rw [decide_eq_true HX.out]
          go_wp2_with fail
          refine (xwithin_any y (-16777216) 16777216 _).mono ?_
          rintro e w1 ⟨rfl, rfl⟩
          rw [decide_eq_true HY.out]
          go_wp2
          go_roundw
          case rel =>
            refine ⟨k + 1, by omega, by go_num, ?_, hbl.alloc hs _⟩
            rw [HST.out, okPt_iff]
            exact ⟨HX.out, HY.out⟩
          case measure => simp [intOf]; omega
        · have HX := Lib.hid hx
          have HY := Lib.hid hy
          clear hx hy
          go_wp2_with fail
          refine (xwithin_any x (-16777216) 16777216 _).mono ?_
          rintro e w1 ⟨rfl, rfl⟩
          rw [decide_eq_true HX.out]
          go_wp2_with fail
          refine (xwithin_any y (-16777216) 16777216 _).mono ?_
          rintro e w1 ⟨rfl, rfl⟩
          rw [decide_eq_false HY.out]
          go_wp2
          go_ret
          refine ⟨ret_bool (HNO.out ?_).symm, hbl.alloc hs _⟩
          simp [okPt, HY.out]
      · have HX := Lib.hid hx
        clear hx
        go_wp2_with fail
        refine (xwithin_any x (-16777216) 16777216 _).mono ?_
        rintro e w1 ⟨rfl, rfl⟩
        rw [decide_eq_false HX.out]
        go_wp2
        go_ret
        refine ⟨ret_bool (HNO.out ?_).symm, hbl.alloc hs _⟩
        simp [okPt, HX.out]
    · obtain rfl : k = l.length := by omega
      have HA := Lib.hid HA.out
      rw [List.take_length] at HA
      go_wp2
      go_ret
      exact ⟨ret_bool HA.out.symm, hbl⟩

set_option maxHeartbeats 800000 in
theorem xcross_any (a b c : Pt) (ha : okPt a = true) (hb : okPt b = true) (hc : okPt c = true) (w : World) :
    Calls Try.prog 32 #[a.val, b.val, c.val] w fun e w' => e = .returned (.int .i64 (crs a b c)) ∧ Below w.heap.size w w' := by
  have hall : ([a, b, c].all okPt) = true := by simp [ha, hb, hc]
  have hB := crs_bd a b c ha hb hc
  rw [okPt_iff] at ha hb hc
  have h1 := mul_bd (b.x - a.x) (c.y - a.y) 33554432 33554432 (by omega) (by omega) (by omega) (by omega)
  have h2 := mul_bd (b.y - a.y) (c.x - a.x) 33554432 33554432 (by omega) (by omega) (by omega) (by omega)
  simp only [Int.reduceMul, Int.reduceNeg] at h1 h2
  obtain ⟨z, hz⟩ : ∃ z, crs a b c = z := ⟨_, rfl⟩
  have HZ := Lib.hid hz
  have HALL := Lib.hid hall
  rw [hz] at hB ⊢
  clear hz hall
  have hri := fun W h => xright_any (some ⟨w.heap.size + 1 + 1 + 1, 0, none⟩) 3 [a, b, c] (by simp [maxLen]) W h
  rw [HALL.out] at hri
  have HRI := Lib.hid hri
  clear hri HALL
  obtain ⟨ax, ay⟩ := a
  obtain ⟨bx, bY⟩ := b
  obtain ⟨cx, cy⟩ := c
  dsimp only [Pt.val, crs] at *
  go_enter Try.func32, Try.ntmps32
  go_wp2_with fail
  refine (HRI.out _ (Rd.lit _ _ [.int .i64 ax, .int .i64 ay, .int .i64 bx, .int .i64 bY, .int .i64 cx, .int .i64 cy] _ (by simp))).mono ?_
  rintro e w1 ⟨rfl, hb1⟩
  have hA := ((((Blk.lit w w.heap.size [.int .i64 ax, .int .i64 ay] 23 rfl).alloc (.cells #[.int .i64 bx, .int .i64 bY] 23)).alloc (.cells #[.int .i64 cx, .int .i64 cy] 23)).alloc (.cells #[.int .i64 ax, .int .i64 ay, .int .i64 bx, .int .i64 bY, .int .i64 cx, .int .i64 cy] 23)).keep hb1
  have hB2 := (((Blk.lit (w.alloc (.cells #[.int .i64 ax, .int .i64 ay] 23)) (w.heap.size + 1) [.int .i64 bx, .int .i64 bY] 23 (by simp)).alloc (.cells #[.int .i64 cx, .int .i64 cy] 23)).alloc (.cells #[.int .i64 ax, .int .i64 ay, .int .i64 bx, .int .i64 bY, .int .i64 cx, .int .i64 cy] 23)).keep hb1
  have hC2 := ((Blk.lit ((w.alloc (.cells #[.int .i64 ax, .int .i64 ay] 23)).alloc (.cells #[.int .i64 bx, .int .i64 bY] 23)) (w.heap.size + 1 + 1) [.int .i64 cx, .int .i64 cy] 23 (by simp)).alloc (.cells #[.int .i64 ax, .int .i64 ay, .int .i64 bx, .int .i64 bY, .int .i64 cx, .int .i64 cy] 23)).keep hb1
  have a0 := hA.cell 0 rfl
  have a1 := hA.cell 1 rfl
  have b0 := hB2.cell 0 rfl
  have b1 := hB2.cell 1 rfl
  have c0 := hC2.cell 0 rfl
  have c1 := hC2.cell 1 rfl
  have hbl := ((((Below.new w (.cells #[.int .i64 ax, .int .i64 ay] 23)).alloc (by simp) (.cells #[.int .i64 bx, .int .i64 bY] 23)).alloc (by simp; omega) (.cells #[.int .i64 cx, .int .i64 cy] 23)).alloc (by simp; omega) (.cells #[.int .i64 ax, .int .i64 ay, .int .i64 bx, .int .i64 bY, .int .i64 cx, .int .i64 cy] 23)).trans (hb1.mono (by simp; omega))
  clear hA hB2 hC2 hb1 HRI
  go_wp2
  go_ret
  exact ⟨ret_int HZ.out, hbl⟩
end Go.Proofs.Ytmnekbnhodadcaa
