/-
  graticuleref01.May, All, graticulelaw01.Of.
-/
import Derived.Test.YtoellhmoghgmlaaPts
import Derived.BigRegion
import Derived.RegionTactic
import Derived.Maps.AppendAt
import Derived.Test.YtoellhmoghgmlaaInfo
import Derived.Test.YtoellhmoghgmlaaProg
set_option linter.unusedVariables false
set_option linter.unusedSimpArgs false
namespace Go.Proofs.Ytoellhmoghgmlaa
open Go.RowKit
theorem Try.infoRP : (Try.prog.info? 26).map (fun i => (i.zero, i.size, i.bytes)) = some (some (.agg #[.int .i64 0, .int .i64 0]), 2, 16) := by kernel_rfl

set_option maxHeartbeats 800000 in
theorem rmay_any (p : Pt) (w : World) :
    Calls Try.prog 8 #[p.val] w fun e w' => e = .returned (.bool (okPt p)) ∧ Below w.heap.size w w' := by
  obtain ⟨x, y⟩ := p
  dsimp only [Pt.val]
  obtain ⟨B, hB⟩ : ∃ B, okPt ⟨x, y⟩ = B := ⟨_, rfl⟩
  have hC : Hid (B = (decide (-16777216 ≤ x) && decide (x ≤ 16777216) && decide (-16777216 ≤ y) && decide (y ≤ 16777216))) := by
    refine Lib.hid ?_
    rw [← hB]
    simp [okPt, Bool.and_assoc]
  rw [hB]
  clear hB
  go_enter Try.func8, Try.ntmps8
  go_wp2
  all_goals (go_ret; refine ⟨ret_bool ?_, Below.new _ _⟩; rw [hC.out]; clear hC; first | (simp_all; done) | (simp_all; intros; omega))

set_option maxHeartbeats 800000 in
theorem rall_any (a : Option Addr) (c : Nat) (l : List Pt) (hl : l.length ≤ 1000000) (w : World) (hr : Rd w a (pts l)) :
    Calls Try.prog 18 #[.slice a l.length c] w fun e w' => e = .returned (.bool (l.all okPt)) ∧ Below w.heap.size w w' := by
  go_enter Try.func18, Try.ntmps18
  go_wp2
  go_loopw [3] (fun i wr => ∃ k : Nat, k ≤ l.length ∧ i = .int .i64 k ∧ (l.take k).all okPt = true ∧ Below w.heap.size w wr) (fun i _ => l.length - (intOf i).toNat)
  case atStart => exact ⟨0, Nat.zero_le _, rfl, rfl, Below.refl _ _⟩
  case round =>
    obtain ⟨k, hk, rfl, hall, hbl⟩ := hrel
    have HA := Lib.hid hall
    clear hall
    by_cases hlt : k < l.length
    · obtain ⟨b, off, rfl, hb, c0, c1⟩ := (hr.keep hbl).pt k hlt
      have HST : Hid ((l.take (k + 1)).all okPt = okPt l[k]) := by
        refine Lib.hid ?_
        rw [List.take_succ_eq_append_getElem hlt, List.all_append, HA.out]
        simp
      have HNO : Hid (okPt l[k] = false → l.all okPt = false) := by
        refine Lib.hid fun h => ?_
        rw [List.all_eq_false]
        exact ⟨l[k], List.getElem_mem _, by simp [h]⟩
      generalize l[k] = p at *
      have hm := rmay_any p wr
      obtain ⟨x, y⟩ := p
      dsimp only [Pt.val] at c0 c1 hm
      have hs := hbl.size
      cases hp : okPt ⟨x, y⟩ with
      | true =>
        rw [hp] at hm
        have HM := Lib.hid hm
        have HP := Lib.hid hp
        clear hm hp
        go_wp2_with fail
        refine HM.out.mono ?_
        rintro e w1 ⟨rfl, hb1⟩
        have hbl1 := hbl.trans (hb1.mono hs)
        clear hb1 hbl HM c0 c1
        go_wp2
        go_roundw
        case rel => exact ⟨k + 1, by omega, by go_num, HST.out.trans HP.out, hbl1⟩
        case measure => simp [intOf]; omega
      | false =>
        rw [hp] at hm
        have HM := Lib.hid hm
        have HP := Lib.hid hp
        clear hm hp
        go_wp2_with fail
        refine HM.out.mono ?_
        rintro e w1 ⟨rfl, hb1⟩
        have hbl1 := hbl.trans (hb1.mono hs)
        clear hb1 hbl HM c0 c1
        go_wp2
        go_ret
        exact ⟨ret_bool (HNO.out HP.out).symm, hbl1⟩
    · obtain rfl : k = l.length := by omega
      have HA := Lib.hid HA.out
      rw [List.take_length] at HA
      go_wp2
      go_ret
      exact ⟨ret_bool HA.out.symm, hbl⟩

theorem lof_any (p : Pt) (w : World) :
    Calls Try.prog 9 #[p.val] w fun e w' => e = .returned p.val ∧ Below w.heap.size w w' := by
  obtain ⟨x, y⟩ := p
  dsimp only [Pt.val]
  go_enter Try.func9, Try.ntmps9
  go_wp2
  refine bodyPost_ret (v := .agg #[.int .i64 x, .int .i64 y]) (by simp [results, Try.results9, go_sem]) rfl ⟨rfl, ((Below.new _ _).alloc (by simp) _)⟩
end Go.Proofs.Ytoellhmoghgmlaa
