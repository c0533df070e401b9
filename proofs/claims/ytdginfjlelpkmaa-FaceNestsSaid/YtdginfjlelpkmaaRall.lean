/-
  graticuleref01.All.
-/
import Derived.Test.YtdginfjlelpkmaaRmay
set_option linter.unusedVariables false
set_option linter.unusedSimpArgs false
namespace Go.Proofs.Ytdginfjlelpkmaa
open Go.RowKit


set_option maxHeartbeats 800000 in
theorem rall_any (a : Option Addr) (c : Nat) (l : List Pt) (hl : l.length ≤ 1000000) (w : World) (hr : Rd w a (pts l)) :
    Calls Try.prog 39 #[.slice a l.length c] w fun e w' => e = .returned (.bool (l.all okPt)) ∧ Below w.heap.size w w' := by
  go_enter Try.func39, Try.ntmps39
  go_wp2
  go_loopw [3] (fun i wr => ∃ k : Nat, k ≤ l.length ∧ i = .int .i64 k ∧ (l.take k).all okPt = true ∧ Below w.heap.size w wr) (fun i _ => l.length - (intOf i).toNat)
  case atStart => exact ⟨0, Nat.zero_le _, rfl, rfl, Below.refl _ _⟩
  case round =>
    obtain ⟨k, hk, rfl, hall, hbl⟩ := hrel
    have HA := Lib.hid hall
    clear hall
    by_cases hlt : k < l.length
    · obtain ⟨b, off, rfl, hb, c0, c1⟩ := (hr.keep hbl).pt k hlt
      have HST : Hid ((l.take (k + 1)).all okPt = okPt l[k]) := by
        refine Lib.hid ?_
        rw [List.take_succ_eq_append_getElem hlt, List.all_append, HA.out]
        simp
      have HNO : Hid (okPt l[k] = false → l.all okPt = false) := by
        refine Lib.hid fun h => ?_
        rw [List.all_eq_false]
        exact ⟨l[k], List.getElem_mem _, by simp [h]⟩
      generalize l[k] = p at *
      have hm := rmay_any p wr
      obtain ⟨x, y⟩ := p
      dsimp only [Pt.val] at c0 c1 hm
      have hs := hbl.size
      cases hp : okPt ⟨x, y⟩ with
      | true =>
        rw [hp] at hm
        have HM := Lib.hid hm
        have HP := Lib.hid hp
        clear hm hp
        go_wp2_with fail
        refine HM.out.mono ?_
        rintro e w1 ⟨rfl, hb1⟩
        have hbl1 := hbl.trans (hb1.mono hs)
        clear hb1 hbl HM c0 c1
        go_wp2
        go_roundw
        case rel => exact ⟨k + 1, by omega, by go_num, HST.out.trans HP.out, hbl1⟩
        case measure => simp [intOf]; omega
      | false =>
        rw [hp] at hm
        have HM := Lib.hid hm
        have HP := Lib.hid hp
        clear hm hp
        go_wp2_with fail
        refine HM.out.mono ?_
        rintro e w1 ⟨rfl, hb1⟩
        have hbl1 := hbl.trans (hb1.mono hs)
        clear hb1 hbl HM c0 c1
        go_wp2
        go_ret
        exact ⟨ret_bool (HNO.out HP.out).symm, hbl1⟩
    · obtain rfl : k = l.length := by omega
      have HA := Lib.hid HA.out
      rw [List.take_length] at HA
      go_wp2
      go_ret
      exact ⟨ret_bool HA.out.symm, hbl⟩
end Go.Proofs.Ytdginfjlelpkmaa
