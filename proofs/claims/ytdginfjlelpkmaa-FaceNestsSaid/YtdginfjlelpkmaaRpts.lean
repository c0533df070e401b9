/-
  graticuleref03.Area, graticulelaw01.Ofs.
-/
import Derived.Test.YtdginfjlelpkmaaSho
import Derived.Test.YtdginfjlelpkmaaRmay
import Derived.BigRegion
import Derived.RegionTactic
import Derived.Maps.AppendAt
import Derived.Test.YtdginfjlelpkmaaInfo
set_option linter.unusedVariables false
set_option linter.unusedSimpArgs false
namespace Go.Proofs.Ytdginfjlelpkmaa
open Go.RowKit
set_option maxHeartbeats 800000 in
theorem lofs_any (a : Option Addr) (c : Nat) (l : List Pt) (hl : l.length ≤ 1000000) (w : World) (hr : Rd w a (pts l)) :
    Calls Try.prog 32 #[.slice a l.length c] w fun e w' => ∃ v, e = .returned v ∧
      w'.ownsRow w.heap.size 40 2 v l.length (pts l) ∧ Below w.heap.size w w' := by
  go_enter Try.func32, Try.ntmps32
  go_wp2
  go_loopw [3, 4] (fun o i wr => ∃ k : Nat, k ≤ l.length ∧ i = .int .i64 k ∧ wr.ownsRow w.heap.size 40 2 o k (pts (l.take k)) ∧ Below w.heap.size w wr) (fun _ i _ => l.length - (intOf i).toNat)
  case atStart => exact ⟨0, Nat.zero_le _, rfl, World.ownsRow_nil _ _ _ _, Below.refl _ _⟩
  case round =>
    obtain ⟨k, hk, rfl, hown, hbl⟩ := hrel
    by_cases hlt : k < l.length
    · obtain ⟨b, off, rfl, hb, c0, c1⟩ := (hr.keep hbl).pt k hlt
      have hst : Hid (pts (l.take (k + 1)) = pts (l.take k) ++ (l[k]).cells) := by
        refine Lib.hid ?_
        rw [List.take_succ_eq_append_getElem hlt, pts_snoc]
      generalize l[k] = p at *
      have hm := lof_any p wr
      have HM := Lib.hid hm
      obtain ⟨x, y⟩ := p
      dsimp only [Pt.val] at c0 c1
      clear hm
      go_wp2_with fail
      refine HM.out.mono ?_
      rintro e w1 ⟨rfl, hb1⟩
      have hbl1 := hbl.trans (hb1.mono hbl.size)
      have hown1 := hown.below hb1
      dsimp only [Pt.val]
      clear hown HM hb1 hbl c0 c1
      obtain ⟨i0, hi, hz0, hz1, hz2⟩ := info_parts Try.infoRP
      go_wp2_with (at_builtin; go_must (refine wpList_append_own_at (w1.alloc (.cells #[.int .i64 x, .int .i64 y] 40)) rfl (.tmp 11) (.tmp 17) 67 rfl w.heap.size 40 i0 (.agg #[.int .i64 0, .int .i64 0]) 2 16 Try.underlying67 hi hz0 hz1 hz2 rfl (by decide) u3 k (pts (l.take k)) rfl (hown1.below (Below.new _ _)) ⟨w1.heap.size, 0, none⟩ 1 1 [.int .i64 x, .int .i64 y] rfl rfl (Rd.new w1 [.int .i64 x, .int .i64 y] 40).add (by simp [Value.oneCell']) (by unfold maxLen; omega) (by omega) (by have := hbl1.size; simp; omega) ?_); intro v2 w2 hown2 hg2 _ _; have hbl2 := (hbl1.alloc hbl1.size (.cells #[.int .i64 x, .int .i64 y] 40)).grown hg2 (by have := hbl1.size; simp; omega) (fun j hj => ((hown1.below (Below.new _ (.cells #[.int .i64 x, .int .i64 y] 40))).lt j hj).1); clear hown1 hbl1 hg2)
      go_roundw
      case rel =>
        refine ⟨k + 1, by omega, by go_num, ?_, hbl2⟩
        rw [hst.out]
        exact hown2
      case measure => simp [intOf]; omega
    · obtain rfl : k = l.length := by omega
      rw [List.take_length] at hown
      go_wp2
      go_ret
      exact ⟨_, rfl, hown, hbl⟩

set_option maxHeartbeats 1600000 in
theorem rarea3_any (a : Option Addr) (c : Nat) (L : List Pt) (hlen : L.length ≤ 1000) (hok : L.all okPt = true) (w : World) (hr : Rd w a (pts L)) :
    Calls Try.prog 55 #[.slice a L.length c] w fun e w' => e = .returned (.int .i64 (sho L)) ∧ Below w.heap.size w w' := by
  go_enter Try.func55, Try.ntmps55
  have HOK := Lib.hid hok
  clear hok
  go_wp2
  go_loopw [3, 4] (fun o i wr => ∃ k : Nat, k ≤ L.length ∧ i = .int .i64 k ∧ o = .int .i64 (sumTo (shoT L) k) ∧ Below w.heap.size w wr) (fun _ i _ => L.length - (intOf i).toNat)
  case atStart => exact ⟨0, Nat.zero_le _, rfl, rfl, Below.refl _ _⟩
  case round =>
    obtain ⟨k, hk, rfl, rfl, hbl⟩ := hrel
    by_cases hlt : k < L.length
    · obtain ⟨q, hq⟩ : ∃ q, (k + 1) % L.length = q := ⟨_, rfl⟩
      have hql : q < L.length := by rw [← hq]; exact Nat.mod_lt _ (by omega)
      obtain ⟨b, off, rfl, hb, c0, c1⟩ := (hr.keep hbl).pt k hlt
      obtain ⟨b', off', e, hb', d0, d1⟩ := (hr.keep hbl).pt q hql
      cases e
      have hsT : shoT L k = L[k].x * L[q].y - L[q].x * L[k].y := by
        unfold shoT
        rw [hq, getElem!_pos L k hlt, getElem!_pos L q hql]
      have hst : sumTo (shoT L) (k + 1) = sumTo (shoT L) k + (L[k].x * L[q].y - L[q].x * L[k].y) := by rw [← hsT]; rfl
      have hsb := sho_bd L HOK.out k hk
      have o1 := ok_get L HOK.out k hlt
      have o2 := ok_get L HOK.out q hql
      rw [getElem!_pos L k hlt, okPt_iff] at o1
      rw [getElem!_pos L q hql, okPt_iff] at o2
      have hrem : ((k : Int) + 1) % (L.length : Int) = (q : Int) := by rw [← hq]; simp
      have hrem2 : (IntKind.i64.wrap ((k : Int) + 1)).tmod (L.length : Int) = (q : Int) := by
        rw [IntWalk.i64_in _ (by omega), Int.tmod_eq_emod_of_nonneg (by omega)]
        exact hrem
      generalize L[k] = p1 at *
      generalize L[q] = p2 at *
      obtain ⟨x1, y1⟩ := p1
      obtain ⟨x2, y2⟩ := p2
      dsimp only at c0 c1 d0 d1 hst o1 o2
      have m1 := mul_bd x1 y2 16777216 16777216 (by omega) (by omega) (by omega) (by omega)
      have m2 := mul_bd x2 y1 16777216 16777216 (by omega) (by omega) (by omega) (by omega)
      simp only [Int.reduceMul, Int.reduceNeg] at m1 m2
      generalize sumTo (shoT L) k = F at *
      have hF64 : -562949953421312000 ≤ F ∧ F ≤ 562949953421312000 := by omega
      have HST := Lib.hid hst
      have q0 : (0 : Int) ≤ (q : Int) ∧ (q : Int) < (L.length : Int) := by omega
      have n1 : b ≠ wr.heap.size := by omega
      have n2 : b ≠ wr.heap.size + 1 := by omega
      have hnil : ¬ L = [] := by intro h; rw [h] at hlt; simp at hlt
      have hln : ¬ L.length = 0 := by omega
      have hs := hbl.size
      clear hst hsT hq hsb hr
      go_wp2
      go_region
      all_goals
        go_wp2
        go_roundw
        case rel =>
          refine ⟨k + 1, by omega, by go_num, ?_, (((hbl.alloc hs _).alloc (by simp; omega) _).drew)⟩
          rw [HST.out]
          first | rfl | (congr 1; omega)
        case measure => simp [intOf]; omega
    · obtain rfl : k = L.length := by omega
      go_wp2
      go_ret
      exact ⟨ret_int rfl, hbl⟩
end Go.Proofs.Ytdginfjlelpkmaa
