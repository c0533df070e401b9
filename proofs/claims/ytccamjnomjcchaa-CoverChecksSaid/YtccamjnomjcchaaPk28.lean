/-
  value.Check. table.Check. graticulelaw01.Of. graticuleref01.May. graticulelaw01.Ofs. graticulelaw11.Ofs, graticulelaw12.Of; the document's faces in memory.
-/
import Derived.Test.YtccamjnomjcchaaPk27
import Derived.Test.YtccamjnomjcchaaPk26
import Derived.Test.YtccamjnomjcchaaPk1
import Derived.Test.YtccamjnomjcchaaProg
import Derived.BigRegion
import Derived.RegionTactic
import Derived.Maps.AppendAt
import Derived.Test.YtccamjnomjcchaaPk6
import Derived.Test.YtccamjnomjcchaaPk5
/- value.Check. -/
set_option linter.unusedVariables false
set_option linter.unusedSimpArgs false
set_option maxRecDepth 100000
namespace Go
open Go.RowKit
theorem empty_txt (s : ByteArray) : s.toList.isEmpty = decide (s.size = 0) := by
  rw [ByteArray.toList_eq]
  obtain ⟨⟨l⟩⟩ := s
  cases l <;> simp [ByteArray.size]
def vcF (k : Int) (t : ByteArray) (n : Int) : Int :=
  if k = 1 then (if n ≠ 0 then 3 else if rightF t = false then 13 else if 64 < t.size then 2 else 0)
  else if k = 3 then (if t.size ≠ 0 then 3 else if n < -1152921504606846976 ∨ 1152921504606846976 < n then 5 else 0)
  else if k = 2 then (if t.size ≠ 0 then 3 else if n < 0 ∨ 1152921504606846976 < n then 5 else 0)
  else if k = 4 then (if t.size ≠ 0 then 3 else if n < 0 ∨ 1 < n then 5 else 0)
  else 14
end Go
namespace Go.Proofs.Ytccamjnomjcchaa
open Go.RowKit

set_option maxHeartbeats 3200000 in
theorem vchk_any (k n : Int) (t : ByteArray) (ht : t.size ≤ maxLen) (w : World) :
    Calls Try.prog 96 #[.agg #[.int .i64 k, .string t, .int .i64 n]] w fun e w' => e = .returned (.int .i64 (vcF k t n)) ∧ Below w.heap.size w w' := by
  have hs2 : t.size ≤ 9223372036854775807 := by unfold maxLen at ht; omega
  have HV := Lib.hid (vcF.eq_1 k t n)
  have HRI := Lib.hid (fun W => right_any t ht W)
  have HTE : Hid (t.size = 0 → t = ⟨#[]⟩) := Lib.hid (fun h => by
    apply ByteArray.ext
    exact Array.eq_empty_of_size_eq_zero h)
  have HTN : Hid (t.size ≠ 0 → t.toList.isEmpty = false) := Lib.hid (fun h => by rw [empty_txt]; simp [h])
  generalize vcF k t n = V at *
  generalize rightF t = T at *
  have k1 := Blk.lit w w.heap.size [.int .i64 k, .string t, .int .i64 n] 91 rfl
  have hb0 := Below.new w (.cells #[.int .i64 k, .string t, .int .i64 n] 91)
  obtain ⟨B, hB⟩ : ∃ B, w.heap.size = B := ⟨_, rfl⟩
  have HBE := Lib.hid hB
  rw [hB] at k1
  have x0 := k1.cell 0 rfl
  have x1 := k1.cell 1 rfl
  have x2 := k1.cell 2 rfl
  go_enter Try.func96, Try.ntmps96
  by_cases h1 : k = 1
  · have hq := HV.out
    rw [if_pos h1] at hq
    subst h1
    have hV := Lib.hid hq
    clear HV hq
    by_cases hn : n = 0
    · have hV2 := hV.out
      rw [if_neg (by omega)] at hV2
      replace hV := Lib.hid hV2
      subst hn
      clear hV2
      go_wp2_with fail
      refine (HRI.out _).mono ?_
      rintro e w1 ⟨rfl, hb1⟩
      have k2 := k1.keep hb1
      have hbw := hb0.trans (hb1.mono hb0.size)
      clear x0 x1 x2 hb1
      have x0 := k2.cell 0 rfl
      have x1 := k2.cell 1 rfl
      have x2 := k2.cell 2 rfl
      cases T with
      | false =>
        go_wp2
        go_ret
        exact ⟨ret_int (by rw [hV.out]; simp), hbw⟩
      | true =>
        by_cases hl : 64 < t.size
        · have hl' : (64 : Int) < (t.size : Int) := by omega
          go_wp2
          go_ret
          exact ⟨ret_int (by rw [hV.out]; simp [hl]), hbw⟩
        · have hl' : ¬ (64 : Int) < (t.size : Int) := by omega
          go_wp2
          go_ret
          exact ⟨ret_int (by rw [hV.out]; simp [hl]), hbw⟩
    · have hV2 := hV.out
      rw [if_pos hn] at hV2
      have hV2 := Lib.hid hV2
      have hn' : (n == 0) = false := by simpa using hn
      go_wp2
      go_ret
      exact ⟨ret_int hV2.out.symm, by first | exact hb0 | (rw [← HBE.out]; exact hb0)⟩
  · have h1' : (k == 1) = false := by simpa using h1
    have hq := HV.out
    rw [if_neg h1] at hq
    replace HV := Lib.hid hq
    clear hq
    by_cases h3 : k = 3
    · have hq := HV.out
      rw [if_pos h3] at hq
      subst h3
      have hV := Lib.hid hq
      clear HV hq h1 h1'
      by_cases hz : t.size = 0
      · have hV2 := hV.out
        rw [if_neg (by omega)] at hV2
        replace hV := Lib.hid hV2
        clear hV2
        obtain rfl := HTE.out hz
        clear hz HTE HTN HRI
        by_cases ha : n < -1152921504606846976
        · go_wp2
          go_ret
          exact ⟨ret_int (by rw [hV.out]; simp [ha]), by first | exact hb0 | (rw [← HBE.out]; exact hb0)⟩
        · by_cases hc : 1152921504606846976 < n
          · go_wp2
            go_ret
            exact ⟨ret_int (by rw [hV.out]; simp [hc]), by first | exact hb0 | (rw [← HBE.out]; exact hb0)⟩
          · go_wp2
            go_ret
            exact ⟨ret_int (by rw [hV.out, if_neg (by omega)]), by first | exact hb0 | (rw [← HBE.out]; exact hb0)⟩
      · have hV2 := hV.out
        rw [if_pos hz] at hV2
        have hV2 := Lib.hid hV2
        have hte := HTN.out hz
        go_wp2
        go_ret
        exact ⟨ret_int hV2.out.symm, by first | exact hb0 | (rw [← HBE.out]; exact hb0)⟩
    · have h3' : (k == 3) = false := by simpa using h3
      have hq := HV.out
      rw [if_neg h3] at hq
      replace HV := Lib.hid hq
      clear hq
      by_cases h2 : k = 2
      · have hq := HV.out
        rw [if_pos h2] at hq
        subst h2
        have hV := Lib.hid hq
        clear HV hq h1 h1' h3 h3'
        by_cases hz : t.size = 0
        · have hV2 := hV.out
          rw [if_neg (by omega)] at hV2
          replace hV := Lib.hid hV2
          clear hV2
          obtain rfl := HTE.out hz
          clear hz HTE HTN HRI
          by_cases ha : n < 0
          · go_wp2
            go_ret
            exact ⟨ret_int (by rw [hV.out]; simp [ha]), by first | exact hb0 | (rw [← HBE.out]; exact hb0)⟩
          · by_cases hc : 1152921504606846976 < n
            · go_wp2
              go_ret
              exact ⟨ret_int (by rw [hV.out]; simp [hc]), by first | exact hb0 | (rw [← HBE.out]; exact hb0)⟩
            · go_wp2
              go_ret
              exact ⟨ret_int (by rw [hV.out, if_neg (by omega)]), by first | exact hb0 | (rw [← HBE.out]; exact hb0)⟩
        · have hV2 := hV.out
          rw [if_pos hz] at hV2
          have hV2 := Lib.hid hV2
          have hte := HTN.out hz
          go_wp2
          go_ret
          exact ⟨ret_int hV2.out.symm, by first | exact hb0 | (rw [← HBE.out]; exact hb0)⟩
      · have h2' : (k == 2) = false := by simpa using h2
        have hq := HV.out
        rw [if_neg h2] at hq
        replace HV := Lib.hid hq
        clear hq
        by_cases h4 : k = 4
        · have hq := HV.out
          rw [if_pos h4] at hq
          subst h4
          have hV := Lib.hid hq
          clear HV hq h1 h1' h3 h3' h2 h2'
          by_cases hz : t.size = 0
          · have hV2 := hV.out
            rw [if_neg (by omega)] at hV2
            replace hV := Lib.hid hV2
            clear hV2
            obtain rfl := HTE.out hz
            clear hz HTE HTN HRI
            by_cases ha : n < 0
            · go_wp2
              go_ret
              exact ⟨ret_int (by rw [hV.out]; simp [ha]), by first | exact hb0 | (rw [← HBE.out]; exact hb0)⟩
            · by_cases hc : 1 < n
              · go_wp2
                go_ret
                exact ⟨ret_int (by rw [hV.out]; simp [hc]), by first | exact hb0 | (rw [← HBE.out]; exact hb0)⟩
              · go_wp2
                go_ret
                exact ⟨ret_int (by rw [hV.out, if_neg (by omega)]), by first | exact hb0 | (rw [← HBE.out]; exact hb0)⟩
          · have hV2 := hV.out
            rw [if_pos hz] at hV2
            have hV2 := Lib.hid hV2
            have hte := HTN.out hz
            go_wp2
            go_ret
            exact ⟨ret_int hV2.out.symm, by first | exact hb0 | (rw [← HBE.out]; exact hb0)⟩
        · have h4' : (k == 4) = false := by simpa using h4
          have hq := HV.out
          rw [if_neg h4] at hq
          replace HV := Lib.hid hq
          clear hq
          go_wp2
          go_ret
          exact ⟨ret_int HV.out.symm, by first | exact hb0 | (rw [← HBE.out]; exact hb0)⟩
end Go.Proofs.Ytccamjnomjcchaa
/- table.Check. -/
set_option linter.unusedVariables false
set_option linter.unusedSimpArgs false
set_option maxRecDepth 100000
namespace Go
open Go.RowKit
def tcGo (met : List (List UInt8)) : List At → Int
  | [] => 0
  | a :: l => if nameF a.key = false then 13 else if vcF a.kind a.text a.n ≠ 0 then vcF a.kind a.text a.n else if a.key.data.toList ∈ met then 8 else tcGo (a.key.data.toList :: met) l
def tcF (l : List At) : Int := if 8 < l.length then 6 else tcGo [] l
end Go
namespace Go.Proofs.Ytccamjnomjcchaa
open Go.RowKit
theorem Try.zeroB (w : World) : (zeroValue 4).run Try.prog w = .ok (.bool false) w := by kernel_rfl

set_option maxHeartbeats 6400000 in
theorem tcheck_any (a : Option Addr) (c : Nat) (l : List At) (hn : l.length ≤ 1000) (hok : ∀ x ∈ l, AtOk x) (w : World) (hr : Rd w a (ats l)) :
    Calls Try.prog 70 #[.slice a l.length c] w fun e w' => e = .returned (.int .i64 (tcF l)) ∧ Below w.heap.size w w' := by
  have HR := Lib.hid hr
  have HOK := Lib.hid hok
  have HT : Hid (tcF l = if 8 < l.length then 6 else tcGo [] (l.drop 0)) := Lib.hid rfl
  generalize tcF l = TC at *
  obtain ⟨N, hN⟩ : ∃ N, l.length = N := ⟨_, rfl⟩
  have HN := Lib.hid hN
  rw [hN] at HT hn ⊢
  clear hr hok hN
  have hmm := @run_makeMap Try.prog
  obtain ⟨B, hB⟩ : ∃ B, w.heap.size = B := ⟨_, rfl⟩
  have HBE := Lib.hid hB
  go_enter Try.func70, Try.ntmps70
  by_cases h8 : 8 < N
  · have h8' : (8 : Int) < (N : Int) := by omega
    go_wp2
    go_ret
    exact ⟨ret_int (by rw [HT.out, if_pos h8]), Below.refl _ _⟩
  · have h8' : ¬ (8 : Int) < (N : Int) := by omega
    have HT2 : Hid (TC = tcGo [] (l.drop 0)) := Lib.hid (by rw [HT.out, if_neg h8])
    have hS0 := StrSet.made Try.prog 9 4 w
    rw [hB] at hS0
    have hb0 := (Below.refl w.heap.size w).alloc (Nat.le_refl _) (.map #[] 0)
    have hB0 : B < (w.alloc (.map #[] 0)).heap.size := hS0.lt
    clear HT
    go_wp2
    generalize w.alloc (.map #[] 0) = w0 at *
    go_loopw [13] (fun i wr => ∃ (k : Nat) (met : List (List UInt8)), k ≤ N ∧ i = .int .i64 k ∧ Hid (TC = tcGo met (l.drop k)) ∧ Hid (StrSet Try.prog 9 4 wr B k met) ∧ Below w.heap.size w wr) (fun i _ => N - (intOf i).toNat)
    case atStart => exact ⟨0, [], by omega, rfl, HT2, Lib.hid hS0, hb0⟩
    case round =>
      obtain ⟨k, met, hk, rfl, HZ, HS, hbl⟩ := hrel
      by_cases h1 : k < N
      · have h1' : (k : Int) < (N : Int) := by omega
        have hkl : k < l.length := by rw [HN.out]; exact h1
        obtain ⟨b1, o1, rfl, hbb, c0, c1, c2, c3⟩ := (HR.out.keep hbl).atr k hkl
        obtain ⟨q1, q2⟩ := HOK.out l[k] (List.getElem_mem hkl)
        have HD : Hid (l.drop k = l[k] :: l.drop (k + 1)) := Lib.hid (List.drop_eq_getElem_cons hkl)
        have HZ2 : Hid (TC = if nameF l[k].key = false then 13 else if vcF l[k].kind l[k].text l[k].n ≠ 0 then vcF l[k].kind l[k].text l[k].n else if l[k].key.data.toList ∈ met then 8 else tcGo (l[k].key.data.toList :: met) (l.drop (k + 1))) := Lib.hid (by
          rw [HZ.out, HD.out]; rfl)
        have HNA := Lib.hid (fun W => name_any l[k].key q1 W)
        have HVC := Lib.hid (fun W => vchk_any l[k].kind l[k].n l[k].text q2 W)
        generalize nameF l[k].key = NM at *
        generalize vcF l[k].kind l[k].text l[k].n = VC at *
        generalize l[k].key = KY at *
        generalize l[k].kind = kd at *
        generalize l[k].text = TX at *
        generalize l[k].n = nn at *
        have hxT := Below.new wr (.cells #[.string KY, .int .i64 kd, .string TX, .int .i64 nn] 93)
        have kT := Blk.new wr [.string KY, .int .i64 kd, .string TX, .int .i64 nn] 93
        have hS1 := HS.out.below hxT
        have hs := hbl.size
        have hb1 := hbl.trans (hxT.mono hs)
        have y0 := kT.cell 0 rfl
        clear HZ HD HS
        go_wp2_with fail
        obtain ⟨S, hS⟩ : ∃ S, wr.heap.size = S := ⟨_, rfl⟩
        rw [hS] at kT y0 ⊢
        generalize wr.alloc (.cells #[.string KY, .int .i64 kd, .string TX, .int .i64 nn] 93) = W1 at *
        clear hxT c0 c1 c2 c3 hS
        refine (HNA.out W1).mono ?_
        rintro e W2 ⟨rfl, hx2⟩
        have kT := kT.keep hx2
        have hS2 := hS1.below hx2
        have hb2 := hb1.trans (hx2.mono hb1.size)
        clear hS1 hx2 hb1 y0
        have y0 := kT.cell 0 rfl
        have y1 := kT.cell 1 rfl
        have y2 := kT.cell 2 rfl
        have y3 := kT.cell 3 rfl
        cases NM with
        | false =>
          go_wp2
          go_ret
          exact ⟨ret_int (by rw [HZ2.out]; simp), hb2⟩
        | true =>
          go_wp2_with fail
          refine (HVC.out W2).mono ?_
          rintro e W3 ⟨rfl, hx3⟩
          have kT := kT.keep hx3
          have hS3 := hS2.below hx3
          have hb3 := hb2.trans (hx3.mono hb2.size)
          clear hS2 hx3 hb2 y0 y1 y2 y3
          have y0 := kT.cell 0 rfl
          have hlk := hS3.look Try.underlying163 Try.underlying9 Try.underlying4 (Try.zeroB W3) KY q1
          by_cases hv : VC = 0
          · subst hv
            by_cases hm : KY.data.toList ∈ met
            · rw [decide_eq_true hm] at hlk
              have HV : Hid (TC = 8) := Lib.hid (by rw [HZ2.out, if_neg (by simp), if_neg (by simp), if_pos hm])
              clear HZ2 hm
              go_wp2
              go_ret
              exact ⟨ret_int HV.out.symm, hb3⟩
            · rw [decide_eq_false hm] at hlk
              have HV : Hid (TC = tcGo (KY.data.toList :: met) (l.drop (k + 1))) := Lib.hid (by rw [HZ2.out, if_neg (by simp), if_neg (by simp), if_neg hm])
              clear HZ2 hm
              go_wp2_with (at_mapUpdate; go_must (refine wpList_set_add W3 rfl (.tmp 31) (.tmp 33) (.const (.bool true)) rfl Try.underlying163 Try.underlying9 Try.underlying4 B k met rfl hS3 (by unfold maxLen; omega) KY q1 rfl rfl ?_); intro W4 hS4 hg4)
              have hb4 := hb3.grown hg4 hb3.size (fun j hj => by cases hj; exact Nat.le_of_eq HBE.out)
              exact ⟨⟨k + 1, _, by omega, by go_num, HV, Lib.hid hS4, hb4⟩, by simp [intOf]; omega⟩
          · have hv' : (VC == 0) = false := by simpa using hv
            have HV : Hid (TC = VC) := Lib.hid (by rw [HZ2.out, if_neg (by simp), if_pos hv])
            go_wp2
            go_ret
            exact ⟨ret_int HV.out.symm, hb3⟩
      · have h1' : ¬ (k : Int) < (N : Int) := by omega
        have hd : l.drop k = [] := List.drop_of_length_le (by rw [HN.out]; omega)
        rw [hd] at HZ
        go_wp2
        go_ret
        exact ⟨ret_int HZ.out.symm, by first | exact hbl | (rw [← HBE.out]; exact hbl)⟩
end Go.Proofs.Ytccamjnomjcchaa
/- graticulelaw01.Of. -/
set_option linter.unusedVariables false
set_option linter.unusedSimpArgs false
namespace Go.Proofs.Ytccamjnomjcchaa
open Go.RowKit
theorem lof_any (p : Pt) (w : World) :
    Calls Try.prog 82 #[p.val] w fun e w' => e = .returned p.val ∧ Below w.heap.size w w' := by
  obtain ⟨x, y⟩ := p
  dsimp only [Pt.val]
  go_enter Try.func82, Try.ntmps82
  go_wp2
  refine bodyPost_ret (v := .agg #[.int .i64 x, .int .i64 y]) (by simp [results, Try.results82, go_sem]) rfl ⟨rfl, ((Below.new _ _).alloc (by simp) _)⟩
end Go.Proofs.Ytccamjnomjcchaa
/- graticuleref01.May. -/
set_option linter.unusedVariables false
set_option linter.unusedSimpArgs false
namespace Go.Proofs.Ytccamjnomjcchaa
open Go.RowKit
theorem Try.infoRP : (Try.prog.info? 73).map (fun i => (i.zero, i.size, i.bytes)) = some (some (.agg #[.int .i64 0, .int .i64 0]), 2, 16) := by kernel_rfl

set_option maxHeartbeats 800000 in
theorem rmay_any (p : Pt) (w : World) :
    Calls Try.prog 90 #[p.val] w fun e w' => e = .returned (.bool (okPt p)) ∧ Below w.heap.size w w' := by
  obtain ⟨x, y⟩ := p
  dsimp only [Pt.val]
  obtain ⟨B, hB⟩ : ∃ B, okPt ⟨x, y⟩ = B := ⟨_, rfl⟩
  have hC : Hid (B = (decide (-16777216 ≤ x) && decide (x ≤ 16777216) && decide (-16777216 ≤ y) && decide (y ≤ 16777216))) := by
    refine Lib.hid ?_
    rw [← hB]
    simp [okPt, Bool.and_assoc]
  rw [hB]
  clear hB
  go_enter Try.func90, Try.ntmps90
  go_wp2
  all_goals (go_ret; refine ⟨ret_bool ?_, Below.new _ _⟩; rw [hC.out]; clear hC; first | (simp_all; done) | (simp_all; intros; omega))

end Go.Proofs.Ytccamjnomjcchaa
/- graticulelaw01.Ofs. -/
set_option linter.unusedVariables false
set_option linter.unusedSimpArgs false
namespace Go.Proofs.Ytccamjnomjcchaa
open Go.RowKit
set_option maxHeartbeats 800000 in
theorem lofs_any (a : Option Addr) (c : Nat) (l : List Pt) (hl : l.length ≤ 1000000) (w : World) (hr : Rd w a (pts l)) :
    Calls Try.prog 54 #[.slice a l.length c] w fun e w' => ∃ v, e = .returned v ∧
      w'.ownsRow w.heap.size 73 2 v l.length (pts l) ∧ Below w.heap.size w w' := by
  go_enter Try.func54, Try.ntmps54
  go_wp2
  go_loopw [3, 4] (fun o i wr => ∃ k : Nat, k ≤ l.length ∧ i = .int .i64 k ∧ wr.ownsRow w.heap.size 73 2 o k (pts (l.take k)) ∧ Below w.heap.size w wr) (fun _ i _ => l.length - (intOf i).toNat)
  case atStart => exact ⟨0, Nat.zero_le _, rfl, World.ownsRow_nil _ _ _ _, Below.refl _ _⟩
  case round =>
    obtain ⟨k, hk, rfl, hown, hbl⟩ := hrel
    by_cases hlt : k < l.length
    · obtain ⟨b, off, rfl, hb, c0, c1⟩ := (hr.keep hbl).pt k hlt
      have hst : Hid (pts (l.take (k + 1)) = pts (l.take k) ++ (l[k]).cells) := by
        refine Lib.hid ?_
        rw [List.take_succ_eq_append_getElem hlt, pts_snoc]
      generalize l[k] = p at *
      have hm := lof_any p wr
      have HM := Lib.hid hm
      obtain ⟨x, y⟩ := p
      dsimp only [Pt.val] at c0 c1
      clear hm
      go_wp2_with fail
      refine HM.out.mono ?_
      rintro e w1 ⟨rfl, hb1⟩
      have hbl1 := hbl.trans (hb1.mono hbl.size)
      have hown1 := hown.below hb1
      dsimp only [Pt.val]
      clear hown HM hb1 hbl c0 c1
      obtain ⟨i0, hi, hz0, hz1, hz2⟩ := info_parts Try.infoRP
      go_wp2_with (at_builtin; go_must (refine wpList_append_own_at (w1.alloc (.cells #[.int .i64 x, .int .i64 y] 73)) rfl (.tmp 11) (.tmp 17) 69 rfl w.heap.size 73 i0 (.agg #[.int .i64 0, .int .i64 0]) 2 16 Try.underlying69 hi hz0 hz1 hz2 rfl (by decide) u3 k (pts (l.take k)) rfl (hown1.below (Below.new _ _)) ⟨w1.heap.size, 0, none⟩ 1 1 [.int .i64 x, .int .i64 y] rfl rfl (Rd.new w1 [.int .i64 x, .int .i64 y] 73).add (by simp [Value.oneCell']) (by unfold maxLen; omega) (by omega) (by have := hbl1.size; simp; omega) ?_); intro v2 w2 hown2 hg2 _ _; have hbl2 := (hbl1.alloc hbl1.size (.cells #[.int .i64 x, .int .i64 y] 73)).grown hg2 (by have := hbl1.size; simp; omega) (fun j hj => ((hown1.below (Below.new _ (.cells #[.int .i64 x, .int .i64 y] 73))).lt j hj).1); clear hown1 hbl1 hg2)
      go_roundw
      case rel =>
        refine ⟨k + 1, by omega, by go_num, ?_, hbl2⟩
        rw [hst.out]
        exact hown2
      case measure => simp [intOf]; omega
    · obtain rfl : k = l.length := by omega
      rw [List.take_length] at hown
      go_wp2
      go_ret
      exact ⟨_, rfl, hown, hbl⟩

end Go.Proofs.Ytccamjnomjcchaa
/- graticulelaw11.Ofs, graticulelaw12.Of; the document's faces in memory. -/
set_option linter.unusedVariables false
set_option linter.unusedSimpArgs false
set_option maxRecDepth 100000
namespace Go.Proofs.Ytccamjnomjcchaa
open Go.RowKit
def PrT (W : World) (x : PC) : Prop := x.Ok W ∧ TypB W x.p 73
def RfT (W : World) (f : Fc) : Prop := f.Ok W ∧ TypB W f.ra 69 ∧ (∀ r ∈ f.rs, PrT W r) ∧ TypB W f.aa 142
def refS (T : TypeId) : Prop := T = 73 ∨ T = 69 ∨ T = 142
theorem PrT.keepS {S : TypeId → Prop} {A B : World} {x : PC} (h : PrT A x) (hS : S 73) (k : KeepS S A B) : PrT B x :=
  ⟨⟨h.1.1.keepS h.2 hS k, h.1.2⟩, h.2.keepS hS k⟩
theorem RfT.keepS {A B : World} {f : Fc} (h : RfT A f) (k : KeepS refS A B) : RfT B f := by
  obtain ⟨⟨h1, h2, h3⟩, t1, t2, t3⟩ := h
  exact ⟨⟨⟨h1.1.keepS t1 (.inr (.inl rfl)) k, h1.2⟩, fun r hr => ((t2 r hr).keepS (.inl rfl) k).1, ⟨h3.1.keepS t3 (.inr (.inr rfl)) k, h3.2⟩⟩, t1.keepS (.inr (.inl rfl)) k, fun r hr => (t2 r hr).keepS (.inl rfl) k, t3.keepS (.inr (.inr rfl)) k⟩
theorem RfT.keep {A B : World} {f : Fc} (h : RfT A f) (hb : Below A.heap.size A B) : RfT B f := h.keepS (KeepS.of_below hb)
theorem PrT.keep {A B : World} {f : PC} (h : PrT A f) (hb : Below A.heap.size A B) : PrT B f := h.keepS (S := refS) (.inl rfl) (KeepS.of_below hb)
theorem refS_face : ¬ refS 58 := by unfold refS; decide
theorem Try.infoRA : (Try.prog.info? 142).map (fun i => (i.zero, i.size, i.bytes)) = some (some (.agg #[.string ⟨#[]⟩, .int .i64 0, .string ⟨#[]⟩, .int .i64 0]), 4, 48) := by kernel_rfl
theorem Try.infoRF : (Try.prog.info? 58).map (fun i => (i.zero, i.size, i.bytes)) = some (some (.agg #[.slice none 0 0, .slice none 0 0]), 2, 48) := by kernel_rfl
theorem Try.infoRR : (Try.prog.info? 69).map (fun i => (i.zero, i.size, i.bytes)) = some (some (.slice none 0 0), 1, 24) := by kernel_rfl

set_option maxHeartbeats 3200000 in
theorem ofs11_any (a : Option Addr) (c : Nat) (l : List At) (hn : l.length ≤ 100000) (w : World) (hr : Rd w a (ats l)) :
    Calls Try.prog 53 #[.slice a l.length c] w fun e w' => ∃ v, e = .returned v ∧ w'.ownsRow w.heap.size 142 4 v l.length (ats l) ∧ Below w.heap.size w w' := by
  have HR := Lib.hid hr
  obtain ⟨N, hN⟩ : ∃ N, l.length = N := ⟨_, rfl⟩
  have HN := Lib.hid hN
  have HTA : Hid (ats (l.take N) = ats l) := Lib.hid (by rw [← hN, List.take_length])
  rw [hN] at hn ⊢
  clear hr hN
  go_enter Try.func53, Try.ntmps53
  go_wp2
  go_loopw [3, 4] (fun o i wr => ∃ k : Nat, k ≤ N ∧ i = .int .i64 k ∧ wr.ownsRow w.heap.size 142 4 o k (ats (l.take k)) ∧ Below w.heap.size w wr) (fun _ i _ => N - (intOf i).toNat)
  case atStart => exact ⟨0, by omega, rfl, World.ownsRow_nil _ _ _ _, Below.refl _ _⟩
  case round =>
    obtain ⟨i, hi, rfl, ho, hbl⟩ := hrel
    by_cases h1 : i < N
    · have h1' : (i : Int) < (N : Int) := by omega
      have hil : i < l.length := by rw [HN.out]; exact h1
      obtain ⟨b1, o1, rfl, hbb, c0, c1, c2, c3⟩ := HR.out.atr i hil
      have HSN : Hid (ats (l.take (i + 1)) = ats (l.take i) ++ [.string l[i].key, .int .i64 l[i].kind, .string l[i].text, .int .i64 l[i].n]) := Lib.hid (by
        rw [List.take_succ_eq_append_getElem hil, ats_snoc]; rfl)
      generalize l[i].key = K1 at *
      generalize l[i].kind = kd at *
      generalize l[i].text = T1 at *
      generalize l[i].n = nn at *
      go_wp2
      refine wp_region_lit_txt [0, 1, 2, 3, 4, 5, 6, 7, 8, 9, 10, 11, 14] (fun W => Below w.heap.size w W) (by kernel_rfl) (by kernel_rfl) (by kernel_rfl) (hbl.drew) ?_
      iterate 5 ((refine txt_light ?_ rfl rfl ?_ ?_; rotate_left; · (intro w' hS; (try dsimp only at hS); go_simp; with_reducible rfl)); try simp only [Act.put, List.getElem_toArray, List.getElem_cons_succ, List.getElem_cons_zero, List.setIfInBounds_toArray, List.set_cons_zero, List.set_cons_succ])
      refine txt_light (.string K1) rfl rfl ?_ ?_
      · intro w' hS
        have e0 := (hS.cell (p := ⟨b1, o1 + i * 4, none⟩) hbb).trans c0
        clear hS
        go_simp
      try simp only [Act.put, List.getElem_toArray, List.getElem_cons_succ, List.getElem_cons_zero, List.setIfInBounds_toArray, List.set_cons_zero, List.set_cons_succ]
      iterate 4 ((refine txt_light ?_ rfl rfl ?_ ?_; rotate_left; · (intro w' hS; (try dsimp only at hS); go_simp; with_reducible rfl)); try simp only [Act.put, List.getElem_toArray, List.getElem_cons_succ, List.getElem_cons_zero, List.setIfInBounds_toArray, List.set_cons_zero, List.set_cons_succ])
      refine txt_light (.agg #[.int .i64 kd, .string T1, .int .i64 nn]) rfl rfl ?_ ?_
      · intro w' hS
        have e1 := (hS.cell (p := ⟨b1, o1 + i * 4 + 1, none⟩) hbb).trans c1
        have e2 := (hS.cell (p := ⟨b1, o1 + i * 4 + 2, none⟩) hbb).trans c2
        have e3 := (hS.cell (p := ⟨b1, o1 + i * 4 + 3, none⟩) hbb).trans c3
        clear hS
        go_simp
      try simp only [Act.put, List.getElem_toArray, List.getElem_cons_succ, List.getElem_cons_zero, List.setIfInBounds_toArray, List.set_cons_zero, List.set_cons_succ]
      refine txt_light (.agg #[.string K1, .int .i64 kd, .string T1, .int .i64 nn]) rfl rfl ?_ ?_
      · intro w' hS
        clear hS
        go_simp
      try simp only [Act.put, List.getElem_toArray, List.getElem_cons_succ, List.getElem_cons_zero, List.setIfInBounds_toArray, List.set_cons_zero, List.set_cons_succ]
      have ho0 : wr.drew.ownsRow w.heap.size 142 4 u3 i (ats (l.take i)) := ho
      have hbd : Below w.heap.size w wr.drew := hbl.drew
      generalize wr.drew = W1 at *
      refine txt_heavy rfl rfl (fun K hK => ?_)
      go_step
      have ho2 := ho0.below (Below.new W1 (.cells #[.string K1, .int .i64 kd, .string T1, .int .i64 nn] 142))
      have hb2 := hbd.alloc hbd.size (.cells #[.string K1, .int .i64 kd, .string T1, .int .i64 nn] 142)
      have rd := Rd.lit W1 W1.heap.size [.string K1, .int .i64 kd, .string T1, .int .i64 nn] 142 rfl
      refine hK.out _ _ hb2 ?_
      clear hK K ho0 hbd
      generalize W1.alloc (.cells #[.string K1, .int .i64 kd, .string T1, .int .i64 nn] 142) = W2 at *
      try simp only [Act.put, List.getElem_toArray, List.getElem_cons_succ, List.getElem_cons_zero, List.setIfInBounds_toArray, List.set_cons_zero, List.set_cons_succ]
      refine txt_app w hb2 rfl rfl (.tmp 11) (.tmp 23) 56 rfl 142 (.agg #[.string ⟨#[]⟩, .int .i64 0, .string ⟨#[]⟩, .int .i64 0]) 4 48 Try.underlying56 Try.infoRA rfl (by decide) u3 i (ats (l.take i)) rfl ho2 (some ⟨W1.heap.size, 0, none⟩) 1 1 [.string K1, .int .i64 kd, .string T1, .int .i64 nn] rfl (fun h => by cases h) rd rfl (by simp [Value.oneCell']) (by omega) (by decide) ?_
      intro v3 W3 ho3 hg3 hb3
      refine ⟨hb3, ?_⟩
      try simp only [Act.put, List.getElem_toArray, List.getElem_cons_succ, List.getElem_cons_zero, List.setIfInBounds_toArray, List.set_cons_zero, List.set_cons_succ]
      (refine txt_light ?_ rfl rfl ?_ ?_; rotate_left; · (intro w' hS; (try dsimp only at hS); go_simp; with_reducible rfl)); try simp only [Act.put, List.getElem_toArray, List.getElem_cons_succ, List.getElem_cons_zero, List.setIfInBounds_toArray, List.set_cons_zero, List.set_cons_succ]
      refine txt_nil ?_
      clear c0 c1 c2 c3 ho2 hb2 hg3 rd
      have HO9 : Hid (W3.ownsRow w.heap.size 142 4 v3 (i + 1) (ats (l.take (i + 1)))) := Lib.hid (by rw [HSN.out]; exact ho3)
      clear ho3
      go_wp2
      exact ⟨⟨i + 1, by omega, by go_num, HO9.out, hb3⟩, by simp [intOf]; omega⟩
    · obtain rfl : i = N := by omega
      rw [HTA.out] at ho
      go_wp2
      go_ret
      exact ⟨u3, rfl, ho, hbl⟩

set_option maxHeartbeats 12800000 in
theorem of12_any (f : Fc) (hn : f.rs.length ≤ 1000) (hl : ∀ r ∈ f.rs, r.l.length ≤ 1000) (ha : f.ls.length ≤ 1000) (w : World) (hok : f.Ok w) :
    Calls Try.prog 26 #[f.val] w fun e w' => ∃ g : Fc, e = .returned g.val ∧ RfT w' g ∧ g.rings = f.rings ∧ g.ls = f.ls ∧ Below w.heap.size w w' := by
  have HLL := Lib.hid hl
  have HOK := Lib.hid hok
  obtain ⟨rs, ra, rc, ls, aa, ac⟩ := f
  dsimp only [Fc.val, Fc.rval, Fc.aval] at *
  have HCT := Lib.hid (fun (W : World) (h : Rd W aa (ats ls)) => ofs11_any aa ac ls (by omega) W h)
  obtain ⟨AN, hAN⟩ : ∃ A, ls.length = A := ⟨_, rfl⟩
  have HAN := Lib.hid hAN
  rw [hAN] at HCT ha ⊢
  obtain ⟨RN, hRN⟩ : ∃ R, rs.length = R := ⟨_, rfl⟩
  have HRN := Lib.hid hRN
  rw [hRN] at hn ⊢
  have HTA : Hid (rs.take RN = rs) := Lib.hid (by rw [← hRN, List.take_length])
  clear hRN hAN hok hl
  obtain ⟨B, hB⟩ : ∃ B, w.heap.size = B := ⟨_, rfl⟩
  have HBE := Lib.hid hB
  have k1 := (Blk.lit w B [.slice ra RN rc, .slice aa AN ac] 38 hB).alloc (.cells #[.slice none 0 0, .slice none 0 0] 58)
  have k2 := Blk.lit (w.alloc (.cells #[.slice ra RN rc, .slice aa AN ac] 38)) (B + 1) [.slice none 0 0, .slice none 0 0] 58 (by simp [hB])
  have hb0 := (Below.new w (.cells #[.slice ra RN rc, .slice aa AN ac] 38)).alloc (by simp) (.cells #[.slice none 0 0, .slice none 0 0] 58)
  have kT : ((w.alloc (.cells #[.slice ra RN rc, .slice aa AN ac] 38)).alloc (.cells #[.slice none 0 0, .slice none 0 0] 58)).heap[B + 1]? = some (.cells #[.slice none 0 0, .slice none 0 0] 58 (0, 0)) := by
    have := heap_alloc_new (w.alloc (.cells #[.slice ra RN rc, .slice aa AN ac] 38)) (.cells #[.slice none 0 0, .slice none 0 0] 58)
    rw [show (w.alloc (.cells #[.slice ra RN rc, .slice aa AN ac] 38)).heap.size = B + 1 by simp [hB]] at this
    exact this
  have x0 := k1.cell 0 rfl
  have x1 := k1.cell 1 rfl
  have HKT := Lib.hid kT
  clear kT
  go_enter Try.func26, Try.ntmps26
  go_wp2_with fail
  generalize hwA : (w.alloc (.cells #[.slice ra RN rc, .slice aa AN ac] 38)).alloc (.cells #[.slice none 0 0, .slice none 0 0] 58) = wA at *
  rw [hB] at hb0
  have hsA := k2.lt
  clear hwA hB
  refine (HCT.out _ (HOK.out.2.2.1.keep (hb0.mono (by rw [HBE.out]; exact Nat.le_refl _)))).mono ?_
  rintro e wB ⟨va, rfl, hoa, hxB⟩
  try dsimp only at hoa
  clear HCT
  obtain ⟨aa2, ac2, rfl, hac1, hac2, hac3, har, -⟩ := hoa.form
  have hat := TypB.of_owns hoa
  have HKT := Lib.hid ((hxB.block _ hsA).trans HKT.out)
  have k1 := k1.keep hxB
  have k2 := k2.keep hxB
  have hbB := hb0.trans (hxB.mono (by omega))
  clear x0 x1 hoa hxB hb0
  have k1' := k1.alloc (.cells #[.slice none 0 0, .slice aa2 AN ac2] 58)
  have k2' := k2.alloc (.cells #[.slice none 0 0, .slice aa2 AN ac2] 58)
  have kF : (wB.alloc (.cells #[.slice none 0 0, .slice aa2 AN ac2] 58)).heap[wB.heap.size]? = some (.cells #[.slice none 0 0, .slice aa2 AN ac2] 58 (0, 0)) := heap_alloc_new wB _
  have hbC := Below.new wB (.cells #[.slice none 0 0, .slice aa2 AN ac2] 58)
  have hsB : B + 1 < wB.heap.size := k2.lt
  have y0 := k1.cell 0 rfl
  have y1 := k2.cell 0 rfl
  have y2 := k2.cell 1 rfl
  have z0 := k2.free 0
  have z1 := k2.free 1
  go_wp2
  go_loopw [4] (fun k W => ∃ (j : Nat) (q : List PC) (v : Value), j ≤ RN ∧ k = .int .i64 j ∧ q.length = j ∧ Hid (q.map PC.l = (rs.take j).map PC.l) ∧ Hid (W.heap[wB.heap.size]? = some (.cells #[v, .slice aa2 AN ac2] 58 (0, 0))) ∧ W.ownsRow wB.heap.size 69 1 v j (rcs q) ∧ Hid (∀ r ∈ q, PrT W r) ∧ Below wB.heap.size wB W) (fun k _ => RN - (intOf k).toNat)
  case atStart => exact ⟨0, [], .slice none 0 0, by omega, rfl, rfl, Lib.hid rfl, Lib.hid kF, World.ownsRow_nil _ _ _ _, Lib.hid (by simp), hbC⟩
  case round =>
    obtain ⟨j, q, v, hj, rfl, hql, HSR, HKF, hor, HPT, hbr⟩ := hrel
    have e0 := (hbr.cell (p := ⟨B, 0, none⟩) (by dsimp only; omega)).trans y0
    by_cases r1 : j < RN
    · have r1' : (j : Int) < (RN : Int) := by omega
      have hjl : j < rs.length := by rw [HRN.out]; exact r1
      have hbw := hbB.trans (hbr.mono (by omega))
      have hbw' : Below w.heap.size w wr := hbw.mono (by rw [HBE.out]; exact Nat.le_refl _)
      obtain ⟨b2, o2, rfl, hb2, d0⟩ := HOK.out.1.1.rc j hjl
      rw [HBE.out] at hb2
      have HRO := Lib.hid ((HOK.out.2.1 _ (List.getElem_mem hjl)).keep hbw')
      have HRS : Hid ((rs.take (j + 1)).map PC.l = (rs.take j).map PC.l ++ [rs[j].l]) := Lib.hid (by
        rw [List.take_succ_eq_append_getElem hjl, List.map_append, List.map_singleton])
      have HLR := HLL.out _ (List.getElem_mem hjl)
      have HLO := Lib.hid (fun W (h : Rd W rs[j].p (pts rs[j].l)) => lofs_any rs[j].p rs[j].c rs[j].l (by omega) W h)
      generalize rs[j] = R at *
      obtain ⟨L, Rp, Rc⟩ := R
      obtain ⟨LN, hLN⟩ : ∃ R, L.length = R := ⟨_, rfl⟩
      have HLN := Lib.hid hLN
      dsimp only [PC.val] at d0 HLR HLO
      rw [hLN] at d0 HLR HLO
      clear hLN
      have d1 := (hbB.cell (p := ⟨b2, o2 + j, none⟩) hb2).trans d0
      have hb2w : b2 < wB.heap.size := by omega
      clear d0
      go_wp2
      refine wp_region_lit_txtZ (some 11) [0, 1, 2, 3, 4, 5, 6, 10] (fun W => W.heap[wB.heap.size]? = some (.cells #[v, .slice aa2 AN ac2] 58 (0, 0)) ∧ Below wB.heap.size wB W) (by kernel_rfl) (by kernel_rfl) (by kernel_rfl) (by kernel_rfl) ⟨HKF.out, hbr.drew⟩ ?_
      (refine txt_light ?_ rfl rfl ?_ ?_; rotate_left; · (intro w' hS; (try dsimp only at hS); go_simp; with_reducible rfl)); try simp only [Act.put, List.getElem_toArray, List.getElem_cons_succ, List.getElem_cons_zero, List.setIfInBounds_toArray, List.set_cons_zero, List.set_cons_succ]
      refine txt_light (v) rfl rfl ?_ ?_
      · intro w' hS
        obtain ⟨hS1, hS2⟩ := hS
        have c7 : w'.cell? ⟨wB.heap.size, 0, none⟩ = some v := by simp [World.cell?, hS1]
        clear hS1 hS2
        go_simp
      try simp only [Act.put, List.getElem_toArray, List.getElem_cons_succ, List.getElem_cons_zero, List.setIfInBounds_toArray, List.set_cons_zero, List.set_cons_succ]
      (refine txt_light ?_ rfl rfl ?_ ?_; rotate_left; · (intro w' hS; (try dsimp only at hS); go_simp; with_reducible rfl)); try simp only [Act.put, List.getElem_toArray, List.getElem_cons_succ, List.getElem_cons_zero, List.setIfInBounds_toArray, List.set_cons_zero, List.set_cons_succ]
      refine txt_light (.slice (some ⟨b2, o2, none⟩) RN rc) rfl rfl ?_ ?_
      · intro w' hS
        obtain ⟨hS1, hS2⟩ := hS
        have c7 := (hS2.cell (p := ⟨B, 0, none⟩) (by dsimp only; omega)).trans y0
        clear hS1 hS2
        go_simp
      try simp only [Act.put, List.getElem_toArray, List.getElem_cons_succ, List.getElem_cons_zero, List.setIfInBounds_toArray, List.set_cons_zero, List.set_cons_succ]
      iterate 2 ((refine txt_light ?_ rfl rfl ?_ ?_; rotate_left; · (intro w' hS; (try dsimp only at hS); go_simp; with_reducible rfl)); try simp only [Act.put, List.getElem_toArray, List.getElem_cons_succ, List.getElem_cons_zero, List.setIfInBounds_toArray, List.set_cons_zero, List.set_cons_succ])
      refine txt_light (.slice Rp LN Rc) rfl rfl ?_ ?_
      · intro w' hS
        obtain ⟨hS1, hS2⟩ := hS
        have c7 := (hS2.cell (p := ⟨b2, o2 + j, none⟩) hb2w).trans d1
        clear hS1 hS2
        go_simp
      try simp only [Act.put, List.getElem_toArray, List.getElem_cons_succ, List.getElem_cons_zero, List.setIfInBounds_toArray, List.set_cons_zero, List.set_cons_succ]
      have HK0 : Hid (wr.drew.heap[wB.heap.size]? = some (.cells #[v, .slice aa2 AN ac2] 58 (0, 0))) := HKF
      have hbd : Below wB.heap.size wB wr.drew := hbr.drew
      have hor0 : wr.drew.ownsRow wB.heap.size 69 1 v j (rcs q) := hor
      have HP0 : Hid (∀ r ∈ q, PrT wr.drew r) := HPT
      have hrL : Rd wr.drew Rp (pts L) := HRO.out.1
      clear hor HKF HPT hbr e0
      generalize wr.drew = W0 at *
      refine txt_heavy rfl rfl (fun K hK => ?_)
      go_step
      refine (HLO.out W0 hrL).mono ?_
      rintro e W2 ⟨v2, rfl, ho2, hb2x⟩
      dsimp only
      have hlW : wB.heap.size < W0.heap.size := (Array.getElem?_eq_some_iff.1 HK0.out).1
      have HK2 : Hid (W2.heap[wB.heap.size]? = some (.cells #[v, .slice aa2 AN ac2] 58 (0, 0))) := Lib.hid ((hb2x.block _ hlW).trans HK0.out)
      have hbd2 := hbd.trans (hb2x.mono hbd.size)
      refine hK.out _ _ ⟨HK2.out, hbd2⟩ ?_
      have hor2 := hor0.below hb2x
      have HP2 : Hid (∀ r ∈ q, PrT W2 r) := Lib.hid (fun r hr => (HP0.out r hr).keep hb2x)
      obtain ⟨p2, k2, rfl, f1, f2, f3, f4, -⟩ := ho2.form
      have HPN : Hid (PrT W2 ⟨L, p2, k2⟩) := Lib.hid ⟨⟨f4, by dsimp only; rw [HLN.out]; exact f1, f2, f3⟩, TypB.of_owns ho2⟩
      clear hK K hrL hor0 HK0 HP0
      try simp only [Act.put, List.getElem_toArray, List.getElem_cons_succ, List.getElem_cons_zero, List.setIfInBounds_toArray, List.set_cons_zero, List.set_cons_succ]
      refine txt_heavy rfl rfl (fun K hK => ?_)
      go_step
      have hlX : wB.heap.size < W2.heap.size := (Array.getElem?_eq_some_iff.1 HK2.out).1
      have hb3 := hbd2.alloc (by omega) (.cells #[.slice p2 LN k2] 69)
      have hx3 := Below.new W2 (.cells #[.slice p2 LN k2] 69)
      have k3 : (W2.alloc (.cells #[.slice p2 LN k2] 69)).heap[wB.heap.size]? = some (.cells #[v, .slice aa2 AN ac2] 58 (0, 0)) := (Below.heap_alloc _ _ _ hlX).trans HK2.out
      have rd := Rd.lit W2 W2.heap.size [.slice p2 LN k2] 69 rfl
      have hor3 := hor2.below hx3
      have HP3 : Hid (∀ r ∈ q, PrT (W2.alloc (.cells #[.slice p2 LN k2] 69)) r) := Lib.hid (fun r hr => (HP2.out r hr).keep hx3)
      have HPN3 := Lib.hid (HPN.out.keep hx3)
      have HK3 := Lib.hid k3
      refine hK.out _ _ ⟨k3, hb3⟩ ?_
      clear hK K k3 hx3 ho2 hor2 HP2 HPN HK2 hbd2 hb2x hlX
      generalize W2.alloc (.cells #[.slice p2 LN k2] 69) = W3 at *
      try simp only [Act.put, List.getElem_toArray, List.getElem_cons_succ, List.getElem_cons_zero, List.setIfInBounds_toArray, List.set_cons_zero, List.set_cons_succ]
      refine txt_app wB hb3 rfl rfl (.tmp 17) (.tmp 24) 55 rfl 69 (.slice none 0 0) 1 24 Try.underlying55 Try.infoRR rfl (by decide) v j (rcs q) rfl hor3 (some ⟨W2.heap.size, 0, none⟩) 1 1 [.slice p2 LN k2] rfl (fun h => by cases h) rd rfl (by simp [Value.oneCell']) (by omega) (by decide) ?_
      intro v3 W4 ho4 hg4 hb4
      have HK4 : Hid (W4.heap[wB.heap.size]? = some (.cells #[v, .slice aa2 AN ac2] 58 (0, 0))) := Lib.hid (((KeepS.of_row (S := fun T => T = 58) hor3 (by decide) hg4).2 _ _ _ _ HK3.out rfl).trans HK3.out)
      have HKS := Lib.hid (KeepS.of_row (S := fun T => T = 73) hor3 (by decide) hg4)
      have HP4 : Hid (∀ r ∈ q ++ [⟨L, p2, k2⟩], PrT W4 r) := Lib.hid (fun r hr => by
        rcases List.mem_append.1 hr with hr | hr
        · exact (HP3.out r hr).keepS (S := fun T => T = 73) rfl HKS.out
        · rw [List.mem_singleton.1 hr]; exact HPN3.out.keepS (S := fun T => T = 73) rfl HKS.out)
      have hqc : rcs q ++ [.slice p2 LN k2] = rcs (q ++ [⟨L, p2, k2⟩]) := by rw [rcs_snoc]; simp [PC.val, HLN.out]
      rw [hqc] at ho4
      obtain ⟨p3, k3, rfl, -⟩ := ho4.form
      refine ⟨⟨HK4.out, hb4⟩, ?_⟩
      clear hor3 HP3 HPN3 HK3 HKS hg4 rd hb3 hqc
      try simp only [Act.put, List.getElem_toArray, List.getElem_cons_succ, List.getElem_cons_zero, List.setIfInBounds_toArray, List.set_cons_zero, List.set_cons_succ]
      (refine txt_light ?_ rfl rfl ?_ ?_; rotate_left; · (intro w' hS; (try dsimp only at hS); go_simp; with_reducible rfl)); try simp only [Act.put, List.getElem_toArray, List.getElem_cons_succ, List.getElem_cons_zero, List.setIfInBounds_toArray, List.set_cons_zero, List.set_cons_succ]
      refine txt_last rfl rfl rfl (fun K hK => ?_)
      have c7 : W4.cell? ⟨wB.heap.size, 0, none⟩ = some v := by simp [World.cell?, HK4.out]
      have c8 : W4.frozen? ⟨wB.heap.size, 0, none⟩ = false := by simp [World.frozen?, HK4.out]
      go_step
      refine hK.out _ _ ?_
      refine txt_nil ?_
      have HK5 : Hid ((W4.setCell ⟨wB.heap.size, 0, none⟩ (.slice p3 (j + 1) k3)).heap[wB.heap.size]? = some (.cells #[.slice p3 (j + 1) k3, .slice aa2 AN ac2] 58 (0, 0))) := Lib.hid (blkT_set (vs := [v, .slice aa2 AN ac2]) HK4.out 0 _)
      have ho5 := ownsRow_box ho4 HK4.out (by decide) 0 (.slice p3 (j + 1) k3)
      have HP5 : Hid (∀ r ∈ q ++ [⟨L, p2, k2⟩], PrT (W4.setCell ⟨wB.heap.size, 0, none⟩ (.slice p3 (j + 1) k3)) r) := Lib.hid (fun r hr => (HP4.out r hr).keepS (S := fun T => T = 73) rfl (KeepS.store HK4.out (by decide) _))
      have hb5 := hb4.setCell (p := ⟨wB.heap.size, 0, none⟩) (Nat.le_refl _) (.slice p3 (j + 1) k3)
      have HSQ : Hid ((q ++ [(⟨L, p2, k2⟩ : PC)]).map PC.l = (rs.take (j + 1)).map PC.l) := Lib.hid (by
        rw [HRS.out, List.map_append, HSR.out]; rfl)
      have hql5 : (q ++ [(⟨L, p2, k2⟩ : PC)]).length = j + 1 := by simp [hql]
      clear hK K c7 c8 ho4 HP4 hb4 HK4 HRS HSR HRO HLN f1 f2 f3 f4 hbd
      generalize q ++ [(⟨L, p2, k2⟩ : PC)] = q5 at *
      generalize W4.setCell ⟨wB.heap.size, 0, none⟩ (.slice p3 (j + 1) k3) = W5 at *
      go_wp2
      exact ⟨⟨j + 1, q5, .slice p3 (j + 1) k3, by omega, by go_num, hql5, HSQ, HK5, ho5, HP5, hb5⟩, by simp [intOf]; omega⟩
    · have r1' : ¬ (j : Int) < (RN : Int) := by omega
      have hjN : j = RN := by omega
      subst hjN
      obtain ⟨p3, k3, rfl, g1, g2, g3, g4, -⟩ := hor.form
      have e6 : wr.cell? ⟨wB.heap.size, 0, none⟩ = some (.slice p3 j k3) := by simp [World.cell?, HKF.out]
      have e7 : wr.cell? ⟨wB.heap.size, 0 + 1, none⟩ = some (.slice aa2 AN ac2) := by simp [World.cell?, HKF.out]
      have k3' := k2.keep (hbr.mono (Nat.le_refl _))
      have y1 := k3'.cell 0 rfl
      have y2 := k3'.cell 1 rfl
      have z0 := k3'.free 0
      have z1 := k3'.free 1
      have hbw := hbB.trans (hbr.mono (by omega))
      have HKT := Lib.hid ((hbr.block _ hsB).trans HKT.out)
      have s1 := (k3'.set 0 (.slice p3 j k3)).set 1 (.slice aa2 AN ac2)
      have s2 := s1.cell 0 rfl
      have s3 := s1.cell 1 rfl
      have hbZ := (hbw.setCell (p := ⟨B + 1, 0, none⟩) (by dsimp only; omega) (.slice p3 j k3)).setCell (p := ⟨B + 1, 1, none⟩) (by dsimp only; omega) (.slice aa2 AN ac2)
      have hat2 := hat.keepS (S := fun _ => True) trivial (KeepS.of_below hbr)
      have har2 := har.keep hbr
      have HRF : Hid (RfT wr ⟨q, p3, k3, ls, aa2, ac2⟩) := Lib.hid ⟨⟨⟨g4, by dsimp only; rw [hql]; exact g1, g2, g3⟩, fun r hr => (HPT.out r hr).1, ⟨har2, by dsimp only; rw [HAN.out]; exact hac1, hac2, hac3⟩⟩, TypB.of_owns hor, HPT.out, hat2⟩
      have HRF2 := Lib.hid (HRF.out.keepS (KeepS.store (p := ⟨B + 1, 0, none⟩) HKT.out refS_face (.slice p3 j k3)))
      have HRF3 := Lib.hid (HRF2.out.keepS (KeepS.store (p := ⟨B + 1, 1, none⟩) (blkT_set (vs := [.slice none 0 0, .slice none 0 0]) HKT.out 0 (.slice p3 j k3)) refS_face (.slice aa2 AN ac2)))
      have HRE : Hid (q.map PC.l = rs.map PC.l) := Lib.hid (by rw [HSR.out, HTA.out])
      clear hor HPT har hat hat2 har2 HRF HRF2 HKT k3' s1 hbr g1 g2 g3 g4 HSR
      go_wp2
      generalize (wr.setCell ⟨B + 1, 0, none⟩ (.slice p3 j k3)).setCell ⟨B + 1, 1, none⟩ (.slice aa2 AN ac2) = Z at *
      refine bodyPost_ret (v := .agg #[.slice p3 j k3, .slice aa2 AN ac2]) (by simp [results, Try.results26, go_sem, s2, s3]) rfl ⟨⟨q, p3, k3, ls, aa2, ac2⟩, by dsimp only; rw [hql, HAN.out], HRF3.out, HRE.out, rfl, by rw [HBE.out]; exact hbZ⟩
end Go.Proofs.Ytccamjnomjcchaa
