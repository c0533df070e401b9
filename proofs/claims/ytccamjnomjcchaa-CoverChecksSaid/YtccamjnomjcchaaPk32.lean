/-
  graticuleref10.Check. graticuleref11.Check. graticuleref12.Check. graticuleref01.All. graticuleref01.Cross.
-/
import Derived.Test.YtccamjnomjcchaaPk28
import Derived.Test.YtccamjnomjcchaaPk31
import Derived.Test.YtccamjnomjcchaaPk29
import Derived.Test.YtccamjnomjcchaaPk22
import Derived.Test.YtccamjnomjcchaaPk9
/- graticuleref10.Check. -/
set_option linter.unusedVariables false
set_option linter.unusedSimpArgs false
set_option maxRecDepth 100000
namespace Go
theorem right_empty : rightF ⟨#[]⟩ = true := rfl
end Go
namespace Go.Proofs.Ytccamjnomjcchaa
open Go.RowKit

set_option maxHeartbeats 6400000 in
theorem rvchk_any (k n : Int) (t : ByteArray) (ht : t.size ≤ 100000) (w : World) :
    Calls Try.prog 98 #[.agg #[.int .i64 k, .string t, .int .i64 n]] w fun e w' => e = .returned (.int .i64 (vcF k t n)) ∧ Below w.heap.size w w' := by
  have HV := Lib.hid (vcF.eq_1 k t n)
  have HRI : ∀ W, Calls Try.prog 113 #[.string t] W fun e w' => ∃ vo va, e = .returned (.tuple #[vo, va, .bool (rightF t)]) ∧ Below W.heap.size W w' := fun W => (rrunes_any t ht W).mono (fun e w' ⟨vo, va, h1, h2, h3, h4⟩ => ⟨vo, va, h1, h4⟩)
  replace HRI := Lib.hid HRI
  have HTE : Hid (t.size = 0 → t = ⟨#[]⟩ ∧ rightF t = true) := Lib.hid (fun h => by
    have : t = ⟨#[]⟩ := by
      apply ByteArray.ext
      exact Array.eq_empty_of_size_eq_zero h
    subst this
    exact ⟨rfl, right_empty⟩)
  have HTN : Hid (t.size ≠ 0 → t.toList.isEmpty = false) := Lib.hid (fun h => by rw [empty_txt]; simp [h])
  generalize vcF k t n = V at *
  obtain ⟨RT, hRT⟩ : ∃ b, rightF t = b := ⟨_, rfl⟩
  rw [hRT] at HV HRI HTE
  clear hRT
  have k1 := Blk.lit w w.heap.size [.int .i64 k, .string t, .int .i64 n] 140 rfl
  have hb0 := Below.new w (.cells #[.int .i64 k, .string t, .int .i64 n] 140)
  obtain ⟨B, hB⟩ : ∃ B, w.heap.size = B := ⟨_, rfl⟩
  have HBE := Lib.hid hB
  rw [hB] at k1
  have x0 := k1.cell 0 rfl
  have x1 := k1.cell 1 rfl
  have x2 := k1.cell 2 rfl
  have hs0 := hb0.size
  go_enter Try.func98, Try.ntmps98
  by_cases hk0 : k < 1
  · have hq := HV.out
    rw [if_neg (by omega), if_neg (by omega), if_neg (by omega), if_neg (by omega)] at hq
    have hV := Lib.hid hq
    clear HV hq
    go_wp2
    go_ret
    exact ⟨ret_int hV.out.symm, by first | exact hb0 | (rw [HBE.out]; exact hb0) | (rw [← HBE.out]; exact hb0)⟩
  · by_cases hk4 : 4 < k
    · have hq := HV.out
      rw [if_neg (by omega), if_neg (by omega), if_neg (by omega), if_neg (by omega)] at hq
      have hV := Lib.hid hq
      clear HV hq
      go_wp2
      go_ret
      exact ⟨ret_int hV.out.symm, by first | exact hb0 | (rw [HBE.out]; exact hb0) | (rw [← HBE.out]; exact hb0)⟩
    · have hk : k = 1 ∨ k = 2 ∨ k = 3 ∨ k = 4 := by omega
      clear hk0 hk4
      rcases hk with rfl | rfl | rfl | rfl
      · have hq := HV.out
        rw [if_pos rfl] at hq
        have hV := Lib.hid hq
        clear HV hq
        by_cases hn : n = 0
        · subst hn
          go_wp2_with fail
          refine (HRI.out _).mono ?_
          rintro e w1 ⟨vo, va, rfl, hb1⟩
          have k2 := k1.keep hb1
          have hbw := hb0.trans (hb1.mono hs0)
          clear x0 x1 x2 hb1
          have x0 := k2.cell 0 rfl
          have x1 := k2.cell 1 rfl
          have x2 := k2.cell 2 rfl
          cases RT with
          | false =>
            go_wp2
            go_ret
            exact ⟨ret_int (by rw [hV.out]; simp), by first | exact hbw | (rw [HBE.out]; exact hbw) | (rw [← HBE.out]; exact hbw)⟩
          | true =>
            by_cases hl : 64 < t.size
            · have hl' : (64 : Int) < (t.size : Int) := by omega
              go_wp2
              go_ret
              exact ⟨ret_int (by rw [hV.out]; simp [hl]), by first | exact hbw | (rw [HBE.out]; exact hbw) | (rw [← HBE.out]; exact hbw)⟩
            · have hl' : ¬ (64 : Int) < (t.size : Int) := by omega
              go_wp2
              go_ret
              exact ⟨ret_int (by rw [hV.out]; simp [hl]), by first | exact hbw | (rw [HBE.out]; exact hbw) | (rw [← HBE.out]; exact hbw)⟩
        · have hn' : (n == 0) = false := by simpa using hn
          go_wp2
          go_ret
          exact ⟨ret_int (by rw [hV.out, if_pos hn]), by first | exact hb0 | (rw [HBE.out]; exact hb0) | (rw [← HBE.out]; exact hb0)⟩
      · have hq := HV.out
        rw [if_neg (by omega), if_neg (by omega), if_pos rfl] at hq
        have hV := Lib.hid hq
        clear HV hq
        by_cases hz : t.size = 0
        · have hq := hV.out
          rw [if_neg (by omega)] at hq
          replace hV := Lib.hid hq
          clear hq
          obtain ⟨rfl, hR⟩ := HTE.out hz
          subst hR
          clear HTE HTN hz
          go_wp2_with fail
          refine (HRI.out _).mono ?_
          rintro e w1 ⟨vo, va, rfl, hb1⟩
          have k2 := k1.keep hb1
          have hbw := hb0.trans (hb1.mono hs0)
          clear x0 x1 x2 hb1
          have x0 := k2.cell 0 rfl
          have x1 := k2.cell 1 rfl
          have x2 := k2.cell 2 rfl
          by_cases ha : n < 0
          · by_cases ha2 : n < -1152921504606846976
            · have ha3 : ¬ 1152921504606846976 < n := by omega
              go_wp2
              go_ret
              exact ⟨ret_int (by rw [hV.out]; simp [ha]), by first | exact hbw | (rw [HBE.out]; exact hbw) | (rw [← HBE.out]; exact hbw)⟩
            · have ha3 : ¬ 1152921504606846976 < n := by omega
              have ha4 : n < 0 := by omega
              go_wp2
              go_ret
              exact ⟨ret_int (by rw [hV.out]; simp [ha]), by first | exact hbw | (rw [HBE.out]; exact hbw) | (rw [← HBE.out]; exact hbw)⟩
          · by_cases hc : 1152921504606846976 < n
            · by_cases hc2 : 1152921504606846976 < n
              · go_wp2
                go_ret
                exact ⟨ret_int (by rw [hV.out]; simp [hc]), by first | exact hbw | (rw [HBE.out]; exact hbw) | (rw [← HBE.out]; exact hbw)⟩
              · exfalso; omega
            · have hc2 : ¬ 1152921504606846976 < n := by omega
              have hc3 : ¬ n < -1152921504606846976 := by omega
              have hq : ¬ (n < 0 ∨ 1152921504606846976 < n) := by omega
              have HQ : Hid (V = 0) := Lib.hid (by rw [hV.out, if_neg hq])
              clear hV hq
              have hc4 : ¬ n < 0 := by omega
              by_cases hc5 : 1 < n
              · go_wp2
                go_ret
                exact ⟨ret_int HQ.out.symm, by first | exact hbw | (rw [HBE.out]; exact hbw) | (rw [← HBE.out]; exact hbw)⟩
              · go_wp2
                go_ret
                exact ⟨ret_int HQ.out.symm, by first | exact hbw | (rw [HBE.out]; exact hbw) | (rw [← HBE.out]; exact hbw)⟩
        · have HQ : Hid (V = 3) := Lib.hid (by rw [hV.out, if_pos hz])
          have hte := HTN.out hz
          go_wp2
          go_ret
          exact ⟨ret_int HQ.out.symm, by first | exact hb0 | (rw [HBE.out]; exact hb0) | (rw [← HBE.out]; exact hb0)⟩
      · have hq := HV.out
        rw [if_neg (by omega), if_pos rfl] at hq
        have hV := Lib.hid hq
        clear HV hq
        by_cases hz : t.size = 0
        · have hq := hV.out
          rw [if_neg (by omega)] at hq
          replace hV := Lib.hid hq
          clear hq
          obtain ⟨rfl, hR⟩ := HTE.out hz
          subst hR
          clear HTE HTN hz
          go_wp2_with fail
          refine (HRI.out _).mono ?_
          rintro e w1 ⟨vo, va, rfl, hb1⟩
          have k2 := k1.keep hb1
          have hbw := hb0.trans (hb1.mono hs0)
          clear x0 x1 x2 hb1
          have x0 := k2.cell 0 rfl
          have x1 := k2.cell 1 rfl
          have x2 := k2.cell 2 rfl
          by_cases ha : n < -1152921504606846976
          · by_cases ha2 : n < -1152921504606846976
            · have ha3 : ¬ 1152921504606846976 < n := by omega
              go_wp2
              go_ret
              exact ⟨ret_int (by rw [hV.out]; simp [ha]), by first | exact hbw | (rw [HBE.out]; exact hbw) | (rw [← HBE.out]; exact hbw)⟩
            · exfalso; omega
          · by_cases hc : 1152921504606846976 < n
            · by_cases hc2 : 1152921504606846976 < n
              · go_wp2
                go_ret
                exact ⟨ret_int (by rw [hV.out]; simp [hc]), by first | exact hbw | (rw [HBE.out]; exact hbw) | (rw [← HBE.out]; exact hbw)⟩
              · exfalso; omega
            · have hc2 : ¬ 1152921504606846976 < n := by omega
              have hc3 : ¬ n < -1152921504606846976 := by omega
              have hq : ¬ (n < -1152921504606846976 ∨ 1152921504606846976 < n) := by omega
              have HQ : Hid (V = 0) := Lib.hid (by rw [hV.out, if_neg hq])
              clear hV hq
              by_cases hc4 : n < 0
              · have hc5 : ¬ 1 < n := by omega
                go_wp2
                go_ret
                exact ⟨ret_int HQ.out.symm, by first | exact hbw | (rw [HBE.out]; exact hbw) | (rw [← HBE.out]; exact hbw)⟩
              · by_cases hc5 : 1 < n
                · go_wp2
                  go_ret
                  exact ⟨ret_int HQ.out.symm, by first | exact hbw | (rw [HBE.out]; exact hbw) | (rw [← HBE.out]; exact hbw)⟩
                · go_wp2
                  go_ret
                  exact ⟨ret_int HQ.out.symm, by first | exact hbw | (rw [HBE.out]; exact hbw) | (rw [← HBE.out]; exact hbw)⟩
        · have HQ : Hid (V = 3) := Lib.hid (by rw [hV.out, if_pos hz])
          have hte := HTN.out hz
          go_wp2
          go_ret
          exact ⟨ret_int HQ.out.symm, by first | exact hb0 | (rw [HBE.out]; exact hb0) | (rw [← HBE.out]; exact hb0)⟩
      · have hq := HV.out
        rw [if_neg (by omega), if_neg (by omega), if_neg (by omega), if_pos rfl] at hq
        have hV := Lib.hid hq
        clear HV hq
        by_cases hz : t.size = 0
        · have hq := hV.out
          rw [if_neg (by omega)] at hq
          replace hV := Lib.hid hq
          clear hq
          obtain ⟨rfl, hR⟩ := HTE.out hz
          subst hR
          clear HTE HTN hz
          go_wp2_with fail
          refine (HRI.out _).mono ?_
          rintro e w1 ⟨vo, va, rfl, hb1⟩
          have k2 := k1.keep hb1
          have hbw := hb0.trans (hb1.mono hs0)
          clear x0 x1 x2 hb1
          have x0 := k2.cell 0 rfl
          have x1 := k2.cell 1 rfl
          have x2 := k2.cell 2 rfl
          by_cases ha : n < 0
          · by_cases ha2 : n < -1152921504606846976
            · have ha3 : ¬ 1152921504606846976 < n := by omega
              go_wp2
              go_ret
              exact ⟨ret_int (by rw [hV.out]; simp [ha]), by first | exact hbw | (rw [HBE.out]; exact hbw) | (rw [← HBE.out]; exact hbw)⟩
            · have ha3 : ¬ 1152921504606846976 < n := by omega
              have ha4 : n < 0 := by omega
              go_wp2
              go_ret
              exact ⟨ret_int (by rw [hV.out]; simp [ha]), by first | exact hbw | (rw [HBE.out]; exact hbw) | (rw [← HBE.out]; exact hbw)⟩
          · by_cases hc : 1 < n
            · by_cases hc2 : 1152921504606846976 < n
              · go_wp2
                go_ret
                exact ⟨ret_int (by rw [hV.out]; simp [hc]), by first | exact hbw | (rw [HBE.out]; exact hbw) | (rw [← HBE.out]; exact hbw)⟩
              · have hc3 : ¬ n < -1152921504606846976 := by omega
                have hc4 : ¬ n < 0 := by omega
                have hc5 : 1 < n := by omega
                go_wp2
                go_ret
                exact ⟨ret_int (by rw [hV.out]; simp [hc]), by first | exact hbw | (rw [HBE.out]; exact hbw) | (rw [← HBE.out]; exact hbw)⟩
            · have hc2 : ¬ 1152921504606846976 < n := by omega
              have hc3 : ¬ n < -1152921504606846976 := by omega
              have hq : ¬ (n < 0 ∨ 1 < n) := by omega
              have HQ : Hid (V = 0) := Lib.hid (by rw [hV.out, if_neg hq])
              clear hV hq
              have hc4 : ¬ n < 0 := by omega
              have hc5 : ¬ 1 < n := by omega
              go_wp2
              go_ret
              exact ⟨ret_int HQ.out.symm, by first | exact hbw | (rw [HBE.out]; exact hbw) | (rw [← HBE.out]; exact hbw)⟩
        · have HQ : Hid (V = 3) := Lib.hid (by rw [hV.out, if_pos hz])
          have hte := HTN.out hz
          go_wp2
          go_ret
          exact ⟨ret_int HQ.out.symm, by first | exact hb0 | (rw [HBE.out]; exact hb0) | (rw [← HBE.out]; exact hb0)⟩
end Go.Proofs.Ytccamjnomjcchaa
/- graticuleref11.Check. -/
set_option linter.unusedVariables false
set_option linter.unusedSimpArgs false
set_option maxRecDepth 100000
namespace Go
open Go.RowKit
def keyL (a : At) : List UInt8 := a.key.data.toList
theorem keyL_eq {a b : ByteArray} : a.data.toList = b.data.toList ↔ a = b := by
  constructor
  · intro h
    cases a with
    | mk x => cases b with
      | mk y => rw [ByteArray.mk.injEq]; exact Array.toList_inj.1 h
  · intro h; rw [h]
end Go
namespace Go.Proofs.Ytccamjnomjcchaa
open Go.RowKit

set_option maxHeartbeats 6400000 in
theorem rtcheck_any (a : Option Addr) (c : Nat) (l : List At) (hn : l.length ≤ 1000) (hok : ∀ x ∈ l, x.key.size ≤ 100000 ∧ x.text.size ≤ 100000) (w : World) (hr : Rd w a (ats l)) :
    Calls Try.prog 71 #[.slice a l.length c] w fun e w' => e = .returned (.int .i64 (tcF l)) ∧ Below w.heap.size w w' := by
  have HR := Lib.hid hr
  have HOK := Lib.hid hok
  have HT : Hid (tcF l = if 8 < l.length then 6 else tcGo ((l.take 0).map keyL).reverse (l.drop 0)) := Lib.hid rfl
  generalize tcF l = TC at *
  obtain ⟨N, hN⟩ : ∃ N, l.length = N := ⟨_, rfl⟩
  have HN := Lib.hid hN
  rw [hN] at HT hn ⊢
  clear hr hok hN
  go_enter Try.func71, Try.ntmps71
  by_cases h8 : 8 < N
  · have h8' : (8 : Int) < (N : Int) := by omega
    go_wp2
    go_ret
    exact ⟨ret_int (by rw [HT.out, if_pos h8]), Below.refl _ _⟩
  · have h8' : ¬ (8 : Int) < (N : Int) := by omega
    have HT2 : Hid (TC = tcGo ((l.take 0).map keyL).reverse (l.drop 0)) := Lib.hid (by rw [HT.out, if_neg h8])
    clear HT
    go_wp2
    go_loopw [3] (fun i wr => ∃ (k : Nat), k ≤ N ∧ i = .int .i64 k ∧ Hid (TC = tcGo ((l.take k).map keyL).reverse (l.drop k)) ∧ Below w.heap.size w wr) (fun i _ => N - (intOf i).toNat)
    case atStart => exact ⟨0, by omega, rfl, HT2, Below.refl _ _⟩
    case round =>
      obtain ⟨k, hk, rfl, HZ, hbl⟩ := hrel
      by_cases h1 : k < N
      · have h1' : (k : Int) < (N : Int) := by omega
        have hkl : k < l.length := by rw [HN.out]; exact h1
        obtain ⟨b1, o1, rfl, hbb, c0, c1, c2, c3⟩ := (HR.out.keep hbl).atr k hkl
        obtain ⟨q1, q2⟩ := HOK.out l[k] (List.getElem_mem hkl)
        have HD : Hid (l.drop k = l[k] :: l.drop (k + 1)) := Lib.hid (List.drop_eq_getElem_cons hkl)
        have HTK : Hid (((l.take (k + 1)).map keyL).reverse = l[k].key.data.toList :: ((l.take k).map keyL).reverse) := Lib.hid (by
          rw [List.take_succ_eq_append_getElem hkl, List.map_append, List.reverse_append]; rfl)
        have HMEM : Hid (l[k].key.data.toList ∈ ((l.take k).map keyL).reverse ↔ ∃ j, ∃ h : j < l.length, j < k ∧ l[j].key = l[k].key) := Lib.hid (by
          rw [List.mem_reverse, List.mem_map]
          constructor
          · rintro ⟨x, hx, he⟩
            obtain ⟨j, hj, rfl⟩ := List.mem_iff_getElem.1 hx
            have hj2 := hj
            rw [List.length_take] at hj2
            refine ⟨j, by omega, by omega, ?_⟩
            rw [List.getElem_take] at he
            exact keyL_eq.1 he
          · rintro ⟨j, hj, hjk, he⟩
            refine ⟨l[j], ?_, keyL_eq.2 he⟩
            exact List.mem_iff_getElem.2 ⟨j, by rw [List.length_take]; omega, by rw [List.getElem_take]⟩)
        have HZ2 : Hid (TC = if nameF l[k].key = false then 13 else if vcF l[k].kind l[k].text l[k].n ≠ 0 then vcF l[k].kind l[k].text l[k].n else if l[k].key.data.toList ∈ ((l.take k).map keyL).reverse then 8 else tcGo ((l.take (k + 1)).map keyL).reverse (l.drop (k + 1))) := Lib.hid (by
          rw [HZ.out, HD.out, HTK.out]; rfl)
        have HNA := Lib.hid (fun W => rname_any l[k].key q1 W)
        have HVC := Lib.hid (fun W => rvchk_any l[k].kind l[k].n l[k].text q2 W)
        clear HTK HD HZ q1 q2
        generalize nameF l[k].key = NM at *
        generalize vcF l[k].kind l[k].text l[k].n = VC at *
        generalize l[k].key = KY at *
        generalize l[k].kind = kd at *
        generalize l[k].text = TX at *
        generalize l[k].n = nn at *
        have hs := hbl.size
        go_wp2_with fail
        refine (HNA.out _).mono ?_
        rintro e W2 ⟨rfl, hx2⟩
        have hb2 := hbl.trans (hx2.mono hs)
        have c0 := (hx2.cell (p := ⟨b1, o1 + k * 4, none⟩) hbb).trans c0
        have c1 := (hx2.cell (p := ⟨b1, o1 + k * 4 + 1, none⟩) hbb).trans c1
        have c2 := (hx2.cell (p := ⟨b1, o1 + k * 4 + 2, none⟩) hbb).trans c2
        have c3 := (hx2.cell (p := ⟨b1, o1 + k * 4 + 3, none⟩) hbb).trans c3
        have hbb2 : b1 < W2.heap.size := Nat.lt_of_lt_of_le hbb hx2.size
        clear hx2
        cases NM with
        | false =>
          go_wp2
          go_ret
          exact ⟨ret_int (by rw [HZ2.out]; simp), hb2⟩
        | true =>
          go_wp2_with fail
          refine (HVC.out W2).mono ?_
          rintro e W3 ⟨rfl, hx3⟩
          have hb3 := hb2.trans (hx3.mono hb2.size)
          have c0 := (hx3.cell (p := ⟨b1, o1 + k * 4, none⟩) hbb2).trans c0
          clear c1 c2 c3 hx3 hbb2
          by_cases hv : VC = 0
          · subst hv
            go_wp2
            go_loopw [5] (fun j W => ∃ (m q : Nat), m ≤ k ∧ j = .int .i64 m ∧ Hid (∀ j', j' < m → ∀ h : j' < l.length, ¬ l[j'].key = KY) ∧ W = W3.drewN q) (fun j _ => k - (intOf j).toNat)
            case atStart => exact ⟨0, 0, by omega, rfl, Lib.hid (fun j' h => absurd h (by omega)), rfl⟩
            case round =>
              obtain ⟨m, q, hm, rfl, HNO, rfl⟩ := hrel
              have hbX := below_drewN hb3 q
              by_cases h2 : m < k
              · have h2' : (m : Int) < (k : Int) := by omega
                have h2n : (m : Int) < (N : Int) := by omega
                have hml : m < l.length := by omega
                obtain ⟨b2, o2, e, hb2x, d0, d1, d2, d3⟩ := (HR.out.keep hb3).atr m hml
                cases e
                clear d1 d2 d3
                by_cases he : l[m].key = KY
                · have HV : Hid (TC = 8) := Lib.hid (by rw [HZ2.out, if_neg (by simp), if_neg (by simp), if_pos (HMEM.out.2 ⟨m, hml, h2, he⟩)])
                  rw [he] at d0
                  clear he
                  go_wp2
                  go_quiet (fail)
                  go_wp2
                  go_ret
                  exact ⟨ret_int HV.out.symm, below_drewN hbX _⟩
                · have HNO2 : Hid (∀ j', j' < m + 1 → ∀ h : j' < l.length, ¬ l[j'].key = KY) := Lib.hid (fun j' h' h => by
                    by_cases hj : j' = m
                    · subst hj; exact he
                    · exact HNO.out j' (by omega) h)
                  generalize l[m].key = KM at *
                  have he1 : (KM.toList == KY.toList) = false := by
                    rw [ByteArray.toList_eq, ByteArray.toList_eq, beq_eq_false_iff_ne]
                    exact fun h => he (keyL_eq.1 h)
                  go_wp2
                  go_quiet (fail)
                  go_wp2
                  exact ⟨⟨m + 1, _, by omega, by go_num, HNO2, rfl⟩, by simp [intOf]; omega⟩
              · have hmk : m = k := by omega
                have h2' : ¬ (m : Int) < (k : Int) := by omega
                have HV : Hid (TC = tcGo ((l.take (k + 1)).map keyL).reverse (l.drop (k + 1))) := Lib.hid (by
                  rw [HZ2.out, if_neg (by simp), if_neg (by simp), if_neg]
                  intro h
                  obtain ⟨j, hj, hjk, he⟩ := HMEM.out.1 h
                  exact HNO.out j (by omega) hj he)
                go_wp2
                exact ⟨⟨k + 1, by omega, by go_num, HV, hbX⟩, by simp [intOf]; omega⟩
          · have hv' : (VC == 0) = false := by simpa using hv
            have HV : Hid (TC = VC) := Lib.hid (by rw [HZ2.out, if_neg (by simp), if_pos hv])
            go_wp2
            go_ret
            exact ⟨ret_int HV.out.symm, hb3⟩
      · have h1' : ¬ (k : Int) < (N : Int) := by omega
        have hd : l.drop k = [] := List.drop_of_length_le (by rw [HN.out]; omega)
        rw [hd] at HZ
        go_wp2
        go_ret
        exact ⟨ret_int HZ.out.symm, hbl⟩
end Go.Proofs.Ytccamjnomjcchaa
/- graticuleref12.Check. -/
set_option linter.unusedVariables false
set_option linter.unusedSimpArgs false
set_option maxRecDepth 100000
namespace Go.Proofs.Ytccamjnomjcchaa
open Go.RowKit

set_option maxHeartbeats 6400000 in
theorem rfcheck_any (a : Option Addr) (c : Nat) (L : List Fc) (hlen : L.length ≤ 1000000) (h1 : cntR (L.map Fc.rings) ≤ 1000000) (h2 : cntP (L.map Fc.rings) ≤ 1000000) (hl : ∀ f ∈ L, f.rs.length ≤ 1000000 ∧ ∀ r ∈ f.rs, r.l.length ≤ 1000000) (ha : ∀ f ∈ L, f.ls.length ≤ 1000 ∧ ∀ x ∈ f.ls, x.key.size ≤ 100000 ∧ x.text.size ≤ 100000) (w : World) (hr : Rd w a (fcs L)) (hok : ∀ f ∈ L, f.Ok w) :
    Calls Try.prog 41 #[.slice a L.length c] w fun e w' => e = .returned (.int .i64 (chkF tcF L.length (L.map Fc.rings) (L.map Fc.ls))) ∧ Below w.heap.size w w' := by
  have HR := Lib.hid hr
  have HOK := Lib.hid hok
  have HLL := Lib.hid hl
  have HTC := Lib.hid (fun (f : Fc) (hf : f ∈ L) W h => rtcheck_any f.aa f.ac f.ls (ha f hf).1 (ha f hf).2 W h)
  have HCN := Lib.hid (rcount_any a c L hlen h1 h2 w hr hok)
  have HCH : Hid (chkF tcF L.length (L.map Fc.rings) (L.map Fc.ls) = if 32 < L.length ∨ 64 < cntR (L.map Fc.rings) ∨ 512 < cntP (L.map Fc.rings) then 6 else if (L.map Fc.rings).all rIn = false then 5 else tcs tcF ((L.map Fc.ls).drop 0)) := Lib.hid rfl
  generalize chkF tcF L.length (L.map Fc.rings) (L.map Fc.ls) = CH at *
  obtain ⟨RL, hRL⟩ : ∃ R, L.map Fc.rings = R := ⟨_, rfl⟩
  have HRL := Lib.hid hRL
  rw [hRL] at HCN HCH h1 h2
  obtain ⟨LS, hLS⟩ : ∃ R, L.map Fc.ls = R := ⟨_, rfl⟩
  have HLS := Lib.hid hLS
  rw [hLS] at HCH
  have hRn : RL.length = L.length := by rw [← hRL, List.length_map]
  have hSn : LS.length = L.length := by rw [← hLS, List.length_map]
  obtain ⟨CR, hCR⟩ : ∃ z, cntR RL = z := ⟨_, rfl⟩
  obtain ⟨CP, hCP⟩ : ∃ z, cntP RL = z := ⟨_, rfl⟩
  rw [hCR, hCP] at HCN HCH
  rw [hCR] at h1
  rw [hCP] at h2
  obtain ⟨N, hN⟩ : ∃ N, L.length = N := ⟨_, rfl⟩
  have HN := Lib.hid hN
  rw [hN] at hlen hRn hSn HCN HCH ⊢
  have HRN := Lib.hid hRn
  have HSN := Lib.hid hSn
  clear hr hok hl ha hRL hLS hRn hSn hCR hCP hN
  go_enter Try.func41, Try.ntmps41
  go_wp2_with fail
  refine HCN.out.mono ?_
  rintro e w0 ⟨rfl, rfl⟩
  clear HCN
  by_cases hbig : 32 < N ∨ 64 < CR ∨ 512 < CP
  · have HV : Hid (CH = 6) := Lib.hid (by rw [HCH.out, if_pos hbig])
    by_cases g1 : 32 < N
    · have g1' : (32 : Int) < (N : Int) := by omega
      go_wp2
      go_ret
      exact ⟨ret_int HV.out.symm, Below.refl _ _⟩
    · have g1' : ¬ (32 : Int) < (N : Int) := by omega
      by_cases g2 : 64 < CR
      · have g2' : (64 : Int) < (CR : Int) := by omega
        go_wp2
        go_ret
        exact ⟨ret_int HV.out.symm, Below.refl _ _⟩
      · have g2' : ¬ (64 : Int) < (CR : Int) := by omega
        have g3' : (512 : Int) < (CP : Int) := by omega
        go_wp2
        go_ret
        exact ⟨ret_int HV.out.symm, Below.refl _ _⟩
  · have g1' : ¬ (32 : Int) < (N : Int) := by omega
    have g2' : ¬ (64 : Int) < (CR : Int) := by omega
    have g3' : ¬ (512 : Int) < (CP : Int) := by omega
    have HC2 : Hid (CH = if RL.all rIn = false then 5 else tcs tcF (LS.drop 0)) := Lib.hid (by rw [HCH.out, if_neg hbig])
    clear HCH hbig
    go_wp2
    go_loopw [5] (fun i wr => ∃ k : Nat, k ≤ N ∧ i = .int .i64 k ∧ Hid ((RL.take k).all rIn = true) ∧ Below w.heap.size w wr) (fun i _ => N - (intOf i).toNat)
    case atStart => exact ⟨0, by omega, rfl, Lib.hid (by simp), Below.refl _ _⟩
    case round =>
      obtain ⟨k, hk, rfl, HA, hbl⟩ := hrel
      by_cases q1 : k < N
      · have q1' : (k : Int) < (N : Int) := by omega
        have hkl : k < L.length := by rw [HN.out]; exact q1
        have hkr : k < RL.length := by rw [HRN.out]; exact q1
        obtain ⟨b1, o1, rfl, hbb, c0, -⟩ := HR.out.fc k hkl
        have HF := Lib.hid (HOK.out L[k] (List.getElem_mem hkl))
        have HF2 := HLL.out L[k] (List.getElem_mem hkl)
        have HRK : Hid (RL[k] = L[k].rs.map PC.l) := Lib.hid (by
          have h := HRL.out
          subst h
          simp [Fc.rings])
        have HAS : Hid (RL[k].all (fun r => r.all inW) = true → (RL.take (k + 1)).all rIn = true) := Lib.hid (fun h => by
          rw [List.take_succ_eq_append_getElem hkr, List.all_append, HA.out, List.all_cons, List.all_nil, Bool.true_and, Bool.and_true]
          exact h)
        have HAF : Hid (RL[k].all (fun r => r.all inW) = false → CH = 5) := Lib.hid (fun h => by
          rw [HC2.out, if_pos]
          rw [List.all_eq_false]
          exact ⟨RL[k], List.getElem_mem hkr, by unfold rIn; rw [h]; simp⟩)
        generalize RL[k] = rk at *
        generalize L[k] = f at *
        obtain ⟨rs, ra, rc, ls, aa, ac⟩ := f
        dsimp only [Fc.rval] at c0 HRK HF2
        obtain ⟨HF1, HF2⟩ := HF2
        replace HF2 := Lib.hid HF2
        obtain ⟨M, hM⟩ : ∃ M, rs.length = M := ⟨_, rfl⟩
        have HM := Lib.hid hM
        have hrk : rk.length = M := by rw [HRK.out, List.length_map, hM]
        have HRKL := Lib.hid hrk
        rw [hM] at c0 HF1
        clear hM hrk
        have c0w := (hbl.cell (p := ⟨b1, o1 + k * 2, none⟩) hbb).trans c0
        go_wp2
        go_loopw [6] (fun i W => ∃ j : Nat, j ≤ M ∧ i = .int .i64 j ∧ Hid ((rk.take j).all (fun r => r.all inW) = true) ∧ Below w.heap.size w W) (fun i _ => M - (intOf i).toNat)
        case atStart => exact ⟨0, by omega, rfl, Lib.hid (by simp), hbl⟩
        case round =>
          obtain ⟨j, hj, rfl, HB, hbl2⟩ := hrel
          have c02 := (hbl2.cell (p := ⟨b1, o1 + k * 2, none⟩) hbb).trans c0
          by_cases q2 : j < M
          · have q2' : (j : Int) < (M : Int) := by omega
            have hjl : j < rs.length := by rw [HM.out]; exact q2
            have hjr : j < rk.length := by rw [HRKL.out]; exact q2
            obtain ⟨b2, o2, rfl, hb2, d0⟩ := HF.out.1.1.rc j hjl
            have HRR := Lib.hid (HF.out.2.1 _ (List.getElem_mem hjl)).1
            have hLL := HF2.out _ (List.getElem_mem hjl)
            have hRJ : rk[j] = rs[j].l := by simp [HRK.out]
            have HBS : Hid (rs[j].l.all inW = true → (rk.take (j + 1)).all (fun r => r.all inW) = true) := Lib.hid (fun h => by
              rw [List.take_succ_eq_append_getElem hjr, List.all_append, HB.out, List.all_cons, List.all_nil, Bool.true_and, Bool.and_true, hRJ]
              exact h)
            have HBF : Hid (rs[j].l.all inW = false → CH = 5) := Lib.hid (fun h => HAF.out (by
              rw [List.all_eq_false]
              exact ⟨rk[j], List.getElem_mem hjr, by rw [hRJ, h]; simp⟩))
            clear hRJ
            generalize rs[j] = R at *
            obtain ⟨LL, p, c3⟩ := R
            dsimp only [PC.val] at d0 HBS HBF HRR hLL
            have d1 := (hbl2.cell (p := ⟨b2, o2 + j, none⟩) hb2).trans d0
            go_wp2
            go_loopw [7] (fun i W => ∃ m : Nat, m ≤ LL.length ∧ i = .int .i64 m ∧ Hid ((LL.take m).all inW = true) ∧ Below w.heap.size w W) (fun i _ => LL.length - (intOf i).toNat)
            case atStart => exact ⟨0, by omega, rfl, Lib.hid (by simp), hbl2⟩
            case round =>
              obtain ⟨m, hm, rfl, HCC, hbl3⟩ := hrel
              have c03 := (hbl3.cell (p := ⟨b1, o1 + k * 2, none⟩) hbb).trans c0
              have d03 := (hbl3.cell (p := ⟨b2, o2 + j, none⟩) hb2).trans d0
              by_cases q3 : m < LL.length
              · have q3' : (m : Int) < (LL.length : Int) := by omega
                obtain ⟨b3, o3, rfl, hb3, e0, e1⟩ := (HRR.out.keep hbl3).pt m q3
                have HCS : Hid (inW LL[m] = true → (LL.take (m + 1)).all inW = true) := Lib.hid (fun h => by
                  rw [List.take_succ_eq_append_getElem q3, List.all_append, HCC.out, List.all_cons, List.all_nil, h]; rfl)
                have HCF : Hid (inW LL[m] = false → CH = 5) := Lib.hid (fun h => HBF.out (by
                  rw [List.all_eq_false]
                  exact ⟨LL[m], List.getElem_mem q3, by rw [h]; simp⟩))
                generalize LL[m] = P at *
                obtain ⟨x, y⟩ := P
                dsimp only at e0 e1
                have hbP := hbl3.alloc hbl3.size (.cells #[.int .i64 x, .int .i64 y] 73)
                by_cases i1 : x < 0
                · have HV : Hid (CH = 5) := Lib.hid (HCF.out (by unfold inW; simp; omega))
                  go_wp2
                  go_ret
                  exact ⟨ret_int HV.out.symm, hbP⟩
                · by_cases i2 : 65536 < x
                  · have HV : Hid (CH = 5) := Lib.hid (HCF.out (by unfold inW; simp; omega))
                    go_wp2
                    go_ret
                    exact ⟨ret_int HV.out.symm, hbP⟩
                  · by_cases i3 : y < 0
                    · have HV : Hid (CH = 5) := Lib.hid (HCF.out (by unfold inW; simp; omega))
                      go_wp2
                      go_ret
                      exact ⟨ret_int HV.out.symm, hbP⟩
                    · by_cases i4 : 65536 < y
                      · have HV : Hid (CH = 5) := Lib.hid (HCF.out (by unfold inW; simp; omega))
                        go_wp2
                        go_ret
                        exact ⟨ret_int HV.out.symm, hbP⟩
                      · have HV : Hid ((LL.take (m + 1)).all inW = true) := Lib.hid (HCS.out (by unfold inW; simp; omega))
                        go_wp2
                        exact ⟨⟨m + 1, by omega, by go_num, HV, hbP⟩, by simp [intOf]; omega⟩
              · have hmL : m = LL.length := by omega
                have HV : Hid ((rk.take (j + 1)).all (fun r => r.all inW) = true) := Lib.hid (HBS.out (by
                  have := HCC.out
                  rw [List.take_of_length_le (by omega)] at this
                  exact this))
                go_wp2
                exact ⟨⟨j + 1, by omega, by go_num, HV, hbl3⟩, by simp [intOf]; omega⟩
          · have hjM : j = M := by omega
            have HV : Hid ((RL.take (k + 1)).all rIn = true) := Lib.hid (HAS.out (by
              have := HB.out
              rw [List.take_of_length_le (by rw [HRKL.out]; omega)] at this
              exact this))
            go_wp2
            exact ⟨⟨k + 1, by omega, by go_num, HV, hbl2⟩, by simp [intOf]; omega⟩
      · have hkN : N = k := by omega
        subst hkN
        have HC3 : Hid (CH = tcs tcF (LS.drop 0)) := Lib.hid (by
          have := HA.out
          rw [List.take_of_length_le (by rw [HRN.out]; omega)] at this
          rw [HC2.out, this, if_neg (by simp)])
        clear HC2 HA
        go_wp2
        go_loopw [9] (fun i W => ∃ j : Nat, j ≤ N ∧ i = .int .i64 j ∧ Hid (CH = tcs tcF (LS.drop j)) ∧ Below w.heap.size w W) (fun i _ => N - (intOf i).toNat)
        case atStart => exact ⟨0, by omega, rfl, HC3, hbl⟩
        case round =>
          obtain ⟨j, hj, rfl, HD, hbl2⟩ := hrel
          by_cases q2 : j < N
          · have q2' : (j : Int) < (N : Int) := by omega
            have hjl : j < L.length := by rw [HN.out]; exact q2
            have hjs : j < LS.length := by rw [HSN.out]; exact q2
            obtain ⟨b1, o1, rfl, hbb, c0, c1⟩ := (HR.out.keep hbl2).fc j hjl
            have HF := Lib.hid (HOK.out L[j] (List.getElem_mem hjl))
            have HT := Lib.hid (HTC.out L[j] (List.getElem_mem hjl))
            have HDS : Hid (CH = if tcF L[j].ls = 0 then tcs tcF (LS.drop (j + 1)) else tcF L[j].ls) := Lib.hid (by
              rw [HD.out, List.drop_eq_getElem_cons hjs]
              have h : LS[j] = L[j].ls := by
                have h := HLS.out
                subst h
                simp
              rw [h]; rfl)
            generalize L[j] = f at *
            obtain ⟨rs, ra, rc, ls, aa, ac⟩ := f
            dsimp only [Fc.rval, Fc.aval] at c0 c1 HT HDS
            have HR2 : Rd wr aa (ats ls) := (HF.out.keep hbl2).2.2.1
            have HR2 := Lib.hid HR2
            generalize tcF ls = TV at *
            go_wp2_with fail
            refine (HT.out _ HR2.out).mono ?_
            rintro e W2 ⟨rfl, hx⟩
            have hbl3 := hbl2.trans (hx.mono hbl2.size)
            clear hx
            by_cases hz : TV = 0
            · have HV : Hid (CH = tcs tcF (LS.drop (j + 1))) := Lib.hid (by rw [HDS.out, if_pos hz])
              subst hz
              go_wp2
              exact ⟨⟨j + 1, by omega, by go_num, HV, hbl3⟩, by simp [intOf]; omega⟩
            · have HV : Hid (CH = TV) := Lib.hid (by rw [HDS.out, if_neg hz])
              have hz' : (TV == 0) = false := by simpa using hz
              go_wp2
              go_ret
              exact ⟨ret_int HV.out.symm, hbl3⟩
          · have hd : LS.drop j = [] := List.drop_of_length_le (by rw [HSN.out]; omega)
            have HV : Hid (CH = 0) := Lib.hid (by rw [HD.out, hd]; rfl)
            clear hd
            go_wp2
            go_ret
            exact ⟨ret_int HV.out.symm, hbl2⟩
end Go.Proofs.Ytccamjnomjcchaa
/- graticuleref01.All. -/
set_option linter.unusedVariables false
set_option linter.unusedSimpArgs false
namespace Go.Proofs.Ytccamjnomjcchaa
open Go.RowKit


set_option maxHeartbeats 800000 in
theorem rall_any (a : Option Addr) (c : Nat) (l : List Pt) (hl : l.length ≤ 1000000) (w : World) (hr : Rd w a (pts l)) :
    Calls Try.prog 64 #[.slice a l.length c] w fun e w' => e = .returned (.bool (l.all okPt)) ∧ Below w.heap.size w w' := by
  go_enter Try.func64, Try.ntmps64
  go_wp2
  go_loopw [3] (fun i wr => ∃ k : Nat, k ≤ l.length ∧ i = .int .i64 k ∧ (l.take k).all okPt = true ∧ Below w.heap.size w wr) (fun i _ => l.length - (intOf i).toNat)
  case atStart => exact ⟨0, Nat.zero_le _, rfl, rfl, Below.refl _ _⟩
  case round =>
    obtain ⟨k, hk, rfl, hall, hbl⟩ := hrel
    have HA := Lib.hid hall
    clear hall
    by_cases hlt : k < l.length
    · obtain ⟨b, off, rfl, hb, c0, c1⟩ := (hr.keep hbl).pt k hlt
      have HST : Hid ((l.take (k + 1)).all okPt = okPt l[k]) := by
        refine Lib.hid ?_
        rw [List.take_succ_eq_append_getElem hlt, List.all_append, HA.out]
        simp
      have HNO : Hid (okPt l[k] = false → l.all okPt = false) := by
        refine Lib.hid fun h => ?_
        rw [List.all_eq_false]
        exact ⟨l[k], List.getElem_mem _, by simp [h]⟩
      generalize l[k] = p at *
      have hm := rmay_any p wr
      obtain ⟨x, y⟩ := p
      dsimp only [Pt.val] at c0 c1 hm
      have hs := hbl.size
      cases hp : okPt ⟨x, y⟩ with
      | true =>
        rw [hp] at hm
        have HM := Lib.hid hm
        have HP := Lib.hid hp
        clear hm hp
        go_wp2_with fail
        refine HM.out.mono ?_
        rintro e w1 ⟨rfl, hb1⟩
        have hbl1 := hbl.trans (hb1.mono hs)
        clear hb1 hbl HM c0 c1
        go_wp2
        go_roundw
        case rel => exact ⟨k + 1, by omega, by go_num, HST.out.trans HP.out, hbl1⟩
        case measure => simp [intOf]; omega
      | false =>
        rw [hp] at hm
        have HM := Lib.hid hm
        have HP := Lib.hid hp
        clear hm hp
        go_wp2_with fail
        refine HM.out.mono ?_
        rintro e w1 ⟨rfl, hb1⟩
        have hbl1 := hbl.trans (hb1.mono hs)
        clear hb1 hbl HM c0 c1
        go_wp2
        go_ret
        exact ⟨ret_bool (HNO.out HP.out).symm, hbl1⟩
    · obtain rfl : k = l.length := by omega
      have HA := Lib.hid HA.out
      rw [List.take_length] at HA
      go_wp2
      go_ret
      exact ⟨ret_bool HA.out.symm, hbl⟩
end Go.Proofs.Ytccamjnomjcchaa
/- graticuleref01.Cross. -/
set_option linter.unusedVariables false
set_option linter.unusedSimpArgs false
set_option maxRecDepth 100000
namespace Go
def okW (p : Pt) : Prop := (-33554432 ≤ p.x ∧ p.x ≤ 33554432) ∧ -33554432 ≤ p.y ∧ p.y ≤ 33554432
theorem okW_of {p : Pt} (h : okPt p = true) : okW p := by
  rw [okPt_iff] at h
  unfold okW
  omega
end Go
namespace Go.Proofs.Ytccamjnomjcchaa
open Go.RowKit

set_option maxHeartbeats 1600000 in
theorem rcross_wide (a b c : Pt) (ha : okW a) (hb : okW b) (hc : okW c) (w : World) :
    Calls Try.prog 92 #[a.val, b.val, c.val] w fun e w' => e = .returned (.int .i64 (crs a b c)) ∧ Below w.heap.size w w' := by
  obtain ⟨R, hR⟩ : ∃ R, crs a b c = R := ⟨_, rfl⟩
  rw [hR]
  unfold okW at ha hb hc
  obtain ⟨ax, ay⟩ := a
  obtain ⟨bx, bY⟩ := b
  obtain ⟨cx, cy⟩ := c
  dsimp only [Pt.val, crs] at *
  have hE : Hid (ax * bY - bx * ay + bx * cy - cx * bY + cx * ay - ax * cy = R) := Lib.hid (by rw [← hR]; grind)
  clear hR
  have m1 := mul_bd ax bY 33554432 33554432 (by omega) (by omega) (by omega) (by omega)
  have m2 := mul_bd bx ay 33554432 33554432 (by omega) (by omega) (by omega) (by omega)
  have m3 := mul_bd bx cy 33554432 33554432 (by omega) (by omega) (by omega) (by omega)
  have m4 := mul_bd cx bY 33554432 33554432 (by omega) (by omega) (by omega) (by omega)
  have m5 := mul_bd cx ay 33554432 33554432 (by omega) (by omega) (by omega) (by omega)
  have m6 := mul_bd ax cy 33554432 33554432 (by omega) (by omega) (by omega) (by omega)
  simp only [Int.reduceMul, Int.reduceNeg] at m1 m2 m3 m4 m5 m6
  clear ha hb hc
  have hbl := ((Below.new w (.cells #[.int .i64 ax, .int .i64 ay] 73)).alloc (by simp) (.cells #[.int .i64 bx, .int .i64 bY] 73)).alloc (by simp; omega) (.cells #[.int .i64 cx, .int .i64 cy] 73)
  go_enter Try.func92, Try.ntmps92
  go_wp2
  go_ret
  exact ⟨ret_int hE.out, hbl⟩
theorem rcross_any (a b c : Pt) (ha : okPt a = true) (hb : okPt b = true) (hc : okPt c = true) (w : World) :
    Calls Try.prog 92 #[a.val, b.val, c.val] w fun e w' => e = .returned (.int .i64 (crs a b c)) ∧ Below w.heap.size w w' :=
  rcross_wide a b c (okW_of ha) (okW_of hb) (okW_of hc) w
end Go.Proofs.Ytccamjnomjcchaa
