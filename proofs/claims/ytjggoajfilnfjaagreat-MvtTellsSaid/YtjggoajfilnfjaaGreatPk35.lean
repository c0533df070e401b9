/-
  graticuleref11.Check. The shoelace: plain. graticuleref03.Area. graticuleref23.far, part, Check.
-/
import Derived.Test.YtjggoajfilnfjaaGreatPk14
import Derived.Test.YtjggoajfilnfjaaGreatPk34
import Derived.Test.YtjggoajfilnfjaaGreatPk10
import Derived.Test.YtjggoajfilnfjaaGreatPk9
import Derived.Test.YtjggoajfilnfjaaGreatPk27
import Derived.BigRegion
import Derived.RegionTactic
import Derived.Maps.AppendAt
import Derived.Test.YtjggoajfilnfjaaGreatPk3
import Derived.Test.YtjggoajfilnfjaaGreatPk11
set_option linter.unusedVariables false
set_option linter.unusedSimpArgs false
set_option maxRecDepth 100000
namespace Go
open Go.RowKit
def keyL (a : At) : List UInt8 := a.key.data.toList
theorem keyL_eq {a b : ByteArray} : a.data.toList = b.data.toList ↔ a = b := by
 constructor
 ·intro h
  cases a with
  | mk x => cases b with
   | mk y => rw [ByteArray.mk.injEq]; exact Array.toList_inj.1 h
 ·intro h; rw [h]
end Go
namespace Go.Proofs.YtjggoajfilnfjaaGreat
open Go.RowKit

set_option maxHeartbeats 6400000 in
theorem rtcheck_any (a : Option Addr) (c : Nat) (l : List At) (hn : l.length ≤ 1000) (hok : ∀ x ∈ l, x.key.size ≤ 100000 ∧ x.text.size ≤ 100000) (w : World) (hr : Rd w a (ats l)) :
  Calls Tryz.prog 20 #[.slice a l.length c] w fun e w' => e = .returned (.int .i64 (tcF l)) ∧ Below w.heap.size w w' := by
 have HR := Lib.hid hr; have HOK := Lib.hid hok; have HT : Hid (tcF l = if 8 < l.length then 6 else tcGo ((l.take 0).map keyL).reverse (l.drop 0)) := Lib.hid rfl; generalize tcF l = TC at *; obtain ⟨N, hN⟩ : ∃ N, l.length = N := ⟨_, rfl⟩; have HN := Lib.hid hN; rw [hN] at HT hn ⊢; clear hr hok hN
 go_enter Tryz.func20, Tryz.ntmps20
 by_cases h8 : 8 < N
 ·have h8' : (8 : Int) < (N : Int) := by omega
  go_wp2; go_ret; exact ⟨ret_int (by rw [HT.out, if_pos h8]), Below.refl _ _⟩
 ·have h8' : ¬ (8 : Int) < (N : Int) := by omega
  have HT2 : Hid (TC = tcGo ((l.take 0).map keyL).reverse (l.drop 0)) := Lib.hid (by rw [HT.out, if_neg h8]); clear HT; go_wp2
  go_loopw [3] (fun i wr => ∃ (k : Nat), k ≤ N ∧ i = .int .i64 k ∧ Hid (TC = tcGo ((l.take k).map keyL).reverse (l.drop k)) ∧ Below w.heap.size w wr) (fun i _ => N - (intOf i).toNat)
  case atStart => exact ⟨0, by omega, rfl, HT2, Below.refl _ _⟩
  case round =>
   obtain ⟨k, hk, rfl, HZ, hbl⟩ := hrel
   by_cases h1 : k < N
   ·have h1' : (k : Int) < (N : Int) := by omega
    have hkl : k < l.length := by rw [HN.out]; exact h1
    obtain ⟨b1, o1, rfl, hbb, c0, c1, c2, c3⟩ := (HR.out.keep hbl).atr k hkl; obtain ⟨q1, q2⟩ := HOK.out l[k] (List.getElem_mem hkl); have HD : Hid (l.drop k = l[k] :: l.drop (k + 1)) := Lib.hid (List.drop_eq_getElem_cons hkl); have HTK : Hid (((l.take (k + 1)).map keyL).reverse = l[k].key.data.toList :: ((l.take k).map keyL).reverse) := Lib.hid (by
     rw [List.take_succ_eq_append_getElem hkl, List.map_append, List.reverse_append]; rfl)
    have HMEM : Hid (l[k].key.data.toList ∈ ((l.take k).map keyL).reverse ↔ ∃ j, ∃ h : j < l.length, j < k ∧ l[j].key = l[k].key) := Lib.hid (by
     rw [List.mem_reverse, List.mem_map]; constructor
     ·rintro ⟨x, hx, he⟩; obtain ⟨j, hj, rfl⟩ := List.mem_iff_getElem.1 hx; have hj2 := hj; rw [List.length_take] at hj2; refine ⟨j, by omega, by omega, ?_⟩; rw [List.getElem_take] at he; exact keyL_eq.1 he
     ·rintro ⟨j, hj, hjk, he⟩; refine ⟨l[j], ?_, keyL_eq.2 he⟩; exact List.mem_iff_getElem.2 ⟨j, by rw [List.length_take]; omega, by rw [List.getElem_take]⟩)
    have HZ2 : Hid (TC = if nameF l[k].key = false then 13 else if vcF l[k].kind l[k].text l[k].n ≠ 0 then vcF l[k].kind l[k].text l[k].n else if l[k].key.data.toList ∈ ((l.take k).map keyL).reverse then 8 else tcGo ((l.take (k + 1)).map keyL).reverse (l.drop (k + 1))) := Lib.hid (by
     rw [HZ.out, HD.out, HTK.out]; rfl)
    have HNA := Lib.hid (fun W => rname_any l[k].key q1 W); have HVC := Lib.hid (fun W => rvchk_any l[k].kind l[k].n l[k].text q2 W); clear HTK HD HZ q1 q2; generalize nameF l[k].key = NM at *; generalize vcF l[k].kind l[k].text l[k].n = VC at *; generalize l[k].key = KY at *; generalize l[k].kind = kd at *; generalize l[k].text = TX at *; generalize l[k].n = nn at *; have hs := hbl.size
    go_wp2_with fail
    refine (HNA.out _).mono ?_; rintro e W2 ⟨rfl, hx2⟩; have hb2 := hbl.trans (hx2.mono hs); have c0 := (hx2.cell (p := ⟨b1, o1 + k * 4, none⟩) hbb).trans c0; have c1 := (hx2.cell (p := ⟨b1, o1 + k * 4 + 1, none⟩) hbb).trans c1; have c2 := (hx2.cell (p := ⟨b1, o1 + k * 4 + 2, none⟩) hbb).trans c2; have c3 := (hx2.cell (p := ⟨b1, o1 + k * 4 + 3, none⟩) hbb).trans c3; have hbb2 : b1 < W2.heap.size := Nat.lt_of_lt_of_le hbb hx2.size; clear hx2
    cases NM with
    | false =>
     go_wp2; go_ret; exact ⟨ret_int (by rw [HZ2.out]; simp), hb2⟩
    | true =>
     go_wp2_with fail
     refine (HVC.out W2).mono ?_; rintro e W3 ⟨rfl, hx3⟩; have hb3 := hb2.trans (hx3.mono hb2.size); have c0 := (hx3.cell (p := ⟨b1, o1 + k * 4, none⟩) hbb2).trans c0; clear c1 c2 c3 hx3 hbb2
     by_cases hv : VC = 0
     ·subst hv; go_wp2
      go_loopw [5] (fun j W => ∃ (m q : Nat), m ≤ k ∧ j = .int .i64 m ∧ Hid (∀ j', j' < m → ∀ h : j' < l.length, ¬ l[j'].key = KY) ∧ W = W3.drewN q) (fun j _ => k - (intOf j).toNat)
      case atStart => exact ⟨0, 0, by omega, rfl, Lib.hid (fun j' h => absurd h (by omega)), rfl⟩
      case round =>
       obtain ⟨m, q, hm, rfl, HNO, rfl⟩ := hrel; have hbX := below_drewN hb3 q
       by_cases h2 : m < k
       ·have h2' : (m : Int) < (k : Int) := by omega
        have h2n : (m : Int) < (N : Int) := by omega
        have hml : m < l.length := by omega
        obtain ⟨b2, o2, e, hb2x, d0, d1, d2, d3⟩ := (HR.out.keep hb3).atr m hml
        cases e
        clear d1 d2 d3
        by_cases he : l[m].key = KY
        ·have HV : Hid (TC = 8) := Lib.hid (by rw [HZ2.out, if_neg (by simp), if_neg (by simp), if_pos (HMEM.out.2 ⟨m, hml, h2, he⟩)]); rw [he] at d0; clear he; go_wp2
         go_quiet (fail)
         go_wp2; go_ret; exact ⟨ret_int HV.out.symm, below_drewN hbX _⟩
        ·have HNO2 : Hid (∀ j', j' < m + 1 → ∀ h : j' < l.length, ¬ l[j'].key = KY) := Lib.hid (fun j' h' h => by
          by_cases hj : j' = m
          ·subst hj; exact he
          ·exact HNO.out j' (by omega) h)
         generalize l[m].key = KM at *; have he1 : (KM.toList == KY.toList) = false := by
          rw [ByteArray.toList_eq, ByteArray.toList_eq, beq_eq_false_iff_ne]; exact fun h => he (keyL_eq.1 h)
         go_wp2
         go_quiet (fail)
         go_wp2; exact ⟨⟨m + 1, _, by omega, by go_num, HNO2, rfl⟩, by simp [intOf]; omega⟩
       ·have hmk : m = k := by omega
        have h2' : ¬ (m : Int) < (k : Int) := by omega
        have HV : Hid (TC = tcGo ((l.take (k + 1)).map keyL).reverse (l.drop (k + 1))) := Lib.hid (by
         rw [HZ2.out, if_neg (by simp), if_neg (by simp), if_neg]; intro h; obtain ⟨j, hj, hjk, he⟩ := HMEM.out.1 h; exact HNO.out j (by omega) hj he)
        go_wp2; exact ⟨⟨k + 1, by omega, by go_num, HV, hbX⟩, by simp [intOf]; omega⟩
     ·have hv' : (VC == 0) = false := by simpa using hv
      have HV : Hid (TC = VC) := Lib.hid (by rw [HZ2.out, if_neg (by simp), if_pos hv]); go_wp2; go_ret; exact ⟨ret_int HV.out.symm, hb3⟩
   ·have h1' : ¬ (k : Int) < (N : Int) := by omega
    have hd : l.drop k = [] := List.drop_of_length_le (by rw [HN.out]; omega); rw [hd] at HZ; go_wp2; go_ret; exact ⟨ret_int HZ.out.symm, hbl⟩
end Go.Proofs.YtjggoajfilnfjaaGreat
namespace Go

def sumTo (f : Nat → Int) : Nat → Int
 | 0 => 0
 | n + 1 => sumTo f n + f n

def shoT (l : List Pt) (i : Nat) : Int := l[i]!.x * l[(i + 1) % l.length]!.y - l[(i + 1) % l.length]!.x * l[i]!.y
def sho (l : List Pt) : Int := sumTo (shoT l) l.length

theorem fan_range (l : List Pt) (e : Nat → Pt × Pt) (n : Nat) : fan l ((List.range n).map e) = sumTo (fun i => crs l[0]! (e i).1 (e i).2) n := by
 induction n with
 | zero => rfl
 | succ n ih => rw [List.range_succ, List.map_append, List.map_cons, List.map_nil, fan_snoc, ih]; rfl

theorem crs_split (p a b : Pt) : crs p a b = (a.x * b.y - b.x * a.y) - (p.x * b.y - p.x * a.y) + (p.y * b.x - p.y * a.x) := by
 unfold crs; simp only [Int.sub_mul, Int.mul_sub]; have h1 : a.y * b.x = b.x * a.y := Int.mul_comm _ _; have h2 : a.x * p.y = p.y * a.x := Int.mul_comm _ _; have h3 : a.y * p.x = p.x * a.y := Int.mul_comm _ _; have h4 : p.x * p.y = p.y * p.x := Int.mul_comm _ _; omega

theorem fan_part (l : List Pt) (n : Nat) (hn : n ≤ l.length) : sumTo (fun i => crs l[0]! l[i]! l[(i + 1) % l.length]!) n =
  sumTo (shoT l) n - (l[0]!.x * l[n % l.length]!.y - l[0]!.x * l[0]!.y) + (l[0]!.y * l[n % l.length]!.x - l[0]!.y * l[0]!.x) := by
 induction n with
 | zero => simp [sumTo]
 | succ n ih =>
  have e : n % l.length = n := Nat.mod_eq_of_lt (by omega); rw [sumTo, ih (by omega), sumTo, crs_split, e]; unfold shoT; omega

theorem fan_sho (l : List Pt) : fan l (edges l) = sho l := by
 unfold edges; rw [fan_range, fan_part l l.length (Nat.le_refl _), Nat.mod_self]; unfold sho; omega

theorem shoT_bd (l : List Pt) (h : l.all okPt = true) (i : Nat) (hi : i < l.length) : -562949953421312 ≤ shoT l i ∧ shoT l i ≤ 562949953421312 := by
 have h1 := ok_get l h i hi; have h2 := ok_get l h ((i + 1) % l.length) (Nat.mod_lt _ (by omega)); rw [okPt_iff] at h1 h2; unfold shoT; have a := mul_bd l[i]!.x l[(i + 1) % l.length]!.y 16777216 16777216 (by omega) (by omega) (by omega) (by omega); have b := mul_bd l[(i + 1) % l.length]!.x l[i]!.y 16777216 16777216 (by omega) (by omega) (by omega) (by omega); omega

theorem sho_bd (l : List Pt) (h : l.all okPt = true) (n : Nat) (hn : n ≤ l.length) : -(562949953421312 * n) ≤ sumTo (shoT l) n ∧ sumTo (shoT l) n ≤ 562949953421312 * n := by
 induction n with
 | zero => simp [sumTo]
 | succ n ih =>
  have h1 := shoT_bd l h n (by omega); have h2 := ih (by omega); rw [sumTo]; omega
end Go
namespace Go.Proofs.YtjggoajfilnfjaaGreat
open Go.RowKit
set_option maxHeartbeats 1600000 in
theorem rarea3_any (a : Option Addr) (c : Nat) (L : List Pt) (hlen : L.length ≤ 1000) (hok : L.all okPt = true) (w : World) (hr : Rd w a (pts L)) :
  Calls Tryz.prog 77 #[.slice a L.length c] w fun e w' => e = .returned (.int .i64 (sho L)) ∧ Below w.heap.size w w' := by
 go_enter Tryz.func77, Tryz.ntmps77
 have HOK := Lib.hid hok; clear hok; go_wp2
 go_loopw [3, 4] (fun o i wr => ∃ k : Nat, k ≤ L.length ∧ i = .int .i64 k ∧ o = .int .i64 (sumTo (shoT L) k) ∧ Below w.heap.size w wr) (fun _ i _ => L.length - (intOf i).toNat)
 case atStart => exact ⟨0, Nat.zero_le _, rfl, rfl, Below.refl _ _⟩
 case round =>
  obtain ⟨k, hk, rfl, rfl, hbl⟩ := hrel
  by_cases hlt : k < L.length
  ·obtain ⟨q, hq⟩ : ∃ q, (k + 1) % L.length = q := ⟨_, rfl⟩; have hql : q < L.length := by rw [← hq]; exact Nat.mod_lt _ (by omega)
   obtain ⟨b, off, rfl, hb, c0, c1⟩ := (hr.keep hbl).pt k hlt; obtain ⟨b', off', e, hb', d0, d1⟩ := (hr.keep hbl).pt q hql
   cases e
   have hsT : shoT L k = L[k].x * L[q].y - L[q].x * L[k].y := by
    unfold shoT; rw [hq, getElem!_pos L k hlt, getElem!_pos L q hql]
   have hst : sumTo (shoT L) (k + 1) = sumTo (shoT L) k + (L[k].x * L[q].y - L[q].x * L[k].y) := by rw [← hsT]; rfl
   have hsb := sho_bd L HOK.out k hk; have o1 := ok_get L HOK.out k hlt; have o2 := ok_get L HOK.out q hql; rw [getElem!_pos L k hlt, okPt_iff] at o1; rw [getElem!_pos L q hql, okPt_iff] at o2; have hrem : ((k : Int) + 1) % (L.length : Int) = (q : Int) := by rw [← hq]; simp
   have hrem2 : (IntKind.i64.wrap ((k : Int) + 1)).tmod (L.length : Int) = (q : Int) := by
    rw [IntWalk.i64_in _ (by omega), Int.tmod_eq_emod_of_nonneg (by omega)]; exact hrem
   generalize L[k] = p1 at *; generalize L[q] = p2 at *; obtain ⟨x1, y1⟩ := p1; obtain ⟨x2, y2⟩ := p2; dsimp only at c0 c1 d0 d1 hst o1 o2; have m1 := mul_bd x1 y2 16777216 16777216 (by omega) (by omega) (by omega) (by omega); have m2 := mul_bd x2 y1 16777216 16777216 (by omega) (by omega) (by omega) (by omega); simp only [Int.reduceMul, Int.reduceNeg] at m1 m2; generalize sumTo (shoT L) k = F at *; have hF64 : -562949953421312000 ≤ F ∧ F ≤ 562949953421312000 := by omega
   have HST := Lib.hid hst; have q0 : (0 : Int) ≤ (q : Int) ∧ (q : Int) < (L.length : Int) := by omega
   have n1 : b ≠ wr.heap.size := by omega
   have n2 : b ≠ wr.heap.size + 1 := by omega
   have hnil : ¬ L = [] := by intro h; rw [h] at hlt; simp at hlt
   have hln : ¬ L.length = 0 := by omega
   have hs := hbl.size; clear hst hsT hq hsb hr; go_wp2
   go_region
   all_goals
    go_wp2; go_roundw
    case rel =>
     refine ⟨k + 1, by omega, by go_num, ?_, (((hbl.alloc hs _).alloc (by simp; omega) _).drew)⟩; rw [HST.out]
     first | rfl | (congr 1; omega)
    case measure => simp [intOf]; omega
  ·obtain rfl : k = L.length := by omega
   go_wp2; go_ret; exact ⟨ret_int rfl, hbl⟩
end Go.Proofs.YtjggoajfilnfjaaGreat
namespace Go
theorem near_ok {L : List Pt} (h : L.all near = true) : L.all okPt = true := by
 rw [List.all_eq_true] at h ⊢; intro p hp; have := h p hp; rw [okPt_iff]; simp [near] at this; omega
theorem area_sho {L : List Pt} (h1 : 3 ≤ L.length) (h2 : L.all okPt = true) : areaF L = sho L := by
 unfold areaF; rw [if_neg (by rw [h2]; simp; omega), fan_sho]
end Go
namespace Go.Proofs.YtjggoajfilnfjaaGreat
open Go.RowKit

theorem rfar_any (p : Pt) (w : World) :
  Calls Tryz.prog 76 #[p.val] w fun e w' => e = .returned (.bool (!near p)) ∧ Below w.heap.size w w' := by
 obtain ⟨x, y⟩ := p; dsimp only [Pt.val]; obtain ⟨B, hB⟩ : ∃ B, (!near ⟨x, y⟩) = B := ⟨_, rfl⟩; have hC : Hid (B = (decide (1048576 < x) || (decide (x < -1048576) || (decide (1048576 < y) || decide (y < -1048576))))) := by
  refine Lib.hid ?_; rw [← hB]; simp only [near]
  by_cases h1 : 1048576 < x <;> by_cases h2 : x < -1048576 <;> by_cases h3 : 1048576 < y <;> by_cases h4 : y < -1048576 <;> simp [h1, h2, h3, h4] <;> omega
 rw [hB]; clear hB
 go_enter Tryz.func76, Tryz.ntmps76
 go_wp2
 all_goals (go_ret; refine ⟨ret_bool ?_, Below.new _ _⟩; rw [hC.out]; clear hC; first | (simp [*]; done) | (simp_all; done) | simp only [Bool.or_assoc])

set_option maxHeartbeats 1600000 in
theorem rpart23_any (kind : Int) (first : Bool) (x : PC) (hl : x.l.length ≤ 1000) (hk : kind = 2 ∨ kind = 3) (w : World) (hx : x.Ok w) :
  Calls Tryz.prog 49 #[.int .i64 kind, .bool first, x.val] w fun e w' => e = .returned (.int .i64 (partE kind first x.l)) ∧ Below w.heap.size w w' := by
 obtain ⟨L, a, c⟩ := x; obtain ⟨hr, h2, h3, h4⟩ := hx; dsimp only [PC.val] at *; obtain ⟨PE, hPE⟩ : ∃ PE, partE kind first L = PE := ⟨_, rfl⟩; rw [hPE]; have HPE := Lib.hid hPE; clear hPE
 go_enter Tryz.func49, Tryz.ntmps49
 go_wp2
 go_loopw [7] (fun i wr => ∃ k : Nat, k ≤ L.length ∧ i = .int .i64 k ∧ (L.take k).all near = true ∧ Below w.heap.size w wr) (fun i _ => L.length - (intOf i).toNat)
 case atStart => exact ⟨0, Nat.zero_le _, rfl, rfl, Below.refl _ _⟩
 case round =>
  obtain ⟨k, hk1, rfl, hall, hbl⟩ := hrel; have HA := Lib.hid hall; clear hall
  by_cases hlt : k < L.length
  ·obtain ⟨b, off, rfl, hb, c0, c1⟩ := (hr.keep hbl).pt k hlt; have HST : Hid ((L.take (k + 1)).all near = near L[k]) := by
    refine Lib.hid ?_; rw [List.take_succ_eq_append_getElem hlt, List.all_append, HA.out]; simp
   have HNO : Hid (near L[k] = false → PE = 5) := by
    refine Lib.hid fun h => ?_; rw [← HPE.out]; have : L.all near = false := by
     rw [List.all_eq_false]; exact ⟨L[k], List.getElem_mem _, by simp [h]⟩
    unfold partE; rw [if_pos this]
   generalize L[k] = p at *; have hm := rfar_any p wr; obtain ⟨x, y⟩ := p; dsimp only [Pt.val] at c0 c1 hm; have hs := hbl.size
   cases hp : near ⟨x, y⟩ with
   | true =>
    rw [hp] at hm; have HM := Lib.hid hm; have HP := Lib.hid hp; clear hm hp
    go_wp2_with fail
    refine HM.out.mono ?_; rintro e w1 ⟨rfl, hb1⟩; have hbl1 := hbl.trans (hb1.mono hs); clear hb1 hbl HM c0 c1; go_wp2; go_roundw
    case rel => exact ⟨k + 1, by omega, by go_num, HST.out.trans HP.out, hbl1⟩
    case measure => simp [intOf]; omega
   | false =>
    rw [hp] at hm; have HM := Lib.hid hm; have HP := Lib.hid hp; clear hm hp
    go_wp2_with fail
    refine HM.out.mono ?_; rintro e w1 ⟨rfl, hb1⟩; have hbl1 := hbl.trans (hb1.mono hs); clear hb1 hbl HM c0 c1; go_wp2; go_ret; exact ⟨ret_int (HNO.out HP.out).symm, hbl1⟩
  ·obtain rfl : k = L.length := by omega
   have HA := Lib.hid HA.out; rw [List.take_length] at HA
   by_cases hlk : (L.length : Int) < kind
   ·have hE : Hid (PE = 15) := Lib.hid (by rw [← HPE.out]; unfold partE; rw [if_neg (by rw [HA.out]; simp), if_pos hlk]); go_wp2; go_ret; exact ⟨ret_int hE.out.symm, hbl⟩
   ·have hL2 : 2 ≤ L.length := by rcases hk with rfl | rfl <;> omega
    obtain ⟨b, off, rfl, hb, -, -⟩ := hr.pt 0 (by omega); have hP1 : Hid (twin L = true → PE = 15) := Lib.hid fun h => by
     rw [← HPE.out]; unfold partE; rw [if_neg (by rw [HA.out]; simp), if_neg hlk, if_pos h]
    have hP2 : Hid (twin L = false → kind = 3 → (L[0]! = L[L.length - 1]! ∨ areaF L = 0 ∨ first = true ∧ areaF L < 0) → PE = 15) := Lib.hid fun h h1 h2 => by
     rw [← HPE.out]; unfold partE; rw [if_neg (by rw [HA.out]; simp), if_neg hlk, if_neg (by rw [h]; simp), if_pos ⟨h1, h2⟩]
    have hP3 : Hid (twin L = false → ¬ (kind = 3 ∧ (L[0]! = L[L.length - 1]! ∨ areaF L = 0 ∨ first = true ∧ areaF L < 0)) → PE = 0) := Lib.hid fun h h1 => by
     rw [← HPE.out]; unfold partE; rw [if_neg (by rw [HA.out]; simp), if_neg hlk, if_neg (by rw [h]; simp), if_neg h1]
    have har := fun W h => rarea3_any (some ⟨b, off, none⟩) c L hl (near_ok HA.out) W h; have hAF : Hid (kind = 3 → areaF L = sho L) := Lib.hid fun h => area_sho (by omega) (near_ok HA.out); have HAR := Lib.hid har; have hc1 : ¬ c = 1 := by omega
    have hc1' : ¬ (L.length : Int) < 1 := by omega
    clear har HA hlt hk1; go_wp2
    go_loopw [9] (fun i wr => ∃ j : Nat, j + 1 ≤ L.length ∧ i = .int .i64 ((j + 1 : Nat) : Int) ∧ (∀ q, q < j → L[q + 1]! ≠ L[q]!) ∧ Below w.heap.size w wr) (fun i _ => L.length - (intOf i).toNat)
    case atStart => exact ⟨0, by omega, rfl, fun q hq => absurd hq (Nat.not_lt_zero _), hbl⟩
    case round =>
     obtain ⟨j, hj1, rfl, hne, hbl'⟩ := hrel; have HNE := Lib.hid hne; clear hne hbl
     by_cases hlt : j + 1 < L.length
     ·obtain ⟨b1, off1, he, -, d0, d1⟩ := (hr.keep hbl').pt (j + 1) hlt
      cases he
      obtain ⟨b2, off2, he, hb2, c0, c1⟩ := (hr.keep hbl').pt j (by omega)
      cases he
      rw [← getElem!_pos L (j + 1) hlt] at d0 d1; rw [← getElem!_pos L j (by omega)] at c0 c1; have hs := hbl'.size; have HEQ : Hid (L[j + 1]! = L[j]! → twin L = true) := Lib.hid fun h => by
       unfold twin; rw [List.any_eq_true]; exact ⟨j, List.mem_range.2 (by omega), by simp [h]⟩
      have HNO : Hid (L[j + 1]! ≠ L[j]! → ∀ q, q < j + 1 → L[q + 1]! ≠ L[q]!) := Lib.hid fun h q hq => by
       by_cases h1 : q = j
       ·subst h1; exact h
       ·exact HNE.out q (by omega)
      generalize L[j + 1]! = p at *; generalize L[j]! = q at *; obtain ⟨px, py⟩ := p; obtain ⟨qx, qy⟩ := q; dsimp only at c0 c1 d0 d1; have hw1 : IntKind.i64.wrap (((j + 1 : Nat) : Int) - 1) = (j : Int) := by
       have : ((j + 1 : Nat) : Int) - 1 = (j : Int) := by omega
       rw [this]; exact IntWalk.i64_in _ (by omega)
      go_wp2_with fail
      by_cases hx : px = qx
      ·subst hx
       by_cases hy : py = qy
       ·subst hy
        go_quiet (fail)
        go_wp2; go_ret; exact ⟨ret_int (hP1.out (HEQ.out trivial)).symm, below_drewN hbl' _⟩
       ·go_quiet (fail)
        go_wp2; go_roundw
        case rel => exact ⟨j + 1, by omega, by go_num, HNO.out (by simp [hy]), below_drewN hbl' _⟩
        case measure => simp [intOf]; omega
      ·go_quiet (fail)
       go_wp2; go_roundw
       case rel => exact ⟨j + 1, by omega, by go_num, HNO.out (by simp [hx]), below_drewN hbl' _⟩
       case measure => simp [intOf]; omega
     ·obtain rfl : j = L.length - 1 := by omega
      have HT : Hid (twin L = false) := Lib.hid (by
       unfold twin; rw [List.any_eq_false]; intro q hq; have := HNE.out q (List.mem_range.1 hq)
       simpa using this)
      clear HNE hP1; have hs := hbl'.size
      rcases hk with rfl | rfl
      ·go_wp2; go_ret; exact ⟨ret_int (hP3.out HT.out (by simp)).symm, hbl'⟩
      ·go_wp2_with fail
       refine (HAR.out _ (hr.keep hbl')).mono ?_; rintro e w1 ⟨rfl, hb1⟩; have hbl1 := hbl'.trans (hb1.mono hs); obtain ⟨b2, off2, he, hb2, c0, c1⟩ := (hr.keep hbl1).pt 0 (by omega)
       cases he
       obtain ⟨b3, off3, he, hb3, d0, d1⟩ := (hr.keep hbl1).pt (L.length - 1) (by omega)
       cases he
       rw [← getElem!_pos L 0 (by omega)] at c0 c1; rw [← getElem!_pos L (L.length - 1) (by omega)] at d0 d1; clear hb1 hbl' HAR; have haf := hAF.out trivial; rw [haf] at hP2 hP3; clear haf hAF; have HP2 := hP2.out HT.out trivial; have HP3 := hP3.out HT.out; generalize sho L = ar at *; generalize L[0]! = p at *; generalize L[L.length - 1]! = q at *; obtain ⟨px, py⟩ := p; obtain ⟨qx, qy⟩ := q; dsimp only at c0 c1 d0 d1; have HP2' := Lib.hid HP2; have HP3' := Lib.hid HP3; clear HP2 HP3 hP2 hP3; have hL1 : 0 < L.length := by omega
       rw [Nat.zero_mul, Nat.add_zero] at c0; rw [Nat.zero_mul, Nat.add_zero] at c1; have hw : IntKind.i64.wrap ((L.length : Int) - 1) = ((L.length - 1 : Nat) : Int) := by
        have : ((L.length - 1 : Nat) : Int) = (L.length : Int) - 1 := by omega
        rw [this]; exact IntWalk.i64_in _ (by omega)
       by_cases hx : px = qx ∧ py = qy
       ·obtain ⟨rfl, rfl⟩ := hx
        go_wp2_with fail
        go_quiet (fail)
        go_wp2; go_ret; exact ⟨ret_int (HP2'.out (.inl trivial)).symm, below_drewN hbl1 _⟩
       ·have hne : (⟨px, py⟩ : Pt) ≠ ⟨qx, qy⟩ := by simpa using hx
        have HNE := Lib.hid hne; clear hne; have hxy : ¬ px = qx ∨ px = qx ∧ ¬ py = qy := by
         by_cases h1 : px = qx
         ·exact .inr ⟨h1, fun h2 => hx ⟨h1, h2⟩⟩
         ·exact .inl h1
        clear hx; have har : ar = 0 ∨ ¬ ar = 0 ∧ decide (ar < 0) = false ∨ ¬ ar = 0 ∧ ar < 0 := by
         by_cases h1 : ar < 0
         ·exact .inr (.inr ⟨by omega, h1⟩)
         ·by_cases h2 : ar = 0
          ·exact .inl h2
          ·exact .inr (.inl ⟨h2, decide_eq_false h1⟩)
        rcases hxy with hx | ⟨rfl, hy⟩
        all_goals rcases har with rfl | ⟨hz, hp⟩ | ⟨hz, hn⟩
        all_goals cases first
        all_goals try (have hz' : (ar == 0) = false := by simpa using hz)
        all_goals go_wp2_with fail
        all_goals go_quiet (fail)
        all_goals go_wp2
        all_goals go_ret
        all_goals first | exact ⟨ret_int (HP2'.out (by simp [*])).symm, below_drewN hbl1 _⟩ | exact ⟨ret_int (HP3'.out (by have h := HNE.out; have h2 := of_decide_eq_false ‹decide (ar < 0) = false›; simp [*])).symm, below_drewN hbl1 _⟩ | exact ⟨ret_int (HP3'.out (by have h := HNE.out; simp [*])).symm, below_drewN hbl1 _⟩
set_option maxHeartbeats 1600000 in
theorem rcheck23_any (kind : Int) (a : Option Addr) (c : Nat) (xs : List PC) (hl : xs.length ≤ 1000000) (hle : ∀ x ∈ xs, x.l.length ≤ 1000) (w : World) (hr : Rd w a (xs.map PC.val)) (hok : ∀ x ∈ xs, x.Ok w) :
  Calls Tryz.prog 21 #[.int .i64 kind, .slice a xs.length c] w fun e w' => e = .returned (.int .i64 (checkE kind (xs.map (·.l)))) ∧ Below w.heap.size w w' := by
 obtain ⟨E, hE⟩ : ∃ E, checkE kind (xs.map (·.l)) = E := ⟨_, rfl⟩; rw [hE]; unfold checkE at hE; rw [List.length_map] at hE; have HE := Lib.hid hE; clear hE
 go_enter Tryz.func21, Tryz.ntmps21
 by_cases hk : kind = 2 ∨ kind = 3
 ·have hkk : ((kind != 2) && (kind != 3)) = false := by rcases hk with rfl | rfl <;> rfl
  by_cases h0 : xs.length = 0
  ·have HE0 : Hid (E = 15) := Lib.hid (by rw [← HE.out, if_neg (by omega), if_pos h0]); have HK := Lib.hid hk
   rcases hk with rfl | rfl
   ·go_wp2; go_ret; exact ⟨ret_int HE0.out.symm, Below.refl _ _⟩
   ·go_wp2; go_ret; exact ⟨ret_int HE0.out.symm, Below.refl _ _⟩
  ·have HE0 : Hid (E = chk kind true (xs.map (·.l))) := Lib.hid (by rw [← HE.out, if_neg (by omega), if_neg h0]); have HK := Lib.hid hk; clear HE; have loop : ∀ k kk : Int, (kind = k) → True := fun _ _ _ => trivial; clear loop
   rcases hk with rfl | rfl
   all_goals
    go_wp2
    go_loopw [5] (fun i wr => ∃ k : Nat, k ≤ xs.length ∧ i = .int .i64 k ∧ E = chk _ (decide (k = 0)) ((xs.map (·.l)).drop k) ∧ Below w.heap.size w wr) (fun i _ => xs.length - (intOf i).toNat)
    case atStart => exact ⟨0, Nat.zero_le _, rfl, HE0.out, Below.refl _ _⟩
    case round =>
     obtain ⟨k, hk, rfl, hst, hbl⟩ := hrel; have hs := hbl.size
     by_cases hlt : k < xs.length
     ·obtain ⟨x, hxk⟩ : ∃ x, xs[k] = x := ⟨_, rfl⟩; have hxm : x ∈ xs := by rw [← hxk]; exact List.getElem_mem _
      have hxo : x.Ok w := hok x hxm; have hxl := hle x hxm; obtain ⟨b1, off1, rfl, c0, _⟩ := (hr.keep hbl).at (i := k) (v := x.val) (by simp [hlt, hxk]); have hd : (xs.map (·.l)).drop k = x.l :: (xs.map (·.l)).drop (k + 1) := by
       rw [List.drop_eq_getElem_cons (by simpa using hlt)]; simp [hxk]
      rw [hd] at hst; have hp := fun kd hkd => rpart23_any kd (decide (k = 0)) x hxl hkd wr (hxo.keep hbl); have HP := Lib.hid hp; have hkz : (((k : Nat) : Int) == 0) = decide (k = 0) := by
       by_cases h : k = 0
       ·subst h; rfl
       ·rw [decide_eq_false h]; simp; omega
      rw [chk] at hst; have HST := Lib.hid hst; have hk1 : decide (k + 1 = 0) = false := by simp
      have HK1 := Lib.hid hk1; clear hst hp hxk hxm hxo hok hle hr hd hk1 HE0; obtain ⟨l, p, cx⟩ := x; dsimp only [PC.val] at *
      go_wp2_with fail
      refine (HP.out _ (by first | exact .inl rfl | exact .inr rfl)).mono ?_; rintro e w1 ⟨rfl, hb1⟩; have hbl1 := hbl.trans (hb1.mono hs); clear hb1 HP c0; have HST := HST.out; generalize partE _ (decide (k = 0)) l = pe at *
      by_cases hpe : pe = 0
      ·subst hpe; rw [if_neg (by simp), ← HK1.out] at HST; have HST := Lib.hid HST; go_wp2; go_roundw
       case rel => exact ⟨k + 1, by omega, by go_num, HST.out, hbl1⟩
       case measure => simp [intOf]; omega
      ·rw [if_pos hpe] at HST; have HST := Lib.hid HST; have hpe' : (pe != 0) = true := by simpa using hpe
       go_wp2; go_ret; exact ⟨ret_int HST.out.symm, hbl1⟩
     ·rw [chk_end _ _ _ _ (by simpa using hlt)] at hst; obtain rfl : k = xs.length := by omega
      have HST := Lib.hid hst; go_wp2; go_ret; exact ⟨ret_int HST.out.symm, hbl⟩
 ·have HE0 : Hid (E = 14) := Lib.hid (by rw [← HE.out, if_pos (by omega)]); have hk2 : (kind != 2) = true := by simp; omega
  have hk3 : (kind != 3) = true := by simp; omega
  go_wp2
  all_goals first | (exfalso; omega) | (go_ret; exact ⟨ret_int HE0.out.symm, Below.refl _ _⟩)
end Go.Proofs.YtjggoajfilnfjaaGreat
