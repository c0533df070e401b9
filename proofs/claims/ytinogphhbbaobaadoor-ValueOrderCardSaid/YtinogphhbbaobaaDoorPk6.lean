/-
  text.bad; plain: where no rune begins. text.Count, text.Right: the runes of a text. value.Check. A range over a function whose iterator promises something of the world at each call of yield, and of the world behind all rounds; the body never leaves. proto.each, its closure: the contract. (Under way: does not build yet.) proto.Skip.
-/
import Derived.Test.YtinogphhbbaobaaDoorPk5
import Derived.Test.YtinogphhbbaobaaDoorShelf
import Derived.Laws.RangeString
import Derived.Lib.OthersKept
import Derived.RangeFuncNested
import Derived.RangeFuncBound
import Derived.RangeFuncCalls
import Derived.RangeFuncLeaves
import Derived.WalkKit
import Derived.RangeFuncBox
import Derived.Shelf.Abstract
import Derived.Shelf.RegionOpen
import Derived.OwnWalkIn
import Derived.TacticsInMore
import Derived.LoopNIn
import Derived.LoopIn
import Derived.Test.YtinogphhbbaobaaDoorPk4
/- text.bad; plain: where no rune begins. -/
set_option linter.unusedVariables false
set_option linter.unusedSimpArgs false
namespace Go
open Go.RowKit
theorem get_lt {s : ByteArray} {i : Nat} (h : i < s.size) : s.data.toList[i]? = some (s.get! i) := by
  rw [Array.getElem?_toList]; have : s.get! i = s.data[i]'h := by
    show s.data[i]! = _; rw [getElem!_pos s.data i h]
  rw [this, Array.getElem?_eq_getElem h]
theorem ext_size (s : ByteArray) (i : Nat) : (s.extract i s.size).size = s.size - i := by
  simp [ByteArray.size_extract]
theorem ext_get (s : ByteArray) (i k : Nat) (h : i + k < s.size) : (s.extract i s.size).get! k = s.get! (i + k) := by
  have h1 : k < (s.extract i s.size).size := by rw [ext_size]; omega
  have e1 := get_lt h1; have e2 := get_lt h; have : (s.extract i s.size).data.toList[k]? = s.data.toList[i + k]? := by
    rw [Array.getElem?_toList, Array.getElem?_toList, ByteArray.data_extract, Array.getElem?_extract]; have hs : s.data.size = s.size := rfl; rw [hs, Nat.min_self, if_pos (by omega)]
  rw [this, e2] at e1; exact (Option.some.inj e1).symm
theorem byt_out {s : ByteArray} {i : Nat} (h : ¬ i < s.size) : byt s i = 0 := by
  unfold byt; have : s.get! i = default := by
    show s.data[i]! = _; rw [getElem!_neg s.data i h]
  rw [this]; rfl
theorem ext_byt (s : ByteArray) (i k : Nat) : byt (s.extract i s.size) k = byt s (i + k) := by
  by_cases h : i + k < s.size
  · unfold byt; rw [ext_get s i k h]
  · rw [byt_out h, byt_out (by rw [ext_size]; omega)]
theorem ext_cont (s : ByteArray) (i k : Nat) : cont (s.extract i s.size) k = cont s (i + k) := by
  unfold cont; rw [ext_byt, ext_size]
  by_cases h : i + k < s.size
  · simp [h, show k < s.size - i by omega]
  · simp [h, show ¬ k < s.size - i by omega]
theorem ext_decode (s : ByteArray) (i k : Nat) : Utf8.decode (s.extract i s.size) k = Utf8.decode s (i + k) := by
  rw [decode_eq, decode_eq]; simp only [ext_byt, ext_cont, Nat.add_assoc]
theorem ext_bad (s : ByteArray) (i k : Nat) : badAt (s.extract i s.size) k = badAt s (i + k) := by
  unfold badAt; rw [ext_decode]
theorem ext_first (s : ByteArray) (i k : Nat) : firstF (s.extract i s.size) k = firstF s (i + k) := by
  unfold firstF; rw [ext_bad, ext_decode]
theorem cont_iff (s : ByteArray) (i : Nat) : cont s i = true ↔ i < s.size ∧ 128 ≤ byt s i ∧ byt s i < 192 := by
  unfold cont; simp only [Bool.and_eq_true, decide_eq_true_eq, and_assoc]
theorem decode_wid {s : ByteArray} {i : Nat} (h : i < s.size) : 1 ≤ (Utf8.decode s i).2 ∧ i + (Utf8.decode s i).2 ≤ s.size ∧ (Utf8.decode s i).2 ≤ 4 ∧ (Utf8.decode s i).1 ≤ 1114111 := by
  have h0 := byt_lt s i; have c1 := cont_iff s (i + 1); have c2 := cont_iff s (i + 2); have c3 := cont_iff s (i + 3); rw [decode_eq]
  repeat' split
  all_goals simp_all
  all_goals omega
theorem bad_iff {s : ByteArray} {i : Nat} (h : i < s.size) : badAt s i = true ↔ (Utf8.decode s i).1 = 65533 ∧ ¬ (byt s i = 239 ∧ byt s (i + 1) = 191 ∧ byt s (i + 2) = 189) := by
  have h0 := byt_lt s i; have c1 := cont_iff s (i + 1); have c2 := cont_iff s (i + 2); have c3 := cont_iff s (i + 3); have o1 : ¬ i + 1 < s.size → byt s (i + 1) = 0 := byt_out; have o2 : ¬ i + 2 < s.size → byt s (i + 2) = 0 := byt_out; unfold badAt; rw [decide_eq_true_eq, decode_eq]
  repeat' split
  all_goals simp_all
  all_goals omega
theorem isPrefixOf_three (l : List UInt8) (a b c : UInt8) : [a, b, c].isPrefixOf l = (decide (l[0]? = some a) && decide (l[1]? = some b) && decide (l[2]? = some c)) := by
  match l with
  | [] => simp [List.isPrefixOf]
  | [x] => simp [List.isPrefixOf]
  | [x, y] => simp [List.isPrefixOf]
  | x :: y :: z :: t =>
    simp only [List.isPrefixOf, Bool.and_true, List.getElem?_cons_zero, List.getElem?_cons_succ, Option.some.injEq, Bool.and_assoc]; rw [Bool.eq_iff_iff]; simp only [Bool.and_eq_true, beq_iff_eq, decide_eq_true_eq]; constructor <;> (rintro ⟨rfl, rfl, rfl⟩; exact ⟨rfl, rfl, rfl⟩)
theorem get_byt {s : ByteArray} {i : Nat} {b : UInt8} : s.data.toList[i]? = some b ↔ i < s.size ∧ byt s i = b.toNat := by
  by_cases h : i < s.size
  · rw [get_lt h]; simp only [Option.some.injEq, h, true_and]; unfold byt; exact ⟨fun e => by rw [e], fun e => UInt8.toNat_inj.1 e⟩
  · have : s.data.toList[i]? = none := by rw [Array.getElem?_toList]; exact Array.getElem?_eq_none (Nat.le_of_not_lt h)
    rw [this]; simp [h]
theorem pre_fffd (s : ByteArray) (i : Nat) : Lib.hasPrefix (s.extract i s.size).data.toList [239, 191, 189] = decide (byt s i = 239 ∧ byt s (i + 1) = 191 ∧ byt s (i + 2) = 189) := by
  unfold Lib.hasPrefix; rw [isPrefixOf_three]; have e : ∀ (k : Nat) (b : UInt8), 0 < b.toNat → ((s.extract i s.size).data.toList[k]? = some b ↔ byt s (i + k) = b.toNat) := by
    intro k b hb; rw [get_byt, ext_byt, ext_size]; constructor
    · exact fun h => h.2
    · intro h; refine ⟨?_, h⟩
      by_cases hk : i + k < s.size
      · omega
      · rw [byt_out hk] at h; omega
  rw [Bool.eq_iff_iff]; simp only [Bool.and_eq_true, decide_eq_true_eq, e 0 239 (by decide), e 1 191 (by decide), e 2 189 (by decide), Nat.add_zero, and_assoc]; exact Iff.rfl
end Go
namespace Go.Proofs.YtinogphhbbaobaaDoor
open Go.RowKit

set_option maxHeartbeats 800000 in
theorem bad_any (s : ByteArray) (i : Nat) (h : i < s.size) (hs : s.size ≤ maxLen) (w : World) :
    Calls Tryd.prog 53 #[.string s, .int .i64 i, .int .i32 (Utf8.decode s i).1] w fun e w' => e = .returned (.bool (badAt s i)) ∧ w' = w := by
  have hb := bad_iff h; have hp := pre_fffd s i; have hi : (i : Int) ≤ (s.size : Int) := by omega
  obtain ⟨X, hX⟩ : ∃ X : Bool, decide (byt s i = 239 ∧ byt s (i + 1) = 191 ∧ byt s (i + 2) = 189) = X := ⟨_, rfl⟩; have HC : Hid (∀ w, Calls Tryd.prog 37 #[.string (s.extract i s.size), .string ⟨#[239, 191, 189]⟩] w fun e w' => e = .returned (.bool X) ∧ w' = w) := Lib.hid (fun w => by
    have := Tryd.strings_HasPrefix (s.extract i s.size) ⟨#[239, 191, 189]⟩ w; rw [show (⟨#[239, 191, 189]⟩ : ByteArray).data.toList = [239, 191, 189] from rfl, hp, hX] at this; exact this)
  have HB : Hid ((badAt s i) = (decide ((Utf8.decode s i).1 = 65533) && !X)) := Lib.hid (by
    rw [← hX, Bool.eq_iff_iff, hb, Bool.and_eq_true, Bool.not_eq_true', decide_eq_true_eq, decide_eq_false_iff_not])
  clear hb hp hX; generalize badAt s i = B at *; generalize (Utf8.decode s i).1 = r at *
  go_enter Tryd.func53, Tryd.ntmps53
  by_cases hr : (r : Int) = 65533
  · have hB : B = !X := by rw [HB.out]; simp; omega
    rw [hr]; subst hB
    go_wp2_with fail
    refine (HC.out _).mono ?_; rintro e w1 ⟨rfl, rfl⟩; go_wp2; go_ret; exact ⟨rfl, rfl⟩
  · have hB : B = false := by rw [HB.out]; simp; omega
    subst hB; have hrb : ((r : Int) == 65533) = false := by simp; omega
    go_wp2; go_ret; exact ⟨rfl, rfl⟩
end Go.Proofs.YtinogphhbbaobaaDoor
/- text.Count, text.Right: the runes of a text. -/
set_option linter.unusedVariables false
set_option linter.unusedSimpArgs false
namespace Go
open Go.RowKit
def rl (s : ByteArray) : Nat → Nat → List (Nat × Nat)
  | 0, _ => []
  | f + 1, p => if p < s.size then ((Utf8.decode s p).1, p) :: rl s f (p + (Utf8.decode s p).2) else []
def runesF (s : ByteArray) : List (Nat × Nat) := rl s s.size 0
def rightF (s : ByteArray) : Bool := (runesF s).all (fun x => !badAt s x.2)
theorem rl_end (s : ByteArray) (f p : Nat) (h : ¬ p < s.size) : rl s f p = [] := by
  cases f with
  | zero => rfl
  | succ f => simp [rl, h]
theorem rl_step (s : ByteArray) (f p : Nat) (h : p < s.size) : rl s (f + 1) p = ((Utf8.decode s p).1, p) :: rl s f (p + (Utf8.decode s p).2) := by simp [rl, h]
theorem below_iter (w : World) (s : ByteArray) (p : Nat) : Below w.heap.size w (w.iter s p) := (Below.refl _ _).alloc (Nat.le_refl _) _
end Go
namespace Go.Proofs.YtinogphhbbaobaaDoor
open Go.RowKit

set_option maxHeartbeats 800000 in
theorem count_any (s : ByteArray) (hs : s.size ≤ maxLen) (w : World) :
    Calls Tryd.prog 52 #[.string s] w fun e w' => e = .returned (.tuple #[.int .i64 (if rightF s then ((runesF s).length : Int) else 0), .bool (rightF s)]) ∧ Below w.heap.size w w' := by
  have hs2 : s.size ≤ 9223372036854775807 := by unfold maxLen at hs; omega
  obtain ⟨C, hC⟩ : ∃ C : Int, (if rightF s then ((runesF s).length : Int) else 0) = C := ⟨_, rfl⟩; rw [hC]; obtain ⟨T, hT⟩ : ∃ T : Bool, rightF s = T := ⟨_, rfl⟩; rw [hT] at hC ⊢; have HC := Lib.hid hC; have HT := Lib.hid hT; clear hC hT
  go_enter Tryd.func52, Tryd.ntmps52
  go_wp2
  go_loopw [4] (fun n wr => ∃ (p f : Nat) (pre : List (Nat × Nat)), n = .int .i64 (pre.length : Int) ∧ wr = w.iter s p ∧ Hid (runesF s = pre ++ rl s f p) ∧ Hid (pre.all (fun x => !badAt s x.2) = true) ∧ s.size ≤ p + f ∧ pre.length ≤ p ∧ p ≤ s.size) (fun n _ => s.size - (intOf n).toNat)
  case atStart => exact ⟨0, s.size, [], rfl, rfl, Lib.hid rfl, Lib.hid rfl, by omega, by simp, by omega⟩
  case round =>
    obtain ⟨p, f, pre, rfl, rfl, HR, HA, hpf, hpl, hps⟩ := hrel
    by_cases hp : p < s.size
    · obtain ⟨f, rfl⟩ : ∃ g, f = g + 1 := ⟨f - 1, by omega⟩; have hnx : ∀ ty, (Instr.next (.pointer (some ⟨w.heap.size, 0, none⟩)) true ty).run Tryd.prog (w.iter s p) = _ := fun ty => run_next_any w s p ty hp; have hwd := decode_wid hp; have hbad := bad_any s p hp hs; rw [rl_step s f p hp] at HR; have HRT : Hid (badAt s p = true → rightF s = false) := Lib.hid (fun h => by
        unfold rightF; rw [HR.out, List.all_append, List.all_cons]; simp [h])
      obtain ⟨B, hB⟩ : ∃ B, badAt s p = B := ⟨_, rfl⟩; have HBB := Lib.hid hB; rw [hB] at hbad HRT; clear hB; obtain ⟨W, hW⟩ : ∃ W, p + (Utf8.decode s p).2 = W := ⟨_, rfl⟩; rw [hW] at hnx HR; obtain ⟨R, hR⟩ : ∃ R, (Utf8.decode s p).1 = R := ⟨_, rfl⟩; rw [hR] at hnx hbad HR; have HBAD := Lib.hid hbad; have hbW : Below w.heap.size w (w.iter s W) := below_iter w s W; have hWb : p < W ∧ W ≤ s.size := by omega
      clear hbad hwd hR hW
      go_wp2_with fail
      refine (HBAD.out _).mono ?_; rintro e w1 ⟨rfl, rfl⟩
      cases B with
      | true =>
        have HF := Lib.hid (HRT.out rfl); clear HRT; go_wp2; refine bodyPost_ret (v := .tuple #[.int .i64 0, .bool false]) (by simp [results, Tryd.results52, go_sem]) rfl ⟨?_, hbW⟩; rw [← HC.out, ← HT.out, HF.out]; rfl
      | false =>
        have hlen : Value.int .i64 ((pre.length : Int) + 1) = Value.int .i64 (((pre ++ [(R, p)]).length : Nat) : Int) := by simp
        have hw0 : IntKind.i64.wrap ((pre.length : Int) + 1) = (pre.length : Int) + 1 := IntWalk.i64_in _ (by omega); go_wp2; go_roundw
        case rel => exact ⟨W, f, pre ++ [(R, p)], rfl, rfl, Lib.hid (by rw [HR.out, List.append_assoc]; rfl), Lib.hid (by rw [List.all_append, HA.out]; simp [HBB.out]), by omega, by simp; omega, by omega⟩
        case measure => simp [intOf]; omega
    · have hnx : ∀ ty, (Instr.next (.pointer (some ⟨w.heap.size, 0, none⟩)) true ty).run Tryd.prog (w.iter s p) = _ := fun ty => Lib.run_next_end_at (w.iter s p) w.heap.size s p ty (World.iter_heap w s p) hp; have hbW : Below w.heap.size w (w.iter s p) := below_iter w s p; rw [rl_end s f p hp, List.append_nil] at HR; have hF : rightF s = true := by unfold rightF; rw [HR.out]; exact HA.out
      have HF := Lib.hid hF; clear hF HA; go_wp2; refine bodyPost_ret (v := .tuple #[.int .i64 (pre.length : Int), .bool true]) (by simp [results, Tryd.results52, go_sem]) rfl ⟨?_, hbW⟩; rw [← HC.out, ← HT.out, HF.out, HR.out]; simp

theorem right_any (s : ByteArray) (hs : s.size ≤ maxLen) (w : World) :
    Calls Tryd.prog 34 #[.string s] w fun e w' => e = .returned (.bool (rightF s)) ∧ Below w.heap.size w w' := by
  have hc := Lib.hid (count_any s hs); generalize (if rightF s then ((runesF s).length : Int) else 0) = C at *; generalize rightF s = T at *
  go_enter Tryd.func34, Tryd.ntmps34
  go_wp2_with fail
  refine (hc.out _).mono ?_; rintro e w1 ⟨rfl, hb⟩; go_wp2; go_ret; exact ⟨rfl, hb⟩
end Go.Proofs.YtinogphhbbaobaaDoor
/- value.Check. -/
set_option linter.unusedVariables false
set_option linter.unusedSimpArgs false
set_option maxRecDepth 100000
namespace Go
open Go.RowKit
theorem empty_txt (s : ByteArray) : s.toList.isEmpty = decide (s.size = 0) := by
  rw [ByteArray.toList_eq]; obtain ⟨⟨l⟩⟩ := s
  cases l <;> simp [ByteArray.size]
def vcF (k : Int) (t : ByteArray) (n : Int) : Int :=
  if k = 1 then (if n ≠ 0 then 3 else if rightF t = false then 13 else if 64 < t.size then 2 else 0)
  else if k = 3 then (if t.size ≠ 0 then 3 else if n < -1152921504606846976 ∨ 1152921504606846976 < n then 5 else 0)
  else if k = 2 then (if t.size ≠ 0 then 3 else if n < 0 ∨ 1152921504606846976 < n then 5 else 0)
  else if k = 4 then (if t.size ≠ 0 then 3 else if n < 0 ∨ 1 < n then 5 else 0)
  else 14
end Go
namespace Go.Proofs.YtinogphhbbaobaaDoor
open Go.RowKit

set_option maxHeartbeats 3200000 in
theorem vchk_any (k n : Int) (t : ByteArray) (ht : t.size ≤ maxLen) (w : World) :
    Calls Tryd.prog 17 #[.agg #[.int .i64 k, .string t, .int .i64 n]] w fun e w' => e = .returned (.int .i64 (vcF k t n)) ∧ Below w.heap.size w w' := by
  have hs2 : t.size ≤ 9223372036854775807 := by unfold maxLen at ht; omega
  have HV := Lib.hid (vcF.eq_1 k t n); have HRI := Lib.hid (fun W => right_any t ht W); have HTE : Hid (t.size = 0 → t = ⟨#[]⟩) := Lib.hid (fun h => by
    apply ByteArray.ext; exact Array.eq_empty_of_size_eq_zero h)
  have HTN : Hid (t.size ≠ 0 → t.toList.isEmpty = false) := Lib.hid (fun h => by rw [empty_txt]; simp [h]); generalize vcF k t n = V at *; generalize rightF t = T at *; have k1 := Blk.lit w w.heap.size [.int .i64 k, .string t, .int .i64 n] 23 rfl; have hb0 := Below.new w (.cells #[.int .i64 k, .string t, .int .i64 n] 23); obtain ⟨B, hB⟩ : ∃ B, w.heap.size = B := ⟨_, rfl⟩; have HBE := Lib.hid hB; rw [hB] at k1; have x0 := k1.cell 0 rfl; have x1 := k1.cell 1 rfl; have x2 := k1.cell 2 rfl
  go_enter Tryd.func17, Tryd.ntmps17
  by_cases h1 : k = 1
  · have hq := HV.out; rw [if_pos h1] at hq; subst h1; have hV := Lib.hid hq; clear HV hq
    by_cases hn : n = 0
    · have hV2 := hV.out; rw [if_neg (by omega)] at hV2; replace hV := Lib.hid hV2; subst hn; clear hV2
      go_wp2_with fail
      refine (HRI.out _).mono ?_; rintro e w1 ⟨rfl, hb1⟩; have k2 := k1.keep hb1; have hbw := hb0.trans (hb1.mono hb0.size); clear x0 x1 x2 hb1; have x0 := k2.cell 0 rfl; have x1 := k2.cell 1 rfl; have x2 := k2.cell 2 rfl
      cases T with
      | false =>
        go_wp2; go_ret; exact ⟨ret_int (by rw [hV.out]; simp), hbw⟩
      | true =>
        by_cases hl : 64 < t.size
        · have hl' : (64 : Int) < (t.size : Int) := by omega
          go_wp2; go_ret; exact ⟨ret_int (by rw [hV.out]; simp [hl]), hbw⟩
        · have hl' : ¬ (64 : Int) < (t.size : Int) := by omega
          go_wp2; go_ret; exact ⟨ret_int (by rw [hV.out]; simp [hl]), hbw⟩
    · have hV2 := hV.out; rw [if_pos hn] at hV2; have hV2 := Lib.hid hV2; have hn' : (n == 0) = false := by simpa using hn
      go_wp2; go_ret; exact ⟨ret_int hV2.out.symm, by first | exact hb0 | (rw [← HBE.out]; exact hb0)⟩
  · have h1' : (k == 1) = false := by simpa using h1
    have hq := HV.out; rw [if_neg h1] at hq; replace HV := Lib.hid hq; clear hq
    by_cases h3 : k = 3
    · have hq := HV.out; rw [if_pos h3] at hq; subst h3; have hV := Lib.hid hq; clear HV hq h1 h1'
      by_cases hz : t.size = 0
      · have hV2 := hV.out; rw [if_neg (by omega)] at hV2; replace hV := Lib.hid hV2; clear hV2; obtain rfl := HTE.out hz; clear hz HTE HTN HRI
        by_cases ha : n < -1152921504606846976
        · go_wp2; go_ret; exact ⟨ret_int (by rw [hV.out]; simp [ha]), by first | exact hb0 | (rw [← HBE.out]; exact hb0)⟩
        · by_cases hc : 1152921504606846976 < n
          · go_wp2; go_ret; exact ⟨ret_int (by rw [hV.out]; simp [hc]), by first | exact hb0 | (rw [← HBE.out]; exact hb0)⟩
          · go_wp2; go_ret; exact ⟨ret_int (by rw [hV.out, if_neg (by omega)]), by first | exact hb0 | (rw [← HBE.out]; exact hb0)⟩
      · have hV2 := hV.out; rw [if_pos hz] at hV2; have hV2 := Lib.hid hV2; have hte := HTN.out hz; go_wp2; go_ret; exact ⟨ret_int hV2.out.symm, by first | exact hb0 | (rw [← HBE.out]; exact hb0)⟩
    · have h3' : (k == 3) = false := by simpa using h3
      have hq := HV.out; rw [if_neg h3] at hq; replace HV := Lib.hid hq; clear hq
      by_cases h2 : k = 2
      · have hq := HV.out; rw [if_pos h2] at hq; subst h2; have hV := Lib.hid hq; clear HV hq h1 h1' h3 h3'
        by_cases hz : t.size = 0
        · have hV2 := hV.out; rw [if_neg (by omega)] at hV2; replace hV := Lib.hid hV2; clear hV2; obtain rfl := HTE.out hz; clear hz HTE HTN HRI
          by_cases ha : n < 0
          · go_wp2; go_ret; exact ⟨ret_int (by rw [hV.out]; simp [ha]), by first | exact hb0 | (rw [← HBE.out]; exact hb0)⟩
          · by_cases hc : 1152921504606846976 < n
            · go_wp2; go_ret; exact ⟨ret_int (by rw [hV.out]; simp [hc]), by first | exact hb0 | (rw [← HBE.out]; exact hb0)⟩
            · go_wp2; go_ret; exact ⟨ret_int (by rw [hV.out, if_neg (by omega)]), by first | exact hb0 | (rw [← HBE.out]; exact hb0)⟩
        · have hV2 := hV.out; rw [if_pos hz] at hV2; have hV2 := Lib.hid hV2; have hte := HTN.out hz; go_wp2; go_ret; exact ⟨ret_int hV2.out.symm, by first | exact hb0 | (rw [← HBE.out]; exact hb0)⟩
      · have h2' : (k == 2) = false := by simpa using h2
        have hq := HV.out; rw [if_neg h2] at hq; replace HV := Lib.hid hq; clear hq
        by_cases h4 : k = 4
        · have hq := HV.out; rw [if_pos h4] at hq; subst h4; have hV := Lib.hid hq; clear HV hq h1 h1' h3 h3' h2 h2'
          by_cases hz : t.size = 0
          · have hV2 := hV.out; rw [if_neg (by omega)] at hV2; replace hV := Lib.hid hV2; clear hV2; obtain rfl := HTE.out hz; clear hz HTE HTN HRI
            by_cases ha : n < 0
            · go_wp2; go_ret; exact ⟨ret_int (by rw [hV.out]; simp [ha]), by first | exact hb0 | (rw [← HBE.out]; exact hb0)⟩
            · by_cases hc : 1 < n
              · go_wp2; go_ret; exact ⟨ret_int (by rw [hV.out]; simp [hc]), by first | exact hb0 | (rw [← HBE.out]; exact hb0)⟩
              · go_wp2; go_ret; exact ⟨ret_int (by rw [hV.out, if_neg (by omega)]), by first | exact hb0 | (rw [← HBE.out]; exact hb0)⟩
          · have hV2 := hV.out; rw [if_pos hz] at hV2; have hV2 := Lib.hid hV2; have hte := HTN.out hz; go_wp2; go_ret; exact ⟨ret_int hV2.out.symm, by first | exact hb0 | (rw [← HBE.out]; exact hb0)⟩
        · have h4' : (k == 4) = false := by simpa using h4
          have hq := HV.out; rw [if_neg h4] at hq; replace HV := Lib.hid hq; clear hq; go_wp2; go_ret; exact ⟨ret_int HV.out.symm, by first | exact hb0 | (rw [← HBE.out]; exact hb0)⟩
end Go.Proofs.YtinogphhbbaobaaDoor
/- A range over a function whose iterator promises something of the world at each call of yield, and of the world behind all rounds; the body never leaves. -/
namespace Go
open Go.RowKit

variable {F : Fence} {n : Nat} {P : Program}

def SeqAhead {α : Type} (F : Fence) (n : Nat) (P : Program) (g : Nat) (lb : Array Value) (encs : α → Array Value) (Ahead : List α → α → World → Prop) (Kp : World → World → Prop) (S : List α → World → Prop) (w : World) : Prop :=
  ∀ (l : Nat) (J : List α → World → Prop) (W : World), Below w.heap.size w W → AbidesFrom W.heap.size J →
    (∀ pre x W1, J pre W1 → Ahead pre x W1 → YieldAt F (n - 1) P l (encs x) W1 fun e W' => e = .returned (.bool true) ∧ J (pre ++ [x]) W' ∧ Kp W1 W') →
    J [] W → CallsIn F n P g (#[.func (.yield l) #[] #[]] ++ lb) W fun e W' => (∃ v, e = .returned v) ∧ ∃ xs, S xs W' ∧ J xs W'

def postAhead {α : Type} (Kp : World → World → Prop) (I : List α → World → Prop) (xs : List α) (W : World) : Exit → Act → World → Prop
  | .normal, _, W' => KeepsOthers W W' ∧ Kp W W' ∧ I xs W'
  | _, _, _ => False

theorem wpIn_rangeFunc_ahead {α : Type} {g : Operand} {ps : Array Tmp} {assign body : Code} {Q : Exit → Act → World → Prop} {a : Act} {w : World}
    (hro : F.round = none) (h1 : 1 ≤ n) {gf : Nat} {lb : Array Value} (hg : a.eval g = .func (.func gf) #[] lb) (hFg : F.fn gf) (eg : ∀ args w, (callFunc gf args).run P w = .ok (.enter gf args) w)
    {encs : α → Array Value} {Ahead : List α → α → World → Prop} {Kp : World → World → Prop} {S : List α → World → Prop} {w0 : World} (hseq : SeqAhead F (n - 1) P gf lb encs Ahead Kp S w0)
    (hKt : ∀ {A B C : World}, Kp A B → Kp B C → Kp A C) (hKb : ∀ (W : World) (l : Nat) (o o' : Obj), w.heap.size ≤ l → W.heap[l]? = some o → o.isCells = false → Kp W (W.putObj l o'))
    (hb0 : Below w0.heap.size w0 w) (hps : ∀ x, (encs x).size = ps.size)
    (I : List α → World → Prop) (hI : OwnFrom w.heap.size I) (hS : OwnFrom w.heap.size S) (h0 : I [] w)
    (Mid : List α → α → Act → World → Prop) (hM : ∀ pre x a', OwnFrom w.heap.size (fun (_ : Unit) W => Mid pre x a' W))
    (hassign : ∀ (l : Nat) (pre : List α) (x : α) (W : World), I pre W → Ahead pre x W →
      assign.wpIn (F.inRound l) (n - 1 - 1) P (Exit.then (fun a' W' => KeepsOthers W W' ∧ Kp W W' ∧ Mid pre x a' W') (fun _ _ _ => False)) { tmps := (ps.zip (encs x)).foldl (fun t (p, v) => t.setIfInBounds p v) a.tmps, defers := [] } W)
    (hbody : ∀ (l : Nat) (pre : List α) (x : α) (a' : Act) (W : World), Mid pre x a' W → body.wpIn (F.inRound l) (n - 1 - 1) P (postAhead Kp I (pre ++ [x]) W) a' W)
    (hdone : ∀ (D : Nat) (xs : List α) (W : World), w.heap.size ≤ D → S xs W → I xs W → W.heap[D]? = some (.deferred (some [])) → Q .normal { a with defers := { target := .collected D, args := #[] } :: a.defers } W) :
    (Code.rangeFunc g ps assign body).wpIn F n P Q a w := by
  refine wpIn_rangeFunc fun fn hfn => ?_; rw [hro]
  -- the loop's record, block H + 1; the block for the rounds' deferred calls, block H
  obtain ⟨rec, hrec⟩ : ∃ rec : LoopState → Loop, rec = fun st => { state := st, pending := none, fn, tmps := a.tmps, params := ps, assign, body, defers := w.heap.size } := ⟨_, rfl⟩; obtain ⟨W1, hW1⟩ : ∃ W1, (w.alloc (.deferred (some []))).alloc (.loop (rec .ready)) = W1 := ⟨_, rfl⟩; have hs1 : W1.heap.size = w.heap.size + 2 := by rw [← hW1]; simp
  have hk1 : KeepsOthers w W1 := by rw [← hW1]; exact (KeepsOthers.alloc _ _).trans (KeepsOthers.alloc _ _)
  have hL1 : W1.heap[w.heap.size + 1]? = some (.loop (rec .ready)) := by
    rw [← hW1]; have := World.alloc_heap_new (w.alloc (.deferred (some []))) (.loop (rec .ready)); rwa [World.size_alloc] at this
  have hD1 : W1.heap[w.heap.size]? = some (.deferred (some [])) := by
    rw [← hW1]; exact (Below.heap_alloc _ _ _ (by simp)).trans (World.alloc_heap_new w _)
  have hI1 : I [] W1 := by rw [← hW1]; exact hI.alloc _ (hI.alloc _ h0)
  have hb1 : Below w0.heap.size w0 W1 := by
    rw [← hW1]; exact hb0.trans ((((Below.refl _ w).alloc (Nat.le_refl _) _).alloc (by simp) _).mono hb0.size)
  refine ⟨w.heap.size + 1, [{ target := .collected w.heap.size, args := #[] }], W1, { target := .fn (.func gf) lb, args := #[.func (.yield (w.heap.size + 1)) #[] #[]] }, W1, gf,
    #[.func (.yield (w.heap.size + 1)) #[] #[]] ++ lb, W1, ?_, ?_, ?_, ?_, fun _ => h1, ?_⟩
  · rw [← hW1, hrec]; exact run_enterLoop_outer _ _ _ _ _
  · simp only [resolve, hg]; simp [go_sem]
  · intro f' hf'; simp [Target.leads] at hf'; subst hf'; exact hFg
  · simp [invoke, go_sem, eg]
  · refine (hseq (w.heap.size + 1) (fun pre W => I pre W ∧ W.heap[w.heap.size + 1]? = some (.loop (rec .ready)) ∧ W.heap[w.heap.size]? = some (.deferred (some []))) W1 hb1 ?_ ?_ ⟨hI1, hL1, hD1⟩).mono ?_
    · rintro pre A B row ⟨hi, hl, hd⟩ hgr hr; refine ⟨hI pre A B row hi hgr fun r e => ?_, ?_, ?_⟩
      · obtain ⟨hB, o, ho, hw⟩ := hr r e; exact ⟨by omega, o, ho, Obj.not_cells_of_walk hw⟩
      · exact (grownBy_keeps hgr (fun r e => (hr r e).2) hl rfl).trans hl
      · exact (grownBy_keeps hgr (fun r e => (hr r e).2) hd rfl).trans hd
    · rintro pre x W ⟨hi, hl, hd⟩ hah; have hy := run_yield (P := P) (args := encs x) hl (by rw [hrec]; exact hps x); rw [hrec] at hy; refine ⟨fn, _, assign, body, hy, roundIn_of_wpIn hfn (wpIn_mono (hassign _ pre x W hi hah) ?_)⟩; rintro e a' Wa hp
      cases e with
      | normal =>
        obtain ⟨hka, hkpa, hm⟩ := hp; have hla := hka.same _ _ hl rfl; have hda := hka.same _ _ hd rfl; have hlt : w.heap.size + 1 < Wa.heap.size := (Array.getElem?_eq_some_iff.1 hla).1; refine ⟨_, run_beginRound hla (by rw [hrec]), ?_⟩; refine wpIn_mono (hbody _ pre x a' _ ((hM pre x a').putObj (s := ()) _ hm (by omega) hla rfl)) ?_; have hl2 : (Wa.putObj (w.heap.size + 1) (.loop { rec .ready with state := .busy })).heap[w.heap.size + 1]? = some (.loop { rec .ready with state := .busy }) := World.putObj_heap_same hlt; have hd2 : (Wa.putObj (w.heap.size + 1) (.loop { rec .ready with state := .busy })).heap[w.heap.size]? = some (.deferred (some [])) := (World.putObj_heap_other (by omega)).trans hda; have hw2 : Kp Wa (Wa.putObj (w.heap.size + 1) (.loop { rec .ready with state := .busy })) := hKb _ _ _ _ (by omega) hla rfl; rintro e a3 W3 hp3
        cases e with
        | normal =>
          obtain ⟨hk3, hkp3, hi3⟩ := hp3; have hl3 := hk3.same _ _ hl2 rfl; have hd3 := hk3.same _ _ hd2 rfl; have her := run_endRound (P := P) none hl3; refine ⟨_, _, her, rfl, ⟨hI.putObj _ hi3 (by omega) hl3 rfl, ?_, ?_⟩, hKt hkpa (hKt hw2 (hKt hkp3 (hKb _ _ _ _ (by omega) hl3 rfl)))⟩
          · rw [World.putObj_heap_same (Array.getElem?_eq_some_iff.1 hl3).1, hrec]; rfl
          · exact (World.putObj_heap_other (by omega)).trans hd3
        | ret => exact hp3.elim
        | exit id => exact hp3.elim
        | goto t => exact hp3.elim
        | panic ch => exact hp3.elim
        | outgrown => exact hp3.elim
      | ret => exact hp.elim
      | exit id => exact hp.elim
      | goto t => exact hp.elim
      | panic ch => exact hp.elim
      | outgrown => exact hp.elim
    · rintro e W2 ⟨⟨v, rfl⟩, xs, hSx, hi, hl, hd⟩; have hel := run_endLoop (P := P) hl (by rw [hrec]; simp); rw [hrec] at hel; refine ⟨none, _, hel, hdone _ xs _ (Nat.le_refl _) (hS.putObj _ hSx (by omega) hl rfl) (hI.putObj _ hi (by omega) hl rfl) ((World.putObj_heap_other (by omega)).trans hd)⟩
end Go
/- proto.each, its closure: the contract. (Under way: does not build yet.) -/
namespace Go
open Go.RowKit Go.Proto

def KeepT (T U : TypeId) (A B : World) : Prop := A.heap.size ≤ B.heap.size ∧ ∀ (k : Nat) (cs : Array Value) (V : TypeId) (fr : Nat × Nat), A.heap[k]? = some (Obj.cells cs V fr) → (V = T ∨ V = U) → B.heap[k]? = A.heap[k]?

theorem KeepT.trans {T U : TypeId} {A B C : World} (h : KeepT T U A B) (k : KeepT T U B C) : KeepT T U A C :=
  ⟨Nat.le_trans h.1 k.1, fun i cs V fr hi hv => by
    have h1 := h.2 i cs V fr hi hv; rw [k.2 i cs V fr (h1.trans hi) hv, h1]⟩
theorem KeepT.of_below {T U : TypeId} {A B : World} (h : Below A.heap.size A B) : KeepT T U A B :=
  ⟨h.size, fun k _ _ _ hk _ => h.block k (Array.getElem?_eq_some_iff.1 hk).1⟩
theorem KeepT.putObj {T U : TypeId} (W : World) (l : Nat) (o o' : Obj) (h : W.heap[l]? = some o) (ho : o.isCells = false) : KeepT T U W (W.putObj l o') := by
  have hg := grownBy_putObj' W l o'; refine ⟨hg.size, fun k cs V fr hk _ => hg.block k (Array.getElem?_eq_some_iff.1 hk).1 fun e => ?_⟩
  cases e
  rw [h] at hk
  cases hk
  cases ho
end Go
namespace Go.Proofs.YtinogphhbbaobaaDoor
open Go.RowKit Go.Vint Go.Proto
attribute [local go_sem] Oper.semAt_some

def behind (L : List Int) (pre : List (Nat × FC)) : Int := match pre.getLast? with
  | none => 0
  | some x => (x.1 : Int) + (prd (L.drop x.1)).2.1

theorem behind_snoc (L : List Int) (pre : List (Nat × FC)) (x : Nat × FC) : behind L (pre ++ [x]) = (x.1 : Int) + (prd (L.drop x.1)).2.1 := by simp [behind]

def Lies (W : World) (x : FC) : Prop := x.Ok W ∧ ∀ b, x.p.map (·.block) = some b → Typed 5 W b

def AtYield (L : List Int) (pre : List (Nat × FC)) (x : Nat × FC) (W : World) : Prop :=
  pre.length ≤ x.1 ∧ x.1 < L.length ∧ (prd (L.drop x.1)).2.2 = 0 ∧ (prd (L.drop x.1)).1 = x.2.f ∧ Lies W x.2

def AtEnd (L : List Int) (xs : List (Nat × FC)) (W : World) : Prop :=
  (∃ p g : Nat, behind L xs = p ∧ p ≤ L.length ∧ xs.length ≤ p ∧ pall L = pallF (g + 1) L p (xs.map (·.2.f)) ∧ (p = L.length ∨ (prd (L.drop p)).2.2 ≠ 0)) ∧ ∀ x ∈ xs, Lies W x.2

def KpE (n₀ : Nat) (A B : World) : Prop := Below n₀ A B ∧ KeepT 5 25 A B

theorem Lies.kept {A B : World} {x : FC} (h : Lies A x) (hk : KeepT 5 25 A B) : Lies B x := by
  obtain ⟨⟨hr, h2⟩, ht⟩ := h; refine ⟨⟨?_, h2⟩, fun b hb => ?_⟩
  · rcases hr with hr | ⟨b, off, hp, hc⟩
    · exact .inl hr
    · refine .inr ⟨b, off, hp, fun i v hv => ?_⟩; obtain ⟨cs, fr, hb⟩ := ht b (by rw [hp]; rfl); rw [World.cell?_of_block (w := A) (hk.2 b cs _ fr hb (.inl rfl))]; exact hc i v hv
  · obtain ⟨cs, fr, hb2⟩ := ht b hb; exact ⟨cs, fr, (hk.2 b cs _ fr hb2 (.inl rfl)).trans hb2⟩

theorem grownBy_of_below {A B : World} (h : Below A.heap.size A B) (r : Option Nat) : A.grownBy B r := ⟨h.os, h.tape, h.output, h.size, fun k hk _ => h.block k hk⟩

set_option maxRecDepth 100000 in
set_option maxHeartbeats 4000000 in
theorem each1_in (n : Nat) (l Bn : Nat) (a : Option Addr) (c : Nat) (L : List Int) (hb : ∀ x ∈ L, 0 ≤ x ∧ x ≤ 255) (hlen : L.length ≤ 1000000) (hlc : L.length ≤ c) (hcm : c ≤ maxLen) (w0 : World) (hr0 : Rd w0 a (L.map (Value.int .u8)))
    (J : List (Nat × FC) → World → Prop) (W : World) (hbl : Below w0.heap.size w0 W) (hJ : AbidesFrom W.heap.size J) (fr : Nat × Nat) (hBn : W.heap[Bn]? = some (.cells #[.slice a L.length c] 25 fr))
    (hY : ∀ pre x W1, J pre W1 → AtYield L pre x W1 → YieldAt Fence.wide (n - 1) Tryd.prog l #[.int .i64 (x.1 : Int), x.2.val] W1 fun e W' => e = .returned (.bool true) ∧ J (pre ++ [x]) W' ∧ KpE w0.heap.size W1 W')
    (h0 : J [] W) :
    CallsIn Fence.wide n Tryd.prog 63 #[.func (.yield l) #[] #[], .pointer (some ⟨Bn, 0, none⟩)] W fun e W' => (∃ v, e = .returned v) ∧ ∃ xs, AtEnd L xs W' ∧ J xs W' := by
  refine callsIn_of_wp Tryd.func63 rfl trivial ?_ rfl; simp only [Tryd.ntmps63, List.size_toArray, List.length_cons, List.length_nil, Nat.reduceAdd, Nat.reduceSub, Array.replicate_succ, Array.replicate_zero, List.push_toArray, List.append_toArray, List.nil_append, List.cons_append]
  gi_wp2
  gi_loopw [3] (fun i wr => ∃ (p g : Nat) (pre : List (Nat × FC)), i = .int .i64 p ∧ behind L pre = p ∧ p ≤ L.length ∧ L.length < p + (g + 1) ∧ pre.length ≤ p ∧ pall L = pallF (g + 1) L p (pre.map (·.2.f)) ∧ (∀ x ∈ pre, Lies wr x.2) ∧ J pre wr ∧
    Below w0.heap.size w0 wr ∧ wr.heap[Bn]? = some (.cells #[.slice a L.length c] 25 fr)) (fun i _ => L.length - (intOf i).toNat)
  case atStart => exact ⟨0, L.length, [], rfl, rfl, Nat.zero_le _, by omega, Nat.le_refl _, rfl, by simp, h0, hbl, hBn⟩
  case round =>
    obtain ⟨p, g, pre, rfl, hbe, hp, hg, hpl, hpa, hli, hj, hb1, hBx⟩ := hrel; have hbc : wr.cell? ⟨Bn, 0, none⟩ = some (.slice a L.length c) := by simp [World.cell?, hBx]
    have HPA := Lib.hid hpa; have HBE := Lib.hid hbe; have HLI := Lib.hid hli; have HY := Lib.hid hY; clear hpa hbe hli hBn hY
    by_cases hlt : p < L.length
    · obtain ⟨b0, off0, rfl, -, -⟩ := hr0.at (i := p) (v := .int .u8 L[p]) (by simp [hlt]); have hD : ∀ x ∈ L.drop p, 0 ≤ x ∧ x ≤ 255 := fun x hx => hb x (List.mem_of_mem_drop hx); have hDl : (L.drop p).length = L.length - p := by simp
      have hrw := (hr0.keep hb1).drop p; rw [← List.map_drop] at hrw; have hcl := pread_any _ (c - p) (L.drop p) hD (by omega) (by omega) (by omega) wr hrw; rw [hDl] at hcl; have HCL := Lib.hid (callsIn_wide (n := n - 1).2 hcl); have hcp : ¬ c = p := by omega
      clear hcl hrw
      by_cases he : (prd (L.drop p)).2.2 = 0
      · obtain ⟨m, hm, n1, n2, -, -, -, -, -, -⟩ := prd_ok _ hD he; have HE := Lib.hid he; have HM := Lib.hid hm; rw [hDl] at n2; obtain ⟨g', rfl⟩ : ∃ g', g = g' + 1 := ⟨g - 1, by omega⟩; have hst := HPA.out.trans (pallF_step (g' + 1) L p _ hlt he); rw [hm, Int.toNat_natCast] at hst; have HST := Lib.hid hst; clear HPA hst; have HJ := Lib.hid hJ; clear he hm hD hDl hJ
        gi_wp2_with fail
        refine ⟨trivial, (fun h => by cases h), HCL.out.mono ?_⟩; rintro e w1 ⟨⟨ao, co, rfl, hrd, hl1, hl2, hl3, hl4⟩, hb2⟩; rw [HE.out, HM.out]; have hkp : KpE w0.heap.size wr w1 := ⟨hb2.mono hb1.size, KeepT.of_below hb2⟩; have hj1 := HJ.out _ _ _ none hj (grownBy_of_below hb2 none) (fun r h => by cases h); obtain ⟨fl, hfl⟩ : ∃ fl, fl = (prd (L.drop p)).1 := ⟨_, rfl⟩; rw [← hfl] at hrd hl1 ⊢; have hx1 : Lies w1 ⟨fl, ao, co⟩ := ⟨⟨hrd, hl1, hl2, hl3⟩, hl4⟩; have hb3 : Below w1.heap.size w1 (w1.alloc (.cells #[.int .i64 fl.num, .int .i64 fl.kind, .int .u64 fl.n, .slice ao fl.bs.length co] 33)) := Below.new _ _; have hkp3 : KpE w0.heap.size w1 (w1.alloc (.cells #[.int .i64 fl.num, .int .i64 fl.kind, .int .u64 fl.n, .slice ao fl.bs.length co] 33)) := ⟨hb3.mono (Nat.le_trans hb1.size hb2.size), KeepT.of_below hb3⟩; have hj3 := HJ.out _ _ _ none hj1 (grownBy_of_below hb3 none) (fun r h => by cases h); obtain ⟨fn, tmps, assign, body, hy, hR⟩ := HY.out pre (p, ⟨fl, ao, co⟩) _ hj3 ⟨hpl, hlt, HE.out, hfl.symm, hx1.kept hkp3.2⟩; dsimp only [FC.val] at hy; have hk4 := (hb1.trans hkp.1).trans hkp3.1; have HR := Lib.hid hR; have HX := Lib.hid (hx1.kept hkp3.2); have HK := Lib.hid (hkp.2.trans hkp3.2); have HB := Lib.hid hk4; have HFL := Lib.hid hfl; clear hR hj3 hj1 hkp hkp3 hb2 hb3 hx1 hrd hk4 hfl
        gi_wp2
        refine ⟨(fun h => by cases h), HR.out.mono ?_⟩; rintro e W3 ⟨rfl, hJ3, hk3⟩
        gi_wp2
        clear HCL; go_roundw
        case rel =>
          have hst := HST.out; rw [← HFL.out] at hst; refine ⟨p + m, g', pre ++ [(p, ⟨fl, ao, co⟩)], by go_num, by rw [behind_snoc, HM.out]; simp, by omega, by omega, by simp; omega, by simpa using hst, ?_, hJ3, HB.out.trans hk3.1, ?_⟩
          · intro x hx
            rcases List.mem_append.1 hx with hx | hx
            · exact (HLI.out x hx).kept (HK.out.trans hk3.2)
            · obtain rfl : x = _ := by simpa using hx
              exact HX.out.kept hk3.2
          · exact ((HK.out.trans hk3.2).2 Bn _ _ _ hBx (.inr rfl)).trans hBx
        case measure => simp [intOf]; omega
      · have HE : Hid (pall L = ([], (p : Int), (prd (L.drop p)).2.2)) := HPA.out.trans (pallF_err g L p _ hlt he); have hne : ((prd (L.drop p)).2.2 != 0) = true := by simpa using he
        have hHE := Lib.hid he; clear he hD hDl
        gi_wp2_with fail
        refine ⟨trivial, (fun h => by cases h), HCL.out.mono ?_⟩; rintro e w1 ⟨⟨ao, co, rfl, hrd, hl1, hl2, hl3, hl4⟩, hb2⟩; have HJ1 := Lib.hid (hJ _ _ _ none hj (grownBy_of_below hb2 none) (fun r h => by cases h)); have HJ := Lib.hid hJ; have HB := Lib.hid hb2; clear hJ hb2 hrd hl1 hl2 hl3 hl4 hj
        gi_wp2
        refine ⟨fun _ h => (by cases h), ?_⟩
        gi_wp2
        refine bodyPost_ret (results_none rfl _ _ _) rfl ?_; have hb3 := Below.new w1 (.cells #[.int .i64 (prd (L.drop p)).1.num, .int .i64 (prd (L.drop p)).1.kind, .int .u64 (prd (L.drop p)).1.n, .slice ao (prd (L.drop p)).1.bs.length co] 33); refine ⟨⟨_, rfl⟩, pre, ⟨⟨p, g, HBE.out, hp, hpl, HPA.out, .inr hHE.out⟩, fun x hx => (HLI.out x hx).kept ((KeepT.of_below HB.out).trans (KeepT.of_below hb3))⟩, ?_⟩; exact HJ.out _ _ _ none HJ1.out (grownBy_of_below hb3 none) (fun r h => by cases h)
    · gi_wp2
      go_end0
      exact ⟨⟨_, rfl⟩, pre, ⟨⟨p, g, HBE.out, hp, hpl, HPA.out, .inl (by omega)⟩, HLI.out⟩, hj⟩
end Go.Proofs.YtinogphhbbaobaaDoor
/- proto.Skip. -/
namespace Go.Proofs.YtinogphhbbaobaaDoor
open Go.RowKit Go.Vint Go.Proto

theorem pskip_any (a : Option Addr) (c : Nat) (L : List Int) (hb : ∀ x ∈ L, 0 ≤ x ∧ x ≤ 255) (hlen : L.length ≤ 1073741824) (hlc : L.length ≤ c) (hcm : c ≤ maxLen) (w : World) (hr : Rd w a (L.map (Value.int .u8))) :
    Calls Tryd.prog 43 #[.slice a L.length c] w fun e w' => e = .returned (.tuple #[.int .i64 (prd L).2.1, .int .i64 (prd L).2.2]) ∧ Below w.heap.size w w' := by
  go_enter Tryd.func43, Tryd.ntmps43
  go_wp2_with fail
  refine (pread_any a c L hb hlen hlc hcm w hr).mono ?_; rintro e w1 ⟨⟨ao, co, rfl, -, -, -, -, -⟩, hb1⟩; go_wp2; refine bodyPost_ret (v := .tuple #[.int .i64 (prd L).2.1, .int .i64 (prd L).2.2]) (by simp [results, Tryd.results43, go_sem]) rfl ⟨rfl, hb1.alloc hb1.size _⟩
end Go.Proofs.YtinogphhbbaobaaDoor
