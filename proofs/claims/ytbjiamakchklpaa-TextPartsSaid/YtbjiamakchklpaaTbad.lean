/-
  text.bad; plain: where no rune begins.
-/
import Derived.Test.YtbjiamakchklpaaTdec
import Derived.Test.YtbjiamakchklpaaShelf
set_option linter.unusedVariables false
set_option linter.unusedSimpArgs false
namespace Go
open Go.RowKit
theorem get_lt {s : ByteArray} {i : Nat} (h : i < s.size) : s.data.toList[i]? = some (s.get! i) := by
  rw [Array.getElem?_toList]
  have : s.get! i = s.data[i]'h := by
    show s.data[i]! = _
    rw [getElem!_pos s.data i h]
  rw [this, Array.getElem?_eq_getElem h]
theorem ext_size (s : ByteArray) (i : Nat) : (s.extract i s.size).size = s.size - i := by
  simp [ByteArray.size_extract]
theorem ext_get (s : ByteArray) (i k : Nat) (h : i + k < s.size) : (s.extract i s.size).get! k = s.get! (i + k) := by
  have h1 : k < (s.extract i s.size).size := by rw [ext_size]; omega
  have e1 := get_lt h1
  have e2 := get_lt h
  have : (s.extract i s.size).data.toList[k]? = s.data.toList[i + k]? := by
    rw [Array.getElem?_toList, Array.getElem?_toList, ByteArray.data_extract, Array.getElem?_extract]
    have hs : s.data.size = s.size := rfl
    rw [hs, Nat.min_self, if_pos (by omega)]
  rw [this, e2] at e1
  exact (Option.some.inj e1).symm
theorem byt_out {s : ByteArray} {i : Nat} (h : ¬ i < s.size) : byt s i = 0 := by
  unfold byt
  have : s.get! i = default := by
    show s.data[i]! = _
    rw [getElem!_neg s.data i h]
  rw [this]; rfl
theorem ext_byt (s : ByteArray) (i k : Nat) : byt (s.extract i s.size) k = byt s (i + k) := by
  by_cases h : i + k < s.size
  · unfold byt; rw [ext_get s i k h]
  · rw [byt_out h, byt_out (by rw [ext_size]; omega)]
theorem ext_cont (s : ByteArray) (i k : Nat) : cont (s.extract i s.size) k = cont s (i + k) := by
  unfold cont
  rw [ext_byt, ext_size]
  by_cases h : i + k < s.size
  · simp [h, show k < s.size - i by omega]
  · simp [h, show ¬ k < s.size - i by omega]
theorem ext_decode (s : ByteArray) (i k : Nat) : Utf8.decode (s.extract i s.size) k = Utf8.decode s (i + k) := by
  rw [decode_eq, decode_eq]
  simp only [ext_byt, ext_cont, Nat.add_assoc]
theorem ext_bad (s : ByteArray) (i k : Nat) : badAt (s.extract i s.size) k = badAt s (i + k) := by
  unfold badAt; rw [ext_decode]
theorem ext_first (s : ByteArray) (i k : Nat) : firstF (s.extract i s.size) k = firstF s (i + k) := by
  unfold firstF; rw [ext_bad, ext_decode]
theorem cont_iff (s : ByteArray) (i : Nat) : cont s i = true ↔ i < s.size ∧ 128 ≤ byt s i ∧ byt s i < 192 := by
  unfold cont
  simp only [Bool.and_eq_true, decide_eq_true_eq, and_assoc]
/-- How far a rune goes. -/
theorem decode_wid {s : ByteArray} {i : Nat} (h : i < s.size) : 1 ≤ (Utf8.decode s i).2 ∧ i + (Utf8.decode s i).2 ≤ s.size ∧ (Utf8.decode s i).2 ≤ 4 ∧ (Utf8.decode s i).1 ≤ 1114111 := by
  have h0 := byt_lt s i
  have c1 := cont_iff s (i + 1)
  have c2 := cont_iff s (i + 2)
  have c3 := cont_iff s (i + 3)
  rw [decode_eq]
  repeat' split
  all_goals simp_all
  all_goals omega
/-- Where the replacement's bytes stand, its rune is told; it is told elsewhere for what is none. -/
theorem bad_iff {s : ByteArray} {i : Nat} (h : i < s.size) : badAt s i = true ↔ (Utf8.decode s i).1 = 65533 ∧ ¬ (byt s i = 239 ∧ byt s (i + 1) = 191 ∧ byt s (i + 2) = 189) := by
  have h0 := byt_lt s i
  have c1 := cont_iff s (i + 1)
  have c2 := cont_iff s (i + 2)
  have c3 := cont_iff s (i + 3)
  have o1 : ¬ i + 1 < s.size → byt s (i + 1) = 0 := byt_out
  have o2 : ¬ i + 2 < s.size → byt s (i + 2) = 0 := byt_out
  unfold badAt
  rw [decide_eq_true_eq, decode_eq]
  repeat' split
  all_goals simp_all
  all_goals omega
theorem isPrefixOf_three (l : List UInt8) (a b c : UInt8) : [a, b, c].isPrefixOf l = (decide (l[0]? = some a) && decide (l[1]? = some b) && decide (l[2]? = some c)) := by
  match l with
  | [] => simp [List.isPrefixOf]
  | [x] => simp [List.isPrefixOf]
  | [x, y] => simp [List.isPrefixOf]
  | x :: y :: z :: t =>
    simp only [List.isPrefixOf, Bool.and_true, List.getElem?_cons_zero, List.getElem?_cons_succ, Option.some.injEq, Bool.and_assoc]
    rw [Bool.eq_iff_iff]
    simp only [Bool.and_eq_true, beq_iff_eq, decide_eq_true_eq]
    constructor <;> (rintro ⟨rfl, rfl, rfl⟩; exact ⟨rfl, rfl, rfl⟩)
theorem get_byt {s : ByteArray} {i : Nat} {b : UInt8} : s.data.toList[i]? = some b ↔ i < s.size ∧ byt s i = b.toNat := by
  by_cases h : i < s.size
  · rw [get_lt h]
    simp only [Option.some.injEq, h, true_and]
    unfold byt
    exact ⟨fun e => by rw [e], fun e => UInt8.toNat_inj.1 e⟩
  · have : s.data.toList[i]? = none := by rw [Array.getElem?_toList]; exact Array.getElem?_eq_none (Nat.le_of_not_lt h)
    rw [this]
    simp [h]
theorem pre_fffd (s : ByteArray) (i : Nat) : Lib.hasPrefix (s.extract i s.size).data.toList [239, 191, 189] = decide (byt s i = 239 ∧ byt s (i + 1) = 191 ∧ byt s (i + 2) = 189) := by
  unfold Lib.hasPrefix
  rw [isPrefixOf_three]
  have e : ∀ (k : Nat) (b : UInt8), 0 < b.toNat → ((s.extract i s.size).data.toList[k]? = some b ↔ byt s (i + k) = b.toNat) := by
    intro k b hb
    rw [get_byt, ext_byt, ext_size]
    constructor
    · exact fun h => h.2
    · intro h
      refine ⟨?_, h⟩
      by_cases hk : i + k < s.size
      · omega
      · rw [byt_out hk] at h; omega
  rw [Bool.eq_iff_iff]
  simp only [Bool.and_eq_true, decide_eq_true_eq, e 0 239 (by decide), e 1 191 (by decide), e 2 189 (by decide), Nat.add_zero, and_assoc]
  exact Iff.rfl
end Go
namespace Go.Proofs.Ytbjiamakchklpaa
open Go.RowKit

set_option maxHeartbeats 800000 in
theorem bad_any (s : ByteArray) (i : Nat) (h : i < s.size) (hs : s.size ≤ maxLen) (w : World) :
    Calls Try.prog 27 #[.string s, .int .i64 i, .int .i32 (Utf8.decode s i).1] w fun e w' => e = .returned (.bool (badAt s i)) ∧ w' = w := by
  have hb := bad_iff h
  have hp := pre_fffd s i
  have hi : (i : Int) ≤ (s.size : Int) := by omega
  obtain ⟨X, hX⟩ : ∃ X : Bool, decide (byt s i = 239 ∧ byt s (i + 1) = 191 ∧ byt s (i + 2) = 189) = X := ⟨_, rfl⟩
  have HC : Hid (∀ w, Calls Try.prog 36 #[.string (s.extract i s.size), .string ⟨#[239, 191, 189]⟩] w fun e w' => e = .returned (.bool X) ∧ w' = w) := Lib.hid (fun w => by
    have := Try.strings_HasPrefix (s.extract i s.size) ⟨#[239, 191, 189]⟩ w
    rw [show (⟨#[239, 191, 189]⟩ : ByteArray).data.toList = [239, 191, 189] from rfl, hp, hX] at this
    exact this)
  have HB : Hid ((badAt s i) = (decide ((Utf8.decode s i).1 = 65533) && !X)) := Lib.hid (by
    rw [← hX, Bool.eq_iff_iff, hb, Bool.and_eq_true, Bool.not_eq_true', decide_eq_true_eq, decide_eq_false_iff_not])
  clear hb hp hX
  generalize badAt s i = B at *
  generalize (Utf8.decode s i).1 = r at *
  go_enter Try.func27, Try.ntmps27
  by_cases hr : (r : Int) = 65533
  · have hB : B = !X := by rw [HB.out]; simp; omega
    rw [hr]
    subst hB
    go_wp2_with fail
    refine (HC.out _).mono ?_
    rintro e w1 ⟨rfl, rfl⟩
    go_wp2
    go_ret
    exact ⟨rfl, rfl⟩
  · have hB : B = false := by rw [HB.out]; simp; omega
    subst hB
    have hrb : ((r : Int) == 65533) = false := by simp; omega
    go_wp2
    go_ret
    exact ⟨rfl, rfl⟩
end Go.Proofs.Ytbjiamakchklpaa
