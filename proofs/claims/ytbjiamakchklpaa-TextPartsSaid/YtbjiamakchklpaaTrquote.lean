/-
  graticuleref09.Quote.
-/
import Derived.Test.YtbjiamakchklpaaTrform
import Derived.Test.YtbjiamakchklpaaTenc
import Derived.Test.YtbjiamakchklpaaTesc
set_option linter.unusedVariables false
set_option linter.unusedSimpArgs false
set_option maxRecDepth 100000
namespace Go
open Go.RowKit
/-- A byte's form, in quotes. -/
def formB (b : UInt8) : List UInt8 := if formR b.toNat = [] then [b] else formR b.toNat
/-- The document's quoted form, byte by byte. -/
def rquoteF (s : ByteArray) : List UInt8 := 34 :: s.data.toList.flatMap formB ++ [34]
theorem bts_one (s : ByteArray) (i : Nat) (h : i < s.size) : (s.extract i (i + 1)).data.toList = [s.get! i] := by
  have := bts_eq s i 1 (by omega)
  unfold bts at this
  rw [this]; simp [List.range_succ]
theorem take_flat (s : ByteArray) (i : Nat) (h : i < s.size) : (s.data.toList.take (i + 1)).flatMap formB = (s.data.toList.take i).flatMap formB ++ formB (s.get! i) := by
  rw [List.take_add_one, get_lt h]
  simp
theorem formR_len (r : Nat) : (formR r).length ≤ 4 := by
  unfold formR
  repeat' split
  all_goals simp
end Go
namespace Go.Proofs.Ytbjiamakchklpaa
open Go.RowKit

set_option maxHeartbeats 1600000 in
theorem rquote_any (s : ByteArray) (hs : s.size ≤ 100000) (w : World) :
    Calls Try.prog 10 #[.string s] w fun e w' => e = .returned (.string ⟨(rquoteF s).toArray⟩) ∧ Below w.heap.size w w' := by
  have hQ : Hid (∀ q : ByteArray, q.data.toList = rquoteF s → q = ⟨(rquoteF s).toArray⟩) := Lib.hid (fun q h => by
    apply ByteArray.ext
    rw [← h])
  have hR : Hid (rquoteF s = (34 :: s.data.toList.flatMap formB) ++ [34]) := Lib.hid rfl
  generalize rquoteF s = Q at *
  have hcv := Lib.hid (fun w => conv_lit w [34] 1 rfl)
  have hl : s.data.toList.length = s.size := Array.length_toList
  have h0 : (convert 53 9 (.slice (some ⟨w.heap.size, 0, none⟩) 1 1)).run Try.prog (w.alloc (.cells #[.int .u8 34] 5)) = .ok (.string ⟨#[34]⟩) (w.alloc (.cells #[.int .u8 34] 5)) := hcv.out w
  have hb0 := Below.new w (.cells #[.int .u8 34] 5)
  go_enter Try.func10, Try.ntmps10
  go_wp2
  go_loopw [3, 4] (fun o i wr => ∃ (k : Nat) (q : ByteArray), o = .string q ∧ i = .int .i64 (k : Int) ∧ k ≤ s.size ∧ q.size ≤ 1 + 4 * k ∧ Hid (q.data.toList = 34 :: (s.data.toList.take k).flatMap formB) ∧ Below w.heap.size w wr) (fun _ i _ => s.size - (intOf i).toNat)
  case atStart => exact ⟨0, ⟨#[34]⟩, rfl, rfl, by omega, by simp [ByteArray.size], Lib.hid rfl, hb0⟩
  case round =>
    clear h0 hb0
    obtain ⟨k, q, rfl, rfl, hk, hq, HQ, hb⟩ := hrel
    by_cases hp : k < s.size
    · have hpi : (k : Int) < (s.size : Int) := by omega
      have hpi2 : (k : Int) ≤ (s.size : Int) := by omega
      have hpi3 : (k : Int) + 1 ≤ (s.size : Int) := by omega
      have hg := byt_get hp
      have hbl := byt_lt s k
      have hf := rform_any (byt s k) (by omega)
      have hfl := formR_len (byt s k)
      have hB : Hid (formB (s.get! k) = if formR (byt s k) = [] then [s.get! k] else formR (byt s k)) := Lib.hid rfl
      have hone := bts_one s k hp
      have hst := Lib.hid (take_flat s k hp)
      generalize byt s k = c at *
      generalize formR c = F at *
      have HF := Lib.hid hf
      clear hf
      go_wp2_with fail
      refine (HF.out _).mono ?_
      rintro e w1 ⟨rfl, hb1⟩
      have hb2 := hb.trans (hb1.mono hb.size)
      by_cases hF0 : F = []
      · subst hF0
        have hte : (⟨([] : List UInt8).toArray⟩ : ByteArray).toList.isEmpty = true := by rw [empty_dec]; rfl
        have hx := hB.out
        rw [if_pos rfl] at hx
        have hes : (s.extract k (k + 1)).size = 1 := by rw [ByteArray.size_extract]; omega
        obtain ⟨E, hE⟩ : ∃ E, s.extract k (k + 1) = E := ⟨_, rfl⟩
        rw [hE] at hone hes
        have hl4 : ¬ 9223372036854775807 < q.size + E.size := by omega
        have hqs : (q ++ E).size = q.size + E.size := ByteArray.size_append
        have HQ2 : Hid ((q ++ E).data.toList = 34 :: (s.data.toList.take (k + 1)).flatMap formB) := Lib.hid (by
          rw [ByteArray.data_append, Array.toList_append, HQ.out, hone, hst.out, hx]; rfl)
        clear HF hB hst hone hx
        go_wp2
        go_roundw
        case rel => exact ⟨k + 1, q ++ E, rfl, val_int (by omega), by omega, by rw [hqs]; omega, HQ2, hb2⟩
        case measure => simp [intOf]; omega
      · have hte : F.isEmpty = false := by simpa using hF0
        have hx := hB.out
        rw [if_neg hF0] at hx
        have hes : (⟨F.toArray⟩ : ByteArray).size = F.length := by simp [ByteArray.size]
        have hl4 : ¬ 9223372036854775807 < q.size + F.length := by omega
        have hqs : (q ++ ⟨F.toArray⟩).size = q.size + (⟨F.toArray⟩ : ByteArray).size := ByteArray.size_append
        have HQ2 : Hid ((q ++ ⟨F.toArray⟩).data.toList = 34 :: (s.data.toList.take (k + 1)).flatMap formB) := Lib.hid (by
          rw [ByteArray.data_append, Array.toList_append, HQ.out, hst.out, hx]; rfl)
        clear HF hB hst hone hx
        go_wp2
        go_roundw
        case rel => exact ⟨k + 1, q ++ ⟨F.toArray⟩, rfl, val_int (by omega), by omega, by rw [hqs]; omega, HQ2, hb2⟩
        case measure => simp [intOf]; omega
    · have hke : k = s.size := by omega
      subst hke
      have h1 : (convert 53 9 (.slice (some ⟨wr.heap.size, 0, none⟩) 1 1)).run Try.prog (wr.alloc (.cells #[.int .u8 34] 5)) = .ok (.string ⟨#[34]⟩) (wr.alloc (.cells #[.int .u8 34] 5)) := hcv.out wr
      have hl4 : ¬ 9223372036854775807 < q.size + 1 := by omega
      have hq2 : Hid (q ++ ⟨#[34]⟩ = ⟨Q.toArray⟩) := Lib.hid (hQ.out _ (by
        rw [ByteArray.data_append, Array.toList_append, HQ.out, hR.out, List.take_of_length_le (Nat.le_of_eq hl)]))
      have hbe := hb.alloc hb.size (.cells #[.int .u8 34] 5)
      clear HQ hQ hR hcv
      go_wp2
      go_ret
      exact ⟨congrArg (fun x => Ending.returned (.string x)) hq2.out, hbe⟩
end Go.Proofs.Ytbjiamakchklpaa
