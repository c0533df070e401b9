/-
  graticuleref09.begins, place.
-/
import Derived.Test.YtbjiamakchklpaaTescp
import Derived.Test.YtbjiamakchklpaaTrform
set_option linter.unusedVariables false
set_option linter.unusedSimpArgs false
set_option maxRecDepth 100000
namespace Go
open Go.RowKit
theorem pre_list (s : ByteArray) (n : Nat) : (s.extract 0 n).data.toList = s.data.toList.take n := by
  rw [ByteArray.data_extract, Array.toList_extract]
  simp [List.extract_eq_drop_take']
theorem begins_eq (s t : ByteArray) (h : t.size ≤ s.size) : ((s.extract 0 t.size).toList == t.toList) = t.data.toList.isPrefixOf s.data.toList := by
  rw [ByteArray.toList_eq, ByteArray.toList_eq, pre_list]
  have hl : t.data.toList.length = t.size := Array.length_toList
  rw [Bool.eq_iff_iff, beq_iff_eq, List.isPrefixOf_iff_prefix, ← hl]
  constructor
  · intro e; rw [← e]; exact List.take_prefix _ _
  · intro e; exact (List.prefix_iff_eq_take.1 e).symm
theorem begins_no (s t : ByteArray) (h : ¬ t.size ≤ s.size) : t.data.toList.isPrefixOf s.data.toList = false := by
  rw [Bool.eq_false_iff]
  intro e
  rw [List.isPrefixOf_iff_prefix] at e
  have := e.length_le
  rw [Array.length_toList, Array.length_toList] at this
  exact h this
end Go
namespace Go.Proofs.Ytbjiamakchklpaa
open Go.RowKit

set_option maxHeartbeats 800000 in
theorem begins_any (s t : ByteArray) (w : World) :
    Calls Try.prog 31 #[.string s, .string t] w fun e w' => e = .returned (.bool (t.data.toList.isPrefixOf s.data.toList)) ∧ w' = w := by
  have h1 := begins_eq s t
  have h2 := begins_no s t
  generalize t.data.toList.isPrefixOf s.data.toList = B at *
  go_enter Try.func31, Try.ntmps31
  by_cases h : t.size ≤ s.size
  · have h3 := h1 h
    have hi : (t.size : Int) ≤ (s.size : Int) := by omega
    clear h1 h2
    go_wp2
    go_ret
    exact ⟨rfl, rfl⟩
  · have h3 := h2 h
    subst h3
    have hi : ¬ (t.size : Int) ≤ (s.size : Int) := by omega
    clear h1 h2
    go_wp2
    go_ret
    exact ⟨rfl, rfl⟩

set_option maxHeartbeats 1600000 in
theorem place_any (c : Nat) (hc : c < 256) (w : World) :
    Calls Try.prog 32 #[.int .u8 (c : Int)] w fun e w' => ∃ n : Nat, e = .returned (.int .i64 n) ∧ (n < 16 ↔ 0 ≤ hexP c) ∧ w' = w := by
  have hX : Hid ((∀ k, k < 16 → (hexD k).toNat ≠ c) → ¬ 0 ≤ hexP c) := Lib.hid (fun h h0 => by
    have hb := hexP_bd c
    have e := hexD_hexP (UInt8.ofNat c) (by rw [UInt8.toNat_ofNat']; rw [Nat.mod_eq_of_lt (by omega)]; exact h0)
    rw [UInt8.toNat_ofNat', Nat.mod_eq_of_lt (by omega)] at e
    refine h (hexP c).toNat (by omega) (by rw [e, UInt8.toNat_ofNat']; omega))
  have hY : Hid (∀ k, k < 16 → (hexD k).toNat = c → 0 ≤ hexP c) := Lib.hid (fun k hk e => by
    have := hexP_hexD k hk
    rw [e] at this
    omega)
  generalize hexP c = X at *
  go_enter Try.func32, Try.ntmps32
  go_wp2
  go_loopw [3] (fun n wr => ∃ k : Nat, n = .int .i64 (k : Int) ∧ wr = w ∧ k ≤ 16 ∧ Hid (∀ j, j < k → (hexD j).toNat ≠ c)) (fun n _ => 16 - (intOf n).toNat)
  case atStart => exact ⟨0, rfl, rfl, by omega, Lib.hid (fun j h => by omega)⟩
  case round =>
    obtain ⟨k, rfl, rfl, hk, HJ⟩ := hrel
    by_cases h : k < 16
    · have hg := hex_at k h
      have hi : (k : Int) < 16 := by omega
      have hJ2 : Hid ((hexD k).toNat ≠ c → ∀ j, j < k + 1 → (hexD j).toNat ≠ c) := Lib.hid (fun h1 j hj => by
        by_cases hjk : j = k
        · rw [hjk]; exact h1
        · exact HJ.out j (by omega))
      have hY2 : Hid ((hexD k).toNat = c → 0 ≤ X) := Lib.hid (fun e => hY.out k h e)
      generalize (hexD k).toNat = d at *
      by_cases hd : d = c
      · have e1 : ((d : Int) != (c : Int)) = false := by rw [hd]; simp
        have h9 := hY2.out hd
        clear hX hY HJ hJ2 hY2
        subst hd
        go_wp2
        go_ret
        exact ⟨k, rfl, by omega, rfl⟩
      · have e1 : ((d : Int) != (c : Int)) = true := bne_iff_ne.2 (by omega)
        have HJ3 := Lib.hid (hJ2.out hd)
        clear hJ2 hY2
        go_wp2
        go_roundw
        case rel => exact ⟨k + 1, val_int (by omega), trivial, by omega, HJ3⟩
        case measure => simp [intOf]; omega
    · have hk16 : k = 16 := by omega
      subst hk16
      have h9 := hX.out HJ.out
      clear hX hY HJ
      go_wp2
      go_ret
      exact ⟨16, rfl, by omega, rfl⟩
end Go.Proofs.Ytbjiamakchklpaa
