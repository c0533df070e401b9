/-
  graticuleref07.Read.
-/
import Derived.Test.YtoicahfpnnhgpaaProg
import Derived.Test.YtoicahfpnnhgpaaLib
import Derived.Test.YtoicahfpnnhgpaaVmath
import Derived.Test.YtoicahfpnnhgpaaVread
namespace Go.Proofs.Ytoicahfpnnhgpaa
open Go.RowKit Go.Vint

theorem rread_any (a : Option Addr) (c : Nat) (L : List Int) (hb : ∀ x ∈ L, 0 ≤ x ∧ x ≤ 255) (hlen : L.length ≤ 140737488355328) (w : World) (hr : Rd w a (L.map (Value.int .u8))) :
    Calls Try.prog 23 #[.slice a L.length c] w fun e w' => e = Rd3 (rd L) ∧ w = w' := by
  go_enter Try.func23, Try.ntmps23
  go_wp2
  go_loop [5] (fun i => ∃ k : Nat, k ≤ L.length ∧ i = .int .i64 k ∧ (∀ j, j < k → 128 ≤ L.getD j 0)) (fun i => L.length - (intOf i).toNat)
  case atStart => exact ⟨0, Nat.zero_le _, rfl, fun j h => by omega⟩
  case round =>
    obtain ⟨k, hk, rfl, hge⟩ := hrel
    have HG := Lib.hid hge
    clear hge
    by_cases hlt : k < L.length
    · obtain ⟨b, off, rfl, hcell, _⟩ := hr.at (i := k) (v := .int .u8 L[k]) (by simp [hlt])
      have hx := hb L[k] (by simp)
      have HX : Hid (L.getD k 0 = L[k]) := by show _ = _; simp [hlt]
      by_cases hc : 128 ≤ L[k]
      · go_wp2
        go_round
        case rel =>
          refine ⟨k + 1, by omega, by go_num, fun j hj => ?_⟩
          by_cases h : j = k
          · subst h; rw [HX.out]; exact hc
          · exact HG.out j (by omega)
        case measure => simp [intOf] <;> omega
      · have hne : ((k : Int) == (L.length : Int)) = false := by simp; omega
        by_cases h10 : 10 ≤ k
        · have HR := Lib.hid (rd_range L (by omega) (fun j hj => HG.out j (by omega)))
          go_wp2
          go_ret3
          refine ⟨?_, rfl⟩
          rw [HR.out]; rfl
        · have HR := Lib.hid (rd_at L k (by omega) HG.out hlt (by rw [HX.out]; omega))
          by_cases h9 : k = 9 ∧ 1 < L.getD 9 0
          · obtain ⟨rfl, h91⟩ := h9
            have h91' : 1 < L[9] := by rw [HX.out] at h91; exact h91
            have H9 := Lib.hid h91
            clear h91
            go_wp2
            go_ret3
            refine ⟨?_, rfl⟩
            rw [HR.out, if_pos ⟨by decide, H9.out⟩]; rfl
          · by_cases h00 : 0 < k ∧ L[k] = 0
            · obtain ⟨h0k, h0⟩ := h00
              have hb0 : (L[k] == 0) = true := by simp [h0]
              have H0 := Lib.hid h0
              have HZ : Hid (rd L = (0, 0, 3)) := by show _ = _; rw [HR.out, if_neg h9, if_pos ⟨h0k, by rw [HX.out]; exact h0⟩]
              by_cases hk9 : k = 9
              · subst hk9
                have hno : ¬ 1 < L[9] := by omega
                clear h0 h9
                go_wp2
                go_ret3
                refine ⟨?_, rfl⟩
                rw [HZ.out]; rfl
              · clear h0 h9
                go_wp2
                go_ret3
                refine ⟨?_, rfl⟩
                rw [HZ.out]; rfl
            · have HV : Hid (rd L = (val (L.take (k + 1)), (k : Int) + 1, 0)) := by
                show _ = _
                rw [HR.out, if_neg h9, if_neg (by rw [HX.out]; exact h00)]
              have h91 : k = 9 → L[k] ≤ 1 := by
                intro h; subst h
                have : ¬ 1 < L.getD 9 0 := fun h => h9 ⟨rfl, h⟩
                rw [HX.out] at this; omega
              have hfit := val_fits L k hlt (by omega) h91 hx.1
              obtain ⟨T, hT⟩ : ∃ T, T = L.take (k + 1) := ⟨_, rfl⟩
              rw [← hT] at HV hfit
              have hTl : T.length = k + 1 := by rw [hT]; simp; omega
              have HT : Hid (∀ i, i ≤ k → T.getD i 0 = L.getD i 0) := by
                intro i hi
                rw [hT, List.getD_eq_getElem?_getD, List.getD_eq_getElem?_getD, List.getElem?_take, if_pos (by omega)]
              have HTL := Lib.hid hTl
              clear hT hTl
              have h91' : k = 9 → ¬ 1 < L[k] := by intro h; have := h91 h; omega
              have h0' : ¬ (0 < k ∧ (L[k] == 0) = true) := by simpa using h00
              clear h9 h91 h00
              have hcases : (k = 9 ∧ L[k] ≤ 1 ∧ (L[k] == 0) = false) ∨ (k < 9 ∧ k ≤ 0) ∨ (k < 9 ∧ 0 < k ∧ (L[k] == 0) = false) := by
                by_cases h : k = 9
                · exact .inl ⟨h, by have := h91' h; omega, by have : ¬ (L[k] == 0) = true := fun hh => h0' ⟨by omega, hh⟩; simpa using this⟩
                · by_cases hk0 : k ≤ 0
                  · exact .inr (.inl ⟨by omega, hk0⟩)
                  · exact .inr (.inr ⟨by omega, by omega, by have : ¬ (L[k] == 0) = true := fun hh => h0' ⟨by omega, hh⟩; simpa using this⟩)
              clear h91' h0' 
              rcases hcases with ⟨hk9, h1, h0⟩ | ⟨hk9, h1⟩ | ⟨hk9, h1, h0⟩
              · subst hk9
                go_wp2
                go_loop [6, 7] (fun v d => ∃ (n : Int) (i : Nat), i ≤ 9 + 1 ∧ d = .int .i64 ((i : Int) - 1) ∧ v = .int .u64 n ∧ n = val (T.drop i)) (fun _ d => (intOf d + 1).toNat)
                case atStart => exact ⟨0, 9 + 1, Nat.le_refl _, by go_num, rfl, by rw [List.drop_of_length_le (by rw [HTL.out]; omega)]; rfl⟩
                case round =>
                  obtain ⟨n, i, hi, rfl, rfl, hn⟩ := hrel
                  have HN := Lib.hid hn
                  have hn0 : 0 ≤ n ∧ n ≤ 18446744073709551615 := by have := val_bd (T.drop i); have := val_drop_le T i; omega
                  clear hn
                  by_cases hi0 : i ≤ 0
                  · have HE : Hid (n = val T) := by
                      obtain rfl : i = 0 := by omega
                      show n = val T; simpa using HN.out
                    go_wp2
                    go_ret3
                    refine ⟨?_, rfl⟩
                    rw [HV.out, ← HE.out]; rfl
                  · obtain ⟨j, rfl⟩ : ∃ j, i = j + 1 := ⟨i - 1, by omega⟩
                    have hjl : j < L.length := by omega
                    obtain ⟨b2, off2, hao, hcell2, _⟩ := hr.at (i := j) (v := .int .u8 L[j]) (by simp [hjl])
                    cases hao
                    have hxj := hb L[j] (by simp)
                    have HS : Hid (val (T.drop j) = L[j] % 128 + 128 * n) := by
                      have := val_drop T j (by rw [HTL.out]; omega)
                      have h2 := HT.out j (by omega)
                      rw [List.getD_eq_getElem?_getD, List.getD_eq_getElem?_getD, List.getElem?_eq_getElem (by rw [HTL.out]; omega), List.getElem?_eq_getElem hjl] at h2
                      simp only [Option.getD_some] at h2
                      show _ = _
                      rw [this, HN.out, h2]
                    have hbd : 128 * n + L[j] % 128 ≤ 18446744073709551615 := by have h1 := HS.out; have h2 := val_drop_le T j; omega
                    have hj1 : ((j + 1 : Nat) : Int) - 1 = (j : Int) := by omega
                    rw [hj1]
                    go_wp2
                    go_round
                    case rel => exact ⟨_, j, by omega, rfl, rfl, by rw [HS.out]; omega⟩
                    case measure => simp [intOf] <;> omega
              · go_wp2
                go_loop [6, 7] (fun v d => ∃ (n : Int) (i : Nat), i ≤ k + 1 ∧ d = .int .i64 ((i : Int) - 1) ∧ v = .int .u64 n ∧ n = val (T.drop i)) (fun _ d => (intOf d + 1).toNat)
                case atStart => exact ⟨0, k + 1, Nat.le_refl _, by go_num, rfl, by rw [List.drop_of_length_le (by rw [HTL.out]; omega)]; rfl⟩
                case round =>
                  obtain ⟨n, i, hi, rfl, rfl, hn⟩ := hrel
                  have HN := Lib.hid hn
                  have hn0 : 0 ≤ n ∧ n ≤ 18446744073709551615 := by have := val_bd (T.drop i); have := val_drop_le T i; omega
                  clear hn
                  by_cases hi0 : i ≤ 0
                  · have HE : Hid (n = val T) := by
                      obtain rfl : i = 0 := by omega
                      show n = val T; simpa using HN.out
                    go_wp2
                    go_ret3
                    refine ⟨?_, rfl⟩
                    rw [HV.out, ← HE.out]; rfl
                  · obtain ⟨j, rfl⟩ : ∃ j, i = j + 1 := ⟨i - 1, by omega⟩
                    have hjl : j < L.length := by omega
                    obtain ⟨b2, off2, hao, hcell2, _⟩ := hr.at (i := j) (v := .int .u8 L[j]) (by simp [hjl])
                    cases hao
                    have hxj := hb L[j] (by simp)
                    have HS : Hid (val (T.drop j) = L[j] % 128 + 128 * n) := by
                      have := val_drop T j (by rw [HTL.out]; omega)
                      have h2 := HT.out j (by omega)
                      rw [List.getD_eq_getElem?_getD, List.getD_eq_getElem?_getD, List.getElem?_eq_getElem (by rw [HTL.out]; omega), List.getElem?_eq_getElem hjl] at h2
                      simp only [Option.getD_some] at h2
                      show _ = _
                      rw [this, HN.out, h2]
                    have hbd : 128 * n + L[j] % 128 ≤ 18446744073709551615 := by have h1 := HS.out; have h2 := val_drop_le T j; omega
                    have hj1 : ((j + 1 : Nat) : Int) - 1 = (j : Int) := by omega
                    rw [hj1]
                    go_wp2
                    go_round
                    case rel => exact ⟨_, j, by omega, rfl, rfl, by rw [HS.out]; omega⟩
                    case measure => simp [intOf] <;> omega
              · go_wp2
                go_loop [6, 7] (fun v d => ∃ (n : Int) (i : Nat), i ≤ k + 1 ∧ d = .int .i64 ((i : Int) - 1) ∧ v = .int .u64 n ∧ n = val (T.drop i)) (fun _ d => (intOf d + 1).toNat)
                case atStart => exact ⟨0, k + 1, Nat.le_refl _, by go_num, rfl, by rw [List.drop_of_length_le (by rw [HTL.out]; omega)]; rfl⟩
                case round =>
                  obtain ⟨n, i, hi, rfl, rfl, hn⟩ := hrel
                  have HN := Lib.hid hn
                  have hn0 : 0 ≤ n ∧ n ≤ 18446744073709551615 := by have := val_bd (T.drop i); have := val_drop_le T i; omega
                  clear hn
                  by_cases hi0 : i ≤ 0
                  · have HE : Hid (n = val T) := by
                      obtain rfl : i = 0 := by omega
                      show n = val T; simpa using HN.out
                    go_wp2
                    go_ret3
                    refine ⟨?_, rfl⟩
                    rw [HV.out, ← HE.out]; rfl
                  · obtain ⟨j, rfl⟩ : ∃ j, i = j + 1 := ⟨i - 1, by omega⟩
                    have hjl : j < L.length := by omega
                    obtain ⟨b2, off2, hao, hcell2, _⟩ := hr.at (i := j) (v := .int .u8 L[j]) (by simp [hjl])
                    cases hao
                    have hxj := hb L[j] (by simp)
                    have HS : Hid (val (T.drop j) = L[j] % 128 + 128 * n) := by
                      have := val_drop T j (by rw [HTL.out]; omega)
                      have h2 := HT.out j (by omega)
                      rw [List.getD_eq_getElem?_getD, List.getD_eq_getElem?_getD, List.getElem?_eq_getElem (by rw [HTL.out]; omega), List.getElem?_eq_getElem hjl] at h2
                      simp only [Option.getD_some] at h2
                      show _ = _
                      rw [this, HN.out, h2]
                    have hbd : 128 * n + L[j] % 128 ≤ 18446744073709551615 := by have h1 := HS.out; have h2 := val_drop_le T j; omega
                    have hj1 : ((j + 1 : Nat) : Int) - 1 = (j : Int) := by omega
                    rw [hj1]
                    go_wp2
                    go_round
                    case rel => exact ⟨_, j, by omega, rfl, rfl, by rw [HS.out]; omega⟩
                    case measure => simp [intOf] <;> omega
    · obtain rfl : k = L.length := by omega
      by_cases h10 : 10 ≤ L.length
      · have HR := Lib.hid (rd_range L h10 (fun j hj => HG.out j (by omega)))
        go_wp2
        go_ret3
        refine ⟨?_, rfl⟩
        rw [HR.out]; rfl
      · have HR := Lib.hid (rd_end L HG.out (by omega))
        go_wp2
        go_ret3
        refine ⟨?_, rfl⟩
        rw [HR.out]; rfl
end Go.Proofs.Ytoicahfpnnhgpaa
