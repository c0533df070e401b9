/-
  graticuleref09.Unquote.
-/
import Derived.Test.YtbjiamakchklpaaTbegins
import Derived.Test.YtbjiamakchklpaaTwordp
import Derived.Test.YtbjiamakchklpaaTrquote
set_option linter.unusedVariables false
set_option linter.unusedSimpArgs false
set_option maxRecDepth 100000
namespace Go
open Go.RowKit
theorem ext_eq (T : List UInt8) : extL (92 :: T) = (decide (T.length + 1 < 4) && ([92, 120].isPrefixOf (92 :: T) && (decide (T.length + 1 = 2) || decide (0 ≤ hexP ((92 :: T).getD 2 0).toNat)))) := by
  match T with
  | [] => rfl
  | [x] =>
    simp [extL, List.isPrefixOf]
    rw [Bool.eq_iff_iff]; simp; exact eq_comm
  | [x, b] =>
    simp [extL, List.isPrefixOf]
    rw [Bool.eq_iff_iff]; simp; intro _; exact eq_comm
  | x :: b :: c :: l => simp [extL]; intro h; omega
theorem decode_low {s : ByteArray} {p : Nat} (h : p < s.size) (hb : badAt s p = false) (hr : (Utf8.decode s p).1 < 128) : byt s p = (Utf8.decode s p).1 ∧ (Utf8.decode s p).2 = 1 := by
  have hbd : ¬ Utf8.decode s p = (65533, 1) := by
    unfold badAt at hb
    simpa using hb
  revert hbd hr
  rw [decode_eq]
  repeat' split
  all_goals simp_all
  all_goals omega
theorem ext_cons {s : ByteArray} {p : Nat} (h : p < s.size) : (s.extract p s.size).data.toList = s.get! p :: (s.extract (p + 1) s.size).data.toList := by
  rw [ByteArray.data_extract, ByteArray.data_extract, Array.toList_extract, Array.toList_extract, List.extract_eq_drop_take', List.extract_eq_drop_take']
  have hl : s.data.toList.length = s.size := Array.length_toList
  have h2 := get_lt h
  rw [List.take_of_length_le (by omega)]
  rw [List.getElem?_eq_some_iff] at h2
  obtain ⟨h3, h4⟩ := h2
  rw [← h4]
  exact List.drop_eq_getElem_cons h3
end Go
namespace Go.Proofs.Ytbjiamakchklpaa
open Go.RowKit

set_option maxHeartbeats 12800000 in
theorem runq_any (s : ByteArray) (hs : s.size ≤ 100000) (w : World) :
    Calls Try.prog 12 #[.string s] w fun e w' => e = .returned (.tuple #[.string ⟨(unquoteF s).1.toArray⟩, .int .i64 (unquoteF s).2.1, .int .i64 (unquoteF s).2.2]) ∧ Below w.heap.size w w' := by
  have hF := Lib.hid (unquoteF.eq_1 s)
  obtain ⟨R, hR⟩ : ∃ R, unquoteF s = R := ⟨_, rfl⟩
  rw [hR] at hF ⊢
  clear hR
  obtain ⟨R1, R2, R3⟩ := R
  dsimp only
  go_enter Try.func12, Try.ntmps12
  by_cases h0 : s.size = 0
  · have hR := hF.out
    rw [if_pos h0] at hR
    cases hR
    have hte : ((s.size : Int) == 0) = true := by rw [beq_iff_eq]; omega
    clear hF
    go_wp2
    refine bodyPost_ret (v := .tuple #[.string ⟨#[]⟩, .int .i64 0, .int .i64 4]) (by simp [results, Try.results12, go_sem]) rfl ⟨rfl, Below.refl _ _⟩
  have hpos : 0 < s.size := by omega
  have hte : ((s.size : Int) == 0) = false := by rw [beq_eq_false_iff_ne]; omega
  have hg0 := byt_get hpos
  have hR := hF.out
  rw [if_neg h0] at hR
  clear hF
  by_cases c0 : byt s 0 = 34
  · rw [if_neg (by omega)] at hR
    rw [c0] at hg0
    have HU := Lib.hid hR
    clear hR
    go_wp2
    go_loopw [5, 6] (fun o i wr => ∃ (p f : Nat) (q : ByteArray), o = .string q ∧ i = .int .i64 (p : Int) ∧ 1 ≤ p ∧ p ≤ s.size ∧ s.size ≤ p + f ∧ q.size ≤ p ∧ Below w.heap.size w wr ∧ Hid ((R1, R2, R3) = unqF s f p q.data.toList)) (fun _ i _ => s.size - (intOf i).toNat)
    case atStart => exact ⟨1, s.size, ⟨#[]⟩, rfl, rfl, by omega, by omega, by omega, by simp [ByteArray.size], Below.refl _ _, HU⟩
    case round =>
      clear HU
      obtain ⟨p, f, q, rfl, rfl, hp1, hps, hpf, hq, hbl, HU⟩ := hrel
      by_cases hp : p < s.size
      · obtain ⟨f, rfl⟩ : ∃ g, f = g + 1 := ⟨f - 1, by omega⟩
        have hpi : (p : Int) ≤ (s.size : Int) := by omega
        have hpi2 : (p : Int) < (s.size : Int) := by omega
        have hwd := decode_wid hp
        have hfi := first_any (s.extract p s.size) (by rw [ext_size]; unfold maxLen; omega)
        have hft : firstT (s.extract p s.size) = firstF s p := by
          unfold firstT
          rw [if_neg (by rw [ext_size]; omega), ext_first]; rfl
        rw [hft] at hfi
        have hff : firstF s p = if badAt s p then (0, 0) else Utf8.decode s p := rfl
        rw [hff] at hfi
        clear hft hff
        cases hBD : badAt s p with
        | true =>
          rw [hBD, if_pos rfl] at hfi
          have hu := HU.out
          rw [unqF_bad hp hBD] at hu
          cases hu
          have HFI := Lib.hid hfi
          clear hfi HU hwd hBD
          go_wp2_with fail
          refine (HFI.out _).mono ?_
          rintro e w1 ⟨rfl, rfl⟩
          go_wp2
          refine bodyPost_ret (v := .tuple #[.string ⟨#[]⟩, .int .i64 0, .int .i64 13]) (by simp [results, Try.results12, go_sem]) rfl ⟨rfl, hbl⟩
        | false =>
          rw [hBD, if_neg (by decide)] at hfi
          have F2 := Lib.hid (fun h2 => unqF_shut (s := s) (f := f) (p := p) (acc := q.data.toList) hp hBD h2)
          have F3 := Lib.hid (fun h2 => unqF_esc (s := s) (f := f) (p := p) (acc := q.data.toList) hp hBD h2)
          have F4 := Lib.hid (fun h2 h3 h4 => unqF_low (s := s) (f := f) (p := p) (acc := q.data.toList) hp hBD h2 h3 h4)
          have F5 := Lib.hid (fun h2 h3 h4 => unqF_on (s := s) (f := f) (p := p) (acc := q.data.toList) hp hBD h2 h3 h4)
          have HLO := Lib.hid (fun h => decode_low hp hBD h)
          have HFI := Lib.hid hfi
          clear hfi hBD
          obtain ⟨W, hW⟩ : ∃ W, (Utf8.decode s p).2 = W := ⟨_, rfl⟩
          rw [hW] at HFI hwd F5 HLO
          obtain ⟨R, hR⟩ : ∃ R, (Utf8.decode s p).1 = R := ⟨_, rfl⟩
          rw [hR] at HFI hwd F2 F3 F4 F5 HLO
          clear hR hW
          have hw0 : ((W : Int) == 0) = false := by rw [beq_eq_false_iff_ne]; omega
          have hWs : p + W ≤ s.size := hwd.2.1
          go_wp2_with fail
          refine (HFI.out _).mono ?_
          rintro e w1 ⟨rfl, rfl⟩
          by_cases c1 : R = 34
          · subst c1
            have hu := HU.out
            rw [F2.out rfl] at hu
            cases hu
            clear HFI HU F2 F3 F4 F5 HLO
            go_wp2
            refine bodyPost_ret (v := .tuple #[.string q, .int .i64 ((p : Int) + 1), .int .i64 0]) (by simp [results, Try.results12, go_sem]) rfl ⟨by simp, hbl⟩
          have n1 : ((R : Int) == 34) = false := by rw [beq_eq_false_iff_ne]; omega
          by_cases c2 : R = 92
          · subst c2
            have hlow := HLO.out (by decide)
            clear HFI F2 F4 F5 HLO n1 c1
            have hTc := ext_cons hp
            have h92 : s.get! p = 92 := by rw [byt_u8, hlow.1]; rfl
            rw [h92] at hTc
            have hu := HU.out
            rw [F3.out rfl] at hu
            have hex := escF_eq (s.extract (p + 1) s.size)
            have hok := esc_ok (s.extract (p + 1) s.size)
            rw [ext_size] at hok
            have hes : (escF (s.extract (p + 1) s.size)).2.2 = 0 ∨ (escF (s.extract (p + 1) s.size)).2.2 = 3 ∨ (escF (s.extract (p + 1) s.size)).2.2 = 4 := esc_err _
            have HTB : Hid (∀ k, p + k < s.size → ((s.extract p s.size).data.toList.getD k 0).toNat = byt s (p + k)) := Lib.hid (fun k hk => by
              have h1 := get_lt (s := s.extract p s.size) (i := k) (by rw [ext_size]; omega)
              rw [List.getD_eq_getElem?_getD, h1, Option.getD_some, ← ext_byt]; rfl)
            have hsr := search_esc (s.extract (p + 1) s.size).data.toList q.data.toList
            rw [← hex] at hsr
            have hTL : (s.extract (p + 1) s.size).data.toList.length = s.size - p - 1 := by rw [Array.length_toList]; have := ext_size s (p + 1); show (s.extract (p + 1) s.size).size = _; omega
            rw [hTc] at HTB
            have hEs : (s.extract p s.size).size = s.size - p := ext_size s p
            generalize escF (s.extract (p + 1) s.size) = X at *
            generalize (s.extract (p + 1) s.size).data.toList = T at *
            obtain ⟨E, hE⟩ : ∃ E, s.extract p s.size = E := ⟨_, rfl⟩
            rw [hE] at hTc hEs
            obtain ⟨X1, X2, X3⟩ := X
            dsimp only at hu hok hes hsr
            have HU1 := Lib.hid hu
            have HOK := Lib.hid hok
            have HS := Lib.hid hsr
            have HTC := Lib.hid hTc
            clear hu hok hsr hTc HU F3 hex hlow h92
            have HU := HU1
            clear HU1
            go_wp2
            go_loopw [5, 9, 10, 11] (fun o sz pt c wI => ∃ (k : Nat) (q2 : ByteArray), o = .string q2 ∧ sz = .int .i64 (sizeL (92 :: T) k : Nat) ∧ pt = .bool (partL (92 :: T) k) ∧ c = .int .i64 (k : Int) ∧ k ≤ 128 ∧ q2.size ≤ q.size + k ∧ Hid (q2.data.toList = outL (92 :: T) q.data.toList k) ∧ Below w.heap.size w wI) (fun _ _ _ c _ => 128 - (intOf c).toNat)
            case atStart => exact ⟨0, q, rfl, rfl, rfl, rfl, by omega, by omega, Lib.hid (by simp [outL]), hbl⟩
            case round =>
              obtain ⟨k, q2, rfl, rfl, rfl, rfl, hk, hq2, HQ, hbI⟩ := hrel
              by_cases hk8 : k < 128
              · have hki : (k : Int) < 128 := by omega
                have hf := Lib.hid (rform_any k (by omega))
                have hst1 := Lib.hid (outL_step (92 :: T) q.data.toList k)
                have hst2 := Lib.hid (sizeL_step (92 :: T) k)
                have hst3 := Lib.hid (partL_step (92 :: T) k)
                have HFM : Hid (fm (92 :: T) k = (decide (formR k ≠ []) && (formR k).isPrefixOf (92 :: T))) := Lib.hid rfl
                have HFP : Hid (fp (92 :: T) k = (decide (formR k ≠ []) && (decide ((92 :: T).length < (formR k).length) && (92 :: T).isPrefixOf (formR k)))) := Lib.hid rfl
                have hfl := formR_len k
                generalize fm (92 :: T) k = M at *
                generalize fp (92 :: T) k = PF at *
                generalize formR k = F at *
                clear HS HU HOK
                go_wp2_with fail
                refine (hf.out _).mono ?_
                rintro e w2 ⟨rfl, hb1⟩
                have hb2 := hbI.trans (hb1.mono hbI.size)
                clear hf
                by_cases hF0 : F = []
                · subst hF0
                  have hM : M = false := by rw [HFM.out]; rfl
                  have hPF : PF = false := by rw [HFP.out]; rfl
                  subst hM
                  subst hPF
                  have hte : (⟨([] : List UInt8).toArray⟩ : ByteArray).toList.isEmpty = true := by rw [empty_dec]; rfl
                  have hsz : sizeL (92 :: T) (k + 1) = sizeL (92 :: T) k := hst2.out
                  have hpt : partL (92 :: T) (k + 1) = partL (92 :: T) k := by rw [hst3.out, Bool.or_false]
                  have HQ3 : Hid (q2.data.toList = outL (92 :: T) q.data.toList (k + 1)) := Lib.hid (by rw [hst1.out, HQ.out]; simp)
                  clear hst1 hst2 hst3 HFM HFP
                  go_wp2
                  go_roundw
                  case rel => exact ⟨k + 1, q2, rfl, val_int (by rw [hsz]), congrArg Value.bool hpt.symm, val_int (by omega), by omega, by omega, HQ3, hb2⟩
                  case measure => simp [intOf]; omega
                · have hte : F.isEmpty = false := by simpa using hF0
                  have hBE := Lib.hid (begins_any E ⟨F.toArray⟩)
                  rw [HTC.out] at hBE
                  have hBF := Lib.hid (begins_any ⟨F.toArray⟩ E)
                  rw [HTC.out] at hBF
                  have hMF : M = F.isPrefixOf (92 :: T) := by rw [HFM.out]; simp [hF0]
                  have hBE : Hid (∀ w, Calls Try.prog 31 #[.string E, .string ⟨F.toArray⟩] w fun e w' => e = .returned (.bool M) ∧ w' = w) := by rw [hMF]; exact hBE
                  clear hMF HFM
                  go_wp2_with fail
                  refine (hBE.out _).mono ?_
                  rintro e w3 ⟨rfl, rfl⟩
                  clear hBE
                  cases M with
                  | true =>
                    have hsz : sizeL (92 :: T) (k + 1) = F.length := hst2.out
                    have hku : IntKind.u8.wrap (k : Int) = (k : Int) := by
                      have : ∀ k : Fin 128, IntKind.u8.wrap (k.val : Int) = (k.val : Int) := by decide +kernel
                      exact this ⟨k, hk8⟩
                    have hkn : (k.toUInt8.toNat : Int) = (k : Int) := by
                      have : k.toUInt8.toNat = k := by simp; omega
                      omega
                    have hcv := conv_lit w3 [k.toUInt8] 1 rfl
                    have h1 : (convert 53 9 (.slice (some ⟨w3.heap.size, 0, none⟩) 1 1)).run Try.prog (w3.alloc (.cells #[.int .u8 (k : Int)] 5)) = .ok (.string ⟨#[k.toUInt8]⟩) (w3.alloc (.cells #[.int .u8 (k : Int)] 5)) := by rw [← hkn]; exact hcv
                    have hl4 : ¬ 9223372036854775807 < q2.size + 1 := by omega
                    have hqs : (q2 ++ ⟨#[k.toUInt8]⟩).size = q2.size + 1 := ByteArray.size_append
                    have HQ3 : Hid ((q2 ++ ⟨#[k.toUInt8]⟩).data.toList = outL (92 :: T) q.data.toList (k + 1)) := Lib.hid (by rw [hst1.out, ByteArray.data_append, Array.toList_append, HQ.out]; rfl)
                    have hb3 := hb2.alloc hb2.size (.cells #[.int .u8 (k : Int)] 5)
                    clear hst1 hst2 hcv hkn
                    obtain ⟨PT, hPT⟩ : ∃ PT, partL (92 :: T) k = PT := ⟨_, rfl⟩
                    rw [hPT] at hst3 ⊢
                    cases PT with
                    | true =>
                      have hpt : partL (92 :: T) (k + 1) = true := by rw [hst3.out]; rfl
                      clear hBF hst3
                      go_wp2
                      go_roundw
                      case rel => exact ⟨k + 1, q2 ++ ⟨#[k.toUInt8]⟩, rfl, val_int (by rw [hsz]), congrArg Value.bool hpt.symm, val_int (by omega), by omega, by rw [hqs]; omega, HQ3, hb3⟩
                      case measure => simp [intOf]; omega
                    | false =>
                      by_cases hlt : s.size - p < F.length
                      · have hlti : (s.size : Int) - (p : Int) < (F.length : Int) := by omega
                        have hpt : partL (92 :: T) (k + 1) = (92 :: T).isPrefixOf F := by rw [hst3.out, Bool.false_or, HFP.out]; simp [hF0, hTL]; omega
                        go_wp2_with fail
                        refine (hBF.out _).mono ?_
                        rintro e w3 ⟨rfl, rfl⟩
                        clear hBF hst3 HFP
                        go_wp2
                        go_roundw
                        case rel => exact ⟨k + 1, q2 ++ ⟨#[k.toUInt8]⟩, rfl, val_int (by rw [hsz]), congrArg Value.bool hpt.symm, val_int (by omega), by omega, by rw [hqs]; omega, HQ3, hb3⟩
                        case measure => simp [intOf]; omega
                      · have hlti : ¬ (s.size : Int) - (p : Int) < (F.length : Int) := by omega
                        have hpt : partL (92 :: T) (k + 1) = false := by rw [hst3.out, Bool.false_or, HFP.out]; simp [hTL]; intro _ h; omega
                        clear hBF hst3 HFP
                        go_wp2
                        go_roundw
                        case rel => exact ⟨k + 1, q2 ++ ⟨#[k.toUInt8]⟩, rfl, val_int (by rw [hsz]), congrArg Value.bool hpt.symm, val_int (by omega), by omega, by rw [hqs]; omega, HQ3, hb3⟩
                        case measure => simp [intOf]; omega
                  | false =>
                    have hsz : sizeL (92 :: T) (k + 1) = sizeL (92 :: T) k := hst2.out
                    have HQ3 : Hid (q2.data.toList = outL (92 :: T) q.data.toList (k + 1)) := Lib.hid (by rw [hst1.out, HQ.out]; simp)
                    clear hst1 hst2
                    obtain ⟨PT, hPT⟩ : ∃ PT, partL (92 :: T) k = PT := ⟨_, rfl⟩
                    rw [hPT] at hst3 ⊢
                    cases PT with
                    | true =>
                      have hpt : partL (92 :: T) (k + 1) = true := by rw [hst3.out]; rfl
                      clear hBF hst3
                      go_wp2
                      go_roundw
                      case rel => exact ⟨k + 1, q2, rfl, val_int (by rw [hsz]), congrArg Value.bool hpt.symm, val_int (by omega), by omega, by omega, HQ3, hb2⟩
                      case measure => simp [intOf]; omega
                    | false =>
                      by_cases hlt : s.size - p < F.length
                      · have hlti : (s.size : Int) - (p : Int) < (F.length : Int) := by omega
                        have hpt : partL (92 :: T) (k + 1) = (92 :: T).isPrefixOf F := by rw [hst3.out, Bool.false_or, HFP.out]; simp [hF0, hTL]; omega
                        go_wp2_with fail
                        refine (hBF.out _).mono ?_
                        rintro e w3 ⟨rfl, rfl⟩
                        clear hBF hst3 HFP
                        go_wp2
                        go_roundw
                        case rel => exact ⟨k + 1, q2, rfl, val_int (by rw [hsz]), congrArg Value.bool hpt.symm, val_int (by omega), by omega, by omega, HQ3, hb2⟩
                        case measure => simp [intOf]; omega
                      · have hlti : ¬ (s.size : Int) - (p : Int) < (F.length : Int) := by omega
                        have hpt : partL (92 :: T) (k + 1) = false := by rw [hst3.out, Bool.false_or, HFP.out]; simp [hTL]; intro _ h; omega
                        clear hBF hst3 HFP
                        go_wp2
                        go_roundw
                        case rel => exact ⟨k + 1, q2, rfl, val_int (by rw [hsz]), congrArg Value.bool hpt.symm, val_int (by omega), by omega, by omega, HQ3, hb2⟩
                        case measure => simp [intOf]; omega
              · have hk9 : k = 128 := by omega
                subst hk9
                obtain ⟨SZ, hSZ⟩ : ∃ SZ, sizeL (92 :: T) 128 = SZ := ⟨_, rfl⟩
                obtain ⟨PT, hPT⟩ : ∃ PT, partL (92 :: T) 128 = PT := ⟨_, rfl⟩
                rw [hSZ, hPT]
                have HSZ := Lib.hid hSZ
                have HPT := Lib.hid hPT
                obtain ⟨B2, hB2⟩ : ∃ B2, [92, 120].isPrefixOf (92 :: T) = B2 := ⟨_, rfl⟩
                have hBE : Hid (∀ w, Calls Try.prog 31 #[.string E, .string ⟨#[92, 120]⟩] w fun e w' => e = .returned (.bool B2) ∧ w' = w) := Lib.hid (fun w => by
                  have := begins_any E ⟨#[92, 120]⟩ w
                  rw [HTC.out] at this
                  rw [← hB2]
                  exact this)
                have HB2 := Lib.hid hB2
                have HB3 : Hid (B2 = true → 2 ≤ s.size - p) := Lib.hid (fun h => by
                  rw [h, List.isPrefixOf_iff_prefix] at hB2
                  have := hB2.length_le
                  simp only [List.length_cons, List.length_nil] at this
                  omega)
                have hk9 : ¬ ((128 : Int) < 128) := by decide
                clear hSZ hPT hB2 hk
                have hwr : IntKind.i64.wrap ((s.size : Int) - (p : Int)) = (s.size : Int) - (p : Int) := IntWalk.i64_in _ (by omega)
                by_cases h4 : s.size - p < 4
                · have h4i : (s.size : Int) - (p : Int) < 4 := by omega
                  have hpt2 : ((p : Int) + 2).toNat = p + 2 := by omega
                  go_wp2
                  refine wp_region_lit_txt [0, 1, 2, 3, 4, 5, 6, 7, 8, 12, 13, 14, 15, 16, 17, 18, 19, 20, 21, 22, 23, 25, 26, 27] (fun _ => True) (by kernel_rfl) (by kernel_rfl) (by kernel_rfl) trivial ?_
                  have hb0 := hbI.drew
                  generalize wr.drew = w0 at *
                  (refine txt_light ?_ rfl rfl ?_ ?_; rotate_left; · (intro w' hS; (try dsimp only at hS); go_simp; with_reducible rfl)); try simp only [Act.put, List.setIfInBounds_toArray, List.set_cons_zero, List.set_cons_succ]
                  (refine txt_light ?_ rfl rfl ?_ ?_; rotate_left; · (intro w' hS; (try dsimp only at hS); go_simp; with_reducible rfl)); try simp only [Act.put, List.setIfInBounds_toArray, List.set_cons_zero, List.set_cons_succ]
                  (refine txt_light ?_ rfl rfl ?_ ?_; rotate_left; · (intro w' hS; (try dsimp only at hS); go_simp; with_reducible rfl)); try simp only [Act.put, List.setIfInBounds_toArray, List.set_cons_zero, List.set_cons_succ]
                  (refine txt_light ?_ rfl rfl ?_ ?_; rotate_left; · (intro w' hS; (try dsimp only at hS); go_simp; with_reducible rfl)); try simp only [Act.put, List.setIfInBounds_toArray, List.set_cons_zero, List.set_cons_succ]
                  (refine txt_light ?_ rfl rfl ?_ ?_; rotate_left; · (intro w' hS; (try dsimp only at hS); go_simp; with_reducible rfl)); try simp only [Act.put, List.setIfInBounds_toArray, List.set_cons_zero, List.set_cons_succ]
                  (refine txt_light ?_ rfl rfl ?_ ?_; rotate_left; · (intro w' hS; (try dsimp only at hS); go_simp; with_reducible rfl)); try simp only [Act.put, List.setIfInBounds_toArray, List.set_cons_zero, List.set_cons_succ]
                  (refine txt_light ?_ rfl rfl ?_ ?_; rotate_left; · (intro w' hS; (try dsimp only at hS); go_simp; with_reducible rfl)); try simp only [Act.put, List.setIfInBounds_toArray, List.set_cons_zero, List.set_cons_succ]
                  (refine txt_light ?_ rfl rfl ?_ ?_; rotate_left; · (intro w' hS; (try dsimp only at hS); go_simp; with_reducible rfl)); try simp only [Act.put, List.setIfInBounds_toArray, List.set_cons_zero, List.set_cons_succ]
                  (refine txt_light ?_ rfl rfl ?_ ?_; rotate_left; · (intro w' hS; (try dsimp only at hS); go_simp; with_reducible rfl)); try simp only [Act.put, List.setIfInBounds_toArray, List.set_cons_zero, List.set_cons_succ]
                  have h1 : (convert 53 9 (.slice (some ⟨w0.heap.size, 0, none⟩) 2 2)).run Try.prog (w0.alloc (.cells #[.int .u8 92, .int .u8 120] 5)) = .ok (.string ⟨#[92, 120]⟩) (w0.alloc (.cells #[.int .u8 92, .int .u8 120] 5)) := conv_lit w0 [92, 120] 2 rfl
                  have hb1 := hb0.alloc hb0.size (.cells #[.int .u8 92, .int .u8 120] 5)
                  refine txt_heavy rfl rfl (fun K hK => ?_)
                  go_step
                  refine hK.out _ _ trivial ?_
                  clear hK K
                  try simp only [Act.put, List.setIfInBounds_toArray, List.set_cons_zero, List.set_cons_succ]
                  generalize w0.alloc (.cells #[.int .u8 92, .int .u8 120] 5) = w1 at *
                  refine txt_heavy rfl rfl (fun K hK => ?_)
                  go_step
                  refine hK.out _ _ trivial ?_
                  clear hK K
                  try simp only [Act.put, List.setIfInBounds_toArray, List.set_cons_zero, List.set_cons_succ]
                  cases B2 with
                  | false =>
                    refine txt_call [.string E, .string ⟨#[92, 120]⟩] Try.f31 rfl rfl Try.func31 (by kernel_rfl) (by kernel_rfl) rfl ((hBE.out _).mono ?_)
                    rintro e w2 ⟨rfl, rfl⟩
                    refine ⟨_, rfl, trivial, ?_⟩
                    try simp only [Act.put, List.setIfInBounds_toArray, List.set_cons_zero, List.set_cons_succ]
                    (refine txt_light ?_ rfl rfl ?_ ?_; rotate_left; · (intro w' hS; (try dsimp only at hS); go_simp; with_reducible rfl)); try simp only [Act.put, List.setIfInBounds_toArray, List.set_cons_zero, List.set_cons_succ]
                    (refine txt_light ?_ rfl rfl ?_ ?_; rotate_left; · (intro w' hS; (try dsimp only at hS); go_simp; with_reducible rfl)); try simp only [Act.put, List.setIfInBounds_toArray, List.set_cons_zero, List.set_cons_succ]
                    refine txt_skip rfl ?_; try simp only [Act.put, List.setIfInBounds_toArray, List.set_cons_zero, List.set_cons_succ]
                    refine txt_skip rfl ?_; try simp only [Act.put, List.setIfInBounds_toArray, List.set_cons_zero, List.set_cons_succ]
                    refine txt_skip rfl ?_; try simp only [Act.put, List.setIfInBounds_toArray, List.set_cons_zero, List.set_cons_succ]
                    refine txt_skip rfl ?_; try simp only [Act.put, List.setIfInBounds_toArray, List.set_cons_zero, List.set_cons_succ]
                    refine txt_skip rfl ?_; try simp only [Act.put, List.setIfInBounds_toArray, List.set_cons_zero, List.set_cons_succ]
                    refine txt_skip rfl ?_; try simp only [Act.put, List.setIfInBounds_toArray, List.set_cons_zero, List.set_cons_succ]
                    refine txt_skip rfl ?_; try simp only [Act.put, List.setIfInBounds_toArray, List.set_cons_zero, List.set_cons_succ]
                    refine txt_skip rfl ?_; try simp only [Act.put, List.setIfInBounds_toArray, List.set_cons_zero, List.set_cons_succ]
                    refine txt_skip rfl ?_; try simp only [Act.put, List.setIfInBounds_toArray, List.set_cons_zero, List.set_cons_succ]
                    refine txt_skip rfl ?_; try simp only [Act.put, List.setIfInBounds_toArray, List.set_cons_zero, List.set_cons_succ]
                    refine txt_skip rfl ?_; try simp only [Act.put, List.setIfInBounds_toArray, List.set_cons_zero, List.set_cons_succ]
                    refine txt_skip rfl ?_; try simp only [Act.put, List.setIfInBounds_toArray, List.set_cons_zero, List.set_cons_succ]
                    refine txt_skip rfl ?_; try simp only [Act.put, List.setIfInBounds_toArray, List.set_cons_zero, List.set_cons_succ]
                    (refine txt_light ?_ rfl rfl ?_ ?_; rotate_left; · (intro w' hS; (try dsimp only at hS); go_simp; with_reducible rfl)); try simp only [Act.put, List.setIfInBounds_toArray, List.set_cons_zero, List.set_cons_succ]
                    refine txt_nil ?_
                    rcases hes with e0 | e0 | e0
                    · obtain ⟨s1, s2, s3, s4⟩ := HS.out.1 e0
                      rw [s3] at HPT
                      have hu := HU.out
                      rw [if_pos e0] at hu
                      have hu2 := Lib.hid hu
                      have hok := HOK.out e0
                      have hq3 : Hid (q2.data.toList = q.data.toList ++ [X1.toUInt8]) := Lib.hid (by rw [HQ.out, s1])
                      rw [s2] at HSZ
                      have hq3l : q2.size = q.size + 1 := by
                        have := congrArg List.length hq3.out
                        rw [List.length_append, Array.length_toList, Array.length_toList] at this
                        exact this
                      have hHPT := HPT.out
                      have hHSZ := HSZ.out
                      subst hHPT
                      subst hHSZ
                      clear HS HPT HSZ hu HQ HU s1 s2 s3 s4
                      have hz : ((((X2 + 1 : Nat)) : Int) == 0) = false := by rw [beq_eq_false_iff_ne]; omega
                      obtain ⟨N, hN⟩ : ∃ N, X2 + 1 = N := ⟨_, rfl⟩
                      rw [hN] at hz ⊢
                      go_wp2
                      go_roundw
                      case rel => exact ⟨p + N, f, q2, rfl, val_int (by omega), by omega, by omega, by omega, by omega, hb1, Lib.hid (by rw [hu2.out, hq3.out]; congr 1; omega)⟩
                      case measure => simp [intOf]; omega
                    · obtain ⟨s1, s2, s3⟩ := HS.out.2.2 e0
                      have hu := HU.out
                      rw [if_neg (by omega), e0] at hu
                      cases hu
                      rw [s1] at HSZ
                      rw [s2] at HPT
                      have hHPT := HPT.out
                      have hHSZ := HSZ.out
                      subst hHPT
                      subst hHSZ
                      clear HS HPT HSZ HQ HU HOK s1 s2 s3
                      go_wp2
                      refine bodyPost_ret (v := .tuple #[.string ⟨#[]⟩, .int .i64 0, .int .i64 3]) (by simp [results, Try.results12, go_sem]) rfl ⟨rfl, hb1⟩
                    · have s1 := HS.out.2.1 e0
                      rw [(show extL (92 :: T) = false from by rw [ext_eq, HB2.out, Bool.false_and, Bool.and_false]), Bool.or_false] at s1
                      have hu := HU.out
                      rw [if_neg (by omega), e0] at hu
                      cases hu
                      rw [s1] at HPT
                      have hHPT := HPT.out
                      subst hHPT
                      clear HS HPT HSZ HQ HU HOK s1
                      go_wp2
                      refine bodyPost_ret (v := .tuple #[.string ⟨#[]⟩, .int .i64 0, .int .i64 4]) (by simp [results, Try.results12, go_sem]) rfl ⟨rfl, hb1⟩
                  | true =>
                    refine txt_call [.string E, .string ⟨#[92, 120]⟩] Try.f31 rfl rfl Try.func31 (by kernel_rfl) (by kernel_rfl) rfl ((hBE.out _).mono ?_)
                    rintro e w2 ⟨rfl, rfl⟩
                    refine ⟨_, rfl, trivial, ?_⟩
                    try simp only [Act.put, List.setIfInBounds_toArray, List.set_cons_zero, List.set_cons_succ]
                    by_cases h2 : s.size - p = 2
                    · have h2i : ((s.size : Int) - (p : Int) == 2) = true := by rw [beq_iff_eq]; omega
                      (refine txt_light ?_ rfl rfl ?_ ?_; rotate_left; · (intro w' hS; (try dsimp only at hS); go_simp; with_reducible rfl)); try simp only [Act.put, List.setIfInBounds_toArray, List.set_cons_zero, List.set_cons_succ]
                      (refine txt_light ?_ rfl rfl ?_ ?_; rotate_left; · (intro w' hS; (try dsimp only at hS); go_simp; with_reducible rfl)); try simp only [Act.put, List.setIfInBounds_toArray, List.set_cons_zero, List.set_cons_succ]
                      (refine txt_light ?_ rfl rfl ?_ ?_; rotate_left; · (intro w' hS; (try dsimp only at hS); go_simp; with_reducible rfl)); try simp only [Act.put, List.setIfInBounds_toArray, List.set_cons_zero, List.set_cons_succ]
                      (refine txt_light ?_ rfl rfl ?_ ?_; rotate_left; · (intro w' hS; (try dsimp only at hS); go_simp; with_reducible rfl)); try simp only [Act.put, List.setIfInBounds_toArray, List.set_cons_zero, List.set_cons_succ]
                      (refine txt_light ?_ rfl rfl ?_ ?_; rotate_left; · (intro w' hS; (try dsimp only at hS); go_simp; with_reducible rfl)); try simp only [Act.put, List.setIfInBounds_toArray, List.set_cons_zero, List.set_cons_succ]
                      (refine txt_light ?_ rfl rfl ?_ ?_; rotate_left; · (intro w' hS; (try dsimp only at hS); go_simp; with_reducible rfl)); try simp only [Act.put, List.setIfInBounds_toArray, List.set_cons_zero, List.set_cons_succ]
                      (refine txt_light ?_ rfl rfl ?_ ?_; rotate_left; · (intro w' hS; (try dsimp only at hS); go_simp; with_reducible rfl)); try simp only [Act.put, List.setIfInBounds_toArray, List.set_cons_zero, List.set_cons_succ]
                      (refine txt_light ?_ rfl rfl ?_ ?_; rotate_left; · (intro w' hS; (try dsimp only at hS); go_simp; with_reducible rfl)); try simp only [Act.put, List.setIfInBounds_toArray, List.set_cons_zero, List.set_cons_succ]
                      refine txt_skip rfl ?_; try simp only [Act.put, List.setIfInBounds_toArray, List.set_cons_zero, List.set_cons_succ]
                      refine txt_skip rfl ?_; try simp only [Act.put, List.setIfInBounds_toArray, List.set_cons_zero, List.set_cons_succ]
                      refine txt_skip rfl ?_; try simp only [Act.put, List.setIfInBounds_toArray, List.set_cons_zero, List.set_cons_succ]
                      refine txt_skip rfl ?_; try simp only [Act.put, List.setIfInBounds_toArray, List.set_cons_zero, List.set_cons_succ]
                      refine txt_skip rfl ?_; try simp only [Act.put, List.setIfInBounds_toArray, List.set_cons_zero, List.set_cons_succ]
                      refine txt_skip rfl ?_; try simp only [Act.put, List.setIfInBounds_toArray, List.set_cons_zero, List.set_cons_succ]
                      (refine txt_light ?_ rfl rfl ?_ ?_; rotate_left; · (intro w' hS; (try dsimp only at hS); go_simp; with_reducible rfl)); try simp only [Act.put, List.setIfInBounds_toArray, List.set_cons_zero, List.set_cons_succ]
                      (refine txt_light ?_ rfl rfl ?_ ?_; rotate_left; · (intro w' hS; (try dsimp only at hS); go_simp; with_reducible rfl)); try simp only [Act.put, List.setIfInBounds_toArray, List.set_cons_zero, List.set_cons_succ]
                      refine txt_nil ?_
                      rcases hes with e0 | e0 | e0
                      · obtain ⟨s1, s2, s3, s4⟩ := HS.out.1 e0
                        rw [(show extL (92 :: T) = true from by rw [ext_eq, HB2.out, decide_eq_true (show T.length + 1 < 4 by omega), decide_eq_true (show T.length + 1 = 2 by omega)] <;> rfl)] at s4
                        cases s4
                      · obtain ⟨s1, s2, s3⟩ := HS.out.2.2 e0
                        rw [(show extL (92 :: T) = true from by rw [ext_eq, HB2.out, decide_eq_true (show T.length + 1 < 4 by omega), decide_eq_true (show T.length + 1 = 2 by omega)] <;> rfl)] at s3
                        cases s3
                      · have hu := HU.out
                        rw [if_neg (by omega), e0] at hu
                        cases hu
                        clear HS HPT HSZ HQ HU HOK
                        go_wp2
                        refine bodyPost_ret (v := .tuple #[.string ⟨#[]⟩, .int .i64 0, .int .i64 4]) (by simp [results, Try.results12, go_sem]) rfl ⟨rfl, hb1⟩
                    · have h2i : ((s.size : Int) - (p : Int) == 2) = false := by rw [beq_eq_false_iff_ne]; omega
                      have h3 : s.size - p = 3 := by have := HB3.out rfl; omega
                      have hp2 : p + 2 < s.size := by omega
                      have hp20 : (0 : Int) ≤ (p : Int) + 2 := by omega
                      have hwr2 : IntKind.i64.wrap ((p : Int) + 2) = (p : Int) + 2 := IntWalk.i64_in _ (by omega)
                      have hg2 := byt_get hp2
                      have hp2i : (p : Int) + 2 < (s.size : Int) := by omega
                      have HG2 : Hid (((92 :: T).getD 2 0).toNat = byt s (p + 2)) := Lib.hid (by have := HTB.out 2 (by omega); rw [← this])
                      have HPL := Lib.hid (place_any (byt s (p + 2)) (byt_lt s _))
                      have hbl2 := byt_lt s (p + 2)
                      generalize byt s (p + 2) = c2 at *
                      (refine txt_light ?_ rfl rfl ?_ ?_; rotate_left; · (intro w' hS; (try dsimp only at hS); go_simp; with_reducible rfl)); try simp only [Act.put, List.setIfInBounds_toArray, List.set_cons_zero, List.set_cons_succ]
                      (refine txt_light ?_ rfl rfl ?_ ?_; rotate_left; · (intro w' hS; (try dsimp only at hS); go_simp; with_reducible rfl)); try simp only [Act.put, List.setIfInBounds_toArray, List.set_cons_zero, List.set_cons_succ]
                      (refine txt_light ?_ rfl rfl ?_ ?_; rotate_left; · (intro w' hS; (try dsimp only at hS); go_simp; with_reducible rfl)); try simp only [Act.put, List.setIfInBounds_toArray, List.set_cons_zero, List.set_cons_succ]
                      (refine txt_light ?_ rfl rfl ?_ ?_; rotate_left; · (intro w' hS; (try dsimp only at hS); go_simp; with_reducible rfl)); try simp only [Act.put, List.setIfInBounds_toArray, List.set_cons_zero, List.set_cons_succ]
                      (refine txt_light ?_ rfl rfl ?_ ?_; rotate_left; · (intro w' hS; (try dsimp only at hS); go_simp; with_reducible rfl)); try simp only [Act.put, List.setIfInBounds_toArray, List.set_cons_zero, List.set_cons_succ]
                      (refine txt_light ?_ rfl rfl ?_ ?_; rotate_left; · (intro w' hS; (try dsimp only at hS); go_simp; with_reducible rfl)); try simp only [Act.put, List.setIfInBounds_toArray, List.set_cons_zero, List.set_cons_succ]
                      (refine txt_light ?_ rfl rfl ?_ ?_; rotate_left; · (intro w' hS; (try dsimp only at hS); go_simp; with_reducible rfl)); try simp only [Act.put, List.setIfInBounds_toArray, List.set_cons_zero, List.set_cons_succ]
                      (refine txt_light ?_ rfl rfl ?_ ?_; rotate_left; · (intro w' hS; (try dsimp only at hS); go_simp; with_reducible rfl)); try simp only [Act.put, List.setIfInBounds_toArray, List.set_cons_zero, List.set_cons_succ]
                      (refine txt_light ?_ rfl rfl ?_ ?_; rotate_left; · (intro w' hS; (try dsimp only at hS); go_simp; with_reducible rfl)); try simp only [Act.put, List.setIfInBounds_toArray, List.set_cons_zero, List.set_cons_succ]
                      (refine txt_light ?_ rfl rfl ?_ ?_; rotate_left; · (intro w' hS; (try dsimp only at hS); go_simp; with_reducible rfl)); try simp only [Act.put, List.setIfInBounds_toArray, List.set_cons_zero, List.set_cons_succ]
                      (refine txt_light ?_ rfl rfl ?_ ?_; rotate_left; · (intro w' hS; (try dsimp only at hS); go_simp; with_reducible rfl)); try simp only [Act.put, List.setIfInBounds_toArray, List.set_cons_zero, List.set_cons_succ]
                      (refine txt_light ?_ rfl rfl ?_ ?_; rotate_left; · (intro w' hS; (try dsimp only at hS); go_simp; with_reducible rfl)); try simp only [Act.put, List.setIfInBounds_toArray, List.set_cons_zero, List.set_cons_succ]
                      refine txt_call [.int .u8 (c2 : Int)] Try.f32 rfl rfl Try.func32 (by kernel_rfl) (by kernel_rfl) rfl ((HPL.out _).mono ?_)
                      rintro e w2 ⟨np, rfl, hnp, rfl⟩
                      refine ⟨_, rfl, trivial, ?_⟩
                      try simp only [Act.put, List.setIfInBounds_toArray, List.set_cons_zero, List.set_cons_succ]
                      by_cases hn : np < 16
                      · have hni : (np : Int) < 16 := by omega
                        (refine txt_light ?_ rfl rfl ?_ ?_; rotate_left; · (intro w' hS; (try dsimp only at hS); go_simp; with_reducible rfl)); try simp only [Act.put, List.setIfInBounds_toArray, List.set_cons_zero, List.set_cons_succ]
                        (refine txt_light ?_ rfl rfl ?_ ?_; rotate_left; · (intro w' hS; (try dsimp only at hS); go_simp; with_reducible rfl)); try simp only [Act.put, List.setIfInBounds_toArray, List.set_cons_zero, List.set_cons_succ]
                        (refine txt_light ?_ rfl rfl ?_ ?_; rotate_left; · (intro w' hS; (try dsimp only at hS); go_simp; with_reducible rfl)); try simp only [Act.put, List.setIfInBounds_toArray, List.set_cons_zero, List.set_cons_succ]
                        refine txt_nil ?_
                        rcases hes with e0 | e0 | e0
                        · obtain ⟨s1, s2, s3, s4⟩ := HS.out.1 e0
                          rw [(show extL (92 :: T) = true from by rw [ext_eq, HB2.out, HG2.out, decide_eq_true (show T.length + 1 < 4 by omega), decide_eq_false (show ¬ (T.length + 1 = 2) by omega), decide_eq_true (hnp.1 hn)] <;> rfl)] at s4
                          cases s4
                        · obtain ⟨s1, s2, s3⟩ := HS.out.2.2 e0
                          rw [(show extL (92 :: T) = true from by rw [ext_eq, HB2.out, HG2.out, decide_eq_true (show T.length + 1 < 4 by omega), decide_eq_false (show ¬ (T.length + 1 = 2) by omega), decide_eq_true (hnp.1 hn)] <;> rfl)] at s3
                          cases s3
                        · have hu := HU.out
                          rw [if_neg (by omega), e0] at hu
                          cases hu
                          clear HS HPT HSZ HQ HU HOK
                          go_wp2
                          refine bodyPost_ret (v := .tuple #[.string ⟨#[]⟩, .int .i64 0, .int .i64 4]) (by simp [results, Try.results12, go_sem]) rfl ⟨rfl, hb1⟩
                      · have hni : ¬ (np : Int) < 16 := by omega
                        (refine txt_light ?_ rfl rfl ?_ ?_; rotate_left; · (intro w' hS; (try dsimp only at hS); go_simp; with_reducible rfl)); try simp only [Act.put, List.setIfInBounds_toArray, List.set_cons_zero, List.set_cons_succ]
                        (refine txt_light ?_ rfl rfl ?_ ?_; rotate_left; · (intro w' hS; (try dsimp only at hS); go_simp; with_reducible rfl)); try simp only [Act.put, List.setIfInBounds_toArray, List.set_cons_zero, List.set_cons_succ]
                        (refine txt_light ?_ rfl rfl ?_ ?_; rotate_left; · (intro w' hS; (try dsimp only at hS); go_simp; with_reducible rfl)); try simp only [Act.put, List.setIfInBounds_toArray, List.set_cons_zero, List.set_cons_succ]
                        refine txt_nil ?_
                        rcases hes with e0 | e0 | e0
                        · obtain ⟨s1, s2, s3, s4⟩ := HS.out.1 e0
                          rw [s3] at HPT
                          have hu := HU.out
                          rw [if_pos e0] at hu
                          have hu2 := Lib.hid hu
                          have hok := HOK.out e0
                          have hq3 : Hid (q2.data.toList = q.data.toList ++ [X1.toUInt8]) := Lib.hid (by rw [HQ.out, s1])
                          rw [s2] at HSZ
                          have hq3l : q2.size = q.size + 1 := by
                            have := congrArg List.length hq3.out
                            rw [List.length_append, Array.length_toList, Array.length_toList] at this
                            exact this
                          have hHPT := HPT.out
                          have hHSZ := HSZ.out
                          subst hHPT
                          subst hHSZ
                          clear HS HPT HSZ hu HQ HU s1 s2 s3 s4
                          have hz : ((((X2 + 1 : Nat)) : Int) == 0) = false := by rw [beq_eq_false_iff_ne]; omega
                          obtain ⟨N, hN⟩ : ∃ N, X2 + 1 = N := ⟨_, rfl⟩
                          rw [hN] at hz ⊢
                          go_wp2
                          go_roundw
                          case rel => exact ⟨p + N, f, q2, rfl, val_int (by omega), by omega, by omega, by omega, by omega, hb1, Lib.hid (by rw [hu2.out, hq3.out]; congr 1; omega)⟩
                          case measure => simp [intOf]; omega
                        · obtain ⟨s1, s2, s3⟩ := HS.out.2.2 e0
                          have hu := HU.out
                          rw [if_neg (by omega), e0] at hu
                          cases hu
                          rw [s1] at HSZ
                          rw [s2] at HPT
                          have hHPT := HPT.out
                          have hHSZ := HSZ.out
                          subst hHPT
                          subst hHSZ
                          clear HS HPT HSZ HQ HU HOK s1 s2 s3
                          go_wp2
                          refine bodyPost_ret (v := .tuple #[.string ⟨#[]⟩, .int .i64 0, .int .i64 3]) (by simp [results, Try.results12, go_sem]) rfl ⟨rfl, hb1⟩
                        · have s1 := HS.out.2.1 e0
                          rw [(show extL (92 :: T) = false from by rw [ext_eq, HB2.out, HG2.out, decide_eq_true (show T.length + 1 < 4 by omega), decide_eq_false (show ¬ (T.length + 1 = 2) by omega), decide_eq_false (mt hnp.2 hn)] <;> rfl), Bool.or_false] at s1
                          have hu := HU.out
                          rw [if_neg (by omega), e0] at hu
                          cases hu
                          rw [s1] at HPT
                          have hHPT := HPT.out
                          subst hHPT
                          clear HS HPT HSZ HQ HU HOK s1
                          go_wp2
                          refine bodyPost_ret (v := .tuple #[.string ⟨#[]⟩, .int .i64 0, .int .i64 4]) (by simp [results, Try.results12, go_sem]) rfl ⟨rfl, hb1⟩
                · go_wp2
                  have h4i : ¬ (s.size : Int) - (p : Int) < 4 := by omega
                  refine wp_region_lit_txt [0, 1, 2, 3, 4, 5, 6, 7, 8, 12, 13, 14, 15, 16, 17, 18, 19, 20, 21, 22, 23, 25, 26, 27] (fun _ => True) (by kernel_rfl) (by kernel_rfl) (by kernel_rfl) trivial ?_
                  have hb0 := hbI.drew
                  generalize wr.drew = w0 at *
                  (refine txt_light ?_ rfl rfl ?_ ?_; rotate_left; · (intro w' hS; (try dsimp only at hS); go_simp; with_reducible rfl)); try simp only [Act.put, List.setIfInBounds_toArray, List.set_cons_zero, List.set_cons_succ]
                  (refine txt_light ?_ rfl rfl ?_ ?_; rotate_left; · (intro w' hS; (try dsimp only at hS); go_simp; with_reducible rfl)); try simp only [Act.put, List.setIfInBounds_toArray, List.set_cons_zero, List.set_cons_succ]
                  (refine txt_light ?_ rfl rfl ?_ ?_; rotate_left; · (intro w' hS; (try dsimp only at hS); go_simp; with_reducible rfl)); try simp only [Act.put, List.setIfInBounds_toArray, List.set_cons_zero, List.set_cons_succ]
                  (refine txt_light ?_ rfl rfl ?_ ?_; rotate_left; · (intro w' hS; (try dsimp only at hS); go_simp; with_reducible rfl)); try simp only [Act.put, List.setIfInBounds_toArray, List.set_cons_zero, List.set_cons_succ]
                  (refine txt_light ?_ rfl rfl ?_ ?_; rotate_left; · (intro w' hS; (try dsimp only at hS); go_simp; with_reducible rfl)); try simp only [Act.put, List.setIfInBounds_toArray, List.set_cons_zero, List.set_cons_succ]
                  (refine txt_light ?_ rfl rfl ?_ ?_; rotate_left; · (intro w' hS; (try dsimp only at hS); go_simp; with_reducible rfl)); try simp only [Act.put, List.setIfInBounds_toArray, List.set_cons_zero, List.set_cons_succ]
                  refine txt_skip rfl ?_; try simp only [Act.put, List.setIfInBounds_toArray, List.set_cons_zero, List.set_cons_succ]
                  refine txt_skip rfl ?_; try simp only [Act.put, List.setIfInBounds_toArray, List.set_cons_zero, List.set_cons_succ]
                  refine txt_skip rfl ?_; try simp only [Act.put, List.setIfInBounds_toArray, List.set_cons_zero, List.set_cons_succ]
                  refine txt_skip rfl ?_; try simp only [Act.put, List.setIfInBounds_toArray, List.set_cons_zero, List.set_cons_succ]
                  refine txt_skip rfl ?_; try simp only [Act.put, List.setIfInBounds_toArray, List.set_cons_zero, List.set_cons_succ]
                  refine txt_skip rfl ?_; try simp only [Act.put, List.setIfInBounds_toArray, List.set_cons_zero, List.set_cons_succ]
                  (refine txt_light ?_ rfl rfl ?_ ?_; rotate_left; · (intro w' hS; (try dsimp only at hS); go_simp; with_reducible rfl)); try simp only [Act.put, List.setIfInBounds_toArray, List.set_cons_zero, List.set_cons_succ]
                  (refine txt_light ?_ rfl rfl ?_ ?_; rotate_left; · (intro w' hS; (try dsimp only at hS); go_simp; with_reducible rfl)); try simp only [Act.put, List.setIfInBounds_toArray, List.set_cons_zero, List.set_cons_succ]
                  refine txt_skip rfl ?_; try simp only [Act.put, List.setIfInBounds_toArray, List.set_cons_zero, List.set_cons_succ]
                  refine txt_skip rfl ?_; try simp only [Act.put, List.setIfInBounds_toArray, List.set_cons_zero, List.set_cons_succ]
                  refine txt_skip rfl ?_; try simp only [Act.put, List.setIfInBounds_toArray, List.set_cons_zero, List.set_cons_succ]
                  refine txt_skip rfl ?_; try simp only [Act.put, List.setIfInBounds_toArray, List.set_cons_zero, List.set_cons_succ]
                  refine txt_skip rfl ?_; try simp only [Act.put, List.setIfInBounds_toArray, List.set_cons_zero, List.set_cons_succ]
                  refine txt_skip rfl ?_; try simp only [Act.put, List.setIfInBounds_toArray, List.set_cons_zero, List.set_cons_succ]
                  refine txt_skip rfl ?_; try simp only [Act.put, List.setIfInBounds_toArray, List.set_cons_zero, List.set_cons_succ]
                  refine txt_skip rfl ?_; try simp only [Act.put, List.setIfInBounds_toArray, List.set_cons_zero, List.set_cons_succ]
                  refine txt_skip rfl ?_; try simp only [Act.put, List.setIfInBounds_toArray, List.set_cons_zero, List.set_cons_succ]
                  refine txt_skip rfl ?_; try simp only [Act.put, List.setIfInBounds_toArray, List.set_cons_zero, List.set_cons_succ]
                  refine txt_skip rfl ?_; try simp only [Act.put, List.setIfInBounds_toArray, List.set_cons_zero, List.set_cons_succ]
                  refine txt_skip rfl ?_; try simp only [Act.put, List.setIfInBounds_toArray, List.set_cons_zero, List.set_cons_succ]
                  refine txt_skip rfl ?_; try simp only [Act.put, List.setIfInBounds_toArray, List.set_cons_zero, List.set_cons_succ]
                  (refine txt_light ?_ rfl rfl ?_ ?_; rotate_left; · (intro w' hS; (try dsimp only at hS); go_simp; with_reducible rfl)); try simp only [Act.put, List.setIfInBounds_toArray, List.set_cons_zero, List.set_cons_succ]
                  refine txt_nil ?_
                  rcases hes with e0 | e0 | e0
                  · obtain ⟨s1, s2, s3, s4⟩ := HS.out.1 e0
                    rw [s3] at HPT
                    have hu := HU.out
                    rw [if_pos e0] at hu
                    have hu2 := Lib.hid hu
                    have hok := HOK.out e0
                    have hq3 : Hid (q2.data.toList = q.data.toList ++ [X1.toUInt8]) := Lib.hid (by rw [HQ.out, s1])
                    rw [s2] at HSZ
                    have hq3l : q2.size = q.size + 1 := by
                      have := congrArg List.length hq3.out
                      rw [List.length_append, Array.length_toList, Array.length_toList] at this
                      exact this
                    have hHPT := HPT.out
                    have hHSZ := HSZ.out
                    subst hHPT
                    subst hHSZ
                    clear HS HPT HSZ hu HQ HU s1 s2 s3 s4
                    have hz : ((((X2 + 1 : Nat)) : Int) == 0) = false := by rw [beq_eq_false_iff_ne]; omega
                    obtain ⟨N, hN⟩ : ∃ N, X2 + 1 = N := ⟨_, rfl⟩
                    rw [hN] at hz ⊢
                    go_wp2
                    go_roundw
                    case rel => exact ⟨p + N, f, q2, rfl, val_int (by omega), by omega, by omega, by omega, by omega, hb0, Lib.hid (by rw [hu2.out, hq3.out]; congr 1; omega)⟩
                    case measure => simp [intOf]; omega
                  · obtain ⟨s1, s2, s3⟩ := HS.out.2.2 e0
                    have hu := HU.out
                    rw [if_neg (by omega), e0] at hu
                    cases hu
                    rw [s1] at HSZ
                    rw [s2] at HPT
                    have hHPT := HPT.out
                    have hHSZ := HSZ.out
                    subst hHPT
                    subst hHSZ
                    clear HS HPT HSZ HQ HU HOK s1 s2 s3
                    go_wp2
                    refine bodyPost_ret (v := .tuple #[.string ⟨#[]⟩, .int .i64 0, .int .i64 3]) (by simp [results, Try.results12, go_sem]) rfl ⟨rfl, hb0⟩
                  · have s1 := HS.out.2.1 e0
                    rw [(show extL (92 :: T) = false from by rw [ext_eq, decide_eq_false (show ¬ (T.length + 1 < 4) by omega), Bool.false_and]), Bool.or_false] at s1
                    have hu := HU.out
                    rw [if_neg (by omega), e0] at hu
                    cases hu
                    rw [s1] at HPT
                    have hHPT := HPT.out
                    subst hHPT
                    clear HS HPT HSZ HQ HU HOK s1
                    go_wp2
                    refine bodyPost_ret (v := .tuple #[.string ⟨#[]⟩, .int .i64 0, .int .i64 4]) (by simp [results, Try.results12, go_sem]) rfl ⟨rfl, hb0⟩
          · have n2 : ((R : Int) != 92) = true := bne_iff_ne.2 (by omega)
            by_cases c3 : R < 32 ∨ R = 127
            · have hu := HU.out
              rw [F4.out c1 c2 c3] at hu
              cases hu
              clear HFI HU F2 F3 F4 F5 HLO
              by_cases c4 : R < 32
              · have l1 : (R : Int) < 32 := by omega
                go_wp2
                refine bodyPost_ret (v := .tuple #[.string ⟨#[]⟩, .int .i64 0, .int .i64 3]) (by simp [results, Try.results12, go_sem]) rfl ⟨rfl, hbl⟩
              · have l1 : ¬ (R : Int) < 32 := by omega
                have l2 : ((R : Int) == 127) = true := by rw [beq_iff_eq]; omega
                go_wp2
                refine bodyPost_ret (v := .tuple #[.string ⟨#[]⟩, .int .i64 0, .int .i64 3]) (by simp [results, Try.results12, go_sem]) rfl ⟨rfl, hbl⟩
            · have l1 : ¬ (R : Int) < 32 := by omega
              have l2 : ((R : Int) == 127) = false := by rw [beq_eq_false_iff_ne]; omega
              have hu := HU.out
              rw [F5.out c1 c2 c3] at hu
              have HU2 := Lib.hid hu
              have hes : (s.extract p (p + W)).size = W := by rw [ByteArray.size_extract]; omega
              have hbt : Hid ((s.extract p (p + W)).data.toList = bts s p W) := Lib.hid rfl
              have hwi : (p : Int) + (W : Int) ≤ (s.size : Int) := by omega
              have hwi2 : (p : Int) ≤ (p : Int) + (W : Int) := by omega
              have hpt : ((p : Int) + (W : Int)).toNat = p + W := by omega
              have hl4 : ¬ 9223372036854775807 < q.size + (s.extract p (p + W)).size := by omega
              have hqs : (q ++ s.extract p (p + W)).size = q.size + W := by rw [ByteArray.size_append, hes]
              have HQ2 : Hid ((q ++ s.extract p (p + W)).data.toList = q.data.toList ++ bts s p W) := Lib.hid (by rw [ByteArray.data_append, Array.toList_append, hbt.out])
              clear HFI HU F2 F3 F4 F5 HLO hu
              go_wp2
              go_roundw
              case rel => exact ⟨p + W, f, q ++ s.extract p (p + W), rfl, val_int (by omega), by omega, by omega, by omega, by omega, hbl, Lib.hid (by rw [HQ2.out]; exact HU2.out)⟩
              case measure => simp [intOf]; omega
      · have hpi : ¬ (p : Int) < (s.size : Int) := by omega
        have hu := HU.out
        rw [unqF_end s f p _ hp] at hu
        cases hu
        clear HU
        go_wp2
        refine bodyPost_ret (v := .tuple #[.string ⟨#[]⟩, .int .i64 0, .int .i64 4]) (by simp [results, Try.results12, go_sem]) rfl ⟨rfl, hbl⟩
  · rw [if_pos (by omega)] at hR
    cases hR
    have hb0 := byt_lt s 0
    have HB0 : Hid (¬ byt s 0 = 34) := Lib.hid c0
    generalize byt s 0 = c at *
    have n0 : ((c : Int) != 34) = true := bne_iff_ne.2 (by omega)
    clear c0
    go_wp2
    refine bodyPost_ret (v := .tuple #[.string ⟨#[]⟩, .int .i64 0, .int .i64 3]) (by simp [results, Try.results12, go_sem]) rfl ⟨rfl, Below.refl _ _⟩
end Go.Proofs.Ytbjiamakchklpaa
