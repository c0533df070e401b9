/-
  graticuleref09.Words.
-/
import Derived.Test.YtbjiamakchklpaaTrunq
import Derived.Test.YtbjiamakchklpaaTrunes
import Derived.Test.YtbjiamakchklpaaTwords
set_option linter.unusedVariables false
set_option linter.unusedSimpArgs false
set_option maxRecDepth 100000
namespace Go
open Go.RowKit
theorem has34_succ (t : ByteArray) (n : Nat) : has34 t (n + 1) = (has34 t n || decide (byt t n = 34)) := by
  unfold has34
  rw [Bool.eq_iff_iff]
  simp only [Bool.or_eq_true, decide_eq_true_eq]
  constructor
  · rintro ⟨k, hk, hb⟩
    by_cases h : k = n
    · subst h; exact .inr hb
    · exact .inl ⟨k, by omega, hb⟩
  · rintro (⟨k, hk, hb⟩ | hb)
    · exact ⟨k, by omega, hb⟩
    · exact ⟨n, by omega, hb⟩
theorem has34_zero (t : ByteArray) : has34 t 0 = false := by
  unfold has34
  rw [decide_eq_false_iff_not]
  rintro ⟨k, hk, _⟩
  omega
theorem sub_ext (s : ByteArray) (p n : Nat) (h : p + n ≤ s.size) : (s.extract p s.size).extract 0 n = s.extract p (p + n) := by
  apply ByteArray.ext
  rw [ByteArray.data_extract, ByteArray.data_extract, ByteArray.data_extract]
  apply Array.ext'
  rw [Array.toList_extract, Array.toList_extract, Array.toList_extract, List.extract_eq_drop_take', List.extract_eq_drop_take', List.extract_eq_drop_take']
  have hl : s.data.toList.length = s.size := Array.length_toList
  rw [List.take_of_length_le (Nat.le_of_eq hl), List.drop_zero, List.take_drop]
end Go
namespace Go.Proofs.Ytbjiamakchklpaa
open Go.RowKit
theorem Try.infoRW : (Try.prog.info? 42).map (fun i => (i.zero, i.size, i.bytes)) = some (some (.agg #[.string ⟨#[]⟩, .bool false]), 2, 24) := by kernel_rfl

set_option maxHeartbeats 12800000 in
theorem rwords_any (s : ByteArray) (hs : s.size ≤ 100000) (w : World) :
    Calls Try.prog 15 #[.string s] w fun e w' => ∃ v, e = .returned (.tuple #[v, .int .i64 (wordsT s).2.1, .int .i64 (wordsT s).2.2]) ∧ w'.ownsRow w.heap.size 42 2 v (wordsT s).1.length (wcells (wordsT s).1) ∧ Below w.heap.size w w' := by
  have hF := Lib.hid (wordsT.eq_1 s)
  obtain ⟨R, hR⟩ : ∃ R, wordsT s = R := ⟨_, rfl⟩
  rw [hR] at hF ⊢
  clear hR
  obtain ⟨R1, R2, R3⟩ := R
  dsimp only
  go_enter Try.func15, Try.ntmps15
  by_cases h0 : s.size = 0
  · have hR := hF.out
    rw [if_pos h0] at hR
    cases hR
    clear hF
    go_wp2
    go_loopw [5] (fun o wr => o = .slice none 0 0 ∧ wr = w) (fun _ _ => 0)
    case atStart => exact ⟨rfl, rfl⟩
    case round =>
      obtain ⟨rfl, rfl⟩ := hrel
      have hz : ¬ (0 : Int) < (s.size : Int) := by omega
      go_wp2
      refine bodyPost_ret (v := .tuple #[.slice none 0 0, .int .i64 0, .int .i64 0]) (by simp [results, Try.results15, go_sem]) rfl ⟨_, rfl, World.ownsRow_nil _ _ _ _, Below.refl _ _⟩
  have hR := hF.out
  rw [if_neg h0] at hR
  have HU := Lib.hid hR
  clear hF hR
  have hpos : (0 : Int) < (s.size : Int) := by omega
  have hposN : 0 < s.size := by omega
  go_wp2
  go_loopw [5, 6] (fun o a wr => ∃ (p f : Nat) (out : List (List UInt8 × Bool)), a = .int .i64 (p : Int) ∧ p ≤ s.size ∧ s.size < p + f ∧ wr.ownsRow w.heap.size 42 2 o out.length (wcells out) ∧ Below w.heap.size w wr ∧ out.length ≤ p ∧ Hid ((R1, R2, R3) = wordsF s f p out)) (fun _ a _ => s.size + 1 - (intOf a).toNat)
  case atStart => exact ⟨0, s.size + 1, [], rfl, by omega, by omega, World.ownsRow_nil _ _ _ _, Below.refl _ _, by simp, HU⟩
  case round =>
    clear HU
    obtain ⟨p, f, out, rfl, hps, hpf, ho, hbl, hol, HU⟩ := hrel
    obtain ⟨f, rfl⟩ : ∃ g, f = g + 1 := ⟨f - 1, by omega⟩
    have hpi : (p : Int) ≤ (s.size : Int) := by omega
    have hEs : (s.extract p s.size).size = s.size - p := ext_size s p
    have hend := endF_spec (s.extract p s.size)
    have hEB : Hid (∀ k, byt (s.extract p s.size) k = byt s (p + k)) := Lib.hid (fun k => ext_byt s p k)
    have hSUB : Hid (∀ n, p + n ≤ s.size → (s.extract p s.size).extract 0 n = s.extract p (p + n)) := Lib.hid (fun n h => sub_ext s p n h)
    have HWD := Lib.hid (wordF.eq_1 (s.extract p s.size))
    have hu := HU.out
    unfold wordsF at hu
    generalize wordF (s.extract p s.size) = X at *
    have hruq := runq_any (s.extract p s.size) (by omega)
    have hule := unquoteF_le (s.extract p s.size)
    obtain ⟨T, hT⟩ : ∃ T, s.extract p s.size = T := ⟨_, rfl⟩
    rw [hT] at hEs hend hEB hSUB HWD hruq hule
    obtain ⟨X1, X2, X3, X4⟩ := X
    dsimp only at hu
    clear HU
    have HU := Lib.hid hu
    have HUQ := Lib.hid hruq
    have HLE := Lib.hid hule
    clear hu hruq hule
    obtain ⟨EN, hEN⟩ : ∃ EN, endF T = EN := ⟨_, rfl⟩
    rw [hEN] at hend HWD
    clear hEN
    have hen := hend.1
    have HE1 := Lib.hid hend.2.1
    have HE2 := Lib.hid hend.2.2
    clear hend
    go_wp2
    go_loopw [7] (fun e w2 => ∃ k : Nat, e = .int .i64 ((p + k : Nat) : Int) ∧ w2 = wr ∧ k ≤ EN) (fun e _ => s.size - (intOf e).toNat)
    case atStart => exact ⟨0, val_int (by omega), rfl, by omega⟩
    case round =>
      obtain ⟨k, rfl, rfl, hk⟩ := hrel
      by_cases hkE : k < EN
      · have hpk : p + k < s.size := by omega
        have hg := byt_get hpk
        have hpki : ((p + k : Nat) : Int) < (s.size : Int) := by omega
        have hne : byt s (p + k) ≠ 32 := by rw [← hEB.out]; exact HE1.out k hkE
        have hbl2 := byt_lt s (p + k)
        generalize byt s (p + k) = c at *
        have e1 : ((c : Int) != 32) = true := bne_iff_ne.2 (by omega)
        go_wp2
        go_roundw
        case rel => exact ⟨k + 1, val_int (by omega), trivial, by omega⟩
        case measure => simp [intOf]; omega
      · have hke : k = EN := by omega
        rw [hke]
        clear hkE hk hke k
        have hcast : ((p + EN : Nat) : Int) = (p : Int) + (EN : Int) := by omega
        rw [hcast]
        by_cases hpE : p + EN < s.size
        · have hgE := byt_get hpE
          have h32 : byt s (p + EN) = 32 := by rw [← hEB.out]; exact HE2.out (by omega)
          rw [h32] at hgE
          have hpEi : (p : Int) + (EN : Int) < (s.size : Int) := by omega
          have hpE0 : (0 : Int) ≤ (p : Int) + (EN : Int) := by omega
          have hpEn : ((p : Int) + (EN : Int)).toNat = p + EN := by omega
          clear h32
          by_cases hq : p < s.size ∧ byt s p = 34
          · have hWq : 0 < T.size ∧ byt T 0 = 34 := ⟨by omega, by rw [hEB.out]; exact hq.2⟩
            have hw := HWD.out
            rw [if_pos hWq] at hw
            have hpb : p < s.size := hq.1
            have hg : (s[p]'hpb).toNat = 34 := by rw [byt_get hpb]; exact hq.2
            have hpi3 : (p : Int) < (s.size : Int) := by omega
            generalize unquoteF T = U at *
            obtain ⟨U1, U2, U3⟩ := U
            dsimp only at hw HUQ HLE
            have HWD2 := Lib.hid hw
            clear HWD hw hWq hq HE1 HE2 hSUB
            go_wp2_with fail
            refine (HUQ.out _).mono ?_
            rintro e w3 ⟨rfl, hb3⟩
            have ho3 := ho.below hb3
            have hbl3 := hbl.trans (hb3.mono hbl.size)
            clear HUQ ho hbl
            by_cases u3 : U3 = 0
            · subst u3
              have hle := HLE.out rfl
              have hw := HWD2.out
              rw [if_neg (show ¬ ((0 : Nat) ≠ 0) by decide)] at hw
              have hwr3 : IntKind.i64.wrap ((p : Int) + (U2 : Int)) = (p : Int) + (U2 : Int) := IntWalk.i64_in _ (by omega)
              by_cases u2 : p + U2 < s.size
              · have hgU := byt_get u2
                have u2i : (p : Int) + (U2 : Int) < (s.size : Int) := by omega
                have u20 : (0 : Int) ≤ (p : Int) + (U2 : Int) := by omega
                have u2n : ((p : Int) + (U2 : Int)).toNat = p + U2 := by omega
                have hTb : byt T U2 = byt s (p + U2) := hEB.out U2
                by_cases u4 : byt s (p + U2) = 32
                · rw [if_neg (show ¬ (U2 < T.size ∧ byt T U2 ≠ 32) from fun h => h.2 (by rw [hTb]; exact u4))] at hw
                  cases hw
                  rw [u4] at hgU
                  have hu := HU.out
                  rw [if_neg (show ¬ ((0 : Nat) ≠ 0) by decide)] at hu
                  clear HU
                  have HU := Lib.hid hu
                  clear hu HWD2 HLE hTb
                  go_wp2_with (at_builtin; go_must (refine wpList_appLitAt w hbl3 rfl (.tmp 73) (.tmp 76) 38 rfl 42 (.agg #[.string ⟨#[]⟩, .bool false]) 2 24 Try.underlying38 Try.infoRW rfl (by decide) (by decide) u5 out.length (wcells out) rfl ho3 1 1 w3.heap.size rfl [.string ⟨X1.toArray⟩, .bool true] _ rfl rfl (by simp [Value.oneCell']) (by omega) ?_))
                  intro v2 w5 ho3 hg2 hb5 hl2
                  have hsn : Hid (wcells (out ++ [(X1, true)]) = wcells out ++ [.string ⟨X1.toArray⟩, .bool true]) := Lib.hid (wcells_snoc out (X1, true))
                  have hln : (out ++ [(X1, true)]).length = out.length + 1 := by simp
                  by_cases hend : p + X3 < s.size
                  · have hu := HU.out
                    rw [if_pos (show p + X3 < s.size from hend)] at hu
                    have HU2 := Lib.hid hu
                    have he1 : ((p : Int) + (X3 : Int) == (s.size : Int)) = false := by rw [beq_eq_false_iff_ne]; omega
                    clear HU hu
                    generalize out ++ [(X1, true)] = out2 at *
                    go_wp2
                    go_roundw
                    case rel => exact ⟨p + X3 + 1, f, out2, val_int (by omega), by omega, by omega, (by rw [hln, hsn.out]; exact ho3), hb5, by omega, HU2⟩
                    case measure => simp [intOf]; omega
                  · have hu := HU.out
                    rw [if_neg (show ¬ p + X3 < s.size from hend)] at hu
                    cases hu
                    have he1 : ((p : Int) + (X3 : Int) == (s.size : Int)) = true := by rw [beq_iff_eq]; omega
                    clear HU
                    go_wp2
                    refine bodyPost_ret (v := .tuple #[v2, .int .i64 0, .int .i64 0]) (by simp [results, Try.results15, go_sem]) rfl ⟨_, rfl, (by rw [hln, hsn.out]; exact ho3), hb5⟩
                · rw [if_pos (show U2 < T.size ∧ byt T U2 ≠ 32 from ⟨by omega, by rw [hTb]; exact u4⟩)] at hw
                  cases hw
                  have hu := HU.out
                  rw [if_pos (show ((3 : Nat) ≠ 0) by decide)] at hu
                  have hblc := byt_lt s (p + U2)
                  generalize byt s (p + U2) = c at *
                  cases hu
                  have u5' : ((c : Int) != 32) = true := bne_iff_ne.2 (by omega)
                  clear HU HWD2 HLE hTb
                  go_wp2
                  refine bodyPost_ret (v := .tuple #[.slice none 0 0, .int .i64 (R2 : Int), .int .i64 3]) (by simp [results, Try.results15, go_sem]) rfl ⟨_, rfl, World.ownsRow_nil _ _ _ _, hbl3⟩
              · have u2i : ¬ (p : Int) + (U2 : Int) < (s.size : Int) := by omega
                rw [if_neg (show ¬ (U2 < T.size ∧ byt T U2 ≠ 32) from fun h => by omega)] at hw
                cases hw
                have hu := HU.out
                rw [if_neg (show ¬ ((0 : Nat) ≠ 0) by decide)] at hu
                clear HU
                have HU := Lib.hid hu
                clear hu HWD2 HLE
                go_wp2_with (at_builtin; go_must (refine wpList_appLitAt w hbl3 rfl (.tmp 73) (.tmp 76) 38 rfl 42 (.agg #[.string ⟨#[]⟩, .bool false]) 2 24 Try.underlying38 Try.infoRW rfl (by decide) (by decide) u5 out.length (wcells out) rfl ho3 1 1 w3.heap.size rfl [.string ⟨X1.toArray⟩, .bool true] _ rfl rfl (by simp [Value.oneCell']) (by omega) ?_))
                intro v2 w5 ho3 hg2 hb5 hl2
                have hsn : Hid (wcells (out ++ [(X1, true)]) = wcells out ++ [.string ⟨X1.toArray⟩, .bool true]) := Lib.hid (wcells_snoc out (X1, true))
                have hln : (out ++ [(X1, true)]).length = out.length + 1 := by simp
                by_cases hend : p + X3 < s.size
                · have hu := HU.out
                  rw [if_pos (show p + X3 < s.size from hend)] at hu
                  have HU2 := Lib.hid hu
                  have he1 : ((p : Int) + (X3 : Int) == (s.size : Int)) = false := by rw [beq_eq_false_iff_ne]; omega
                  clear HU hu
                  generalize out ++ [(X1, true)] = out2 at *
                  go_wp2
                  go_roundw
                  case rel => exact ⟨p + X3 + 1, f, out2, val_int (by omega), by omega, by omega, (by rw [hln, hsn.out]; exact ho3), hb5, by omega, HU2⟩
                  case measure => simp [intOf]; omega
                · have hu := HU.out
                  rw [if_neg (show ¬ p + X3 < s.size from hend)] at hu
                  cases hu
                  have he1 : ((p : Int) + (X3 : Int) == (s.size : Int)) = true := by rw [beq_iff_eq]; omega
                  clear HU
                  go_wp2
                  refine bodyPost_ret (v := .tuple #[v2, .int .i64 0, .int .i64 0]) (by simp [results, Try.results15, go_sem]) rfl ⟨_, rfl, (by rw [hln, hsn.out]; exact ho3), hb5⟩
            · have hw := HWD2.out
              rw [if_pos (show U3 ≠ 0 from u3)] at hw
              cases hw
              have hu := HU.out
              rw [if_pos (show X4 ≠ 0 from u3)] at hu
              cases hu
              have u4 : ((R3 : Int) == 0) = false := by rw [beq_eq_false_iff_ne]; omega
              have u5' : ((R3 : Int) != 0) = true := bne_iff_ne.2 (by omega)
              clear HU HWD2 HLE
              go_wp2
              refine bodyPost_ret (v := .tuple #[.slice none 0 0, .int .i64 (R2 : Int), .int .i64 (R3 : Int)]) (by simp [results, Try.results15, go_sem]) rfl ⟨_, rfl, World.ownsRow_nil _ _ _ _, hbl3⟩
          · clear HUQ HLE
            have hWq : ¬ (0 < T.size ∧ byt T 0 = 34) := fun h => hq ⟨by omega, by have := h.2; rw [hEB.out] at this; exact this⟩
            have hw := HWD.out
            rw [if_neg hWq] at hw
            have hSX := pre_size T EN hen
            have hSE := hSUB.out EN (by omega)
            have h34 : has34 T EN = has34 (T.extract 0 EN) EN := by
              unfold has34
              rw [decide_eq_decide]
              constructor
              · rintro ⟨j, hj, hb⟩; exact ⟨j, hj, by rw [pre_byt T EN j hen hj]; exact hb⟩
              · rintro ⟨j, hj, hb⟩; exact ⟨j, hj, by rw [pre_byt T EN j hen hj] at hb; exact hb⟩
            rw [h34] at hw
            have hRU := rrunes_any (T.extract 0 EN) (by omega)
            rw [hSE] at hw hSX hRU
            obtain ⟨S, hS⟩ : ∃ S, s.extract p (p + EN) = S := ⟨_, rfl⟩
            rw [hS] at hw hSX hRU
            have HWD2 := Lib.hid hw
            have HRU := Lib.hid hRU
            clear HWD hw hWq h34 hSE hRU HE1 HE2 hSUB
            have hpe : (p : Int) + (EN : Int) ≤ (s.size : Int) := by omega
            have hpe2 : (p : Int) ≤ (p : Int) + (EN : Int) := by omega
            have hpen : ((p : Int) + (EN : Int)).toNat = p + EN := by omega
            by_cases hps2 : p < s.size
            · have hg := byt_get hps2
              have hblp := byt_lt s p
              have hc34 : byt s p ≠ 34 := fun h => hq ⟨hps2, h⟩
              have hpi3 : (p : Int) < (s.size : Int) := by omega
              clear hq
              generalize byt s p = c0 at *
              have e34 : ((c0 : Int) == 34) = false := by rw [beq_eq_false_iff_ne]; omega
              go_wp2
              go_loopw [12, 13] (fun e i w2 => ∃ j : Nat, e = .int .i64 (if has34 S j then 3 else 0) ∧ i = .int .i64 (j : Int) ∧ w2 = wr ∧ j ≤ EN) (fun _ i _ => EN - (intOf i).toNat)
              case atStart => exact ⟨0, by rw [has34_zero]; rfl, rfl, rfl, by omega⟩
              case round =>
                obtain ⟨j, rfl, rfl, rfl, hj⟩ := hrel
                by_cases hjE : j < EN
                · have hjs : j < S.size := by omega
                  have hgj := byt_get hjs
                  have hjsi : (j : Int) < (S.size : Int) := by omega
                  have hsc := has34_succ S j
                  have hbj := byt_lt S j
                  generalize byt S j = cj at *
                  by_cases h9 : cj = 34
                  · subst h9
                    have hs1 : has34 S (j + 1) = true := by rw [hsc]; simp
                    go_wp2
                    go_roundw
                    case rel => exact ⟨j + 1, by rw [hs1]; rfl, val_int (by omega), trivial, by omega⟩
                    case measure => simp [intOf]; omega
                  · have hs1 : has34 S (j + 1) = has34 S j := by rw [hsc]; simp [h9]
                    have e9 : ((cj : Int) == 34) = false := by rw [beq_eq_false_iff_ne]; omega
                    go_wp2
                    go_roundw
                    case rel => exact ⟨j + 1, by rw [hs1], val_int (by omega), trivial, by omega⟩
                    case measure => simp [intOf]; omega
                · have hje : j = EN := by omega
                  have hjsi : ¬ (j : Int) < (S.size : Int) := by omega
                  rw [hje] at hjsi ⊢
                  obtain ⟨H, hH⟩ : ∃ H, has34 S EN = H := ⟨_, rfl⟩
                  obtain ⟨RR, hRR⟩ : ∃ RR, rightF S = RR := ⟨_, rfl⟩
                  rw [hH] at HWD2 ⊢
                  rw [hRR] at HWD2 HRU
                  have hw := HWD2.out
                  by_cases hE0 : EN = 0
                  · rw [if_pos (show EN = 0 ∨ H = true from .inl hE0)] at hw
                    cases hw
                    have hte : S.toList.isEmpty = true := by rw [empty_dec, hSX]; simp [hE0]
                    have hu := HU.out
                    rw [if_pos (show ((3 : Nat) ≠ 0) by decide)] at hu
                    cases hu
                    clear HU HWD2
                    cases H <;> cases RR <;> (
                      first | rw [if_pos (show true = true from rfl)] | rw [if_neg (show ¬ (false = true) by decide)]
                      go_wp2_with fail
                      refine (HRU.out _).mono ?_
                      rintro e w3 ⟨vo, va, rfl, -, -, hb3⟩
                      have hbl3 := hbl.trans (hb3.mono hbl.size)
                      clear HRU
                      go_wp2
                      refine bodyPost_ret (v := .tuple #[.slice none 0 0, .int .i64 (R2 : Int), .int .i64 3]) (by simp [results, Try.results15, go_sem]) rfl ⟨_, rfl, World.ownsRow_nil _ _ _ _, hbl3⟩)
                  · have hte : S.toList.isEmpty = false := by rw [empty_dec, hSX]; simp [hE0]
                    cases H with
                    | true =>
                      rw [if_pos (show EN = 0 ∨ true = true from .inr rfl)] at hw
                      cases hw
                      have hu := HU.out
                      rw [if_pos (show ((3 : Nat) ≠ 0) by decide)] at hu
                      cases hu
                      clear HU HWD2
                      rw [if_pos rfl]
                      go_wp2_with fail
                      refine (HRU.out _).mono ?_
                      rintro e w3 ⟨vo, va, rfl, -, -, hb3⟩
                      have hbl3 := hbl.trans (hb3.mono hbl.size)
                      clear HRU
                      go_wp2
                      refine bodyPost_ret (v := .tuple #[.slice none 0 0, .int .i64 (R2 : Int), .int .i64 3]) (by simp [results, Try.results15, go_sem]) rfl ⟨_, rfl, World.ownsRow_nil _ _ _ _, hbl3⟩
                    | false =>
                      rw [if_neg (show ¬ (EN = 0 ∨ false = true) by simp [hE0])] at hw
                      rw [if_neg (show ¬ (false = true) by decide)]
                      go_wp2_with fail
                      refine (HRU.out _).mono ?_
                      rintro e w3 ⟨vo, va, rfl, -, -, hb3⟩
                      have hbl3 := hbl.trans (hb3.mono hbl.size)
                      have ho3 := ho.below hb3
                      clear HRU
                      cases RR with
                      | false =>
                        rw [if_pos (show false = false from rfl)] at hw
                        cases hw
                        have hu := HU.out
                        rw [if_pos (show ((13 : Nat) ≠ 0) by decide)] at hu
                        cases hu
                        clear HU HWD2
                        go_wp2
                        refine bodyPost_ret (v := .tuple #[.slice none 0 0, .int .i64 (R2 : Int), .int .i64 13]) (by simp [results, Try.results15, go_sem]) rfl ⟨_, rfl, World.ownsRow_nil _ _ _ _, hbl3⟩
                      | true =>
                        rw [if_neg (show ¬ (true = false) by decide)] at hw
                        cases hw
                        have hu := HU.out
                        rw [if_neg (show ¬ ((0 : Nat) ≠ 0) by decide)] at hu
                        clear HU
                        have HU := Lib.hid hu
                        clear hu HWD2
                        go_wp2_with (at_builtin; go_must (refine wpList_appLitAt w hbl3 rfl (.tmp 113) (.tmp 116) 38 rfl 42 (.agg #[.string ⟨#[]⟩, .bool false]) 2 24 Try.underlying38 Try.infoRW rfl (by decide) (by decide) u5 out.length (wcells out) rfl ho3 1 1 w3.heap.size rfl [.string S, .bool false] _ rfl rfl (by simp [Value.oneCell']) (by omega) ?_))
                        intro v2 w5 ho3 hg2 hb5 hl2
                        have hsn : Hid (wcells (out ++ [(S.data.toList, false)]) = wcells out ++ [.string S, .bool false]) := Lib.hid (wcells_snoc out (S.data.toList, false))
                        have hln : (out ++ [(S.data.toList, false)]).length = out.length + 1 := by simp
                        by_cases hend : p + X3 < s.size
                        · have hu := HU.out
                          rw [if_pos (show p + X3 < s.size from hend)] at hu
                          have HU2 := Lib.hid hu
                          have he1 : ((p : Int) + (X3 : Int) == (s.size : Int)) = false := by rw [beq_eq_false_iff_ne]; omega
                          clear HU hu
                          generalize out ++ [(S.data.toList, false)] = out2 at *
                          go_wp2
                          go_roundw
                          case rel => exact ⟨p + X3 + 1, f, out2, val_int (by omega), by omega, by omega, (by rw [hln, hsn.out]; exact ho3), hb5, by omega, HU2⟩
                          case measure => simp [intOf]; omega
                        · have hu := HU.out
                          rw [if_neg (show ¬ p + X3 < s.size from hend)] at hu
                          cases hu
                          have he1 : ((p : Int) + (X3 : Int) == (s.size : Int)) = true := by rw [beq_iff_eq]; omega
                          clear HU
                          go_wp2
                          refine bodyPost_ret (v := .tuple #[v2, .int .i64 0, .int .i64 0]) (by simp [results, Try.results15, go_sem]) rfl ⟨_, rfl, (by rw [hln, hsn.out]; exact ho3), hb5⟩
            · have hpi3 : ¬ (p : Int) < (s.size : Int) := by omega
              clear hq
              go_wp2
              go_loopw [12, 13] (fun e i w2 => ∃ j : Nat, e = .int .i64 (if has34 S j then 3 else 0) ∧ i = .int .i64 (j : Int) ∧ w2 = wr ∧ j ≤ EN) (fun _ i _ => EN - (intOf i).toNat)
              case atStart => exact ⟨0, by rw [has34_zero]; rfl, rfl, rfl, by omega⟩
              case round =>
                obtain ⟨j, rfl, rfl, rfl, hj⟩ := hrel
                by_cases hjE : j < EN
                · have hjs : j < S.size := by omega
                  have hgj := byt_get hjs
                  have hjsi : (j : Int) < (S.size : Int) := by omega
                  have hsc := has34_succ S j
                  have hbj := byt_lt S j
                  generalize byt S j = cj at *
                  by_cases h9 : cj = 34
                  · subst h9
                    have hs1 : has34 S (j + 1) = true := by rw [hsc]; simp
                    go_wp2
                    go_roundw
                    case rel => exact ⟨j + 1, by rw [hs1]; rfl, val_int (by omega), trivial, by omega⟩
                    case measure => simp [intOf]; omega
                  · have hs1 : has34 S (j + 1) = has34 S j := by rw [hsc]; simp [h9]
                    have e9 : ((cj : Int) == 34) = false := by rw [beq_eq_false_iff_ne]; omega
                    go_wp2
                    go_roundw
                    case rel => exact ⟨j + 1, by rw [hs1], val_int (by omega), trivial, by omega⟩
                    case measure => simp [intOf]; omega
                · have hje : j = EN := by omega
                  have hjsi : ¬ (j : Int) < (S.size : Int) := by omega
                  rw [hje] at hjsi ⊢
                  obtain ⟨H, hH⟩ : ∃ H, has34 S EN = H := ⟨_, rfl⟩
                  obtain ⟨RR, hRR⟩ : ∃ RR, rightF S = RR := ⟨_, rfl⟩
                  rw [hH] at HWD2 ⊢
                  rw [hRR] at HWD2 HRU
                  have hw := HWD2.out
                  by_cases hE0 : EN = 0
                  · rw [if_pos (show EN = 0 ∨ H = true from .inl hE0)] at hw
                    cases hw
                    have hte : S.toList.isEmpty = true := by rw [empty_dec, hSX]; simp [hE0]
                    have hu := HU.out
                    rw [if_pos (show ((3 : Nat) ≠ 0) by decide)] at hu
                    cases hu
                    clear HU HWD2
                    cases H <;> cases RR <;> (
                      first | rw [if_pos (show true = true from rfl)] | rw [if_neg (show ¬ (false = true) by decide)]
                      go_wp2_with fail
                      refine (HRU.out _).mono ?_
                      rintro e w3 ⟨vo, va, rfl, -, -, hb3⟩
                      have hbl3 := hbl.trans (hb3.mono hbl.size)
                      clear HRU
                      go_wp2
                      refine bodyPost_ret (v := .tuple #[.slice none 0 0, .int .i64 (R2 : Int), .int .i64 3]) (by simp [results, Try.results15, go_sem]) rfl ⟨_, rfl, World.ownsRow_nil _ _ _ _, hbl3⟩)
                  · exfalso; omega
        · have hpEi : ¬ (p : Int) + (EN : Int) < (s.size : Int) := by omega
          by_cases hq : p < s.size ∧ byt s p = 34
          · have hWq : 0 < T.size ∧ byt T 0 = 34 := ⟨by omega, by rw [hEB.out]; exact hq.2⟩
            have hw := HWD.out
            rw [if_pos hWq] at hw
            have hpb : p < s.size := hq.1
            have hg : (s[p]'hpb).toNat = 34 := by rw [byt_get hpb]; exact hq.2
            have hpi3 : (p : Int) < (s.size : Int) := by omega
            generalize unquoteF T = U at *
            obtain ⟨U1, U2, U3⟩ := U
            dsimp only at hw HUQ HLE
            have HWD2 := Lib.hid hw
            clear HWD hw hWq hq HE1 HE2 hSUB
            go_wp2_with fail
            refine (HUQ.out _).mono ?_
            rintro e w3 ⟨rfl, hb3⟩
            have ho3 := ho.below hb3
            have hbl3 := hbl.trans (hb3.mono hbl.size)
            clear HUQ ho hbl
            by_cases u3 : U3 = 0
            · subst u3
              have hle := HLE.out rfl
              have hw := HWD2.out
              rw [if_neg (show ¬ ((0 : Nat) ≠ 0) by decide)] at hw
              have hwr3 : IntKind.i64.wrap ((p : Int) + (U2 : Int)) = (p : Int) + (U2 : Int) := IntWalk.i64_in _ (by omega)
              by_cases u2 : p + U2 < s.size
              · have hgU := byt_get u2
                have u2i : (p : Int) + (U2 : Int) < (s.size : Int) := by omega
                have u20 : (0 : Int) ≤ (p : Int) + (U2 : Int) := by omega
                have u2n : ((p : Int) + (U2 : Int)).toNat = p + U2 := by omega
                have hTb : byt T U2 = byt s (p + U2) := hEB.out U2
                by_cases u4 : byt s (p + U2) = 32
                · rw [if_neg (show ¬ (U2 < T.size ∧ byt T U2 ≠ 32) from fun h => h.2 (by rw [hTb]; exact u4))] at hw
                  cases hw
                  rw [u4] at hgU
                  have hu := HU.out
                  rw [if_neg (show ¬ ((0 : Nat) ≠ 0) by decide)] at hu
                  clear HU
                  have HU := Lib.hid hu
                  clear hu HWD2 HLE hTb
                  go_wp2_with (at_builtin; go_must (refine wpList_appLitAt w hbl3 rfl (.tmp 73) (.tmp 76) 38 rfl 42 (.agg #[.string ⟨#[]⟩, .bool false]) 2 24 Try.underlying38 Try.infoRW rfl (by decide) (by decide) u5 out.length (wcells out) rfl ho3 1 1 w3.heap.size rfl [.string ⟨X1.toArray⟩, .bool true] _ rfl rfl (by simp [Value.oneCell']) (by omega) ?_))
                  intro v2 w5 ho3 hg2 hb5 hl2
                  have hsn : Hid (wcells (out ++ [(X1, true)]) = wcells out ++ [.string ⟨X1.toArray⟩, .bool true]) := Lib.hid (wcells_snoc out (X1, true))
                  have hln : (out ++ [(X1, true)]).length = out.length + 1 := by simp
                  by_cases hend : p + X3 < s.size
                  · have hu := HU.out
                    rw [if_pos (show p + X3 < s.size from hend)] at hu
                    have HU2 := Lib.hid hu
                    have he1 : ((p : Int) + (X3 : Int) == (s.size : Int)) = false := by rw [beq_eq_false_iff_ne]; omega
                    clear HU hu
                    generalize out ++ [(X1, true)] = out2 at *
                    go_wp2
                    go_roundw
                    case rel => exact ⟨p + X3 + 1, f, out2, val_int (by omega), by omega, by omega, (by rw [hln, hsn.out]; exact ho3), hb5, by omega, HU2⟩
                    case measure => simp [intOf]; omega
                  · have hu := HU.out
                    rw [if_neg (show ¬ p + X3 < s.size from hend)] at hu
                    cases hu
                    have he1 : ((p : Int) + (X3 : Int) == (s.size : Int)) = true := by rw [beq_iff_eq]; omega
                    clear HU
                    go_wp2
                    refine bodyPost_ret (v := .tuple #[v2, .int .i64 0, .int .i64 0]) (by simp [results, Try.results15, go_sem]) rfl ⟨_, rfl, (by rw [hln, hsn.out]; exact ho3), hb5⟩
                · rw [if_pos (show U2 < T.size ∧ byt T U2 ≠ 32 from ⟨by omega, by rw [hTb]; exact u4⟩)] at hw
                  cases hw
                  have hu := HU.out
                  rw [if_pos (show ((3 : Nat) ≠ 0) by decide)] at hu
                  have hblc := byt_lt s (p + U2)
                  generalize byt s (p + U2) = c at *
                  cases hu
                  have u5' : ((c : Int) != 32) = true := bne_iff_ne.2 (by omega)
                  clear HU HWD2 HLE hTb
                  go_wp2
                  refine bodyPost_ret (v := .tuple #[.slice none 0 0, .int .i64 (R2 : Int), .int .i64 3]) (by simp [results, Try.results15, go_sem]) rfl ⟨_, rfl, World.ownsRow_nil _ _ _ _, hbl3⟩
              · have u2i : ¬ (p : Int) + (U2 : Int) < (s.size : Int) := by omega
                rw [if_neg (show ¬ (U2 < T.size ∧ byt T U2 ≠ 32) from fun h => by omega)] at hw
                cases hw
                have hu := HU.out
                rw [if_neg (show ¬ ((0 : Nat) ≠ 0) by decide)] at hu
                clear HU
                have HU := Lib.hid hu
                clear hu HWD2 HLE
                go_wp2_with (at_builtin; go_must (refine wpList_appLitAt w hbl3 rfl (.tmp 73) (.tmp 76) 38 rfl 42 (.agg #[.string ⟨#[]⟩, .bool false]) 2 24 Try.underlying38 Try.infoRW rfl (by decide) (by decide) u5 out.length (wcells out) rfl ho3 1 1 w3.heap.size rfl [.string ⟨X1.toArray⟩, .bool true] _ rfl rfl (by simp [Value.oneCell']) (by omega) ?_))
                intro v2 w5 ho3 hg2 hb5 hl2
                have hsn : Hid (wcells (out ++ [(X1, true)]) = wcells out ++ [.string ⟨X1.toArray⟩, .bool true]) := Lib.hid (wcells_snoc out (X1, true))
                have hln : (out ++ [(X1, true)]).length = out.length + 1 := by simp
                by_cases hend : p + X3 < s.size
                · have hu := HU.out
                  rw [if_pos (show p + X3 < s.size from hend)] at hu
                  have HU2 := Lib.hid hu
                  have he1 : ((p : Int) + (X3 : Int) == (s.size : Int)) = false := by rw [beq_eq_false_iff_ne]; omega
                  clear HU hu
                  generalize out ++ [(X1, true)] = out2 at *
                  go_wp2
                  go_roundw
                  case rel => exact ⟨p + X3 + 1, f, out2, val_int (by omega), by omega, by omega, (by rw [hln, hsn.out]; exact ho3), hb5, by omega, HU2⟩
                  case measure => simp [intOf]; omega
                · have hu := HU.out
                  rw [if_neg (show ¬ p + X3 < s.size from hend)] at hu
                  cases hu
                  have he1 : ((p : Int) + (X3 : Int) == (s.size : Int)) = true := by rw [beq_iff_eq]; omega
                  clear HU
                  go_wp2
                  refine bodyPost_ret (v := .tuple #[v2, .int .i64 0, .int .i64 0]) (by simp [results, Try.results15, go_sem]) rfl ⟨_, rfl, (by rw [hln, hsn.out]; exact ho3), hb5⟩
            · have hw := HWD2.out
              rw [if_pos (show U3 ≠ 0 from u3)] at hw
              cases hw
              have hu := HU.out
              rw [if_pos (show X4 ≠ 0 from u3)] at hu
              cases hu
              have u4 : ((R3 : Int) == 0) = false := by rw [beq_eq_false_iff_ne]; omega
              have u5' : ((R3 : Int) != 0) = true := bne_iff_ne.2 (by omega)
              clear HU HWD2 HLE
              go_wp2
              refine bodyPost_ret (v := .tuple #[.slice none 0 0, .int .i64 (R2 : Int), .int .i64 (R3 : Int)]) (by simp [results, Try.results15, go_sem]) rfl ⟨_, rfl, World.ownsRow_nil _ _ _ _, hbl3⟩
          · clear HUQ HLE
            have hWq : ¬ (0 < T.size ∧ byt T 0 = 34) := fun h => hq ⟨by omega, by have := h.2; rw [hEB.out] at this; exact this⟩
            have hw := HWD.out
            rw [if_neg hWq] at hw
            have hSX := pre_size T EN hen
            have hSE := hSUB.out EN (by omega)
            have h34 : has34 T EN = has34 (T.extract 0 EN) EN := by
              unfold has34
              rw [decide_eq_decide]
              constructor
              · rintro ⟨j, hj, hb⟩; exact ⟨j, hj, by rw [pre_byt T EN j hen hj]; exact hb⟩
              · rintro ⟨j, hj, hb⟩; exact ⟨j, hj, by rw [pre_byt T EN j hen hj] at hb; exact hb⟩
            rw [h34] at hw
            have hRU := rrunes_any (T.extract 0 EN) (by omega)
            rw [hSE] at hw hSX hRU
            obtain ⟨S, hS⟩ : ∃ S, s.extract p (p + EN) = S := ⟨_, rfl⟩
            rw [hS] at hw hSX hRU
            have HWD2 := Lib.hid hw
            have HRU := Lib.hid hRU
            clear HWD hw hWq h34 hSE hRU HE1 HE2 hSUB
            have hpe : (p : Int) + (EN : Int) ≤ (s.size : Int) := by omega
            have hpe2 : (p : Int) ≤ (p : Int) + (EN : Int) := by omega
            have hpen : ((p : Int) + (EN : Int)).toNat = p + EN := by omega
            by_cases hps2 : p < s.size
            · have hg := byt_get hps2
              have hblp := byt_lt s p
              have hc34 : byt s p ≠ 34 := fun h => hq ⟨hps2, h⟩
              have hpi3 : (p : Int) < (s.size : Int) := by omega
              clear hq
              generalize byt s p = c0 at *
              have e34 : ((c0 : Int) == 34) = false := by rw [beq_eq_false_iff_ne]; omega
              go_wp2
              go_loopw [12, 13] (fun e i w2 => ∃ j : Nat, e = .int .i64 (if has34 S j then 3 else 0) ∧ i = .int .i64 (j : Int) ∧ w2 = wr ∧ j ≤ EN) (fun _ i _ => EN - (intOf i).toNat)
              case atStart => exact ⟨0, by rw [has34_zero]; rfl, rfl, rfl, by omega⟩
              case round =>
                obtain ⟨j, rfl, rfl, rfl, hj⟩ := hrel
                by_cases hjE : j < EN
                · have hjs : j < S.size := by omega
                  have hgj := byt_get hjs
                  have hjsi : (j : Int) < (S.size : Int) := by omega
                  have hsc := has34_succ S j
                  have hbj := byt_lt S j
                  generalize byt S j = cj at *
                  by_cases h9 : cj = 34
                  · subst h9
                    have hs1 : has34 S (j + 1) = true := by rw [hsc]; simp
                    go_wp2
                    go_roundw
                    case rel => exact ⟨j + 1, by rw [hs1]; rfl, val_int (by omega), trivial, by omega⟩
                    case measure => simp [intOf]; omega
                  · have hs1 : has34 S (j + 1) = has34 S j := by rw [hsc]; simp [h9]
                    have e9 : ((cj : Int) == 34) = false := by rw [beq_eq_false_iff_ne]; omega
                    go_wp2
                    go_roundw
                    case rel => exact ⟨j + 1, by rw [hs1], val_int (by omega), trivial, by omega⟩
                    case measure => simp [intOf]; omega
                · have hje : j = EN := by omega
                  have hjsi : ¬ (j : Int) < (S.size : Int) := by omega
                  rw [hje] at hjsi ⊢
                  obtain ⟨H, hH⟩ : ∃ H, has34 S EN = H := ⟨_, rfl⟩
                  obtain ⟨RR, hRR⟩ : ∃ RR, rightF S = RR := ⟨_, rfl⟩
                  rw [hH] at HWD2 ⊢
                  rw [hRR] at HWD2 HRU
                  have hw := HWD2.out
                  by_cases hE0 : EN = 0
                  · rw [if_pos (show EN = 0 ∨ H = true from .inl hE0)] at hw
                    cases hw
                    have hte : S.toList.isEmpty = true := by rw [empty_dec, hSX]; simp [hE0]
                    have hu := HU.out
                    rw [if_pos (show ((3 : Nat) ≠ 0) by decide)] at hu
                    cases hu
                    clear HU HWD2
                    cases H <;> cases RR <;> (
                      first | rw [if_pos (show true = true from rfl)] | rw [if_neg (show ¬ (false = true) by decide)]
                      go_wp2_with fail
                      refine (HRU.out _).mono ?_
                      rintro e w3 ⟨vo, va, rfl, -, -, hb3⟩
                      have hbl3 := hbl.trans (hb3.mono hbl.size)
                      clear HRU
                      go_wp2
                      refine bodyPost_ret (v := .tuple #[.slice none 0 0, .int .i64 (R2 : Int), .int .i64 3]) (by simp [results, Try.results15, go_sem]) rfl ⟨_, rfl, World.ownsRow_nil _ _ _ _, hbl3⟩)
                  · have hte : S.toList.isEmpty = false := by rw [empty_dec, hSX]; simp [hE0]
                    cases H with
                    | true =>
                      rw [if_pos (show EN = 0 ∨ true = true from .inr rfl)] at hw
                      cases hw
                      have hu := HU.out
                      rw [if_pos (show ((3 : Nat) ≠ 0) by decide)] at hu
                      cases hu
                      clear HU HWD2
                      rw [if_pos rfl]
                      go_wp2_with fail
                      refine (HRU.out _).mono ?_
                      rintro e w3 ⟨vo, va, rfl, -, -, hb3⟩
                      have hbl3 := hbl.trans (hb3.mono hbl.size)
                      clear HRU
                      go_wp2
                      refine bodyPost_ret (v := .tuple #[.slice none 0 0, .int .i64 (R2 : Int), .int .i64 3]) (by simp [results, Try.results15, go_sem]) rfl ⟨_, rfl, World.ownsRow_nil _ _ _ _, hbl3⟩
                    | false =>
                      rw [if_neg (show ¬ (EN = 0 ∨ false = true) by simp [hE0])] at hw
                      rw [if_neg (show ¬ (false = true) by decide)]
                      go_wp2_with fail
                      refine (HRU.out _).mono ?_
                      rintro e w3 ⟨vo, va, rfl, -, -, hb3⟩
                      have hbl3 := hbl.trans (hb3.mono hbl.size)
                      have ho3 := ho.below hb3
                      clear HRU
                      cases RR with
                      | false =>
                        rw [if_pos (show false = false from rfl)] at hw
                        cases hw
                        have hu := HU.out
                        rw [if_pos (show ((13 : Nat) ≠ 0) by decide)] at hu
                        cases hu
                        clear HU HWD2
                        go_wp2
                        refine bodyPost_ret (v := .tuple #[.slice none 0 0, .int .i64 (R2 : Int), .int .i64 13]) (by simp [results, Try.results15, go_sem]) rfl ⟨_, rfl, World.ownsRow_nil _ _ _ _, hbl3⟩
                      | true =>
                        rw [if_neg (show ¬ (true = false) by decide)] at hw
                        cases hw
                        have hu := HU.out
                        rw [if_neg (show ¬ ((0 : Nat) ≠ 0) by decide)] at hu
                        clear HU
                        have HU := Lib.hid hu
                        clear hu HWD2
                        go_wp2_with (at_builtin; go_must (refine wpList_appLitAt w hbl3 rfl (.tmp 113) (.tmp 116) 38 rfl 42 (.agg #[.string ⟨#[]⟩, .bool false]) 2 24 Try.underlying38 Try.infoRW rfl (by decide) (by decide) u5 out.length (wcells out) rfl ho3 1 1 w3.heap.size rfl [.string S, .bool false] _ rfl rfl (by simp [Value.oneCell']) (by omega) ?_))
                        intro v2 w5 ho3 hg2 hb5 hl2
                        have hsn : Hid (wcells (out ++ [(S.data.toList, false)]) = wcells out ++ [.string S, .bool false]) := Lib.hid (wcells_snoc out (S.data.toList, false))
                        have hln : (out ++ [(S.data.toList, false)]).length = out.length + 1 := by simp
                        by_cases hend : p + X3 < s.size
                        · have hu := HU.out
                          rw [if_pos (show p + X3 < s.size from hend)] at hu
                          have HU2 := Lib.hid hu
                          have he1 : ((p : Int) + (X3 : Int) == (s.size : Int)) = false := by rw [beq_eq_false_iff_ne]; omega
                          clear HU hu
                          generalize out ++ [(S.data.toList, false)] = out2 at *
                          go_wp2
                          go_roundw
                          case rel => exact ⟨p + X3 + 1, f, out2, val_int (by omega), by omega, by omega, (by rw [hln, hsn.out]; exact ho3), hb5, by omega, HU2⟩
                          case measure => simp [intOf]; omega
                        · have hu := HU.out
                          rw [if_neg (show ¬ p + X3 < s.size from hend)] at hu
                          cases hu
                          have he1 : ((p : Int) + (X3 : Int) == (s.size : Int)) = true := by rw [beq_iff_eq]; omega
                          clear HU
                          go_wp2
                          refine bodyPost_ret (v := .tuple #[v2, .int .i64 0, .int .i64 0]) (by simp [results, Try.results15, go_sem]) rfl ⟨_, rfl, (by rw [hln, hsn.out]; exact ho3), hb5⟩
            · have hpi3 : ¬ (p : Int) < (s.size : Int) := by omega
              clear hq
              go_wp2
              go_loopw [12, 13] (fun e i w2 => ∃ j : Nat, e = .int .i64 (if has34 S j then 3 else 0) ∧ i = .int .i64 (j : Int) ∧ w2 = wr ∧ j ≤ EN) (fun _ i _ => EN - (intOf i).toNat)
              case atStart => exact ⟨0, by rw [has34_zero]; rfl, rfl, rfl, by omega⟩
              case round =>
                obtain ⟨j, rfl, rfl, rfl, hj⟩ := hrel
                by_cases hjE : j < EN
                · have hjs : j < S.size := by omega
                  have hgj := byt_get hjs
                  have hjsi : (j : Int) < (S.size : Int) := by omega
                  have hsc := has34_succ S j
                  have hbj := byt_lt S j
                  generalize byt S j = cj at *
                  by_cases h9 : cj = 34
                  · subst h9
                    have hs1 : has34 S (j + 1) = true := by rw [hsc]; simp
                    go_wp2
                    go_roundw
                    case rel => exact ⟨j + 1, by rw [hs1]; rfl, val_int (by omega), trivial, by omega⟩
                    case measure => simp [intOf]; omega
                  · have hs1 : has34 S (j + 1) = has34 S j := by rw [hsc]; simp [h9]
                    have e9 : ((cj : Int) == 34) = false := by rw [beq_eq_false_iff_ne]; omega
                    go_wp2
                    go_roundw
                    case rel => exact ⟨j + 1, by rw [hs1], val_int (by omega), trivial, by omega⟩
                    case measure => simp [intOf]; omega
                · have hje : j = EN := by omega
                  have hjsi : ¬ (j : Int) < (S.size : Int) := by omega
                  rw [hje] at hjsi ⊢
                  obtain ⟨H, hH⟩ : ∃ H, has34 S EN = H := ⟨_, rfl⟩
                  obtain ⟨RR, hRR⟩ : ∃ RR, rightF S = RR := ⟨_, rfl⟩
                  rw [hH] at HWD2 ⊢
                  rw [hRR] at HWD2 HRU
                  have hw := HWD2.out
                  by_cases hE0 : EN = 0
                  · rw [if_pos (show EN = 0 ∨ H = true from .inl hE0)] at hw
                    cases hw
                    have hte : S.toList.isEmpty = true := by rw [empty_dec, hSX]; simp [hE0]
                    have hu := HU.out
                    rw [if_pos (show ((3 : Nat) ≠ 0) by decide)] at hu
                    cases hu
                    clear HU HWD2
                    cases H <;> cases RR <;> (
                      first | rw [if_pos (show true = true from rfl)] | rw [if_neg (show ¬ (false = true) by decide)]
                      go_wp2_with fail
                      refine (HRU.out _).mono ?_
                      rintro e w3 ⟨vo, va, rfl, -, -, hb3⟩
                      have hbl3 := hbl.trans (hb3.mono hbl.size)
                      clear HRU
                      go_wp2
                      refine bodyPost_ret (v := .tuple #[.slice none 0 0, .int .i64 (R2 : Int), .int .i64 3]) (by simp [results, Try.results15, go_sem]) rfl ⟨_, rfl, World.ownsRow_nil _ _ _ _, hbl3⟩)
                  · exfalso; omega
end Go.Proofs.Ytbjiamakchklpaa
