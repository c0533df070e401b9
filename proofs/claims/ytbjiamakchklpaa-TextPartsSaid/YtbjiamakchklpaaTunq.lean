/-
  text.Unquote.
-/
import Derived.Test.YtbjiamakchklpaaTunqp
import Derived.Test.YtbjiamakchklpaaGoto2
import Derived.Test.YtbjiamakchklpaaTcount
set_option linter.unusedVariables false
set_option linter.unusedSimpArgs false
set_option maxRecDepth 100000
namespace Go.Proofs.Ytbjiamakchklpaa
open Go.RowKit

set_option maxHeartbeats 6400000 in
theorem unq_any (s : ByteArray) (hs : s.size ≤ 100000) (w : World) :
    Calls Try.prog 11 #[.string s] w fun e w' => e = .returned (.tuple #[.string ⟨(unquoteF s).1.toArray⟩, .int .i64 (unquoteF s).2.1, .int .i64 (unquoteF s).2.2]) ∧ Below w.heap.size w w' := by
  have hF := Lib.hid (unquoteF.eq_1 s)
  obtain ⟨R, hR⟩ : ∃ R, unquoteF s = R := ⟨_, rfl⟩
  rw [hR] at hF ⊢
  clear hR
  obtain ⟨R1, R2, R3⟩ := R
  dsimp only
  go_enter Try.func11, Try.ntmps11
  go_wp2
  refine wp_goto_two 1 0 (by decide) (fun n a' w' => ∃ (p f : Nat) (acc : List UInt8) (u2 u3 u4 u6 u8 u9 u10 u11 u12 u13 u14 u15 u16 u17 u18 u19 u20 u21 u22 u23 u24 u25 u26 u27 u28 u29 u30 u31 u32 u33 u34 u35 u36 u37 u38 u39 u40 u41 u42 u43 u44 u45 u46 u47 u48 u49 u50 u51 u52 u53 u54 u55 u56 u57 u58 u59 u60 u61 u62 u63 u64 u65 u66 u67 u68 u69 u70 : Value),
    (n = s.size - p ∧ 1 ≤ p ∧ p ≤ s.size ∧ s.size ≤ p + f ∧ Lib.IsBuilderF 55 5 w.heap.size w.heap.size (Lib.byteCells acc) w' ∧ Below w.heap.size w w' ∧ acc.length ≤ p ∧ Hid ((R1, R2, R3) = unqF s f p acc)) ∧
    a' = { tmps := List.toArray ((.string s) :: undef :: u2 :: u3 :: u4 :: (.pointer (some ⟨w.heap.size, 0, none⟩)) :: u6 :: (.int .i64 (p : Int)) :: u8 :: u9 :: u10 :: u11 :: u12 :: u13 :: u14 :: u15 :: u16 :: u17 :: u18 :: u19 :: u20 :: u21 :: u22 :: u23 :: u24 :: u25 :: u26 :: u27 :: u28 :: u29 :: u30 :: u31 :: u32 :: u33 :: u34 :: u35 :: u36 :: u37 :: u38 :: u39 :: u40 :: u41 :: u42 :: u43 :: u44 :: u45 :: u46 :: u47 :: u48 :: u49 :: u50 :: u51 :: u52 :: u53 :: u54 :: u55 :: u56 :: u57 :: u58 :: u59 :: u60 :: u61 :: u62 :: u63 :: u64 :: u65 :: u66 :: u67 :: u68 :: u69 :: u70 :: []), defers := [] }) rfl rfl ?_ ?_
  · rintro n a' w' ⟨p, f, acc, u2, u3, u4, u6, u8, u9, u10, u11, u12, u13, u14, u15, u16, u17, u18, u19, u20, u21, u22, u23, u24, u25, u26, u27, u28, u29, u30, u31, u32, u33, u34, u35, u36, u37, u38, u39, u40, u41, u42, u43, u44, u45, u46, u47, u48, u49, u50, u51, u52, u53, u54, u55, u56, u57, u58, u59, u60, u61, u62, u63, u64, u65, u66, u67, u68, u69, u70, ⟨rfl, hp1, hps, hpf, hI, hb, hal, HU⟩, rfl⟩ J B hJ HB
    have HJ := Lib.hid hJ
    clear hJ hF
    have hpi : (p : Int) ≤ (s.size : Int) := by omega
    obtain ⟨E, hE⟩ : ∃ E, s.extract p s.size = E := ⟨_, rfl⟩
    have hEs : E.size = s.size - p := by rw [← hE]; exact ext_size s p
    have hEd : Utf8.decode E 0 = Utf8.decode s p := by rw [← hE, ext_decode]; rfl
    have hEb : badAt E 0 = badAt s p := by rw [← hE, ext_bad]; rfl
    obtain ⟨KI, hKI⟩ : ∃ k, w'.heap.size = k := ⟨_, rfl⟩
    have hI2 := hI.alloc (.stringIter E 0)
    have hit2 : (w'.alloc (.stringIter E 0)).heap[KI]? = some (.stringIter E 0) := by rw [← hKI]; exact heap_alloc_new w' _
    have hb2 := hb.alloc (hb.size) (.stringIter E 0)
    have hK : w.heap.size ≤ KI := by rw [← hKI]; exact hb.size
    clear hI hb
    go_wp2
    go_loopw [6, 7] (fun e at' wr => e = .int .i64 4 ∧ at' = .int .i64 (p : Int) ∧ Lib.IsBuilderF 55 5 w.heap.size w.heap.size (Lib.byteCells acc) wr ∧ wr.heap[KI]? = some (.stringIter E 0) ∧ Below w.heap.size w wr) (fun _ _ _ => 0)
    case atStart => exact ⟨rfl, rfl, hI2, hit2, hb2⟩
    case round =>
      clear hI2 hit2 hb2
      obtain ⟨rfl, rfl, hI, hit, hbw⟩ := hrel
      have hsz : KI < wr.heap.size := (Array.getElem?_eq_some_iff.1 hit).1
      by_cases hp : p < s.size
      · obtain ⟨f, rfl⟩ : ∃ g, f = g + 1 := ⟨f - 1, by omega⟩
        have hE0 : 0 < E.size := by omega
        have hnx : ∀ ty, (Instr.next (.pointer (some ⟨KI, 0, none⟩)) true ty).run Try.prog wr = _ := fun ty => Lib.run_next_any_at wr KI E 0 ty hit hE0
        have hbad := bad_any E 0 hE0 (by unfold maxLen; omega)
        rw [hEd] at hnx hbad
        rw [hEb] at hbad
        have hwd := decode_wid hp
        have hI2 := hI.iterAt hit (0 + (Utf8.decode s p).2)
        have hit2 := Lib.iterAt_heap wr KI E 0 (0 + (Utf8.decode s p).2) hit
        have hbw2 := Lib.below_iterAt hbw (k := KI) hK E (0 + (Utf8.decode s p).2)
        have hsz2 := Lib.iterAt_size wr KI E (0 + (Utf8.decode s p).2)
        have hED := Lib.hid (fun hb => enc_dec (s := s) (p := p) hp hb)
        have F1 := Lib.hid (fun h1 => unqF_bad (s := s) (f := f) (p := p) (acc := acc) hp h1)
        have F2 := Lib.hid (fun h1 h2 => unqF_shut (s := s) (f := f) (p := p) (acc := acc) hp h1 h2)
        have F3 := Lib.hid (fun h1 h2 => unqF_esc (s := s) (f := f) (p := p) (acc := acc) hp h1 h2)
        have F4 := Lib.hid (fun h1 h2 h3 h4 => unqF_low (s := s) (f := f) (p := p) (acc := acc) hp h1 h2 h3 h4)
        have F5 := Lib.hid (fun h1 h2 h3 h4 => unqF_on (s := s) (f := f) (p := p) (acc := acc) hp h1 h2 h3 h4)
        obtain ⟨BD, hBD⟩ : ∃ BD, badAt s p = BD := ⟨_, rfl⟩
        rw [hBD] at hbad hED F1 F2 F3 F4 F5
        clear hBD
        obtain ⟨W, hW⟩ : ∃ W, (Utf8.decode s p).2 = W := ⟨_, rfl⟩
        rw [hW] at hnx hwd hI2 hit2 hbw2 hsz2 hED F5
        obtain ⟨R, hR⟩ : ∃ R, (Utf8.decode s p).1 = R := ⟨_, rfl⟩
        rw [hR] at hnx hwd hbad hED F2 F3 F4 F5
        have HBAD := Lib.hid hbad
        clear hbad hR hW hEd hEb hI hbw
        have hRb : R ≤ 1114111 := hwd.2.2.2
        have hw0 : wr.iterAt KI E (0 + W) = wr.iterAt KI E (0 + W) := rfl
        obtain ⟨w2, hw2⟩ : ∃ w2, wr.iterAt KI E (0 + W) = w2 := ⟨_, rfl⟩
        rw [hw2] at hnx hI2 hit2 hbw2 hsz2
        clear hw2 hw0
        go_wp2_with fail
        refine (HBAD.out _).mono ?_
        rintro e w3 ⟨rfl, rfl⟩
        cases BD with
        | true =>
          have hu := HU.out
          rw [F1.out rfl] at hu
          cases hu
          clear F1 F2 F3 F4 F5 hED HU
          go_wp2
          refine wp_label ?_
          go_wp2
          rw [Exit.two_ret]; refine bodyPost_ret (v := .tuple #[.string ⟨#[]⟩, .int .i64 0, .int .i64 13]) (by simp [results, Try.results11, go_sem]) rfl ⟨rfl, hbw2⟩
        | false =>
          have hED1 := hED.out rfl
          have F2 := Lib.hid (F2.out rfl)
          have F3 := Lib.hid (F3.out rfl)
          have F4 := Lib.hid (F4.out rfl)
          have F5 := Lib.hid (F5.out rfl)
          obtain ⟨hEN, hRL⟩ := hED1
          have HEN := Lib.hid hEN
          have HRL := Lib.hid hRL
          clear F1 hED hEN hRL
          by_cases c1 : R = 34
          · subst c1
            have hu := HU.out
            rw [F2.out rfl] at hu
            cases hu
            clear F2 F3 F4 F5 HU HEN HRL HBAD hnx
            go_wp2_with (go_at_call 25; refine (Try.Builder_String_any_k w.heap.size w.heap.size R1 _ hI2 (by omega)).mono ?_)
            rintro e w6 ⟨rfl, _, b6, _⟩
            go_wp2
            rw [Exit.two_ret]; refine bodyPost_ret (v := .tuple #[.string ⟨R1.toArray⟩, .int .i64 ((p : Int) + 1), .int .i64 0]) (by simp [results, Try.results11, go_sem]) rfl ⟨by simp, hbw2.trans b6⟩
          · have n1 : ((R : Int) == 34) = false := by rw [beq_eq_false_iff_ne]; omega
            by_cases c2 : R = 92
            · subst c2
              clear F2 F4 F5 HEN HRL HBAD hnx c1
              have hex := esc_any (s.extract (p + 1) s.size) (by rw [ext_size]; unfold maxLen; omega)
              have hu := HU.out
              rw [F3.out rfl] at hu
              have hok := esc_ok (s.extract (p + 1) s.size)
              rw [ext_size] at hok
              generalize escF (s.extract (p + 1) s.size) = X at *
              obtain ⟨X1, X2, X3⟩ := X
              dsimp only at hu hex hok
              have HEX := Lib.hid hex
              have HU := Lib.hid hu
              have HOK := Lib.hid hok
              clear F3 hex hu hok
              have hp1i : (p : Int) + 1 ≤ (s.size : Int) := by omega
              go_wp2_with fail
              refine (HEX.out _).mono ?_
              rintro e w4 ⟨rfl, n4, rfl⟩
              have hI4 : Lib.IsBuilderF 55 5 w.heap.size w.heap.size (Lib.byteCells acc) (w3.drewN n4) := hI2
              have hb4 : Below w.heap.size w (w3.drewN n4) := below_drewN hbw2 n4
              have hs4 := hb4.size
              generalize w3.drewN n4 = w4 at *
              by_cases c3 : X3 = 0
              · subst c3
                obtain ⟨k1, k2, k3, k4⟩ := HOK.out rfl
                have hu := HU.out
                rw [if_pos rfl] at hu
                have HU := Lib.hid hu
                have HEL := Lib.hid (enc_low X1 k1)
                clear hu HOK HEX
                go_wp2_with (go_at_call 29; refine (Try.Builder_WriteRune_k w.heap.size w.heap.size _ (X1 : Int) (by omega) (by omega) _ hI4 (by rw [Lib.byteCells_length]; omega) hs4).mono ?_)
                rintro e w5 ⟨rfl, h5, b5, _⟩
                have hI5 : Lib.IsBuilderF 55 5 w.heap.size w.heap.size (Lib.byteCells (acc ++ [X1.toUInt8])) w5 := by
                  rw [Lib.byteCells_append, ← HEL.out, Lib.byteCells_encodeRune]; exact Or.inr h5
                have hb5 := hb4.trans b5
                clear HEL h5 b5
                have hal5 : (acc ++ [X1.toUInt8]).length = acc.length + 1 := by simp
                have hat5 : (p : Int) + ((X2 : Int) + 1) = ((p + 1 + X2 : Nat) : Int) := by omega
                go_wp2
                go_step3
                show J _ _
                try rw [hat5]
                refine HJ.out (s.size - (p + 1 + X2)) _ _ (by omega) ⟨p + 1 + X2, f, acc ++ [X1.toUInt8], _, _, _, _, _, _, _, _, _, _, _, _, _, _, _, _, _, _, _, _, _, _, _, _, _, _, _, _, _, _, _, _, _, _, _, _, _, _, _, _, _, _, _, _, _, _, _, _, _, _, _, _, _, _, _, _, _, _, _, _, _, _, _, _, _, _, _, ⟨rfl, by omega, by omega, by omega, hI5, hb5, by omega, HU⟩, rfl⟩
              · have n3 : ((X3 : Int) == 0) = false := by rw [beq_eq_false_iff_ne]; omega
                have hu := HU.out
                rw [if_neg c3] at hu
                cases hu
                clear HU HOK HEX
                go_wp2
                refine wp_label ?_
                go_wp2
                rw [Exit.two_ret]; refine bodyPost_ret (v := .tuple #[.string ⟨#[]⟩, .int .i64 0, .int .i64 (R3 : Int)]) (by simp [results, Try.results11, go_sem]) rfl ⟨rfl, hb4⟩
            · have n2 : ((R : Int) == 92) = false := by rw [beq_eq_false_iff_ne]; omega
              clear F2 F3
              by_cases c3 : R < 32 ∨ R = 127
              · have hu := HU.out
                rw [F4.out c1 c2 c3] at hu
                cases hu
                clear HU F4 F5 HEN HRL HBAD
                by_cases c4 : R < 32
                · have l1 : ¬ (32 : Int) ≤ (R : Int) := by omega
                  go_wp2
                  refine wp_label ?_
                  go_wp2
                  rw [Exit.two_ret]; refine bodyPost_ret (v := .tuple #[.string ⟨#[]⟩, .int .i64 0, .int .i64 3]) (by simp [results, Try.results11, go_sem]) rfl ⟨rfl, hbw2⟩
                · have c5 : R = 127 := by omega
                  subst c5
                  go_wp2
                  refine wp_label ?_
                  go_wp2
                  rw [Exit.two_ret]; refine bodyPost_ret (v := .tuple #[.string ⟨#[]⟩, .int .i64 0, .int .i64 3]) (by simp [results, Try.results11, go_sem]) rfl ⟨rfl, hbw2⟩
              · have l1 : (32 : Int) ≤ (R : Int) := by omega
                have l2 : ((R : Int) != 127) = true := bne_iff_ne.2 (by omega)
                have hu := HU.out
                rw [F5.out c1 c2 c3] at hu
                have HU := Lib.hid hu
                have HRL2 := Lib.hid (fun w => Try.utf8_RuneLen (R : Int) w)
                rw [HRL.out] at HRL2
                clear hu F4 F5 HBAD
                go_wp2_with (go_at_call 29; refine (Try.Builder_WriteRune_k w.heap.size w.heap.size _ (R : Int) (by omega) (by omega) _ hI2 (by rw [Lib.byteCells_length]; omega) hbw2.size).mono ?_)
                rintro e w5 ⟨rfl, h5, b5, _⟩
                have hI5 : Lib.IsBuilderF 55 5 w.heap.size w.heap.size (Lib.byteCells (acc ++ bts s p W)) w5 := by
                  rw [Lib.byteCells_append, ← HEN.out, Lib.byteCells_encodeRune]; exact Or.inr h5
                have hb5 := hbw2.trans b5
                clear HEN h5 b5
                go_wp2_with fail
                refine (HRL2.out _).mono ?_
                rintro e w6 ⟨rfl, rfl⟩
                have hal5 : (acc ++ bts s p W).length = acc.length + W := by rw [List.length_append, bts_len s p W (by omega)]
                have hWs : p + W ≤ s.size := hwd.2.1
                go_wp2
                have hat5 : (p : Int) + (W : Int) = ((p + W : Nat) : Int) := by omega
                go_step3
                show J _ _
                try rw [hat5]
                refine HJ.out (s.size - (p + W)) _ _ (by omega) ⟨p + W, f, acc ++ bts s p W, _, _, _, _, _, _, _, _, _, _, _, _, _, _, _, _, _, _, _, _, _, _, _, _, _, _, _, _, _, _, _, _, _, _, _, _, _, _, _, _, _, _, _, _, _, _, _, _, _, _, _, _, _, _, _, _, _, _, _, _, _, _, _, _, _, _, _, ⟨rfl, by omega, by omega, by omega, hI5, hb5, by omega, HU⟩, rfl⟩
      · have hu := HU.out
        rw [unqF_end s f p acc hp] at hu
        cases hu
        have hE0 : ¬ 0 < E.size := by omega
        have hnx : ∀ ty, (Instr.next (.pointer (some ⟨KI, 0, none⟩)) true ty).run Try.prog wr = _ := fun ty => Lib.run_next_end_at wr KI E 0 ty hit hE0
        clear HU
        go_wp2
        refine wp_label ?_
        go_wp2
        rw [Exit.two_ret]; refine bodyPost_ret (v := .tuple #[.string ⟨#[]⟩, .int .i64 0, .int .i64 4]) (by simp [results, Try.results11, go_sem]) rfl ⟨rfl, hbw⟩
  · intro J B HL HB
    by_cases h0 : s.size = 0
    · have hR := hF.out
      rw [if_pos h0] at hR
      cases hR
      have hte : s.toList.isEmpty = true := by rw [empty_dec]; simp [h0]
      clear hF HL
      go_wp2
      go_step3
      show B _ _
      refine HB.out _ _ ?_
      go_wp2
      rw [Exit.two_ret]; refine bodyPost_ret (v := .tuple #[.string ⟨#[]⟩, .int .i64 0, .int .i64 4]) (by simp [results, Try.results11, go_sem]) rfl ⟨rfl, Below.new _ _⟩
    · have hR := hF.out
      rw [if_neg h0] at hR
      have hte : s.toList.isEmpty = false := by rw [empty_dec]; simp [h0]
      have hpos : 0 < s.size := by omega
      have hg0 := byt_get hpos
      by_cases c0 : byt s 0 = 34
      · rw [if_neg (by omega)] at hR
        rw [c0] at hg0
        have HU := Lib.hid hR
        clear hF hR
        go_wp2
        go_step3
        go_step
        go_step
        exact HL.out (s.size - 1) _ _ ⟨1, s.size, [], _, _, _, _, _, _, _, _, _, _, _, _, _, _, _, _, _, _, _, _, _, _, _, _, _, _, _, _, _, _, _, _, _, _, _, _, _, _, _, _, _, _, _, _, _, _, _, _, _, _, _, _, _, _, _, _, _, _, _, _, _, _, _, _, _, _, _, ⟨rfl, by omega, by omega, by omega, Lib.IsBuilderF.of (Lib.fresh_isBuilder 55 5 w), Below.new _ _, by simp, HU⟩, rfl⟩
      · rw [if_pos (by omega)] at hR
        cases hR
        have hb0 := byt_lt s 0
        have HB0 : Hid (¬ byt s 0 = 34) := Lib.hid c0
        generalize byt s 0 = c at *
        have n0 : ((c : Int) != 34) = true := bne_iff_ne.2 (by omega)
        clear hF HL c0
        go_wp2
        go_step3
        show B _ _
        refine HB.out _ _ ?_
        go_wp2
        rw [Exit.two_ret]; refine bodyPost_ret (v := .tuple #[.string ⟨#[]⟩, .int .i64 0, .int .i64 3]) (by simp [results, Try.results11, go_sem]) rfl ⟨rfl, Below.new _ _⟩
end Go.Proofs.Ytbjiamakchklpaa

