/-
  The chapter's example. The document's faces in memory. graticuleref09.First.
-/
import Derived.Test.YtkfgbjjelcigcaaGreatDoorPk14
import Derived.Test.YtkfgbjjelcigcaaGreatDoorPk2
import Derived.Test.YtkfgbjjelcigcaaGreatDoorPk4
/- The chapter's example. -/
set_option linter.unusedVariables false
set_option linter.unusedSimpArgs false
set_option maxRecDepth 100000
namespace Go
open Go.RowKit
theorem chkI_core {x y : It} (h : x.core = y.core) : chkI x = chkI y := by
  cases x; cases y
  simp only [It.core, Prod.mk.injEq] at h; obtain ⟨rfl, rfl, rfl, rfl⟩ := h
  rfl
theorem stepF_core {x y : It} (h : x.core = y.core) (s : FS) : stepF s x = stepF s y := by
  cases x; cases y
  simp only [It.core, Prod.mk.injEq] at h; obtain ⟨rfl, rfl, rfl, rfl⟩ := h
  rfl
theorem kind_core {x y : It} (h : x.core = y.core) : x.kind = y.kind := congrArg (·.1) h
theorem foldG_core : ∀ (G X : List It) (s : FS) (i : Nat), G.map It.core = X.map It.core → foldG s i G = foldG s i X
  | [], [], _, _, _ => rfl
  | [], _ :: _, _, _, h => by simp at h
  | _ :: _, [], _, _, h => by simp at h
  | g :: G, x :: X, s, i, h => by
    simp only [List.map_cons, List.cons.injEq] at h; unfold foldG; rw [chkI_core h.1, kind_core h.1, stepF_core h.1, foldG_core G X _ _ h.2]
def X0 : List It := [⟨1, [5], ⟨#[]⟩, vZ, none, 0⟩, ⟨4, [], ⟨#[]⟩, vZ, none, 0⟩, ⟨5, [0, 0, 16, 0, 0, 16], ⟨#[]⟩, vZ, none, 0⟩, ⟨6, [], ⟨#[110, 97, 109, 101]⟩, (1, ⟨#[97, 32, 98]⟩, 0), none, 0⟩, ⟨8, [4, 1, 1, 1], ⟨#[]⟩, vZ, none, 0⟩]
theorem itoa_0 : Lib.itoa 0 = [48] := by simp [Lib.itoa, Lib.decDigits]
theorem itoa_1 : Lib.itoa 1 = [49] := by simp [Lib.itoa, Lib.decDigits]
theorem itoa_4 : Lib.itoa 4 = [52] := by simp [Lib.itoa, Lib.decDigits]
theorem itoa_5 : Lib.itoa 5 = [53] := by simp [Lib.itoa, Lib.decDigits]
theorem itoa_16 : Lib.itoa 16 = [49, 54] := by simp [Lib.itoa, Lib.decDigits]
theorem chk_X0 : ∀ x ∈ X0, chkI x = 0 := by
  intro x hx; simp only [X0, List.mem_cons, List.not_mem_nil, or_false] at hx
  rcases hx with rfl | rfl | rfl | rfl | rfl <;> kernel_rfl
theorem text_X0 : textF X0 ++ [] = [98, 117, 102, 102, 101, 114, 32, 53, 10, 102, 97, 99, 101, 10, 114, 105, 110, 103, 32, 48, 32, 48, 32, 49, 54, 32, 48, 32, 48, 32, 49, 54, 10, 97, 116, 116, 114, 32, 110, 97, 109, 101, 32, 34, 97, 32, 98, 34, 10, 108, 111, 99, 97, 116, 101, 32, 52, 32, 49, 32, 49, 32, 49, 10] := by
  have hq : quoteF ⟨#[97, 32, 98]⟩ = [34, 97, 32, 98, 34] := by kernel_rfl
  simp [textF, X0, lineF, rest6, tl, pw, vw, itoa_0, itoa_1, itoa_4, itoa_5, itoa_16, hq, kwS, kws]
theorem fold_X0 : foldG fs0 0 X0 = (⟨[([[⟨0, 0⟩, ⟨16, 0⟩, ⟨0, 16⟩]], [⟨⟨#[110, 97, 109, 101]⟩, 1, ⟨#[97, 32, 98]⟩, 0⟩])], 5, 0, [], [(8, [4, 1, 1, 1], ⟨#[]⟩, vZ)]⟩, 0, 0) := by kernel_rfl
end Go
namespace Go.Proofs.YtkfgbjjelcigcaaGreatDoor
open Go.RowKit
set_option maxHeartbeats 3200000 in
theorem known30_any (w : World) :
    Calls Tryz.prog 9 #[] w fun e w' => e = .returned (.bool true) ∧ Below w.heap.size w w' := by
  have HP := Lib.hid (iparse_any X0 chk_X0 [] RT.nil (by rw [text_X0]; decide) w); rw [text_X0] at HP
  go_enter Tryz.func9, Tryz.ntmps9
  go_wp2_with fail
  refine HP.out.mono ?_; intro e w1 hpost
  rcases hpost with ⟨-, G, p, c, rfl, hG, hown, hIT, hb1⟩ | ⟨h, -⟩
  · have hl : G.length = 5 := by
      have := congrArg List.length hG
      simpa [X0] using this
    obtain ⟨p', c', e, q1, q2, q3, q4, -⟩ := hown.form
    cases e
    have hcore : ∀ g ∈ G, g.n.length ≤ 100000 ∧ g.Sz := by
      intro g hg; have h1 : g.core ∈ X0.map It.core := by rw [← hG]; exact List.mem_map_of_mem hg
      simp only [X0, List.map_cons, List.map_nil, It.core, List.mem_cons, List.not_mem_nil, or_false, Prod.mk.injEq] at h1; unfold It.Sz maxLen
      rcases h1 with ⟨_, e1, e2, e3⟩ | ⟨_, e1, e2, e3⟩ | ⟨_, e1, e2, e3⟩ | ⟨_, e1, e2, e3⟩ | ⟨_, e1, e2, e3⟩ <;> (rw [e1, e2, e3]; decide)
    have HFD := Lib.hid (fold_any p c G q1 q2 (by omega) (fun g hg => (hcore g hg).1) (fun g hg => (hcore g hg).2) w1 q4 (fun g hg => (hIT g hg).1)); have hfe := foldG_core G X0 fs0 0 hG; rw [fold_X0] at hfe; have HFE := Lib.hid hfe; rw [hl] at HFD; rw [hl]; clear HP hG hown hIT hcore hfe q4
    go_wp2_with fail
    refine HFD.out.mono ?_; intro e w2 hp2; unfold FoldPost at hp2; rw [HFE.out] at hp2; obtain ⟨LF, fp, fc, zp, zc, G2, ap, ac, rfl, h1, h2, h3, h4, h5, h6, h7, hb2⟩ := hp2; dsimp only at h1 h2 h3 h5; have hl1 : LF.length = 1 := by have := congrArg List.length h1; simpa using this
    have hl2 : G2.length = 1 := by have := congrArg List.length h2; simpa using this
    obtain ⟨f, rfl⟩ : ∃ f, LF = [f] := by
      match LF, hl1 with
      | [f], _ => exact ⟨f, rfl⟩
    simp only [List.map_cons, List.map_nil, Fc.tell, List.cons.injEq, and_true, Prod.mk.injEq] at h1; have hr1 : f.rs.length = 1 := by
      have := congrArg List.length h1.1
      simpa [Fc.rings] using this
    have ha1 : f.ls.length = 1 := by rw [h1.2]; rfl
    have hbw := hb1.trans (hb2.mono hb1.size); have hrd := Rd.of_owns h3; obtain ⟨fb, fo, rfl, hfb, cr, ca⟩ := hrd.fc 0 (by simp); simp only [List.getElem_cons_zero, Nat.zero_mul, Nat.add_zero, Fc.rval, Fc.aval, hr1, ha1] at cr ca; rw [hl2]; simp only [List.length_cons, List.length_nil, Nat.zero_add]; have hbx := Below.new w2 (.cells #[.slice (some ⟨fb, fo, none⟩) 1 fc, .int .i64 5, .int .i64 0, .slice zp 0 zc] 27); obtain ⟨B, hB⟩ : ∃ B, w2.heap.size = B := ⟨_, rfl⟩; have bB := Blk.lit w2 B [.slice (some ⟨fb, fo, none⟩) 1 fc, .int .i64 5, .int .i64 0, .slice zp 0 zc] 27 hB; have e0 := bB.cell 0 rfl; have e1 := bB.cell 1 rfl; have e2 := (hbx.cell (p := ⟨fb, fo, none⟩) hfb).trans cr; have e3 := (hbx.cell (p := ⟨fb, fo + 1, none⟩) hfb).trans ca; have hbz := hbw.trans (hbx.mono hbw.size); clear HFD HFE h1 h2 h3 h4 h5 h6 h7 hrd cr ca hbx hbw hb1 hb2; go_wp2; go_ret; exact ⟨rfl, hbz⟩
  · exact absurd rfl h
end Go.Proofs.YtkfgbjjelcigcaaGreatDoor
/- The document's faces in memory. -/
set_option linter.unusedVariables false
set_option linter.unusedSimpArgs false
set_option maxRecDepth 100000
namespace Go.Proofs.YtkfgbjjelcigcaaGreatDoor
open Go.RowKit
def PrT (W : World) (x : PC) : Prop := x.Ok W ∧ TypB W x.p 77
def RfT (W : World) (f : Fc) : Prop := f.Ok W ∧ TypB W f.ra 76 ∧ (∀ r ∈ f.rs, PrT W r) ∧ TypB W f.aa 79
def refS (T : TypeId) : Prop := T = 77 ∨ T = 76 ∨ T = 79
theorem PrT.keepS {S : TypeId → Prop} {A B : World} {x : PC} (h : PrT A x) (hS : S 77) (k : KeepS S A B) : PrT B x :=
  ⟨⟨h.1.1.keepS h.2 hS k, h.1.2⟩, h.2.keepS hS k⟩
theorem RfT.keepS {A B : World} {f : Fc} (h : RfT A f) (k : KeepS refS A B) : RfT B f := by
  obtain ⟨⟨h1, h2, h3⟩, t1, t2, t3⟩ := h; exact ⟨⟨⟨h1.1.keepS t1 (.inr (.inl rfl)) k, h1.2⟩, fun r hr => ((t2 r hr).keepS (.inl rfl) k).1, ⟨h3.1.keepS t3 (.inr (.inr rfl)) k, h3.2⟩⟩, t1.keepS (.inr (.inl rfl)) k, fun r hr => (t2 r hr).keepS (.inl rfl) k, t3.keepS (.inr (.inr rfl)) k⟩
theorem RfT.keep {A B : World} {f : Fc} (h : RfT A f) (hb : Below A.heap.size A B) : RfT B f := h.keepS (KeepS.of_below hb)
theorem PrT.keep {A B : World} {f : PC} (h : PrT A f) (hb : Below A.heap.size A B) : PrT B f := h.keepS (S := refS) (.inl rfl) (KeepS.of_below hb)
theorem refS_face : ¬ refS 75 := by unfold refS; decide
theorem Tryz.infoRA : (Tryz.prog.info? 79).map (fun i => (i.zero, i.size, i.bytes)) = some (some (.agg #[.string ⟨#[]⟩, .int .i64 0, .string ⟨#[]⟩, .int .i64 0]), 4, 48) := by kernel_rfl
theorem Tryz.infoRF : (Tryz.prog.info? 75).map (fun i => (i.zero, i.size, i.bytes)) = some (some (.agg #[.slice none 0 0, .slice none 0 0]), 2, 48) := by kernel_rfl
theorem Tryz.infoRR : (Tryz.prog.info? 76).map (fun i => (i.zero, i.size, i.bytes)) = some (some (.slice none 0 0), 1, 24) := by kernel_rfl
end Go.Proofs.YtkfgbjjelcigcaaGreatDoor
/- graticuleref09.First. -/
set_option linter.unusedVariables false
set_option linter.unusedSimpArgs false
set_option maxRecDepth 100000
namespace Go.Proofs.YtkfgbjjelcigcaaGreatDoor
open Go.RowKit

set_option maxHeartbeats 3200000 in
theorem first_any (t : ByteArray) (ht : t.size ≤ maxLen) (w : World) :
    Calls Tryz.prog 65 #[.string t] w fun e w' => e = .returned (.tuple #[.int .i64 ((firstT t).1 : Nat), .int .i64 ((firstT t).2 : Nat)]) ∧ w' = w := by
  have hF : Hid (firstT t = if t.size = 0 then (0, 0) else firstF t 0) := Lib.hid rfl; generalize firstT t = R at *; obtain ⟨R1, R2⟩ := R; dsimp only
  go_enter Tryz.func65, Tryz.ntmps65
  by_cases h0 : t.size = 0
  · have hR := hF.out; rw [if_pos h0] at hR
    cases hR
    clear hF; go_wp2; refine bodyPost_ret (v := .tuple #[.int .i64 0, .int .i64 0]) (by simp [results, Tryz.results65, go_sem]) rfl ⟨rfl, rfl⟩
  · have hpos : 0 < t.size := by omega
    have hsn : ((t.size : Int) == 0) = false := by rw [beq_eq_false_iff_ne]; omega
    have hF : Hid ((R1, R2) = firstF t 0) := Lib.hid (by have := hF.out; rwa [if_neg h0] at this); have hg0 := byt_get hpos; have hb0 := byt_lt t 0; have HZ : Hid (firstF t 0 = (0, 0) → R1 = 0 ∧ R2 = 0) := Lib.hid (fun h => by have := hF.out; rw [h] at this; cases this; exact ⟨rfl, rfl⟩)
    by_cases c1 : byt t 0 < 128
    · have hR := hF.out; rw [first_one c1] at hR
      cases hR
      generalize byt t 0 = c at *; clear hF HZ; go_wp2; refine bodyPost_ret (v := .tuple #[.int .i64 (c : Int), .int .i64 1]) (by simp [results, Tryz.results65, go_sem]) rfl ⟨rfl, rfl⟩
    · by_cases c0 : ¬ (192 ≤ byt t 0 ∧ byt t 0 < 248)
      · obtain ⟨rfl, rfl⟩ := HZ.out (first_none (by omega) c0); clear hF HZ; generalize byt t 0 = c at *
        by_cases c5 : c < 192
        · have d1 : ¬ (c : Int) < 128 := by omega
          have d2 : ¬ 192 ≤ (c : Int) := by omega
          have d3 : ¬ 224 ≤ (c : Int) := by omega
          have d4 : ¬ 240 ≤ (c : Int) := by omega
          clear c0; go_wp2; refine bodyPost_ret (v := .tuple #[.int .i64 0, .int .i64 0]) (by simp [results, Tryz.results65, go_sem]) rfl ⟨rfl, rfl⟩
        · have d1 : ¬ (c : Int) < 128 := by omega
          have d2 : ¬ (c : Int) < 224 := by omega
          have d3 : ¬ (c : Int) < 240 := by omega
          have d4 : ¬ (c : Int) < 248 := by omega
          clear c0; go_wp2; refine bodyPost_ret (v := .tuple #[.int .i64 0, .int .i64 0]) (by simp [results, Tryz.results65, go_sem]) rfl ⟨rfl, rfl⟩
      · have c0 : 192 ≤ byt t 0 ∧ byt t 0 < 248 := by omega
        by_cases c2 : byt t 0 < 224
        · have HA := Lib.hid (fun h => first_all2 (t := t) (by omega) (by omega) h); have HC := Lib.hid (fun h => HZ.out (first_cut2 (t := t) (by omega) (by omega) h)); have HN : Hid (∀ k, ¬ cont t k = true ↔ ¬ (k < t.size ∧ 128 ≤ byt t k ∧ byt t k < 192)) := Lib.hid (fun k => not_congr (cont_iff t k)); have HY : Hid (∀ k, cont t k = true ↔ (k < t.size ∧ 128 ≤ byt t k ∧ byt t k < 192)) := Lib.hid (fun k => cont_iff t k); obtain ⟨P, hP⟩ : ∃ P, partR t (byt t 0 - 192) = P := ⟨_, rfl⟩; rw [hP] at HA; have HP0 : Hid (((P 0 : Nat) : Int) = (byt t 0 : Int) - 192) := Lib.hid (by rw [← hP]; show ((byt t 0 - 192 : Nat) : Int) = _; omega); have HP1 : Hid (∀ k, P (k + 1) = 64 * P k + byt t (k + 1) - 128) := Lib.hid (fun k => by rw [← hP]; rfl); clear hP HZ; generalize byt t 0 = c at *; have d0 : ¬ (c : Int) < 128 := by omega
          have d1 : 192 ≤ (c : Int) := by omega
          have d2 : (c : Int) < 224 := by omega
          have d3 : ¬ 224 ≤ (c : Int) := by omega
          have d4 : ¬ 240 ≤ (c : Int) := by omega
          have wb : IntKind.i64.wrap ((c : Int) - 192) = (P 0 : Int) := by rw [HP0.out]; exact IntWalk.i64_in _ (by omega)
          have hP0 : (P 0 : Nat) < 32 := by have := HP0.out; omega
          clear HP0 c0 c1
          by_cases hsz : t.size < 2
          · have hszi : (t.size : Int) < 2 := by omega
            obtain ⟨rfl, rfl⟩ := HC.out (by
              intro hh; have h9 := (HY.out 1).1 hh; omega)
            clear hF HA HC HN HY HP1; go_wp2; refine bodyPost_ret (v := .tuple #[.int .i64 0, .int .i64 0]) (by simp [results, Tryz.results65, go_sem]) rfl ⟨rfl, rfl⟩
          · have hszi : ¬ (t.size : Int) < 2 := by omega
            go_wp2
            go_loopw [6, 8] (fun r i wr => ∃ k : Nat, wr = w ∧ k < 2 ∧ r = .int .i64 (P k : Int) ∧ i = .int .i64 ((k : Int) + 1) ∧ Hid (∀ j, 1 ≤ j → j ≤ k → cont t j = true) ∧ P k < 32 * 64 ^ k) (fun _ i _ => 2 - (intOf i).toNat)
            case atStart => exact ⟨0, rfl, by omega, rfl, rfl, Lib.hid (fun j h1 h2 => by omega), hP0⟩
            case round =>
              obtain ⟨k, rfl, hk, rfl, rfl, HJ, hPk⟩ := hrel; obtain rfl | rfl : k = 0 ∨ k = 1 := by omega
              · have hkl : 1 < t.size := by omega
                have hgk := byt_get hkl; have hbk := byt_lt t 1; have hPk : P 0 < 32 := hPk; have HK := HY.out 1; have HQ : P 1 = 64 * P 0 + byt t 1 - 128 := HP1.out 0; have hgi : (1 : Int) < (t.size : Int) := by omega
                generalize byt t 1 = q at *; have HW : Hid (∀ h : cont t 1 = true, 128 ≤ q ∧ q < 192) := Lib.hid (fun h => (HK.1 h).2)
                by_cases e1 : q < 128
                · have f1 : (q : Int) < 128 := by omega
                  obtain ⟨rfl, rfl⟩ := HC.out (by intro hh; have h9 := HW.out hh; omega); clear hF HA HC HN HY HP1 HK HQ HJ HW; go_wp2; refine bodyPost_ret (v := .tuple #[.int .i64 0, .int .i64 0]) (by simp [results, Tryz.results65, go_sem]) rfl ⟨rfl, rfl⟩
                · by_cases e2 : 192 ≤ q
                  · have f1 : ¬ (q : Int) < 128 := by omega
                    have f2 : 192 ≤ (q : Int) := by omega
                    obtain ⟨rfl, rfl⟩ := HC.out (by intro hh; have h9 := HW.out hh; omega); clear hF HA HC HN HY HP1 HK HQ HJ HW; go_wp2; refine bodyPost_ret (v := .tuple #[.int .i64 0, .int .i64 0]) (by simp [results, Tryz.results65, go_sem]) rfl ⟨rfl, rfl⟩
                  · have f1 : ¬ (q : Int) < 128 := by omega
                    have f2 : ¬ 192 ≤ (q : Int) := by omega
                    have hck : cont t 1 = true := HK.2 ⟨hkl, by omega, by omega⟩; obtain ⟨Q0, hQ0⟩ : ∃ Q, P 0 = Q := ⟨_, rfl⟩; rw [hQ0] at HQ hPk; have v1 : IntKind.i64.wrap (64 * (Q0 : Int)) = 64 * (Q0 : Int) := IntWalk.i64_in _ (by omega); have v2 : IntKind.i64.wrap (64 * (Q0 : Int) + (q : Int)) = 64 * (Q0 : Int) + (q : Int) := IntWalk.i64_in _ (by omega); have v3 : IntKind.i64.wrap (64 * (Q0 : Int) + (q : Int) - 128) = (P 1 : Int) := by
                      rw [HQ, IntWalk.i64_in _ (by omega)]; omega
                    have hPn : P 1 < 32 * 64 ^ 1 := by
                      have : P 1 < 2048 := by rw [HQ]; omega
                      exact this
                    have HJ2 : Hid (∀ j, 1 ≤ j → j ≤ 1 → cont t j = true) := Lib.hid (fun j h1 h2 => by
                      by_cases h : j = 1
                      · rw [h]; exact hck
                      · exact HJ.out j h1 (by omega))
                    clear hF HA HC HN HY HP1 HK HQ HJ HW hck; go_wp2; go_roundw
                    case rel => exact ⟨1, by simp, by omega, rfl, rfl, HJ2, hPn⟩
                    case measure => simp [intOf]
              · have hPk : P 1 < 2048 := hPk; have hA := HA.out (HJ.out 1 (by omega) (by omega)); have hFF := hF.out; rw [hA] at hFF; obtain ⟨M, hM⟩ : ∃ M, P 1 = M := ⟨_, rfl⟩; rw [hM] at hFF hPk ⊢; have HFF := Lib.hid hFF; clear hA hFF hF HA HC HN HY HP1 HJ hM; have gi : ¬ ((1 : Int) + 1 < 2) := by decide
                by_cases g1 : M < 128
                · have i1 : (M : Int) < 128 := by omega
                  have hz := HFF.out; rw [if_neg (by omega)] at hz
                  cases hz
                  clear HFF; go_wp2; refine bodyPost_ret (v := .tuple #[.int .i64 0, .int .i64 0]) (by simp [results, Tryz.results65, go_sem]) rfl ⟨rfl, rfl⟩
                · have i1 : ¬ (M : Int) < 128 := by omega
                  by_cases g2 : 1114111 < M
                  · have i2 : 1114111 < (M : Int) := by omega
                    have hz := HFF.out; rw [if_neg (by omega)] at hz
                    cases hz
                    clear HFF; go_wp2; refine bodyPost_ret (v := .tuple #[.int .i64 0, .int .i64 0]) (by simp [results, Tryz.results65, go_sem]) rfl ⟨rfl, rfl⟩
                  · have i2 : ¬ 1114111 < (M : Int) := by omega
                    by_cases g3 : 55296 ≤ M
                    · have i3 : 55296 ≤ (M : Int) := by omega
                      by_cases g4 : M ≤ 57343
                      · have i4 : (M : Int) ≤ 57343 := by omega
                        have hz := HFF.out; rw [if_neg (by omega)] at hz
                        cases hz
                        clear HFF; go_wp2; refine bodyPost_ret (v := .tuple #[.int .i64 0, .int .i64 0]) (by simp [results, Tryz.results65, go_sem]) rfl ⟨rfl, rfl⟩
                      · have i4 : ¬ (M : Int) ≤ 57343 := by omega
                        have hz := HFF.out; rw [if_pos (by omega)] at hz
                        cases hz
                        clear HFF; go_wp2; refine bodyPost_ret (v := .tuple #[.int .i64 (R1 : Int), .int .i64 2]) (by simp [results, Tryz.results65, go_sem]) rfl ⟨rfl, rfl⟩
                    · have i3 : ¬ 55296 ≤ (M : Int) := by omega
                      have hz := HFF.out; rw [if_pos (by omega)] at hz
                      cases hz
                      clear HFF; go_wp2; refine bodyPost_ret (v := .tuple #[.int .i64 (R1 : Int), .int .i64 2]) (by simp [results, Tryz.results65, go_sem]) rfl ⟨rfl, rfl⟩
        · by_cases c3 : byt t 0 < 240
          · have HA := Lib.hid (fun h => first_all3 (t := t) (by omega) (by omega) h); have HC := Lib.hid (fun h => HZ.out (first_cut3 (t := t) (by omega) (by omega) h)); have HN : Hid (∀ k, ¬ cont t k = true ↔ ¬ (k < t.size ∧ 128 ≤ byt t k ∧ byt t k < 192)) := Lib.hid (fun k => not_congr (cont_iff t k)); have HY : Hid (∀ k, cont t k = true ↔ (k < t.size ∧ 128 ≤ byt t k ∧ byt t k < 192)) := Lib.hid (fun k => cont_iff t k); obtain ⟨P, hP⟩ : ∃ P, partR t (byt t 0 - 224) = P := ⟨_, rfl⟩; rw [hP] at HA; have HP0 : Hid (((P 0 : Nat) : Int) = (byt t 0 : Int) - 224) := Lib.hid (by rw [← hP]; show ((byt t 0 - 224 : Nat) : Int) = _; omega); have HP1 : Hid (∀ k, P (k + 1) = 64 * P k + byt t (k + 1) - 128) := Lib.hid (fun k => by rw [← hP]; rfl); clear hP HZ; generalize byt t 0 = c at *; have d0 : ¬ (c : Int) < 128 := by omega
            have d1 : 192 ≤ (c : Int) := by omega
            have d2 : ¬ (c : Int) < 224 := by omega
            have d3 : 224 ≤ (c : Int) := by omega
            have d4 : (c : Int) < 240 := by omega
            have d5 : ¬ 240 ≤ (c : Int) := by omega
            have wb : IntKind.i64.wrap ((c : Int) - 224) = (P 0 : Int) := by rw [HP0.out]; exact IntWalk.i64_in _ (by omega)
            have hP0 : (P 0 : Nat) < 32 := by have := HP0.out; omega
            clear HP0 c0 c1
            by_cases hsz : t.size < 3
            · have hszi : (t.size : Int) < 3 := by omega
              obtain ⟨rfl, rfl⟩ := HC.out (by
                intro hh; have h9 := (HY.out 2).1 hh.2; omega)
              clear hF HA HC HN HY HP1; go_wp2; refine bodyPost_ret (v := .tuple #[.int .i64 0, .int .i64 0]) (by simp [results, Tryz.results65, go_sem]) rfl ⟨rfl, rfl⟩
            · have hszi : ¬ (t.size : Int) < 3 := by omega
              go_wp2
              go_loopw [6, 8] (fun r i wr => ∃ k : Nat, wr = w ∧ k < 3 ∧ r = .int .i64 (P k : Int) ∧ i = .int .i64 ((k : Int) + 1) ∧ Hid (∀ j, 1 ≤ j → j ≤ k → cont t j = true) ∧ P k < 32 * 64 ^ k) (fun _ i _ => 3 - (intOf i).toNat)
              case atStart => exact ⟨0, rfl, by omega, rfl, rfl, Lib.hid (fun j h1 h2 => by omega), hP0⟩
              case round =>
                obtain ⟨k, rfl, hk, rfl, rfl, HJ, hPk⟩ := hrel; obtain rfl | rfl | rfl : k = 0 ∨ k = 1 ∨ k = 2 := by omega
                · have hkl : 1 < t.size := by omega
                  have hgk := byt_get hkl; have hbk := byt_lt t 1; have hPk : P 0 < 32 := hPk; have HK := HY.out 1; have HQ : P 1 = 64 * P 0 + byt t 1 - 128 := HP1.out 0; have hgi : (1 : Int) < (t.size : Int) := by omega
                  generalize byt t 1 = q at *; have HW : Hid (∀ h : cont t 1 = true, 128 ≤ q ∧ q < 192) := Lib.hid (fun h => (HK.1 h).2)
                  by_cases e1 : q < 128
                  · have f1 : (q : Int) < 128 := by omega
                    obtain ⟨rfl, rfl⟩ := HC.out (by intro hh; have h9 := HW.out hh.1; omega); clear hF HA HC HN HY HP1 HK HQ HJ HW; go_wp2; refine bodyPost_ret (v := .tuple #[.int .i64 0, .int .i64 0]) (by simp [results, Tryz.results65, go_sem]) rfl ⟨rfl, rfl⟩
                  · by_cases e2 : 192 ≤ q
                    · have f1 : ¬ (q : Int) < 128 := by omega
                      have f2 : 192 ≤ (q : Int) := by omega
                      obtain ⟨rfl, rfl⟩ := HC.out (by intro hh; have h9 := HW.out hh.1; omega); clear hF HA HC HN HY HP1 HK HQ HJ HW; go_wp2; refine bodyPost_ret (v := .tuple #[.int .i64 0, .int .i64 0]) (by simp [results, Tryz.results65, go_sem]) rfl ⟨rfl, rfl⟩
                    · have f1 : ¬ (q : Int) < 128 := by omega
                      have f2 : ¬ 192 ≤ (q : Int) := by omega
                      have hck : cont t 1 = true := HK.2 ⟨hkl, by omega, by omega⟩; obtain ⟨Q0, hQ0⟩ : ∃ Q, P 0 = Q := ⟨_, rfl⟩; rw [hQ0] at HQ hPk; have v1 : IntKind.i64.wrap (64 * (Q0 : Int)) = 64 * (Q0 : Int) := IntWalk.i64_in _ (by omega); have v2 : IntKind.i64.wrap (64 * (Q0 : Int) + (q : Int)) = 64 * (Q0 : Int) + (q : Int) := IntWalk.i64_in _ (by omega); have v3 : IntKind.i64.wrap (64 * (Q0 : Int) + (q : Int) - 128) = (P 1 : Int) := by
                        rw [HQ, IntWalk.i64_in _ (by omega)]; omega
                      have hPn : P 1 < 32 * 64 ^ 1 := by
                        have : P 1 < 2048 := by rw [HQ]; omega
                        exact this
                      have HJ2 : Hid (∀ j, 1 ≤ j → j ≤ 1 → cont t j = true) := Lib.hid (fun j h1 h2 => by
                        by_cases h : j = 1
                        · rw [h]; exact hck
                        · exact HJ.out j h1 (by omega))
                      clear hF HA HC HN HY HP1 HK HQ HJ HW hck; go_wp2; go_roundw
                      case rel => exact ⟨1, by simp, by omega, rfl, rfl, HJ2, hPn⟩
                      case measure => simp [intOf]
                · have hkl : 2 < t.size := by omega
                  have hgk := byt_get hkl; have hbk := byt_lt t 2; have hPk : P 1 < 2048 := hPk; have HK := HY.out 2; have HQ : P 2 = 64 * P 1 + byt t 2 - 128 := HP1.out 1; have hgi : (2 : Int) < (t.size : Int) := by omega
                  generalize byt t 2 = q at *; have HW : Hid (∀ h : cont t 2 = true, 128 ≤ q ∧ q < 192) := Lib.hid (fun h => (HK.1 h).2)
                  by_cases e1 : q < 128
                  · have f1 : (q : Int) < 128 := by omega
                    obtain ⟨rfl, rfl⟩ := HC.out (by intro hh; have h9 := HW.out hh.2; omega); clear hF HA HC HN HY HP1 HK HQ HJ HW; go_wp2; refine bodyPost_ret (v := .tuple #[.int .i64 0, .int .i64 0]) (by simp [results, Tryz.results65, go_sem]) rfl ⟨rfl, rfl⟩
                  · by_cases e2 : 192 ≤ q
                    · have f1 : ¬ (q : Int) < 128 := by omega
                      have f2 : 192 ≤ (q : Int) := by omega
                      obtain ⟨rfl, rfl⟩ := HC.out (by intro hh; have h9 := HW.out hh.2; omega); clear hF HA HC HN HY HP1 HK HQ HJ HW; go_wp2; refine bodyPost_ret (v := .tuple #[.int .i64 0, .int .i64 0]) (by simp [results, Tryz.results65, go_sem]) rfl ⟨rfl, rfl⟩
                    · have f1 : ¬ (q : Int) < 128 := by omega
                      have f2 : ¬ 192 ≤ (q : Int) := by omega
                      have hck : cont t 2 = true := HK.2 ⟨hkl, by omega, by omega⟩; obtain ⟨Q0, hQ0⟩ : ∃ Q, P 1 = Q := ⟨_, rfl⟩; rw [hQ0] at HQ hPk; have v1 : IntKind.i64.wrap (64 * (Q0 : Int)) = 64 * (Q0 : Int) := IntWalk.i64_in _ (by omega); have v2 : IntKind.i64.wrap (64 * (Q0 : Int) + (q : Int)) = 64 * (Q0 : Int) + (q : Int) := IntWalk.i64_in _ (by omega); have v3 : IntKind.i64.wrap (64 * (Q0 : Int) + (q : Int) - 128) = (P 2 : Int) := by
                        rw [HQ, IntWalk.i64_in _ (by omega)]; omega
                      have hPn : P 2 < 32 * 64 ^ 2 := by
                        have : P 2 < 131072 := by rw [HQ]; omega
                        exact this
                      have HJ2 : Hid (∀ j, 1 ≤ j → j ≤ 2 → cont t j = true) := Lib.hid (fun j h1 h2 => by
                        by_cases h : j = 2
                        · rw [h]; exact hck
                        · exact HJ.out j h1 (by omega))
                      clear hF HA HC HN HY HP1 HK HQ HJ HW hck; go_wp2; go_roundw
                      case rel => exact ⟨2, by simp, by omega, rfl, rfl, HJ2, hPn⟩
                      case measure => simp [intOf]
                · have hPk : P 2 < 131072 := hPk; have hA := HA.out ⟨HJ.out 1 (by omega) (by omega), HJ.out 2 (by omega) (by omega)⟩; have hFF := hF.out; rw [hA] at hFF; obtain ⟨M, hM⟩ : ∃ M, P 2 = M := ⟨_, rfl⟩; rw [hM] at hFF hPk ⊢; have HFF := Lib.hid hFF; clear hA hFF hF HA HC HN HY HP1 HJ hM; have gi : ¬ ((2 : Int) + 1 < 3) := by decide
                  by_cases g1 : M < 2048
                  · have i1 : (M : Int) < 2048 := by omega
                    have hz := HFF.out; rw [if_neg (by omega)] at hz
                    cases hz
                    clear HFF; go_wp2; refine bodyPost_ret (v := .tuple #[.int .i64 0, .int .i64 0]) (by simp [results, Tryz.results65, go_sem]) rfl ⟨rfl, rfl⟩
                  · have i1 : ¬ (M : Int) < 2048 := by omega
                    by_cases g2 : 1114111 < M
                    · have i2 : 1114111 < (M : Int) := by omega
                      have hz := HFF.out; rw [if_neg (by omega)] at hz
                      cases hz
                      clear HFF; go_wp2; refine bodyPost_ret (v := .tuple #[.int .i64 0, .int .i64 0]) (by simp [results, Tryz.results65, go_sem]) rfl ⟨rfl, rfl⟩
                    · have i2 : ¬ 1114111 < (M : Int) := by omega
                      by_cases g3 : 55296 ≤ M
                      · have i3 : 55296 ≤ (M : Int) := by omega
                        by_cases g4 : M ≤ 57343
                        · have i4 : (M : Int) ≤ 57343 := by omega
                          have hz := HFF.out; rw [if_neg (by omega)] at hz
                          cases hz
                          clear HFF; go_wp2; refine bodyPost_ret (v := .tuple #[.int .i64 0, .int .i64 0]) (by simp [results, Tryz.results65, go_sem]) rfl ⟨rfl, rfl⟩
                        · have i4 : ¬ (M : Int) ≤ 57343 := by omega
                          have hz := HFF.out; rw [if_pos (by omega)] at hz
                          cases hz
                          clear HFF; go_wp2; refine bodyPost_ret (v := .tuple #[.int .i64 (R1 : Int), .int .i64 3]) (by simp [results, Tryz.results65, go_sem]) rfl ⟨rfl, rfl⟩
                      · have i3 : ¬ 55296 ≤ (M : Int) := by omega
                        have hz := HFF.out; rw [if_pos (by omega)] at hz
                        cases hz
                        clear HFF; go_wp2; refine bodyPost_ret (v := .tuple #[.int .i64 (R1 : Int), .int .i64 3]) (by simp [results, Tryz.results65, go_sem]) rfl ⟨rfl, rfl⟩
          · have HA := Lib.hid (fun h => first_all4 (t := t) (by omega) (by omega) h); have HC := Lib.hid (fun h => HZ.out (first_cut4 (t := t) (by omega) (by omega) h)); have HN : Hid (∀ k, ¬ cont t k = true ↔ ¬ (k < t.size ∧ 128 ≤ byt t k ∧ byt t k < 192)) := Lib.hid (fun k => not_congr (cont_iff t k)); have HY : Hid (∀ k, cont t k = true ↔ (k < t.size ∧ 128 ≤ byt t k ∧ byt t k < 192)) := Lib.hid (fun k => cont_iff t k); obtain ⟨P, hP⟩ : ∃ P, partR t (byt t 0 - 240) = P := ⟨_, rfl⟩; rw [hP] at HA; have HP0 : Hid (((P 0 : Nat) : Int) = (byt t 0 : Int) - 240) := Lib.hid (by rw [← hP]; show ((byt t 0 - 240 : Nat) : Int) = _; omega); have HP1 : Hid (∀ k, P (k + 1) = 64 * P k + byt t (k + 1) - 128) := Lib.hid (fun k => by rw [← hP]; rfl); clear hP HZ; generalize byt t 0 = c at *; have d0 : ¬ (c : Int) < 128 := by omega
            have d1 : 192 ≤ (c : Int) := by omega
            have d2 : ¬ (c : Int) < 224 := by omega
            have d3 : 224 ≤ (c : Int) := by omega
            have d4 : ¬ (c : Int) < 240 := by omega
            have d5 : 240 ≤ (c : Int) := by omega
            have d6 : (c : Int) < 248 := by omega
            have wb : IntKind.i64.wrap ((c : Int) - 240) = (P 0 : Int) := by rw [HP0.out]; exact IntWalk.i64_in _ (by omega)
            have hP0 : (P 0 : Nat) < 32 := by have := HP0.out; omega
            clear HP0 c0 c1
            by_cases hsz : t.size < 4
            · have hszi : (t.size : Int) < 4 := by omega
              obtain ⟨rfl, rfl⟩ := HC.out (by
                intro hh; have h9 := (HY.out 3).1 hh.2.2; omega)
              clear hF HA HC HN HY HP1; go_wp2; refine bodyPost_ret (v := .tuple #[.int .i64 0, .int .i64 0]) (by simp [results, Tryz.results65, go_sem]) rfl ⟨rfl, rfl⟩
            · have hszi : ¬ (t.size : Int) < 4 := by omega
              go_wp2
              go_loopw [6, 8] (fun r i wr => ∃ k : Nat, wr = w ∧ k < 4 ∧ r = .int .i64 (P k : Int) ∧ i = .int .i64 ((k : Int) + 1) ∧ Hid (∀ j, 1 ≤ j → j ≤ k → cont t j = true) ∧ P k < 32 * 64 ^ k) (fun _ i _ => 4 - (intOf i).toNat)
              case atStart => exact ⟨0, rfl, by omega, rfl, rfl, Lib.hid (fun j h1 h2 => by omega), hP0⟩
              case round =>
                obtain ⟨k, rfl, hk, rfl, rfl, HJ, hPk⟩ := hrel; obtain rfl | rfl | rfl | rfl : k = 0 ∨ k = 1 ∨ k = 2 ∨ k = 3 := by omega
                · have hkl : 1 < t.size := by omega
                  have hgk := byt_get hkl; have hbk := byt_lt t 1; have hPk : P 0 < 32 := hPk; have HK := HY.out 1; have HQ : P 1 = 64 * P 0 + byt t 1 - 128 := HP1.out 0; have hgi : (1 : Int) < (t.size : Int) := by omega
                  generalize byt t 1 = q at *; have HW : Hid (∀ h : cont t 1 = true, 128 ≤ q ∧ q < 192) := Lib.hid (fun h => (HK.1 h).2)
                  by_cases e1 : q < 128
                  · have f1 : (q : Int) < 128 := by omega
                    obtain ⟨rfl, rfl⟩ := HC.out (by intro hh; have h9 := HW.out hh.1; omega); clear hF HA HC HN HY HP1 HK HQ HJ HW; go_wp2; refine bodyPost_ret (v := .tuple #[.int .i64 0, .int .i64 0]) (by simp [results, Tryz.results65, go_sem]) rfl ⟨rfl, rfl⟩
                  · by_cases e2 : 192 ≤ q
                    · have f1 : ¬ (q : Int) < 128 := by omega
                      have f2 : 192 ≤ (q : Int) := by omega
                      obtain ⟨rfl, rfl⟩ := HC.out (by intro hh; have h9 := HW.out hh.1; omega); clear hF HA HC HN HY HP1 HK HQ HJ HW; go_wp2; refine bodyPost_ret (v := .tuple #[.int .i64 0, .int .i64 0]) (by simp [results, Tryz.results65, go_sem]) rfl ⟨rfl, rfl⟩
                    · have f1 : ¬ (q : Int) < 128 := by omega
                      have f2 : ¬ 192 ≤ (q : Int) := by omega
                      have hck : cont t 1 = true := HK.2 ⟨hkl, by omega, by omega⟩; obtain ⟨Q0, hQ0⟩ : ∃ Q, P 0 = Q := ⟨_, rfl⟩; rw [hQ0] at HQ hPk; have v1 : IntKind.i64.wrap (64 * (Q0 : Int)) = 64 * (Q0 : Int) := IntWalk.i64_in _ (by omega); have v2 : IntKind.i64.wrap (64 * (Q0 : Int) + (q : Int)) = 64 * (Q0 : Int) + (q : Int) := IntWalk.i64_in _ (by omega); have v3 : IntKind.i64.wrap (64 * (Q0 : Int) + (q : Int) - 128) = (P 1 : Int) := by
                        rw [HQ, IntWalk.i64_in _ (by omega)]; omega
                      have hPn : P 1 < 32 * 64 ^ 1 := by
                        have : P 1 < 2048 := by rw [HQ]; omega
                        exact this
                      have HJ2 : Hid (∀ j, 1 ≤ j → j ≤ 1 → cont t j = true) := Lib.hid (fun j h1 h2 => by
                        by_cases h : j = 1
                        · rw [h]; exact hck
                        · exact HJ.out j h1 (by omega))
                      clear hF HA HC HN HY HP1 HK HQ HJ HW hck; go_wp2; go_roundw
                      case rel => exact ⟨1, by simp, by omega, rfl, rfl, HJ2, hPn⟩
                      case measure => simp [intOf]
                · have hkl : 2 < t.size := by omega
                  have hgk := byt_get hkl; have hbk := byt_lt t 2; have hPk : P 1 < 2048 := hPk; have HK := HY.out 2; have HQ : P 2 = 64 * P 1 + byt t 2 - 128 := HP1.out 1; have hgi : (2 : Int) < (t.size : Int) := by omega
                  generalize byt t 2 = q at *; have HW : Hid (∀ h : cont t 2 = true, 128 ≤ q ∧ q < 192) := Lib.hid (fun h => (HK.1 h).2)
                  by_cases e1 : q < 128
                  · have f1 : (q : Int) < 128 := by omega
                    obtain ⟨rfl, rfl⟩ := HC.out (by intro hh; have h9 := HW.out hh.2.1; omega); clear hF HA HC HN HY HP1 HK HQ HJ HW; go_wp2; refine bodyPost_ret (v := .tuple #[.int .i64 0, .int .i64 0]) (by simp [results, Tryz.results65, go_sem]) rfl ⟨rfl, rfl⟩
                  · by_cases e2 : 192 ≤ q
                    · have f1 : ¬ (q : Int) < 128 := by omega
                      have f2 : 192 ≤ (q : Int) := by omega
                      obtain ⟨rfl, rfl⟩ := HC.out (by intro hh; have h9 := HW.out hh.2.1; omega); clear hF HA HC HN HY HP1 HK HQ HJ HW; go_wp2; refine bodyPost_ret (v := .tuple #[.int .i64 0, .int .i64 0]) (by simp [results, Tryz.results65, go_sem]) rfl ⟨rfl, rfl⟩
                    · have f1 : ¬ (q : Int) < 128 := by omega
                      have f2 : ¬ 192 ≤ (q : Int) := by omega
                      have hck : cont t 2 = true := HK.2 ⟨hkl, by omega, by omega⟩; obtain ⟨Q0, hQ0⟩ : ∃ Q, P 1 = Q := ⟨_, rfl⟩; rw [hQ0] at HQ hPk; have v1 : IntKind.i64.wrap (64 * (Q0 : Int)) = 64 * (Q0 : Int) := IntWalk.i64_in _ (by omega); have v2 : IntKind.i64.wrap (64 * (Q0 : Int) + (q : Int)) = 64 * (Q0 : Int) + (q : Int) := IntWalk.i64_in _ (by omega); have v3 : IntKind.i64.wrap (64 * (Q0 : Int) + (q : Int) - 128) = (P 2 : Int) := by
                        rw [HQ, IntWalk.i64_in _ (by omega)]; omega
                      have hPn : P 2 < 32 * 64 ^ 2 := by
                        have : P 2 < 131072 := by rw [HQ]; omega
                        exact this
                      have HJ2 : Hid (∀ j, 1 ≤ j → j ≤ 2 → cont t j = true) := Lib.hid (fun j h1 h2 => by
                        by_cases h : j = 2
                        · rw [h]; exact hck
                        · exact HJ.out j h1 (by omega))
                      clear hF HA HC HN HY HP1 HK HQ HJ HW hck; go_wp2; go_roundw
                      case rel => exact ⟨2, by simp, by omega, rfl, rfl, HJ2, hPn⟩
                      case measure => simp [intOf]
                · have hkl : 3 < t.size := by omega
                  have hgk := byt_get hkl; have hbk := byt_lt t 3; have hPk : P 2 < 131072 := hPk; have HK := HY.out 3; have HQ : P 3 = 64 * P 2 + byt t 3 - 128 := HP1.out 2; have hgi : (3 : Int) < (t.size : Int) := by omega
                  generalize byt t 3 = q at *; have HW : Hid (∀ h : cont t 3 = true, 128 ≤ q ∧ q < 192) := Lib.hid (fun h => (HK.1 h).2)
                  by_cases e1 : q < 128
                  · have f1 : (q : Int) < 128 := by omega
                    obtain ⟨rfl, rfl⟩ := HC.out (by intro hh; have h9 := HW.out hh.2.2; omega); clear hF HA HC HN HY HP1 HK HQ HJ HW; go_wp2; refine bodyPost_ret (v := .tuple #[.int .i64 0, .int .i64 0]) (by simp [results, Tryz.results65, go_sem]) rfl ⟨rfl, rfl⟩
                  · by_cases e2 : 192 ≤ q
                    · have f1 : ¬ (q : Int) < 128 := by omega
                      have f2 : 192 ≤ (q : Int) := by omega
                      obtain ⟨rfl, rfl⟩ := HC.out (by intro hh; have h9 := HW.out hh.2.2; omega); clear hF HA HC HN HY HP1 HK HQ HJ HW; go_wp2; refine bodyPost_ret (v := .tuple #[.int .i64 0, .int .i64 0]) (by simp [results, Tryz.results65, go_sem]) rfl ⟨rfl, rfl⟩
                    · have f1 : ¬ (q : Int) < 128 := by omega
                      have f2 : ¬ 192 ≤ (q : Int) := by omega
                      have hck : cont t 3 = true := HK.2 ⟨hkl, by omega, by omega⟩; obtain ⟨Q0, hQ0⟩ : ∃ Q, P 2 = Q := ⟨_, rfl⟩; rw [hQ0] at HQ hPk; have v1 : IntKind.i64.wrap (64 * (Q0 : Int)) = 64 * (Q0 : Int) := IntWalk.i64_in _ (by omega); have v2 : IntKind.i64.wrap (64 * (Q0 : Int) + (q : Int)) = 64 * (Q0 : Int) + (q : Int) := IntWalk.i64_in _ (by omega); have v3 : IntKind.i64.wrap (64 * (Q0 : Int) + (q : Int) - 128) = (P 3 : Int) := by
                        rw [HQ, IntWalk.i64_in _ (by omega)]; omega
                      have hPn : P 3 < 32 * 64 ^ 3 := by
                        have : P 3 < 8388608 := by rw [HQ]; omega
                        exact this
                      have HJ2 : Hid (∀ j, 1 ≤ j → j ≤ 3 → cont t j = true) := Lib.hid (fun j h1 h2 => by
                        by_cases h : j = 3
                        · rw [h]; exact hck
                        · exact HJ.out j h1 (by omega))
                      clear hF HA HC HN HY HP1 HK HQ HJ HW hck; go_wp2; go_roundw
                      case rel => exact ⟨3, by simp, by omega, rfl, rfl, HJ2, hPn⟩
                      case measure => simp [intOf]
                · have hPk : P 3 < 8388608 := hPk; have hA := HA.out ⟨HJ.out 1 (by omega) (by omega), HJ.out 2 (by omega) (by omega), HJ.out 3 (by omega) (by omega)⟩; have hFF := hF.out; rw [hA] at hFF; obtain ⟨M, hM⟩ : ∃ M, P 3 = M := ⟨_, rfl⟩; rw [hM] at hFF hPk ⊢; have HFF := Lib.hid hFF; clear hA hFF hF HA HC HN HY HP1 HJ hM; have gi : ¬ ((3 : Int) + 1 < 4) := by decide
                  by_cases g1 : M < 65536
                  · have i1 : (M : Int) < 65536 := by omega
                    have hz := HFF.out; rw [if_neg (by omega)] at hz
                    cases hz
                    clear HFF; go_wp2; refine bodyPost_ret (v := .tuple #[.int .i64 0, .int .i64 0]) (by simp [results, Tryz.results65, go_sem]) rfl ⟨rfl, rfl⟩
                  · have i1 : ¬ (M : Int) < 65536 := by omega
                    by_cases g2 : 1114111 < M
                    · have i2 : 1114111 < (M : Int) := by omega
                      have hz := HFF.out; rw [if_neg (by omega)] at hz
                      cases hz
                      clear HFF; go_wp2; refine bodyPost_ret (v := .tuple #[.int .i64 0, .int .i64 0]) (by simp [results, Tryz.results65, go_sem]) rfl ⟨rfl, rfl⟩
                    · have i2 : ¬ 1114111 < (M : Int) := by omega
                      by_cases g3 : 55296 ≤ M
                      · have i3 : 55296 ≤ (M : Int) := by omega
                        by_cases g4 : M ≤ 57343
                        · have i4 : (M : Int) ≤ 57343 := by omega
                          have hz := HFF.out; rw [if_neg (by omega)] at hz
                          cases hz
                          clear HFF; go_wp2; refine bodyPost_ret (v := .tuple #[.int .i64 0, .int .i64 0]) (by simp [results, Tryz.results65, go_sem]) rfl ⟨rfl, rfl⟩
                        · have i4 : ¬ (M : Int) ≤ 57343 := by omega
                          have hz := HFF.out; rw [if_pos (by omega)] at hz
                          cases hz
                          clear HFF; go_wp2; refine bodyPost_ret (v := .tuple #[.int .i64 (R1 : Int), .int .i64 4]) (by simp [results, Tryz.results65, go_sem]) rfl ⟨rfl, rfl⟩
                      · have i3 : ¬ 55296 ≤ (M : Int) := by omega
                        have hz := HFF.out; rw [if_pos (by omega)] at hz
                        cases hz
                        clear HFF; go_wp2; refine bodyPost_ret (v := .tuple #[.int .i64 (R1 : Int), .int .i64 4]) (by simp [results, Tryz.results65, go_sem]) rfl ⟨rfl, rfl⟩
end Go.Proofs.YtkfgbjjelcigcaaGreatDoor
