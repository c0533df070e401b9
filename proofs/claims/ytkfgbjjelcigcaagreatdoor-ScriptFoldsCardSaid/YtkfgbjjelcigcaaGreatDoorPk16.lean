/-
  graticuleref09.Runes. graticuleref10.Check.
-/
import Derived.Test.YtkfgbjjelcigcaaGreatDoorPk2
import Derived.Test.YtkfgbjjelcigcaaGreatDoorPk15
import Derived.Test.YtkfgbjjelcigcaaGreatDoorPk7
import Derived.Test.YtkfgbjjelcigcaaGreatDoorPk8
/- graticuleref09.Runes. -/
set_option linter.unusedVariables false
set_option linter.unusedSimpArgs false
set_option maxRecDepth 100000
namespace Go
open Go.RowKit
def rns (l : List (Nat × Nat)) : List Value := l.map (fun x => .int .i64 (x.1 : Int))
def rps (l : List (Nat × Nat)) : List Value := l.map (fun x => .int .i64 (x.2 : Int))
def runesT (s : ByteArray) : List (Nat × Nat) := if rightF s then runesF s else []
end Go
namespace Go.Proofs.YtkfgbjjelcigcaaGreatDoor
open Go.RowKit
theorem Tryz.infoI64 : (Tryz.prog.info? 3).map (fun i => (i.zero, i.size, i.bytes)) = some (some (.int .i64 0), 1, 8) := by kernel_rfl

set_option maxHeartbeats 1600000 in
theorem rrunes_any (s : ByteArray) (hs : s.size ≤ 100000) (w : World) :
    Calls Tryz.prog 53 #[.string s] w fun e w' => ∃ vo va, e = .returned (.tuple #[vo, va, .bool (rightF s)]) ∧ w'.ownsRow w.heap.size 3 1 vo (runesT s).length (rns (runesT s)) ∧ w'.ownsRow w.heap.size 3 1 va (runesT s).length (rps (runesT s)) ∧ Below w.heap.size w w' := by
  have hF : Hid (runesT s = if rightF s then runesF s else []) := Lib.hid rfl; generalize runesT s = L at *; obtain ⟨T, hT⟩ : ∃ T : Bool, rightF s = T := ⟨_, rfl⟩; rw [hT] at hF ⊢; have HT := Lib.hid hT; clear hT
  go_enter Tryz.func53, Tryz.ntmps53
  go_wp2
  go_loopw [5, 6, 7] (fun o a i wr => ∃ (p f : Nat) (pre : List (Nat × Nat)), i = .int .i64 (p : Int) ∧ wr.ownsRow w.heap.size 3 1 o pre.length (rns pre) ∧ wr.ownsRow w.heap.size 3 1 a pre.length (rps pre) ∧ Hid (Disj o a) ∧ Below w.heap.size w wr ∧ Hid (runesF s = pre ++ rl s f p) ∧ Hid (pre.all (fun x => !badAt s x.2) = true) ∧ s.size ≤ p + f ∧ pre.length ≤ p ∧ p ≤ s.size) (fun _ _ i _ => s.size - (intOf i).toNat)
  case atStart => exact ⟨0, s.size, [], rfl, World.ownsRow_nil _ _ _ _, World.ownsRow_nil _ _ _ _, Lib.hid (fun k h => by simp [Value.ownBlock] at h), Below.refl _ _, Lib.hid rfl, Lib.hid rfl, by omega, by simp, by omega⟩
  case round =>
    obtain ⟨p, f, pre, rfl, hoo, hoa, HD, hbl, HR, HA, hpf, hpl, hps⟩ := hrel
    by_cases hp : p < s.size
    · obtain ⟨f, rfl⟩ : ∃ g, f = g + 1 := ⟨f - 1, by omega⟩; have hwd := decode_wid hp; rw [rl_step s f p hp] at HR; have hfi := first_any (s.extract p s.size) (by rw [ext_size]; unfold maxLen; omega); have hft : firstT (s.extract p s.size) = firstF s p := by
        unfold firstT; rw [if_neg (by rw [ext_size]; omega), ext_first]; rfl
      rw [hft] at hfi; have hff : firstF s p = if badAt s p then (0, 0) else Utf8.decode s p := rfl; rw [hff] at hfi; have HRT : Hid (badAt s p = true → T = false) := Lib.hid (fun h => by
        rw [← HT.out]; unfold rightF; rw [HR.out, List.all_append, List.all_cons]; simp [h])
      obtain ⟨B, hB⟩ : ∃ B, badAt s p = B := ⟨_, rfl⟩; have HBB := Lib.hid hB; rw [hB] at hfi HRT; clear hB hff hft; obtain ⟨D, hD⟩ : ∃ D, Utf8.decode s p = D := ⟨_, rfl⟩; rw [hD] at hfi HR hwd; obtain ⟨R, Wd⟩ := D; dsimp only at HR hwd; have hpi : (p : Int) ≤ (s.size : Int) := by omega
      have hpi2 : (p : Int) < (s.size : Int) := by omega
      cases B with
      | true =>
        have hz := HRT.out rfl; subst hz; have hLz := hF.out; rw [if_neg (by decide)] at hLz; subst hLz; rw [if_pos rfl] at hfi; have HFI := Lib.hid hfi; clear hfi hF HRT HR HA HT HD
        go_wp2_with fail
        refine (HFI.out _).mono ?_; rintro e w1 ⟨rfl, rfl⟩; go_wp2; refine bodyPost_ret (v := .tuple #[.slice none 0 0, .slice none 0 0, .bool false]) (by simp [results, Tryz.results53, go_sem]) rfl ⟨_, _, rfl, World.ownsRow_nil _ _ _ _, World.ownsRow_nil _ _ _ _, hbl⟩
      | false =>
        rw [if_neg (by decide)] at hfi; have HFI := Lib.hid hfi; clear hfi hD HRT; have hwz : ((Wd : Int) == 0) = false := by rw [beq_eq_false_iff_ne]; omega
        have hw0 : IntKind.i64.wrap ((p : Int) + (Wd : Int)) = ((p + Wd : Nat) : Int) := by rw [IntWalk.i64_in _ (by omega)]; omega
        go_wp2_with fail
        refine (HFI.out _).mono ?_; rintro e w1 ⟨rfl, rfl⟩; dsimp only; have hoa1 : ∀ k, u6.ownBlock = some k → k < w1.heap.size := fun k hk => (hoa.lt k hk).2
        go_wp2_with (at_builtin; first
          | (refine wpList_appLitAt w hbl rfl (.tmp 23) (.tmp 25) 25 rfl 3 (.int .i64 0) 1 8 Tryz.underlying25 Tryz.infoI64 rfl (by decide) (by decide) u5 pre.length (rns pre) rfl hoo 1 1 w1.heap.size rfl [.int .i64 (R : Int)] _ rfl rfl (by simp [Value.oneCell']) (by omega) ?_
             intro v2 w2 ho2 hg2 hb2 hl2; have hoa2 := hoa.kept hg2 HD.out.kept; have hd2 : Disj v2 u6 := HD.out.left hl2 (fun k hk => by have := hoa1 k hk; omega); have hob2 := ho2.lt; have hsz2 := hg2.size)
          | (refine wpList_appLitAt w hb2 rfl (.tmp 27) (.tmp 29) 25 rfl 3 (.int .i64 0) 1 8 Tryz.underlying25 Tryz.infoI64 rfl (by decide) (by decide) u6 pre.length (rps pre) rfl hoa2 1 1 w2.heap.size rfl [.int .i64 (p : Int)] _ rfl rfl (by simp [Value.oneCell']) (by omega) ?_
             intro v3 w3 ho3 hg3 hb3 hl3; have ho4 := ho2.kept hg3 hd2.symm.kept; have hd3 : Disj v3 v2 := hd2.symm.left hl3 (fun k hk => by have := (hob2 k hk).2; omega)))
        have hlen : (pre ++ [(R, p)]).length = pre.length + 1 := by simp
        have e1 : rns (pre ++ [(R, p)]) = rns pre ++ [.int .i64 (R : Int)] := by simp [rns]
        have e2 : rps (pre ++ [(R, p)]) = rps pre ++ [.int .i64 (p : Int)] := by simp [rps]
        refine ⟨⟨p + Wd, f, pre ++ [(R, p)], val_int (by omega), ?_, ?_, Lib.hid hd3.symm, hb3, Lib.hid (by rw [HR.out, List.append_assoc]; rfl), Lib.hid (by rw [List.all_append, HA.out]; simp [HBB.out]), by omega, by rw [hlen]; omega, by omega⟩, by simp [intOf]; omega⟩
        · rw [e1, hlen]; exact ho4
        · rw [e2, hlen]; exact ho3
    · have hlt : ¬ (p : Int) < (s.size : Int) := by omega
      rw [rl_end s f p hp, List.append_nil] at HR; have hF1 : T = true := by rw [← HT.out]; unfold rightF; rw [HR.out]; exact HA.out
      subst hF1; have hL := hF.out; rw [if_pos rfl, HR.out] at hL; subst hL; clear HR HA hF HT HD; go_wp2; refine bodyPost_ret (v := .tuple #[u5, u6, .bool true]) (by simp [results, Tryz.results53, go_sem]) rfl ⟨_, _, rfl, hoo, hoa, hbl⟩
end Go.Proofs.YtkfgbjjelcigcaaGreatDoor
/- graticuleref10.Check. -/
set_option linter.unusedVariables false
set_option linter.unusedSimpArgs false
set_option maxRecDepth 100000
namespace Go
theorem right_empty : rightF ⟨#[]⟩ = true := rfl
end Go
namespace Go.Proofs.YtkfgbjjelcigcaaGreatDoor
open Go.RowKit

set_option maxHeartbeats 6400000 in
theorem rvchk_any (k n : Int) (t : ByteArray) (ht : t.size ≤ 100000) (w : World) :
    Calls Tryz.prog 32 #[.agg #[.int .i64 k, .string t, .int .i64 n]] w fun e w' => e = .returned (.int .i64 (vcF k t n)) ∧ Below w.heap.size w w' := by
  have HV := Lib.hid (vcF.eq_1 k t n); have HRI : ∀ W, Calls Tryz.prog 53 #[.string t] W fun e w' => ∃ vo va, e = .returned (.tuple #[vo, va, .bool (rightF t)]) ∧ Below W.heap.size W w' := fun W => (rrunes_any t ht W).mono (fun e w' ⟨vo, va, h1, h2, h3, h4⟩ => ⟨vo, va, h1, h4⟩); replace HRI := Lib.hid HRI; have HTE : Hid (t.size = 0 → t = ⟨#[]⟩ ∧ rightF t = true) := Lib.hid (fun h => by
    have : t = ⟨#[]⟩ := by
      apply ByteArray.ext; exact Array.eq_empty_of_size_eq_zero h
    subst this; exact ⟨rfl, right_empty⟩)
  have HTN : Hid (t.size ≠ 0 → t.toList.isEmpty = false) := Lib.hid (fun h => by rw [empty_txt]; simp [h]); generalize vcF k t n = V at *; obtain ⟨RT, hRT⟩ : ∃ b, rightF t = b := ⟨_, rfl⟩; rw [hRT] at HV HRI HTE; clear hRT; have k1 := Blk.lit w w.heap.size [.int .i64 k, .string t, .int .i64 n] 48 rfl; have hb0 := Below.new w (.cells #[.int .i64 k, .string t, .int .i64 n] 48); obtain ⟨B, hB⟩ : ∃ B, w.heap.size = B := ⟨_, rfl⟩; have HBE := Lib.hid hB; rw [hB] at k1; have x0 := k1.cell 0 rfl; have x1 := k1.cell 1 rfl; have x2 := k1.cell 2 rfl; have hs0 := hb0.size
  go_enter Tryz.func32, Tryz.ntmps32
  by_cases hk0 : k < 1
  · have hq := HV.out; rw [if_neg (by omega), if_neg (by omega), if_neg (by omega), if_neg (by omega)] at hq; have hV := Lib.hid hq; clear HV hq; go_wp2; go_ret; exact ⟨ret_int hV.out.symm, by first | exact hb0 | (rw [HBE.out]; exact hb0) | (rw [← HBE.out]; exact hb0)⟩
  · by_cases hk4 : 4 < k
    · have hq := HV.out; rw [if_neg (by omega), if_neg (by omega), if_neg (by omega), if_neg (by omega)] at hq; have hV := Lib.hid hq; clear HV hq; go_wp2; go_ret; exact ⟨ret_int hV.out.symm, by first | exact hb0 | (rw [HBE.out]; exact hb0) | (rw [← HBE.out]; exact hb0)⟩
    · have hk : k = 1 ∨ k = 2 ∨ k = 3 ∨ k = 4 := by omega
      clear hk0 hk4
      rcases hk with rfl | rfl | rfl | rfl
      · have hq := HV.out; rw [if_pos rfl] at hq; have hV := Lib.hid hq; clear HV hq
        by_cases hn : n = 0
        · subst hn
          go_wp2_with fail
          refine (HRI.out _).mono ?_; rintro e w1 ⟨vo, va, rfl, hb1⟩; have k2 := k1.keep hb1; have hbw := hb0.trans (hb1.mono hs0); clear x0 x1 x2 hb1; have x0 := k2.cell 0 rfl; have x1 := k2.cell 1 rfl; have x2 := k2.cell 2 rfl
          cases RT with
          | false =>
            go_wp2; go_ret; exact ⟨ret_int (by rw [hV.out]; simp), by first | exact hbw | (rw [HBE.out]; exact hbw) | (rw [← HBE.out]; exact hbw)⟩
          | true =>
            by_cases hl : 64 < t.size
            · have hl' : (64 : Int) < (t.size : Int) := by omega
              go_wp2; go_ret; exact ⟨ret_int (by rw [hV.out]; simp [hl]), by first | exact hbw | (rw [HBE.out]; exact hbw) | (rw [← HBE.out]; exact hbw)⟩
            · have hl' : ¬ (64 : Int) < (t.size : Int) := by omega
              go_wp2; go_ret; exact ⟨ret_int (by rw [hV.out]; simp [hl]), by first | exact hbw | (rw [HBE.out]; exact hbw) | (rw [← HBE.out]; exact hbw)⟩
        · have hn' : (n == 0) = false := by simpa using hn
          go_wp2; go_ret; exact ⟨ret_int (by rw [hV.out, if_pos hn]), by first | exact hb0 | (rw [HBE.out]; exact hb0) | (rw [← HBE.out]; exact hb0)⟩
      · have hq := HV.out; rw [if_neg (by omega), if_neg (by omega), if_pos rfl] at hq; have hV := Lib.hid hq; clear HV hq
        by_cases hz : t.size = 0
        · have hq := hV.out; rw [if_neg (by omega)] at hq; replace hV := Lib.hid hq; clear hq; obtain ⟨rfl, hR⟩ := HTE.out hz; subst hR; clear HTE HTN hz
          go_wp2_with fail
          refine (HRI.out _).mono ?_; rintro e w1 ⟨vo, va, rfl, hb1⟩; have k2 := k1.keep hb1; have hbw := hb0.trans (hb1.mono hs0); clear x0 x1 x2 hb1; have x0 := k2.cell 0 rfl; have x1 := k2.cell 1 rfl; have x2 := k2.cell 2 rfl
          by_cases ha : n < 0
          · by_cases ha2 : n < -1152921504606846976
            · have ha3 : ¬ 1152921504606846976 < n := by omega
              go_wp2; go_ret; exact ⟨ret_int (by rw [hV.out]; simp [ha]), by first | exact hbw | (rw [HBE.out]; exact hbw) | (rw [← HBE.out]; exact hbw)⟩
            · have ha3 : ¬ 1152921504606846976 < n := by omega
              have ha4 : n < 0 := by omega
              go_wp2; go_ret; exact ⟨ret_int (by rw [hV.out]; simp [ha]), by first | exact hbw | (rw [HBE.out]; exact hbw) | (rw [← HBE.out]; exact hbw)⟩
          · by_cases hc : 1152921504606846976 < n
            · by_cases hc2 : 1152921504606846976 < n
              · go_wp2; go_ret; exact ⟨ret_int (by rw [hV.out]; simp [hc]), by first | exact hbw | (rw [HBE.out]; exact hbw) | (rw [← HBE.out]; exact hbw)⟩
              · exfalso; omega
            · have hc2 : ¬ 1152921504606846976 < n := by omega
              have hc3 : ¬ n < -1152921504606846976 := by omega
              have hq : ¬ (n < 0 ∨ 1152921504606846976 < n) := by omega
              have HQ : Hid (V = 0) := Lib.hid (by rw [hV.out, if_neg hq]); clear hV hq; have hc4 : ¬ n < 0 := by omega
              by_cases hc5 : 1 < n
              · go_wp2; go_ret; exact ⟨ret_int HQ.out.symm, by first | exact hbw | (rw [HBE.out]; exact hbw) | (rw [← HBE.out]; exact hbw)⟩
              · go_wp2; go_ret; exact ⟨ret_int HQ.out.symm, by first | exact hbw | (rw [HBE.out]; exact hbw) | (rw [← HBE.out]; exact hbw)⟩
        · have HQ : Hid (V = 3) := Lib.hid (by rw [hV.out, if_pos hz]); have hte := HTN.out hz; go_wp2; go_ret; exact ⟨ret_int HQ.out.symm, by first | exact hb0 | (rw [HBE.out]; exact hb0) | (rw [← HBE.out]; exact hb0)⟩
      · have hq := HV.out; rw [if_neg (by omega), if_pos rfl] at hq; have hV := Lib.hid hq; clear HV hq
        by_cases hz : t.size = 0
        · have hq := hV.out; rw [if_neg (by omega)] at hq; replace hV := Lib.hid hq; clear hq; obtain ⟨rfl, hR⟩ := HTE.out hz; subst hR; clear HTE HTN hz
          go_wp2_with fail
          refine (HRI.out _).mono ?_; rintro e w1 ⟨vo, va, rfl, hb1⟩; have k2 := k1.keep hb1; have hbw := hb0.trans (hb1.mono hs0); clear x0 x1 x2 hb1; have x0 := k2.cell 0 rfl; have x1 := k2.cell 1 rfl; have x2 := k2.cell 2 rfl
          by_cases ha : n < -1152921504606846976
          · by_cases ha2 : n < -1152921504606846976
            · have ha3 : ¬ 1152921504606846976 < n := by omega
              go_wp2; go_ret; exact ⟨ret_int (by rw [hV.out]; simp [ha]), by first | exact hbw | (rw [HBE.out]; exact hbw) | (rw [← HBE.out]; exact hbw)⟩
            · exfalso; omega
          · by_cases hc : 1152921504606846976 < n
            · by_cases hc2 : 1152921504606846976 < n
              · go_wp2; go_ret; exact ⟨ret_int (by rw [hV.out]; simp [hc]), by first | exact hbw | (rw [HBE.out]; exact hbw) | (rw [← HBE.out]; exact hbw)⟩
              · exfalso; omega
            · have hc2 : ¬ 1152921504606846976 < n := by omega
              have hc3 : ¬ n < -1152921504606846976 := by omega
              have hq : ¬ (n < -1152921504606846976 ∨ 1152921504606846976 < n) := by omega
              have HQ : Hid (V = 0) := Lib.hid (by rw [hV.out, if_neg hq]); clear hV hq
              by_cases hc4 : n < 0
              · have hc5 : ¬ 1 < n := by omega
                go_wp2; go_ret; exact ⟨ret_int HQ.out.symm, by first | exact hbw | (rw [HBE.out]; exact hbw) | (rw [← HBE.out]; exact hbw)⟩
              · by_cases hc5 : 1 < n
                · go_wp2; go_ret; exact ⟨ret_int HQ.out.symm, by first | exact hbw | (rw [HBE.out]; exact hbw) | (rw [← HBE.out]; exact hbw)⟩
                · go_wp2; go_ret; exact ⟨ret_int HQ.out.symm, by first | exact hbw | (rw [HBE.out]; exact hbw) | (rw [← HBE.out]; exact hbw)⟩
        · have HQ : Hid (V = 3) := Lib.hid (by rw [hV.out, if_pos hz]); have hte := HTN.out hz; go_wp2; go_ret; exact ⟨ret_int HQ.out.symm, by first | exact hb0 | (rw [HBE.out]; exact hb0) | (rw [← HBE.out]; exact hb0)⟩
      · have hq := HV.out; rw [if_neg (by omega), if_neg (by omega), if_neg (by omega), if_pos rfl] at hq; have hV := Lib.hid hq; clear HV hq
        by_cases hz : t.size = 0
        · have hq := hV.out; rw [if_neg (by omega)] at hq; replace hV := Lib.hid hq; clear hq; obtain ⟨rfl, hR⟩ := HTE.out hz; subst hR; clear HTE HTN hz
          go_wp2_with fail
          refine (HRI.out _).mono ?_; rintro e w1 ⟨vo, va, rfl, hb1⟩; have k2 := k1.keep hb1; have hbw := hb0.trans (hb1.mono hs0); clear x0 x1 x2 hb1; have x0 := k2.cell 0 rfl; have x1 := k2.cell 1 rfl; have x2 := k2.cell 2 rfl
          by_cases ha : n < 0
          · by_cases ha2 : n < -1152921504606846976
            · have ha3 : ¬ 1152921504606846976 < n := by omega
              go_wp2; go_ret; exact ⟨ret_int (by rw [hV.out]; simp [ha]), by first | exact hbw | (rw [HBE.out]; exact hbw) | (rw [← HBE.out]; exact hbw)⟩
            · have ha3 : ¬ 1152921504606846976 < n := by omega
              have ha4 : n < 0 := by omega
              go_wp2; go_ret; exact ⟨ret_int (by rw [hV.out]; simp [ha]), by first | exact hbw | (rw [HBE.out]; exact hbw) | (rw [← HBE.out]; exact hbw)⟩
          · by_cases hc : 1 < n
            · by_cases hc2 : 1152921504606846976 < n
              · go_wp2; go_ret; exact ⟨ret_int (by rw [hV.out]; simp [hc]), by first | exact hbw | (rw [HBE.out]; exact hbw) | (rw [← HBE.out]; exact hbw)⟩
              · have hc3 : ¬ n < -1152921504606846976 := by omega
                have hc4 : ¬ n < 0 := by omega
                have hc5 : 1 < n := by omega
                go_wp2; go_ret; exact ⟨ret_int (by rw [hV.out]; simp [hc]), by first | exact hbw | (rw [HBE.out]; exact hbw) | (rw [← HBE.out]; exact hbw)⟩
            · have hc2 : ¬ 1152921504606846976 < n := by omega
              have hc3 : ¬ n < -1152921504606846976 := by omega
              have hq : ¬ (n < 0 ∨ 1 < n) := by omega
              have HQ : Hid (V = 0) := Lib.hid (by rw [hV.out, if_neg hq]); clear hV hq; have hc4 : ¬ n < 0 := by omega
              have hc5 : ¬ 1 < n := by omega
              go_wp2; go_ret; exact ⟨ret_int HQ.out.symm, by first | exact hbw | (rw [HBE.out]; exact hbw) | (rw [← HBE.out]; exact hbw)⟩
        · have HQ : Hid (V = 3) := Lib.hid (by rw [hV.out, if_pos hz]); have hte := HTN.out hz; go_wp2; go_ret; exact ⟨ret_int HQ.out.symm, by first | exact hb0 | (rw [HBE.out]; exact hb0) | (rw [← HBE.out]; exact hb0)⟩
end Go.Proofs.YtkfgbjjelcigcaaGreatDoor
