/-
  graticuleref16.Lines, Level; graticuleref01.Power.
-/
import Derived.Test.YtmmhkageehlknaaZruniq
import Derived.Test.YtmmhkageehlknaaZlines
set_option linter.unusedVariables false
set_option linter.unusedSimpArgs false
set_option maxRecDepth 100000
namespace Go.Proofs.Ytmmhkageehlknaa
open Go.RowKit
theorem rlevel_any (z : Int) (w : World) : Calls Try.prog 10 #[.int .i64 z] w fun e w' => e = .returned (.bool (levelB z)) ∧ w' = w := by
  have hL : Hid (levelB z = decide (0 ≤ z ∧ z ≤ 4)) := Lib.hid rfl
  rw [hL.out]
  clear hL
  by_cases h0 : 0 ≤ z
  · by_cases h4 : z ≤ 4
    · rw [decide_eq_true (And.intro h0 h4)]
      go_enter Try.func10, Try.ntmps10
      go_wp2
      go_ret
      exact ⟨rfl, rfl⟩
    · rw [decide_eq_false (fun h => h4 h.2)]
      go_enter Try.func10, Try.ntmps10
      go_wp2
      go_ret
      exact ⟨rfl, rfl⟩
  · rw [decide_eq_false (fun h => h0 h.1)]
    go_enter Try.func10, Try.ntmps10
    go_wp2
    go_ret
    exact ⟨rfl, rfl⟩

set_option maxHeartbeats 1600000 in
theorem rpow_any (z : Int) (hz : 0 ≤ z ∧ z ≤ 4) (w : World) : Calls Try.prog 11 #[.int .i64 z] w fun e w' => e = .returned (.int .i64 (2 ^ z.toNat)) ∧ w' = w := by
  obtain ⟨s, rfl⟩ : ∃ s : Nat, z = (s : Int) := ⟨z.toNat, by omega⟩
  have hs : s ≤ 4 := by omega
  rw [Int.toNat_natCast]
  clear hz
  go_enter Try.func11, Try.ntmps11
  go_wp2
  go_loopw [3, 4] (fun o i wr => ∃ (k : Nat) (u : Int), k ≤ s ∧ i = .int .i64 k ∧ o = .int .i64 u ∧ Hid (u = 2 ^ k) ∧ (1 ≤ u ∧ u ≤ 16) ∧ wr = w) (fun _ i _ => s - (intOf i).toNat)
  case atStart => exact ⟨0, 1, by omega, rfl, rfl, Lib.hid rfl, by omega, rfl⟩
  case round =>
    obtain ⟨k, u, hk, rfl, rfl, HU, hu, rfl⟩ := hrel
    by_cases hlt : k < s
    · have hlt2 : (k : Int) < (s : Int) := by omega
      have HV : Hid (2 * u = 2 ^ (k + 1)) := Lib.hid (by rw [HU.out, Int.pow_succ]; omega)
      have HV2 : Hid (2 * u ≤ 16) := Lib.hid (by
        rw [HV.out]
        have : k + 1 ≤ 4 := by omega
        rcases (by omega : k = 0 ∨ k = 1 ∨ k = 2 ∨ k = 3) with rfl | rfl | rfl | rfl <;> decide)
      have hv := HV2.out
      go_wp2

      exact ⟨⟨k + 1, 2 * u, by omega, val_int (by omega), rfl, HV, by omega, trivial⟩, by simp [intOf]; omega⟩
    · have hk3 : k = s := by omega
      subst hk3
      go_wp2
      go_ret
      exact ⟨ret_int HU.out, rfl⟩

set_option maxHeartbeats 3200000 in
theorem rlines_any (z b : Int) (w : World) :
    Calls Try.prog 8 #[.int .i64 z, .int .i64 b] w fun e w' => ∃ v, e = .returned (.tuple #[v, .bool (linesB z b)]) ∧ w'.ownsRow w.heap.size 3 1 v (linesF z b).length (ins (linesF z b)) ∧ Below w.heap.size w w' := by
  have hlv := rlevel_any z w
  have HPW := Lib.hid (fun w h => rpow_any z h w)
  by_cases hL : levelB z = true
  · by_cases hb0 : b < 0
    · have e1 : linesB z b = false := by unfold linesB; rw [hL]; simp; omega
      have e2 : linesF z b = [] := by unfold linesF; rw [e1]; simp
      rw [e1, e2]
      rw [hL] at hlv
      have HLV := Lib.hid hlv
      clear hL hlv e1 e2
      go_enter Try.func8, Try.ntmps8
      go_wp2_with fail
      refine HLV.out.mono ?_
      rintro e w1 ⟨rfl, rfl⟩
      go_wp2
      refine bodyPost_ret (v := .tuple #[.slice none 0 0, .bool false]) (by simp [results, Try.results8, go_sem]) rfl ⟨_, rfl, World.ownsRow_nil _ _ _ _, Below.refl _ _⟩
    by_cases hb1 : 2047 < b
    · have e1 : linesB z b = false := by unfold linesB; rw [hL]; simp; omega
      have e2 : linesF z b = [] := by unfold linesF; rw [e1]; simp
      rw [e1, e2]
      rw [hL] at hlv
      have HLV := Lib.hid hlv
      clear hL hlv e1 e2
      go_enter Try.func8, Try.ntmps8
      go_wp2_with fail
      refine HLV.out.mono ?_
      rintro e w1 ⟨rfl, rfl⟩
      go_wp2
      refine bodyPost_ret (v := .tuple #[.slice none 0 0, .bool false]) (by simp [results, Try.results8, go_sem]) rfl ⟨_, rfl, World.ownsRow_nil _ _ _ _, Below.refl _ _⟩
    have hb : 0 ≤ b ∧ b ≤ 2047 := by omega
    have HB := Lib.hid hb
    have hb2 : 0 ≤ b := hb.1
    have hb3 : b ≤ 2047 := hb.2
    have e1 : linesB z b = true := by unfold linesB; rw [hL]; simp; omega
    have e2 : linesF z b = Lib.compact (rawL b (2 ^ z.toNat)) := by unfold linesF; rw [e1]; simp
    have hz := level_cases hL
    rw [e1, e2]
    rw [hL] at hlv
    clear hb hL e1 e2
    have hu := fun (a : Option Addr) (c : Nat) (l : List Int) (hp : l.Pairwise (· ≤ ·)) (hn : l.length ≤ 1000) (w : World) (hr : Rd w a (ins l)) => runiq_any a c l hp hn w hr
    have HU := Lib.hid hu
    clear hu
    have HLV := Lib.hid hlv
    clear hlv
    obtain ⟨N, hN⟩ : ∃ N, 2 ^ z.toNat = N := ⟨_, rfl⟩
    have hN1 : 1 ≤ N ∧ N ≤ 16 := by rcases hz with rfl | rfl | rfl | rfl | rfl <;> subst hN <;> decide
    have hw : ((2 : Int) ^ z.toNat) = (N : Int) := by rw [← hN]; norm_cast
    have hz0 : 0 ≤ z := by omega
    have hN2 : N ≤ 16 := hN1.2
    have hz1 : z ≤ 4 := by omega
    rw [hN]
    obtain ⟨C, hC⟩ : ∃ C, Lib.compact (rawL b N) = C := ⟨_, rfl⟩
    rw [hC]
    have HC0 := Lib.hid hC
    have HN := Lib.hid hN
    have HZ := Lib.hid hz
    clear hC hN hz
    go_enter Try.func8, Try.ntmps8
    go_wp2_with fail
    refine HLV.out.mono ?_
    rintro e w1 ⟨rfl, rfl⟩
    clear HLV
    have hpw := HPW.out
    rw [hw] at hpw
    have HQ : Hid (∀ w, Calls Try.prog 11 #[.int .i64 z] w fun e w' => e = .returned (.int .i64 (N : Int)) ∧ w' = w) := Lib.hid (fun w => hpw w ⟨hz0, hz1⟩)
    clear hpw HPW
    go_wp2
    go_loopw [6, 7] (fun o i wr => ∃ (k : Nat) (l : List Int), k ≤ N ∧ 1 ≤ k ∧ i = .int .i64 k ∧ Hid (rawL b k = l) ∧ l.length ≤ 2 * k ∧ wr.ownsRow w1.heap.size 3 1 o l.length (ins l) ∧ Below w1.heap.size w1 wr) (fun _ i _ => N - (intOf i).toNat)
    case atStart => exact ⟨1, [], by omega, by omega, rfl, Lib.hid (rawL_zero b), by simp, World.ownsRow_nil _ _ _ _, Below.refl _ _⟩
    case round =>
      obtain ⟨k, l, hk, hk1, rfl, HR, hln, ho, hbb⟩ := hrel
      by_cases hlt : k < N
      · have hlt2 : (k : Int) < (N : Int) := by omega
        have HS : Hid (rawL b (k + 1) = l ++ [4096 * (k : Int) - b, 4096 * (k : Int) + b]) := Lib.hid (by rw [rawL_step b k (by omega), HR.out])
        go_wp2_with fail
        refine (HQ.out _).mono ?_
        rintro e wx ⟨rfl, rfl⟩
        go_wp2_with (at_builtin; go_must (refine wpList_appLit' w1 hbb rfl (.tmp 25) (.tmp 34) 26 rfl 3 (.int .i64 0) 1 8 Try.underlying26 Try.infoIz rfl (by decide) (by decide) u6 l.length (ins l) rfl ho 2 2 [.int .i64 (4096 * (k : Int) - b), .int .i64 (4096 * (k : Int) + b)] _ rfl rfl (by simp [Value.oneCell']) (by omega) ?_); intro v1 w2 ho2 hg2 hb2)
        refine ⟨⟨k + 1, l ++ [4096 * (k : Int) - b, 4096 * (k : Int) + b], by omega, by omega, val_int (by omega), HS, by simp; omega, ?_, hb2⟩, by simp [intOf]; omega⟩
        rw [List.length_append]
        have e1 : ins (l ++ [4096 * (k : Int) - b, 4096 * (k : Int) + b]) = ins l ++ [.int .i64 (4096 * (k : Int) - b), .int .i64 (4096 * (k : Int) + b)] := by simp [ins]
        rw [e1]; exact ho2
      · have hk3 : k = N := by omega
        subst hk3
        obtain ⟨oa, oc, rfl, -, -, -, hro, -⟩ := ho.form
        have hc := HU.out oa oc l (by rw [← HR.out]; exact rawL_pw HB.out k) (by omega) wr hro
        have hcl : Lib.compact l = C := by rw [← HR.out]; exact HC0.out
        rw [hcl] at hc
        have HC := Lib.hid hc
        clear hc HU hcl
        go_wp2_with fail
        refine (HQ.out _).mono ?_
        rintro e wx ⟨rfl, rfl⟩
        go_wp2_with fail
        refine HC.out.mono ?_
        rintro e w2 ⟨v2, rfl, ho2, hb2⟩
        go_wp2
        refine bodyPost_ret (v := .tuple #[v2, .bool true]) (by simp [results, Try.results8, go_sem]) rfl ⟨_, rfl, ho2.mono hbb.size, hbb.trans (hb2.mono hbb.size)⟩
  · have hL' : levelB z = false := by simpa using hL
    have e1 : linesB z b = false := by unfold linesB; rw [hL']; rfl
    have e2 : linesF z b = [] := by unfold linesF; rw [e1]; simp
    rw [e1, e2]
    rw [hL'] at hlv
    have HLV := Lib.hid hlv
    clear hL hlv e1 e2 hL'
    go_enter Try.func8, Try.ntmps8
    go_wp2_with fail
    refine HLV.out.mono ?_
    rintro e w1 ⟨rfl, rfl⟩
    go_wp2
    refine bodyPost_ret (v := .tuple #[.slice none 0 0, .bool false]) (by simp [results, Try.results8, go_sem]) rfl ⟨_, rfl, World.ownsRow_nil _ _ _ _, Below.refl _ _⟩
end Go.Proofs.Ytmmhkageehlknaa
