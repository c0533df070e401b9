/-
  snap.Lines.
-/
import Derived.Test.YtmmhkageehlknaaZuniq
import Derived.Test.YtmmhkageehlknaaZpt
set_option linter.unusedVariables false
set_option linter.unusedSimpArgs false
set_option maxRecDepth 100000
namespace Go
open Go.RowKit
/-- The two lines of each number below k, ahead of what is double. -/
def rawL (b : Int) : Nat → List Int
  | 0 => []
  | k + 1 => rawL b k ++ (if k = 0 then [] else [4096 * (k : Int) - b, 4096 * (k : Int) + b])
theorem rawL_len (b : Int) : ∀ k, (rawL b k).length ≤ 2 * k
  | 0 => by simp [rawL]
  | k + 1 => by
    have := rawL_len b k
    unfold rawL; rw [List.length_append]; split <;> simp <;> omega
theorem rawL_le {b : Int} (hb : 0 ≤ b ∧ b ≤ 2047) : ∀ (k : Nat), ∀ x ∈ rawL b k, x ≤ 4096 * (k : Int) - 4096 + b
  | 0, x, h => by simp [rawL] at h
  | k + 1, x, h => by
    unfold rawL at h
    rcases List.mem_append.1 h with h | h
    · have := rawL_le hb k x h; omega
    · split at h
      · simp at h
      · simp at h; omega
theorem rawL_pw {b : Int} (hb : 0 ≤ b ∧ b ≤ 2047) : ∀ (k : Nat), (rawL b k).Pairwise (· ≤ ·)
  | 0 => by simp [rawL]
  | k + 1 => by
    unfold rawL
    rw [List.pairwise_append]
    refine ⟨rawL_pw hb k, ?_, ?_⟩
    · split
      · simp
      · simp; omega
    · intro x hx y hy
      have := rawL_le hb k x hx
      split at hy
      · simp at hy
      · simp at hy; omega
theorem rawL_zero (b : Int) : rawL b 1 = [] := rfl
theorem rawL_step (b : Int) (k : Nat) (hk : 0 < k) : rawL b (k + 1) = rawL b k ++ [4096 * (k : Int) - b, 4096 * (k : Int) + b] := by
  show rawL b k ++ (if k = 0 then [] else [4096 * (k : Int) - b, 4096 * (k : Int) + b]) = _
  rw [if_neg (by omega)]
theorem rawL_nil (b : Int) : rawL b 0 = [] := rfl
/-- Is there such a level, such a buffer? -/
def linesB (z b : Int) : Bool := levelB z && decide (0 ≤ b ∧ b ≤ 2047)
/-- The lines of a level and a buffer. -/
def linesF (z b : Int) : List Int := if linesB z b then Lib.compact (rawL b (2 ^ z.toNat)) else []
attribute [irreducible] rawL
end Go
namespace Go.Proofs.Ytmmhkageehlknaa
open Go.RowKit
set_option maxHeartbeats 3200000 in
theorem lines_any (z b : Int) (w : World) :
    Calls Try.prog 7 #[.int .i64 z, .int .i64 b] w fun e w' => ∃ v, e = .returned (.tuple #[v, .bool (linesB z b)]) ∧ w'.ownsRow w.heap.size 3 1 v (linesF z b).length (ins (linesF z b)) ∧ Below w.heap.size w w' := by
  have hlv := level_any z w
  by_cases hL : levelB z = true
  · by_cases hb0 : b < 0
    · have e1 : linesB z b = false := by unfold linesB; rw [hL]; simp; omega
      have e2 : linesF z b = [] := by unfold linesF; rw [e1]; simp
      rw [e1, e2]
      rw [hL] at hlv
      have HLV := Lib.hid hlv
      clear hL hlv e1 e2
      go_enter Try.func7, Try.ntmps7
      go_wp2_with fail
      refine HLV.out.mono ?_
      rintro e w1 ⟨rfl, rfl⟩
      go_wp2
      refine bodyPost_ret (v := .tuple #[.slice none 0 0, .bool false]) (by simp [results, Try.results7, go_sem]) rfl ⟨_, rfl, World.ownsRow_nil _ _ _ _, Below.refl _ _⟩
    by_cases hb1 : 2047 < b
    · have e1 : linesB z b = false := by unfold linesB; rw [hL]; simp; omega
      have e2 : linesF z b = [] := by unfold linesF; rw [e1]; simp
      rw [e1, e2]
      rw [hL] at hlv
      have HLV := Lib.hid hlv
      clear hL hlv e1 e2
      go_enter Try.func7, Try.ntmps7
      go_wp2_with fail
      refine HLV.out.mono ?_
      rintro e w1 ⟨rfl, rfl⟩
      go_wp2
      refine bodyPost_ret (v := .tuple #[.slice none 0 0, .bool false]) (by simp [results, Try.results7, go_sem]) rfl ⟨_, rfl, World.ownsRow_nil _ _ _ _, Below.refl _ _⟩
    have hb : 0 ≤ b ∧ b ≤ 2047 := by omega
    have HB := Lib.hid hb
    have hb2 : 0 ≤ b := hb.1
    have hb3 : b ≤ 2047 := hb.2
    have e1 : linesB z b = true := by unfold linesB; rw [hL]; simp; omega
    have e2 : linesF z b = Lib.compact (rawL b (2 ^ z.toNat)) := by unfold linesF; rw [e1]; simp
    have hz := level_cases hL
    rw [e1, e2]
    rw [hL] at hlv
    clear hb hL e1 e2
    have hu := fun (a : Option Addr) (c : Nat) (l : List Int) (hp : l.Pairwise (· ≤ ·)) (hn : l.length ≤ 1000) (w : World) (hr : Rd w a (ins l)) => uniq_any a c l hp hn w hr
    have HU := Lib.hid hu
    clear hu
    have HLV := Lib.hid hlv
    clear hlv
    obtain ⟨N, hN⟩ : ∃ N, 2 ^ z.toNat = N := ⟨_, rfl⟩
    have hN1 : 1 ≤ N ∧ N ≤ 16 := by rcases hz with rfl | rfl | rfl | rfl | rfl <;> subst hN <;> decide
    have hw : wrap64 ((2 : Int) ^ z.toNat) = (N : Int) := by rcases hz with rfl | rfl | rfl | rfl | rfl <;> subst hN <;> kernel_rfl
    have hz0 : 0 ≤ z := by omega
    have hN2 : N ≤ 16 := hN1.2
    have hz1 : z ≤ 4 := by omega
    rw [hN]
    obtain ⟨C, hC⟩ : ∃ C, Lib.compact (rawL b N) = C := ⟨_, rfl⟩
    rw [hC]
    have HC0 := Lib.hid hC
    have HN := Lib.hid hN
    have HZ := Lib.hid hz
    clear hC hN hz
    go_enter Try.func7, Try.ntmps7
    go_wp2_with fail
    refine HLV.out.mono ?_
    rintro e w1 ⟨rfl, rfl⟩
    clear HLV
    go_wp2
    simp only [hw]
    go_loopw [6, 21] (fun o i wr => ∃ (k : Nat) (l : List Int), k ≤ N ∧ i = .int .i64 k ∧ Hid (rawL b k = l) ∧ l.length ≤ 2 * k ∧ wr.ownsRow w1.heap.size 3 1 o l.length (ins l) ∧ Below w1.heap.size w1 wr) (fun _ i _ => N - (intOf i).toNat)
    case atStart => exact ⟨0, [], by omega, rfl, Lib.hid (rawL_nil b), by simp, World.ownsRow_nil _ _ _ _, Below.refl _ _⟩
    case round =>
      obtain ⟨k, l, hk, rfl, HR, hln, ho, hbb⟩ := hrel
      by_cases hlt : k < N
      · have hlt2 : (k : Int) < (N : Int) := by omega
        by_cases hk0 : k = 0
        · subst hk0
          go_wp2
          refine ⟨⟨1, [], by omega, val_int (by omega), Lib.hid (rawL_zero b), by simp, ?_, hbb⟩, by simp [intOf]; omega⟩
          have e0 : l = [] := by rw [← HR.out, rawL_nil]
          rw [e0] at ho; exact ho
        · have hk1 : (0 : Int) < (k : Int) := by omega
          have HS : Hid (rawL b (k + 1) = l ++ [4096 * (k : Int) - b, 4096 * (k : Int) + b]) := Lib.hid (by rw [rawL_step b k (by omega), HR.out])
          go_wp2_with (at_builtin; go_must (refine wpList_appLit' w1 hbb rfl (.tmp 26) (.tmp 35) 26 rfl 3 (.int .i64 0) 1 8 Try.underlying26 Try.infoIz rfl (by decide) (by decide) u6 l.length (ins l) rfl ho 2 2 [.int .i64 (4096 * (k : Int) - b), .int .i64 (4096 * (k : Int) + b)] _ rfl rfl (by simp [Value.oneCell']) (by omega) ?_); intro v1 w2 ho2 hg2 hb2)
          refine ⟨⟨k + 1, l ++ [4096 * (k : Int) - b, 4096 * (k : Int) + b], by omega, val_int (by omega), HS, by simp; omega, ?_, hb2⟩, by simp [intOf]; omega⟩
          rw [List.length_append]
          have e1 : ins (l ++ [4096 * (k : Int) - b, 4096 * (k : Int) + b]) = ins l ++ [.int .i64 (4096 * (k : Int) - b), .int .i64 (4096 * (k : Int) + b)] := by simp [ins]
          rw [e1]; exact ho2
      · have hk3 : k = N := by omega
        subst hk3
        obtain ⟨oa, oc, rfl, -, -, -, hro, -⟩ := ho.form
        have hc := HU.out oa oc l (by rw [← HR.out]; exact rawL_pw HB.out k) (by omega) wr hro
        have hcl : Lib.compact l = C := by rw [← HR.out]; exact HC0.out
        rw [hcl] at hc
        have HC := Lib.hid hc
        clear hc HU hcl
        go_wp2_with fail
        refine HC.out.mono ?_
        rintro e w2 ⟨v2, rfl, ho2, hb2⟩
        go_wp2
        refine bodyPost_ret (v := .tuple #[v2, .bool true]) (by simp [results, Try.results7, go_sem]) rfl ⟨_, rfl, ho2.mono hbb.size, hbb.trans (hb2.mono hbb.size)⟩
  · have hL' : levelB z = false := by simpa using hL
    have e1 : linesB z b = false := by unfold linesB; rw [hL']; rfl
    have e2 : linesF z b = [] := by unfold linesF; rw [e1]; simp
    rw [e1, e2]
    rw [hL'] at hlv
    have HLV := Lib.hid hlv
    clear hL hlv e1 e2 hL'
    go_enter Try.func7, Try.ntmps7
    go_wp2_with fail
    refine HLV.out.mono ?_
    rintro e w1 ⟨rfl, rfl⟩
    go_wp2
    refine bodyPost_ret (v := .tuple #[.slice none 0 0, .bool false]) (by simp [results, Try.results7, go_sem]) rfl ⟨_, rfl, World.ownsRow_nil _ _ _ _, Below.refl _ _⟩
end Go.Proofs.Ytmmhkageehlknaa
