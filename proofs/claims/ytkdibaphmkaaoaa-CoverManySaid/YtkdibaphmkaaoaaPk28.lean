/-
  text.Count, text.Right: the runes of a text. text.letter, text.Name. value.Check. table.Check. CoverMany: the walk.
-/
import Derived.Test.YtkdibaphmkaaoaaPk27
import Derived.Laws.RangeString
import Derived.Lib.OthersKept
import Derived.Test.YtkdibaphmkaaoaaPk26
/- text.Count, text.Right: the runes of a text. -/
set_option linter.unusedVariables false
set_option linter.unusedSimpArgs false
namespace Go
open Go.RowKit
/-- The runes from a place on, each with its place. -/
def rl (s : ByteArray) : Nat → Nat → List (Nat × Nat)
  | 0, _ => []
  | f + 1, p => if p < s.size then ((Utf8.decode s p).1, p) :: rl s f (p + (Utf8.decode s p).2) else []
def runesF (s : ByteArray) : List (Nat × Nat) := rl s s.size 0
/-- Is a text right? -/
def rightF (s : ByteArray) : Bool := (runesF s).all (fun x => !badAt s x.2)
theorem rl_end (s : ByteArray) (f p : Nat) (h : ¬ p < s.size) : rl s f p = [] := by
  cases f with
  | zero => rfl
  | succ f => simp [rl, h]
theorem rl_step (s : ByteArray) (f p : Nat) (h : p < s.size) : rl s (f + 1) p = ((Utf8.decode s p).1, p) :: rl s f (p + (Utf8.decode s p).2) := by simp [rl, h]
theorem below_iter (w : World) (s : ByteArray) (p : Nat) : Below w.heap.size w (w.iter s p) := (Below.refl _ _).alloc (Nat.le_refl _) _
end Go
namespace Go.Proofs.Ytkdibaphmkaaoaa
open Go.RowKit

set_option maxHeartbeats 800000 in
theorem count_any (s : ByteArray) (hs : s.size ≤ maxLen) (w : World) :
    Calls Try.prog 111 #[.string s] w fun e w' => e = .returned (.tuple #[.int .i64 (if rightF s then ((runesF s).length : Int) else 0), .bool (rightF s)]) ∧ Below w.heap.size w w' := by
  have hs2 : s.size ≤ 9223372036854775807 := by unfold maxLen at hs; omega
  obtain ⟨C, hC⟩ : ∃ C : Int, (if rightF s then ((runesF s).length : Int) else 0) = C := ⟨_, rfl⟩
  rw [hC]
  obtain ⟨T, hT⟩ : ∃ T : Bool, rightF s = T := ⟨_, rfl⟩
  rw [hT] at hC ⊢
  have HC := Lib.hid hC
  have HT := Lib.hid hT
  clear hC hT
  go_enter Try.func111, Try.ntmps111
  go_wp2
  go_loopw [4] (fun n wr => ∃ (p f : Nat) (pre : List (Nat × Nat)), n = .int .i64 (pre.length : Int) ∧ wr = w.iter s p ∧ Hid (runesF s = pre ++ rl s f p) ∧ Hid (pre.all (fun x => !badAt s x.2) = true) ∧ s.size ≤ p + f ∧ pre.length ≤ p ∧ p ≤ s.size) (fun n _ => s.size - (intOf n).toNat)
  case atStart => exact ⟨0, s.size, [], rfl, rfl, Lib.hid rfl, Lib.hid rfl, by omega, by simp, by omega⟩
  case round =>
    obtain ⟨p, f, pre, rfl, rfl, HR, HA, hpf, hpl, hps⟩ := hrel
    by_cases hp : p < s.size
    · obtain ⟨f, rfl⟩ : ∃ g, f = g + 1 := ⟨f - 1, by omega⟩
      have hnx : ∀ ty, (Instr.next (.pointer (some ⟨w.heap.size, 0, none⟩)) true ty).run Try.prog (w.iter s p) = _ := fun ty => run_next_any w s p ty hp
      have hwd := decode_wid hp
      have hbad := bad_any s p hp hs
      rw [rl_step s f p hp] at HR
      have HRT : Hid (badAt s p = true → rightF s = false) := Lib.hid (fun h => by
        unfold rightF
        rw [HR.out, List.all_append, List.all_cons]
        simp [h])
      obtain ⟨B, hB⟩ : ∃ B, badAt s p = B := ⟨_, rfl⟩
      have HBB := Lib.hid hB
      rw [hB] at hbad HRT
      clear hB
      obtain ⟨W, hW⟩ : ∃ W, p + (Utf8.decode s p).2 = W := ⟨_, rfl⟩
      rw [hW] at hnx HR
      obtain ⟨R, hR⟩ : ∃ R, (Utf8.decode s p).1 = R := ⟨_, rfl⟩
      rw [hR] at hnx hbad HR
      have HBAD := Lib.hid hbad
      have hbW : Below w.heap.size w (w.iter s W) := below_iter w s W
      have hWb : p < W ∧ W ≤ s.size := by omega
      clear hbad hwd hR hW
      go_wp2_with fail
      refine (HBAD.out _).mono ?_
      rintro e w1 ⟨rfl, rfl⟩
      cases B with
      | true =>
        have HF := Lib.hid (HRT.out rfl)
        clear HRT
        go_wp2
        refine bodyPost_ret (v := .tuple #[.int .i64 0, .bool false]) (by simp [results, Try.results111, go_sem]) rfl ⟨?_, hbW⟩
        rw [← HC.out, ← HT.out, HF.out]; rfl
      | false =>
        have hlen : Value.int .i64 ((pre.length : Int) + 1) = Value.int .i64 (((pre ++ [(R, p)]).length : Nat) : Int) := by simp
        have hw0 : IntKind.i64.wrap ((pre.length : Int) + 1) = (pre.length : Int) + 1 := IntWalk.i64_in _ (by omega)
        go_wp2
        go_roundw
        case rel => exact ⟨W, f, pre ++ [(R, p)], rfl, rfl, Lib.hid (by rw [HR.out, List.append_assoc]; rfl), Lib.hid (by rw [List.all_append, HA.out]; simp [HBB.out]), by omega, by simp; omega, by omega⟩
        case measure => simp [intOf]; omega
    · have hnx : ∀ ty, (Instr.next (.pointer (some ⟨w.heap.size, 0, none⟩)) true ty).run Try.prog (w.iter s p) = _ := fun ty => Lib.run_next_end_at (w.iter s p) w.heap.size s p ty (World.iter_heap w s p) hp
      have hbW : Below w.heap.size w (w.iter s p) := below_iter w s p
      rw [rl_end s f p hp, List.append_nil] at HR
      have hF : rightF s = true := by unfold rightF; rw [HR.out]; exact HA.out
      have HF := Lib.hid hF
      clear hF HA
      go_wp2
      refine bodyPost_ret (v := .tuple #[.int .i64 (pre.length : Int), .bool true]) (by simp [results, Try.results111, go_sem]) rfl ⟨?_, hbW⟩
      rw [← HC.out, ← HT.out, HF.out, HR.out]; simp

theorem right_any (s : ByteArray) (hs : s.size ≤ maxLen) (w : World) :
    Calls Try.prog 113 #[.string s] w fun e w' => e = .returned (.bool (rightF s)) ∧ Below w.heap.size w w' := by
  have hc := Lib.hid (count_any s hs)
  generalize (if rightF s then ((runesF s).length : Int) else 0) = C at *
  generalize rightF s = T at *
  go_enter Try.func113, Try.ntmps113
  go_wp2_with fail
  refine (hc.out _).mono ?_
  rintro e w1 ⟨rfl, hb⟩
  go_wp2
  go_ret
  exact ⟨rfl, hb⟩
end Go.Proofs.Ytkdibaphmkaaoaa
/- text.letter, text.Name. -/
set_option linter.unusedVariables false
set_option linter.unusedSimpArgs false
set_option maxRecDepth 100000
namespace Go
open Go.RowKit
def letterF (r : Nat) : Bool := decide (97 ≤ r ∧ r ≤ 122 ∨ 65 ≤ r ∧ r ≤ 90 ∨ r = 95 ∨ 128 ≤ r)
def otherF (r : Nat) : Bool := decide (r = 45 ∨ r = 46 ∨ 48 ≤ r ∧ r ≤ 57)
/-- May a rune stand in a name? -/
def nameAt (x : Nat × Nat) : Bool := letterF x.1 || (decide (x.2 ≠ 0) && otherF x.1)
/-- Is a text a name? -/
def nameF (s : ByteArray) : Bool := rightF s && decide (1 ≤ (runesF s).length ∧ (runesF s).length ≤ 32) && (runesF s).all nameAt
end Go
namespace Go.Proofs.Ytkdibaphmkaaoaa
open Go.RowKit

set_option maxHeartbeats 800000 in
theorem letter_any (r : Nat) (hr : r ≤ 1114111) (w : World) :
    Calls Try.prog 112 #[.int .i32 (r : Int)] w fun e w' => e = .returned (.bool (letterF r)) ∧ w' = w := by
  have hL : Hid (letterF r = decide (97 ≤ r ∧ r ≤ 122 ∨ 65 ≤ r ∧ r ≤ 90 ∨ r = 95 ∨ 128 ≤ r)) := Lib.hid rfl
  generalize letterF r = L at *
  go_enter Try.func112, Try.ntmps112
  go_wp2
  all_goals (go_ret; refine ⟨ret_bool ?_, rfl⟩; rw [hL.out]; clear hL; first | (simp_all; done) | (rw [Bool.eq_iff_iff]; simp only [Bool.or_eq_true, decide_eq_true_eq, beq_iff_eq]; omega) | (simp_all; omega))

set_option maxHeartbeats 1600000 in
theorem name_any (s : ByteArray) (hs : s.size ≤ maxLen) (w : World) :
    Calls Try.prog 96 #[.string s] w fun e w' => e = .returned (.bool (nameF s)) ∧ Below w.heap.size w w' := by
  have hs2 : s.size ≤ 9223372036854775807 := by unfold maxLen at hs; omega
  have hc := Lib.hid (count_any s hs)
  have hN : Hid (nameF s = (rightF s && decide (1 ≤ (runesF s).length ∧ (runesF s).length ≤ 32) && (runesF s).all nameAt)) := Lib.hid rfl
  generalize nameF s = N at *
  obtain ⟨C, hC⟩ : ∃ C : Int, (if rightF s then ((runesF s).length : Int) else 0) = C := ⟨_, rfl⟩
  rw [hC] at hc
  obtain ⟨T, hT⟩ : ∃ T : Bool, rightF s = T := ⟨_, rfl⟩
  rw [hT] at hC hc hN
  clear hT
  go_enter Try.func96, Try.ntmps96
  go_wp2_with fail
  refine (hc.out _).mono ?_
  rintro e w1 ⟨rfl, hb1⟩
  have hs1 := hb1.size
  cases T with
  | false =>
    have hn : N = false := by rw [hN.out]; rfl
    subst hn
    clear hC hN hc
    go_wp2
    go_ret
    exact ⟨rfl, hb1⟩
  | true =>
    rw [if_pos rfl] at hC
    by_cases h1 : C < 1
    · have hn : N = false := by rw [hN.out]; have : ¬ 1 ≤ (runesF s).length := by omega
                                simp [this]
      subst hn
      clear hC hN hc
      go_wp2
      go_ret
      exact ⟨rfl, hb1⟩
    · by_cases h2 : 32 < C
      · have hn : N = false := by rw [hN.out]; have : ¬ (runesF s).length ≤ 32 := by omega
                                  simp [this]
        subst hn
        clear hC hN hc
        go_wp2
        go_ret
        exact ⟨rfl, hb1⟩
      · have HN : Hid (N = (runesF s).all nameAt) := Lib.hid (by
          rw [hN.out]
          have : 1 ≤ (runesF s).length ∧ (runesF s).length ≤ 32 := by omega
          simp [this])
        clear hC hN hc
        go_wp2
        go_loopw [] (fun wr => ∃ (p f : Nat) (pre : List (Nat × Nat)), wr = w1.iter s p ∧ Hid (runesF s = pre ++ rl s f p) ∧ Hid (pre.all nameAt = true) ∧ s.size ≤ p + f ∧ p ≤ s.size) (fun wr => s.size - wr.iterPos w1.heap.size)
        case atStart => exact ⟨0, s.size, [], rfl, Lib.hid rfl, Lib.hid rfl, by omega, by omega⟩
        case round =>
          obtain ⟨p, f, pre, rfl, HR, HA, hpf, hps⟩ := hrel
          by_cases hp : p < s.size
          · obtain ⟨f, rfl⟩ : ∃ g, f = g + 1 := ⟨f - 1, by omega⟩
            have hnx : ∀ ty, (Instr.next (.pointer (some ⟨w1.heap.size, 0, none⟩)) true ty).run Try.prog (w1.iter s p) = _ := fun ty => run_next_any w1 s p ty hp
            have hwd := decode_wid hp
            rw [rl_step s f p hp] at HR
            obtain ⟨W, hW⟩ : ∃ W, p + (Utf8.decode s p).2 = W := ⟨_, rfl⟩
            rw [hW] at hnx HR
            obtain ⟨R, hR⟩ : ∃ R, (Utf8.decode s p).1 = R := ⟨_, rfl⟩
            rw [hR] at hnx HR hwd
            have hlet := letter_any R hwd.2.2.2
            have hbW : Below w.heap.size w (w1.iter s W) := hb1.trans ((below_iter w1 s W).mono hs1)
            have hWb : p < W ∧ W ≤ s.size := by omega
            have HX : Hid (nameAt (R, p) = (letterF R || (decide (p ≠ 0) && otherF R))) := Lib.hid rfl
            have HXF : Hid (nameAt (R, p) = false → N = false) := Lib.hid (fun h => by
              rw [HN.out, HR.out, List.all_append, List.all_cons, h]; simp)
            have HXT : Hid (nameAt (R, p) = true → (pre ++ [(R, p)]).all nameAt = true) := Lib.hid (fun h => by
              rw [List.all_append, HA.out]; simp [h])
            have HOT : Hid (otherF R = decide (R = 45 ∨ R = 46 ∨ 48 ≤ R ∧ R ≤ 57)) := Lib.hid rfl
            generalize nameAt (R, p) = X at *
            generalize letterF R = L at *
            have HLT := Lib.hid hlet
            have hRb : R ≤ 1114111 := hwd.2.2.2
            clear hlet hwd hR hW
            go_wp2_with fail
            refine (HLT.out _).mono ?_
            rintro e w2 ⟨rfl, rfl⟩
            cases L with
            | true =>
              have hX : X = true := by rw [HX.out]; rfl
              have HP := Lib.hid (HXT.out hX)
              clear HX HXF HXT HOT HLT hX
              go_wp2
              go_roundw
              case rel => exact ⟨W, f, pre ++ [(R, p)], rfl, Lib.hid (by rw [HR.out, List.append_assoc]; rfl), HP, by omega, by omega⟩
              case measure => simp; omega
            | false =>
              by_cases hp0 : p = 0
              · subst hp0
                have hN0 : N = false := HXF.out (by rw [HX.out]; rfl)
                subst hN0
                clear HX HXF HXT HOT HLT HN HR HA
                go_wp2
                go_ret
                exact ⟨rfl, hbW⟩
              · have hpb : ((p : Int) == 0) = false := by rw [beq_eq_false_iff_ne]; omega
                by_cases r1 : (R : Int) = 45
                · have hR1 : R = 45 := by omega
                  have hX : X = true := by rw [HX.out, HOT.out]; simp; omega
                  have HP := Lib.hid (HXT.out hX)
                  clear HX HXF HXT HOT HLT hX
                  go_wp2
                  all_goals (refine ⟨⟨W, f, pre ++ [(R, p)], rfl, Lib.hid (by rw [HR.out, List.append_assoc]; rfl), HP, by omega, by omega⟩, ?_⟩; simp; omega)
                · by_cases r2 : (R : Int) = 46
                  · have hR1 : R = 46 := by omega
                    have hX : X = true := by rw [HX.out, HOT.out]; simp; omega
                    have HP := Lib.hid (HXT.out hX)
                    clear HX HXF HXT HOT HLT hX
                    go_wp2
                    all_goals (refine ⟨⟨W, f, pre ++ [(R, p)], rfl, Lib.hid (by rw [HR.out, List.append_assoc]; rfl), HP, by omega, by omega⟩, ?_⟩; simp; omega)
                  · have n1 : ((R : Int) != 45) = true := bne_iff_ne.2 r1
                    have n2 : ((R : Int) != 46) = true := bne_iff_ne.2 r2
                    by_cases r3 : (R : Int) < 48
                    · have hN0 : N = false := HXF.out (by rw [HX.out, HOT.out]; simp; omega)
                      subst hN0
                      clear HX HXF HXT HOT HLT HN HR HA
                      go_wp2
                      go_ret
                      exact ⟨rfl, hbW⟩
                    · by_cases r4 : 57 < (R : Int)
                      · have hN0 : N = false := HXF.out (by rw [HX.out, HOT.out]; simp; omega)
                        subst hN0
                        clear HX HXF HXT HOT HLT HN HR HA
                        go_wp2
                        go_ret
                        exact ⟨rfl, hbW⟩
                      · have hX : X = true := by rw [HX.out, HOT.out]; simp; omega
                        have HP := Lib.hid (HXT.out hX)
                        clear HX HXF HXT HOT HLT hX
                        go_wp2
                        go_roundw
                        case rel => exact ⟨W, f, pre ++ [(R, p)], rfl, Lib.hid (by rw [HR.out, List.append_assoc]; rfl), HP, by omega, by omega⟩
                        case measure => simp; omega
          · have hnx : ∀ ty, (Instr.next (.pointer (some ⟨w1.heap.size, 0, none⟩)) true ty).run Try.prog (w1.iter s p) = _ := fun ty => Lib.run_next_end_at (w1.iter s p) w1.heap.size s p ty (World.iter_heap w1 s p) hp
            have hbW : Below w.heap.size w (w1.iter s p) := hb1.trans ((below_iter w1 s p).mono hs1)
            rw [rl_end s f p hp, List.append_nil] at HR
            have hF : N = true := by rw [HN.out, HR.out]; exact HA.out
            subst hF
            clear HR HA HN
            go_wp2
            go_ret
            exact ⟨rfl, hbW⟩
end Go.Proofs.Ytkdibaphmkaaoaa
/- value.Check. -/
set_option linter.unusedVariables false
set_option linter.unusedSimpArgs false
set_option maxRecDepth 100000
namespace Go
open Go.RowKit
theorem empty_txt (s : ByteArray) : s.toList.isEmpty = decide (s.size = 0) := by
  rw [ByteArray.toList_eq]
  obtain ⟨⟨l⟩⟩ := s
  cases l <;> simp [ByteArray.size]
/-- What is wrong with a value. -/
def vcF (k : Int) (t : ByteArray) (n : Int) : Int :=
  if k = 1 then (if n ≠ 0 then 3 else if rightF t = false then 13 else if 64 < t.size then 2 else 0)
  else if k = 3 then (if t.size ≠ 0 then 3 else if n < -1152921504606846976 ∨ 1152921504606846976 < n then 5 else 0)
  else if k = 2 then (if t.size ≠ 0 then 3 else if n < 0 ∨ 1152921504606846976 < n then 5 else 0)
  else if k = 4 then (if t.size ≠ 0 then 3 else if n < 0 ∨ 1 < n then 5 else 0)
  else 14
end Go
namespace Go.Proofs.Ytkdibaphmkaaoaa
open Go.RowKit

set_option maxHeartbeats 3200000 in
theorem vchk_any (k n : Int) (t : ByteArray) (ht : t.size ≤ maxLen) (w : World) :
    Calls Try.prog 97 #[.agg #[.int .i64 k, .string t, .int .i64 n]] w fun e w' => e = .returned (.int .i64 (vcF k t n)) ∧ Below w.heap.size w w' := by
  have hs2 : t.size ≤ 9223372036854775807 := by unfold maxLen at ht; omega
  have HV := Lib.hid (vcF.eq_1 k t n)
  have HRI := Lib.hid (fun W => right_any t ht W)
  have HTE : Hid (t.size = 0 → t = ⟨#[]⟩) := Lib.hid (fun h => by
    apply ByteArray.ext
    exact Array.eq_empty_of_size_eq_zero h)
  have HTN : Hid (t.size ≠ 0 → t.toList.isEmpty = false) := Lib.hid (fun h => by rw [empty_txt]; simp [h])
  generalize vcF k t n = V at *
  generalize rightF t = T at *
  have k1 := Blk.lit w w.heap.size [.int .i64 k, .string t, .int .i64 n] 91 rfl
  have hb0 := Below.new w (.cells #[.int .i64 k, .string t, .int .i64 n] 91)
  obtain ⟨B, hB⟩ : ∃ B, w.heap.size = B := ⟨_, rfl⟩
  have HBE := Lib.hid hB
  rw [hB] at k1
  have x0 := k1.cell 0 rfl
  have x1 := k1.cell 1 rfl
  have x2 := k1.cell 2 rfl
  go_enter Try.func97, Try.ntmps97
  by_cases h1 : k = 1
  · have hq := HV.out
    rw [if_pos h1] at hq
    subst h1
    have hV := Lib.hid hq
    clear HV hq
    by_cases hn : n = 0
    · have hV2 := hV.out
      rw [if_neg (by omega)] at hV2
      replace hV := Lib.hid hV2
      subst hn
      clear hV2
      go_wp2_with fail
      refine (HRI.out _).mono ?_
      rintro e w1 ⟨rfl, hb1⟩
      have k2 := k1.keep hb1
      have hbw := hb0.trans (hb1.mono hb0.size)
      clear x0 x1 x2 hb1
      have x0 := k2.cell 0 rfl
      have x1 := k2.cell 1 rfl
      have x2 := k2.cell 2 rfl
      cases T with
      | false =>
        go_wp2
        go_ret
        exact ⟨ret_int (by rw [hV.out]; simp), hbw⟩
      | true =>
        by_cases hl : 64 < t.size
        · have hl' : (64 : Int) < (t.size : Int) := by omega
          go_wp2
          go_ret
          exact ⟨ret_int (by rw [hV.out]; simp [hl]), hbw⟩
        · have hl' : ¬ (64 : Int) < (t.size : Int) := by omega
          go_wp2
          go_ret
          exact ⟨ret_int (by rw [hV.out]; simp [hl]), hbw⟩
    · have hV2 := hV.out
      rw [if_pos hn] at hV2
      have hV2 := Lib.hid hV2
      have hn' : (n == 0) = false := by simpa using hn
      go_wp2
      go_ret
      exact ⟨ret_int hV2.out.symm, by first | exact hb0 | (rw [← HBE.out]; exact hb0)⟩
  · have h1' : (k == 1) = false := by simpa using h1
    have hq := HV.out
    rw [if_neg h1] at hq
    replace HV := Lib.hid hq
    clear hq
    by_cases h3 : k = 3
    · have hq := HV.out
      rw [if_pos h3] at hq
      subst h3
      have hV := Lib.hid hq
      clear HV hq h1 h1'
      by_cases hz : t.size = 0
      · have hV2 := hV.out
        rw [if_neg (by omega)] at hV2
        replace hV := Lib.hid hV2
        clear hV2
        obtain rfl := HTE.out hz
        clear hz HTE HTN HRI
        by_cases ha : n < -1152921504606846976
        · go_wp2
          go_ret
          exact ⟨ret_int (by rw [hV.out]; simp [ha]), by first | exact hb0 | (rw [← HBE.out]; exact hb0)⟩
        · by_cases hc : 1152921504606846976 < n
          · go_wp2
            go_ret
            exact ⟨ret_int (by rw [hV.out]; simp [hc]), by first | exact hb0 | (rw [← HBE.out]; exact hb0)⟩
          · go_wp2
            go_ret
            exact ⟨ret_int (by rw [hV.out, if_neg (by omega)]), by first | exact hb0 | (rw [← HBE.out]; exact hb0)⟩
      · have hV2 := hV.out
        rw [if_pos hz] at hV2
        have hV2 := Lib.hid hV2
        have hte := HTN.out hz
        go_wp2
        go_ret
        exact ⟨ret_int hV2.out.symm, by first | exact hb0 | (rw [← HBE.out]; exact hb0)⟩
    · have h3' : (k == 3) = false := by simpa using h3
      have hq := HV.out
      rw [if_neg h3] at hq
      replace HV := Lib.hid hq
      clear hq
      by_cases h2 : k = 2
      · have hq := HV.out
        rw [if_pos h2] at hq
        subst h2
        have hV := Lib.hid hq
        clear HV hq h1 h1' h3 h3'
        by_cases hz : t.size = 0
        · have hV2 := hV.out
          rw [if_neg (by omega)] at hV2
          replace hV := Lib.hid hV2
          clear hV2
          obtain rfl := HTE.out hz
          clear hz HTE HTN HRI
          by_cases ha : n < 0
          · go_wp2
            go_ret
            exact ⟨ret_int (by rw [hV.out]; simp [ha]), by first | exact hb0 | (rw [← HBE.out]; exact hb0)⟩
          · by_cases hc : 1152921504606846976 < n
            · go_wp2
              go_ret
              exact ⟨ret_int (by rw [hV.out]; simp [hc]), by first | exact hb0 | (rw [← HBE.out]; exact hb0)⟩
            · go_wp2
              go_ret
              exact ⟨ret_int (by rw [hV.out, if_neg (by omega)]), by first | exact hb0 | (rw [← HBE.out]; exact hb0)⟩
        · have hV2 := hV.out
          rw [if_pos hz] at hV2
          have hV2 := Lib.hid hV2
          have hte := HTN.out hz
          go_wp2
          go_ret
          exact ⟨ret_int hV2.out.symm, by first | exact hb0 | (rw [← HBE.out]; exact hb0)⟩
      · have h2' : (k == 2) = false := by simpa using h2
        have hq := HV.out
        rw [if_neg h2] at hq
        replace HV := Lib.hid hq
        clear hq
        by_cases h4 : k = 4
        · have hq := HV.out
          rw [if_pos h4] at hq
          subst h4
          have hV := Lib.hid hq
          clear HV hq h1 h1' h3 h3' h2 h2'
          by_cases hz : t.size = 0
          · have hV2 := hV.out
            rw [if_neg (by omega)] at hV2
            replace hV := Lib.hid hV2
            clear hV2
            obtain rfl := HTE.out hz
            clear hz HTE HTN HRI
            by_cases ha : n < 0
            · go_wp2
              go_ret
              exact ⟨ret_int (by rw [hV.out]; simp [ha]), by first | exact hb0 | (rw [← HBE.out]; exact hb0)⟩
            · by_cases hc : 1 < n
              · go_wp2
                go_ret
                exact ⟨ret_int (by rw [hV.out]; simp [hc]), by first | exact hb0 | (rw [← HBE.out]; exact hb0)⟩
              · go_wp2
                go_ret
                exact ⟨ret_int (by rw [hV.out, if_neg (by omega)]), by first | exact hb0 | (rw [← HBE.out]; exact hb0)⟩
          · have hV2 := hV.out
            rw [if_pos hz] at hV2
            have hV2 := Lib.hid hV2
            have hte := HTN.out hz
            go_wp2
            go_ret
            exact ⟨ret_int hV2.out.symm, by first | exact hb0 | (rw [← HBE.out]; exact hb0)⟩
        · have h4' : (k == 4) = false := by simpa using h4
          have hq := HV.out
          rw [if_neg h4] at hq
          replace HV := Lib.hid hq
          clear hq
          go_wp2
          go_ret
          exact ⟨ret_int HV.out.symm, by first | exact hb0 | (rw [← HBE.out]; exact hb0)⟩
end Go.Proofs.Ytkdibaphmkaaoaa
/- table.Check. -/
set_option linter.unusedVariables false
set_option linter.unusedSimpArgs false
set_option maxRecDepth 100000
namespace Go
open Go.RowKit
/-- What is wrong with attributes. -/
def tcGo (met : List (List UInt8)) : List At → Int
  | [] => 0
  | a :: l => if nameF a.key = false then 13 else if vcF a.kind a.text a.n ≠ 0 then vcF a.kind a.text a.n else if a.key.data.toList ∈ met then 8 else tcGo (a.key.data.toList :: met) l
def tcF (l : List At) : Int := if 8 < l.length then 6 else tcGo [] l
end Go
namespace Go.Proofs.Ytkdibaphmkaaoaa
open Go.RowKit
theorem Try.zeroB (w : World) : (zeroValue 4).run Try.prog w = .ok (.bool false) w := by kernel_rfl

set_option maxHeartbeats 6400000 in
theorem tcheck_any (a : Option Addr) (c : Nat) (l : List At) (hn : l.length ≤ 1000) (hok : ∀ x ∈ l, AtOk x) (w : World) (hr : Rd w a (ats l)) :
    Calls Try.prog 71 #[.slice a l.length c] w fun e w' => e = .returned (.int .i64 (tcF l)) ∧ Below w.heap.size w w' := by
  have HR := Lib.hid hr
  have HOK := Lib.hid hok
  have HT : Hid (tcF l = if 8 < l.length then 6 else tcGo [] (l.drop 0)) := Lib.hid rfl
  generalize tcF l = TC at *
  obtain ⟨N, hN⟩ : ∃ N, l.length = N := ⟨_, rfl⟩
  have HN := Lib.hid hN
  rw [hN] at HT hn ⊢
  clear hr hok hN
  have hmm := @run_makeMap Try.prog
  obtain ⟨B, hB⟩ : ∃ B, w.heap.size = B := ⟨_, rfl⟩
  have HBE := Lib.hid hB
  go_enter Try.func71, Try.ntmps71
  by_cases h8 : 8 < N
  · have h8' : (8 : Int) < (N : Int) := by omega
    go_wp2
    go_ret
    exact ⟨ret_int (by rw [HT.out, if_pos h8]), Below.refl _ _⟩
  · have h8' : ¬ (8 : Int) < (N : Int) := by omega
    have HT2 : Hid (TC = tcGo [] (l.drop 0)) := Lib.hid (by rw [HT.out, if_neg h8])
    have hS0 := StrSet.made Try.prog 9 4 w
    rw [hB] at hS0
    have hb0 := (Below.refl w.heap.size w).alloc (Nat.le_refl _) (.map #[] 0)
    have hB0 : B < (w.alloc (.map #[] 0)).heap.size := hS0.lt
    clear HT
    go_wp2
    generalize w.alloc (.map #[] 0) = w0 at *
    go_loopw [13] (fun i wr => ∃ (k : Nat) (met : List (List UInt8)), k ≤ N ∧ i = .int .i64 k ∧ Hid (TC = tcGo met (l.drop k)) ∧ Hid (StrSet Try.prog 9 4 wr B k met) ∧ Below w.heap.size w wr) (fun i _ => N - (intOf i).toNat)
    case atStart => exact ⟨0, [], by omega, rfl, HT2, Lib.hid hS0, hb0⟩
    case round =>
      obtain ⟨k, met, hk, rfl, HZ, HS, hbl⟩ := hrel
      by_cases h1 : k < N
      · have h1' : (k : Int) < (N : Int) := by omega
        have hkl : k < l.length := by rw [HN.out]; exact h1
        obtain ⟨b1, o1, rfl, hbb, c0, c1, c2, c3⟩ := (HR.out.keep hbl).atr k hkl
        obtain ⟨q1, q2⟩ := HOK.out l[k] (List.getElem_mem hkl)
        have HD : Hid (l.drop k = l[k] :: l.drop (k + 1)) := Lib.hid (List.drop_eq_getElem_cons hkl)
        have HZ2 : Hid (TC = if nameF l[k].key = false then 13 else if vcF l[k].kind l[k].text l[k].n ≠ 0 then vcF l[k].kind l[k].text l[k].n else if l[k].key.data.toList ∈ met then 8 else tcGo (l[k].key.data.toList :: met) (l.drop (k + 1))) := Lib.hid (by
          rw [HZ.out, HD.out]; rfl)
        have HNA := Lib.hid (fun W => name_any l[k].key q1 W)
        have HVC := Lib.hid (fun W => vchk_any l[k].kind l[k].n l[k].text q2 W)
        generalize nameF l[k].key = NM at *
        generalize vcF l[k].kind l[k].text l[k].n = VC at *
        generalize l[k].key = KY at *
        generalize l[k].kind = kd at *
        generalize l[k].text = TX at *
        generalize l[k].n = nn at *
        have hxT := Below.new wr (.cells #[.string KY, .int .i64 kd, .string TX, .int .i64 nn] 93)
        have kT := Blk.new wr [.string KY, .int .i64 kd, .string TX, .int .i64 nn] 93
        have hS1 := HS.out.below hxT
        have hs := hbl.size
        have hb1 := hbl.trans (hxT.mono hs)
        have y0 := kT.cell 0 rfl
        clear HZ HD HS
        go_wp2_with fail
        obtain ⟨S, hS⟩ : ∃ S, wr.heap.size = S := ⟨_, rfl⟩
        rw [hS] at kT y0 ⊢
        generalize wr.alloc (.cells #[.string KY, .int .i64 kd, .string TX, .int .i64 nn] 93) = W1 at *
        clear hxT c0 c1 c2 c3 hS
        refine (HNA.out W1).mono ?_
        rintro e W2 ⟨rfl, hx2⟩
        have kT := kT.keep hx2
        have hS2 := hS1.below hx2
        have hb2 := hb1.trans (hx2.mono hb1.size)
        clear hS1 hx2 hb1 y0
        have y0 := kT.cell 0 rfl
        have y1 := kT.cell 1 rfl
        have y2 := kT.cell 2 rfl
        have y3 := kT.cell 3 rfl
        cases NM with
        | false =>
          go_wp2
          go_ret
          exact ⟨ret_int (by rw [HZ2.out]; simp), hb2⟩
        | true =>
          go_wp2_with fail
          refine (HVC.out W2).mono ?_
          rintro e W3 ⟨rfl, hx3⟩
          have kT := kT.keep hx3
          have hS3 := hS2.below hx3
          have hb3 := hb2.trans (hx3.mono hb2.size)
          clear hS2 hx3 hb2 y0 y1 y2 y3
          have y0 := kT.cell 0 rfl
          have hlk := hS3.look Try.underlying163 Try.underlying9 Try.underlying4 (Try.zeroB W3) KY q1
          by_cases hv : VC = 0
          · subst hv
            by_cases hm : KY.data.toList ∈ met
            · rw [decide_eq_true hm] at hlk
              have HV : Hid (TC = 8) := Lib.hid (by rw [HZ2.out, if_neg (by simp), if_neg (by simp), if_pos hm])
              clear HZ2 hm
              go_wp2
              go_ret
              exact ⟨ret_int HV.out.symm, hb3⟩
            · rw [decide_eq_false hm] at hlk
              have HV : Hid (TC = tcGo (KY.data.toList :: met) (l.drop (k + 1))) := Lib.hid (by rw [HZ2.out, if_neg (by simp), if_neg (by simp), if_neg hm])
              clear HZ2 hm
              go_wp2_with (at_mapUpdate; go_must (refine wpList_set_add W3 rfl (.tmp 31) (.tmp 33) (.const (.bool true)) rfl Try.underlying163 Try.underlying9 Try.underlying4 B k met rfl hS3 (by unfold maxLen; omega) KY q1 rfl rfl ?_); intro W4 hS4 hg4)
              have hb4 := hb3.grown hg4 hb3.size (fun j hj => by cases hj; exact Nat.le_of_eq HBE.out)
              exact ⟨⟨k + 1, _, by omega, by go_num, HV, Lib.hid hS4, hb4⟩, by simp [intOf]; omega⟩
          · have hv' : (VC == 0) = false := by simpa using hv
            have HV : Hid (TC = VC) := Lib.hid (by rw [HZ2.out, if_neg (by simp), if_pos hv])
            go_wp2
            go_ret
            exact ⟨ret_int HV.out.symm, hb3⟩
      · have h1' : ¬ (k : Int) < (N : Int) := by omega
        have hd : l.drop k = [] := List.drop_of_length_le (by rw [HN.out]; omega)
        rw [hd] at HZ
        go_wp2
        go_ret
        exact ⟨ret_int HZ.out.symm, by first | exact hbl | (rw [← HBE.out]; exact hbl)⟩
end Go.Proofs.Ytkdibaphmkaaoaa
/- CoverMany: the walk. -/
set_option linter.unusedVariables false
set_option linter.unusedSimpArgs false
set_option maxRecDepth 100000
namespace Go
open Go.RowKit
theorem vcF_six (k : Int) (t : ByteArray) (n : Int) : vcF k t n ≠ 6 := by
  unfold vcF
  repeat' split
  all_goals decide
theorem tcGo_six (met : List (List UInt8)) (l : List At) : tcGo met l ≠ 6 := by
  induction l generalizing met with
  | nil => simp [tcGo]
  | cons a l ih =>
    unfold tcGo
    split
    · decide
    · split
      · exact vcF_six _ _ _
      · split
        · decide
        · exact ih _
theorem tcF_six (l : List At) : tcF l = 6 ↔ 8 < l.length := by
  unfold tcF
  constructor
  · intro h
    split at h
    · assumption
    · exact absurd h (tcGo_six _ _)
  · intro h; rw [if_pos h]
theorem tcs_six {ls : List (List At)} (h : tcs tcF ls = 6) : ∃ l ∈ ls, 8 < l.length := by
  induction ls with
  | nil => cases h
  | cons a l ih =>
    unfold tcs at h
    split at h
    · obtain ⟨x, hx, h2⟩ := ih h
      exact ⟨x, List.mem_cons_of_mem _ hx, h2⟩
    · exact ⟨a, List.mem_cons_self, (tcF_six _).1 h⟩
theorem meetsB_six (L : List Ed) : meetsB L ≠ 6 := by
  unfold meetsB
  repeat' split
  all_goals decide
theorem validB_six (F : List (List (List Pt))) : validB F ≠ 6 := by
  unfold validB
  split
  · decide
  · split
    · exact meetsB_six _
    · split
      · decide
      · split <;> decide
theorem cnt_mem {fs : List Fc} {f : Fc} (hf : f ∈ fs) : f.rs.length ≤ cntR (fs.map Fc.rings) ∧ ∀ r ∈ f.rs, r.l.length ≤ cntP (fs.map Fc.rings) := by
  obtain ⟨A, B, rfl⟩ := List.append_of_mem hf
  rw [List.map_append, List.map_cons, cntR_append, cntP_append]
  simp only [cntR, cntP]
  refine ⟨by simp [Fc.rings]; omega, fun r hr => ?_⟩
  have h : r.l.length ≤ lenS f.rings := by
    have hm : r.l ∈ f.rings := List.mem_map_of_mem hr
    obtain ⟨C, D, he⟩ := List.append_of_mem hm
    rw [he, lenS_append]
    simp [lenS]
    omega
  omega
/-- When is something many? -/
theorem check_six {n : Nat} {F : List (List (List Pt))} {ls : List (List At)} {x : Int} (h : CheckIs tcF n F ls x) (h1 : ¬ (32 < n ∨ 64 < cntR F ∨ 512 < cntP F)) (hx : x = 6) : ∃ l ∈ ls, 8 < l.length := by
  rcases h with ⟨h2, h3⟩ | ⟨-, h2⟩
  · rw [hx] at h3
    unfold chkF at h3
    rw [if_neg h1] at h3
    split at h3
    · cases h3
    · exact tcs_six h3.symm
  · rw [validIs_iff] at h2
    exact absurd (h2.symm.trans hx) (validB_six _)
theorem check_many {n : Nat} {F : List (List (List Pt))} {ls : List (List At)} {x : Int} (h : CheckIs tcF n F ls x) (h1 : 32 < n ∨ 64 < cntR F ∨ 512 < cntP F) : x = 6 := by
  rcases h with ⟨h2, h3⟩ | ⟨h2, -⟩
  · rw [h3]; unfold chkF; rw [if_pos h1]
  · unfold chkF at h2; rw [if_pos h1] at h2; cases h2
end Go
namespace Go.Proofs.Ytkdibaphmkaaoaa
open Go.RowKit

set_option maxHeartbeats 1600000 in
theorem toomany_any (a : Option Addr) (c : Nat) (L : List Fc) (hlen : L.length ≤ 1000000) (hmany : ∃ f ∈ L, 8 < f.ls.length) (hls : ∀ f ∈ L, f.ls.length ≤ 1000) (w : World) (hr : Rd w a (fcs L)) :
    Calls Try.prog 18 #[.slice a L.length c] w fun e w' => e = .returned (.bool true) ∧ Below w.heap.size w w' := by
  have HR := Lib.hid hr
  have HM := Lib.hid hmany
  have HL := Lib.hid hls
  obtain ⟨N, hN⟩ : ∃ N, L.length = N := ⟨_, rfl⟩
  have HN := Lib.hid hN
  rw [hN] at hlen ⊢
  clear hr hN hmany hls
  go_enter Try.func18, Try.ntmps18
  go_wp2
  go_loopw [3] (fun i wr => ∃ k : Nat, k ≤ N ∧ i = .int .i64 k ∧ Hid (∀ f ∈ L.take k, f.ls.length ≤ 8) ∧ Below w.heap.size w wr) (fun i _ => N - (intOf i).toNat)
  case atStart => exact ⟨0, by omega, rfl, Lib.hid (by simp), Below.refl _ _⟩
  case round =>
    obtain ⟨k, hk, rfl, HA, hbl⟩ := hrel
    by_cases h1 : k < N
    · have h1' : (k : Int) < (N : Int) := by omega
      have hkl : k < L.length := by rw [HN.out]; exact h1
      obtain ⟨b, o, rfl, hb, c0, c1⟩ := (HR.out.keep hbl).fc k hkl
      have HT : Hid (L.take (k + 1) = L.take k ++ [L[k]]) := Lib.hid (List.take_succ_eq_append_getElem hkl)
      have HLK := HL.out _ (List.getElem_mem hkl)
      generalize L[k] = P at *
      obtain ⟨prs, pra, prc, pls, paa, pac⟩ := P
      dsimp only [Fc.aval] at c1 HLK
      obtain ⟨m, hm⟩ : ∃ m, pls.length = m := ⟨_, rfl⟩
      have HMM := Lib.hid hm
      rw [hm] at c1 HLK
      clear hm
      by_cases h8 : 8 < m
      · have h8' : (8 : Int) < (m : Int) := by omega
        go_wp2
        go_ret
        exact ⟨rfl, hbl⟩
      · have h8' : ¬ (8 : Int) < (m : Int) := by omega
        have HA2 : Hid (∀ f ∈ L.take (k + 1), f.ls.length ≤ 8) := Lib.hid (by
          intro f hf
          rw [HT.out, List.mem_append, List.mem_singleton] at hf
          rcases hf with hf | rfl
          · exact HA.out f hf
          · dsimp only; rw [HMM.out]; omega)
        go_wp2
        exact ⟨⟨k + 1, by omega, by go_num, HA2, hbl⟩, by simp [intOf]; omega⟩
    · exfalso
      obtain ⟨f, hf, h8⟩ := HM.out
      have := HA.out f (by rw [List.take_of_length_le (by rw [HN.out]; omega)]; exact hf)
      omega

set_option maxHeartbeats 3200000 in
theorem cmany_walk (a : Option Addr) (c : Nat) (X : List Fc) (hl : X.length ≤ c) (hm : c ≤ maxLen) (w : World) (hr : Rd w a (fcs X)) (hx : ∀ y ∈ X, FcIn w y) :
    Calls Try.prog 4 #[.slice a X.length c] w fun e w' => e = .returned (.bool true) ∧ Below w.heap.size w w' := by
  have HCW := Lib.hid (cut12_any a c X hl hm w hr (fun f hf => (hx f hf).in))
  generalize X.length = N at *
  clear hr hl hm hx
  go_enter Try.func4, Try.ntmps4
  go_wp2_with fail
  refine HCW.out.mono ?_
  rintro e w1 ⟨fs, v, rfl, hO, hT, ⟨s1, s2, s3, s4⟩, hb1⟩
  obtain ⟨a1, c1, rfl, hc1, hc2, hc3, hR1, -⟩ := hO.form
  have hrl : ∀ f ∈ fs, f.rs.length ≤ 1000000 ∧ ∀ r ∈ f.rs, r.l.length ≤ 1000000 := by
    intro f hf
    have h1 := cnt_mem hf
    exact ⟨by omega, fun r hr => by have := h1.2 r hr; omega⟩
  have HCN := Lib.hid (fcount_any a1 c1 fs (by omega) (by omega) (by omega) w1 hR1 (fun f hf => (hT f hf).1))
  have HCK := Lib.hid (fun W (hW : Below w1.heap.size w1 W) => ccheck_any tcF a1 c1 fs (by omega) (by omega) (by omega) (fun f hf => (hrl f hf).2) (fun f hf => (hrl f hf).1) W (hR1.keep hW) (fun f hf => (hT f hf).1.keep hW) (fun f hf W2 hr2 => tcheck_any f.aa f.ac f.ls (by have := (s4 f hf).1; omega) (fun x hx => ⟨by have := ((s4 f hf).2 x hx).1; unfold maxLen; omega, by have := ((s4 f hf).2 x hx).2; unfold maxLen; omega⟩) W2 hr2))
  have HTM := Lib.hid (fun (hmany : ∃ f ∈ fs, 8 < f.ls.length) W (hW : Below w1.heap.size w1 W) => toomany_any a1 c1 fs (by omega) hmany (fun f hf => by have := (s4 f hf).1; omega) W (hR1.keep hW))
  obtain ⟨n, hn⟩ : ∃ n, fs.length = n := ⟨_, rfl⟩
  rw [hn] at HCN HCK HTM s1 ⊢
  obtain ⟨R, hR⟩ : ∃ n, cntR (fs.map Fc.rings) = n := ⟨_, rfl⟩
  obtain ⟨P, hP⟩ : ∃ n, cntP (fs.map Fc.rings) = n := ⟨_, rfl⟩
  have HRP := Lib.hid (And.intro hR hP)
  rw [hR, hP] at HCN
  rw [hR] at s2
  rw [hP] at s3
  have HCK2 : Hid (∀ W, Below w1.heap.size w1 W → Calls Try.prog 14 #[.slice a1 n c1] W fun e w' => (∃ x, e = .returned (.int .i64 x) ∧ CheckIs tcF n (fs.map Fc.rings) (fs.map Fc.ls) x) ∧ Below W.heap.size W w') := HCK
  have HTM2 : Hid ((∃ f ∈ fs, 8 < f.ls.length) → ∀ W, Below w1.heap.size w1 W → Calls Try.prog 18 #[.slice a1 n c1] W fun e w' => e = .returned (.bool true) ∧ Below W.heap.size W w') := HTM
  have HNN : Hid (fs.length = n) := Lib.hid hn
  clear hO hT hR1 hrl s4 hR hP hn HCK HTM HCW
  go_wp2_with fail
  refine HCN.out.mono ?_
  rintro e w2 ⟨rfl, hb2⟩
  have hb3 := hb1.trans (hb2.mono hb1.size)
  clear HCN
  by_cases hsm : 32 < n ∨ 64 < R ∨ 512 < P
  · have HBIG : Hid (∀ x, CheckIs tcF n (fs.map Fc.rings) (fs.map Fc.ls) x → x = 6) := Lib.hid fun x h => check_many h (by rw [HRP.out.1, HRP.out.2]; exact hsm)
    by_cases g1 : n ≤ 32
    · have g1' : (n : Int) ≤ 32 := by omega
      by_cases g2 : R ≤ 64
      · have g2' : (R : Int) ≤ 64 := by omega
        have g3' : ¬ (P : Int) ≤ 512 := by omega
        clear hsm
        go_wp2_with fail
        refine (known13 w2).mono ?_
        rintro e w3 ⟨rfl, hb4⟩
        have hb5 := hb3.trans (hb4.mono hb3.size)
        have hb6 := hb2.trans (hb4.mono hb2.size)
        go_wp2_with fail
        refine (HCK2.out w3 hb6).mono ?_
        rintro e w4 ⟨⟨x, rfl, hx⟩, hb7⟩
        obtain rfl := HBIG.out x hx
        have hb8 := hb5.trans (hb7.mono hb5.size)
        clear hx HBIG
        go_wp2
        go_ret
        exact ⟨rfl, hb8⟩
      · have g2' : ¬ (R : Int) ≤ 64 := by omega
        clear hsm
        go_wp2_with fail
        refine (known13 w2).mono ?_
        rintro e w3 ⟨rfl, hb4⟩
        have hb5 := hb3.trans (hb4.mono hb3.size)
        have hb6 := hb2.trans (hb4.mono hb2.size)
        go_wp2_with fail
        refine (HCK2.out w3 hb6).mono ?_
        rintro e w4 ⟨⟨x, rfl, hx⟩, hb7⟩
        obtain rfl := HBIG.out x hx
        have hb8 := hb5.trans (hb7.mono hb5.size)
        clear hx HBIG
        go_wp2
        go_ret
        exact ⟨rfl, hb8⟩
    · have g1' : ¬ (n : Int) ≤ 32 := by omega
      clear hsm
      go_wp2_with fail
      refine (known13 w2).mono ?_
      rintro e w3 ⟨rfl, hb4⟩
      have hb5 := hb3.trans (hb4.mono hb3.size)
      have hb6 := hb2.trans (hb4.mono hb2.size)
      go_wp2_with fail
      refine (HCK2.out w3 hb6).mono ?_
      rintro e w4 ⟨⟨x, rfl, hx⟩, hb7⟩
      obtain rfl := HBIG.out x hx
      have hb8 := hb5.trans (hb7.mono hb5.size)
      clear hx HBIG
      go_wp2
      go_ret
      exact ⟨rfl, hb8⟩
  · have g1' : (n : Int) ≤ 32 := by omega
    have g2' : (R : Int) ≤ 64 := by omega
    have g3' : (P : Int) ≤ 512 := by omega
    have HSM : Hid (∀ x, CheckIs tcF n (fs.map Fc.rings) (fs.map Fc.ls) x → x = 6 → (∃ f ∈ fs, 8 < f.ls.length) ∧ 0 < n) := Lib.hid fun x h h6 => by
      obtain ⟨l, hl, h8⟩ := check_six h (by rw [HRP.out.1, HRP.out.2]; exact hsm) h6
      obtain ⟨f, hf, rfl⟩ := List.mem_map.1 hl
      exact ⟨⟨f, hf, h8⟩, by rw [← HNN.out]; exact List.length_pos_of_mem hf⟩
    clear hsm
    go_wp2_with fail
    refine (known13 w2).mono ?_
    rintro e w3 ⟨rfl, hb4⟩
    have hb5 := hb3.trans (hb4.mono hb3.size)
    have hb6 := hb2.trans (hb4.mono hb2.size)
    go_wp2_with fail
    refine (HCK2.out w3 hb6).mono ?_
    rintro e w4 ⟨⟨x, rfl, hx⟩, hb7⟩
    have hb8 := hb5.trans (hb7.mono hb5.size)
    have hb9 := hb6.trans (hb7.mono hb6.size)
    by_cases h6 : x = 6
    · obtain ⟨hmm, hn0⟩ := HSM.out x hx h6
      have HTMW := Lib.hid (HTM2.out hmm w4 hb9)
      have hn0' : (0 : Int) < (n : Int) := by omega
      subst h6
      clear hx hmm HTM2 HSM HCK2
      go_wp2_with fail
      refine HTMW.out.mono ?_
      rintro e w5 ⟨rfl, hb10⟩
      have hb11 := hb8.trans (hb10.mono hb8.size)
      go_wp2
      go_ret
      exact ⟨rfl, hb11⟩
    · have h6' : (x != 6) = true := by simp [h6]
      clear hx HTM2 HSM HCK2
      go_wp2
      go_ret
      exact ⟨rfl, hb8⟩
theorem cmany_law {w : World} (a : Option Addr) (c : Nat) (X : List Fc) (hl : X.length ≤ c) (hm : c ≤ maxLen) (hn : a = none → c = 0) (hr : Rd w a (fcs X)) (hx : ∀ y ∈ X, FcIn w y) :
    Calls Try.prog 4 #[.slice a X.length c] w fun e w' => e = .returned (.bool true) ∧ Below w.heap.size w w' :=
  cmany_walk a c X hl hm w hr hx
end Go.Proofs.Ytkdibaphmkaaoaa
