/-
  text.letter, text.Name.
-/
import Derived.Test.YtbjiamakchklpaaTcount
set_option linter.unusedVariables false
set_option linter.unusedSimpArgs false
set_option maxRecDepth 100000
namespace Go
open Go.RowKit
def letterF (r : Nat) : Bool := decide (97 ≤ r ∧ r ≤ 122 ∨ 65 ≤ r ∧ r ≤ 90 ∨ r = 95 ∨ 128 ≤ r)
def otherF (r : Nat) : Bool := decide (r = 45 ∨ r = 46 ∨ 48 ≤ r ∧ r ≤ 57)
/-- May a rune stand in a name? -/
def nameAt (x : Nat × Nat) : Bool := letterF x.1 || (decide (x.2 ≠ 0) && otherF x.1)
/-- Is a text a name? -/
def nameF (s : ByteArray) : Bool := rightF s && decide (1 ≤ (runesF s).length ∧ (runesF s).length ≤ 32) && (runesF s).all nameAt
end Go
namespace Go.Proofs.Ytbjiamakchklpaa
open Go.RowKit

set_option maxHeartbeats 800000 in
theorem letter_any (r : Nat) (hr : r ≤ 1114111) (w : World) :
    Calls Try.prog 34 #[.int .i32 (r : Int)] w fun e w' => e = .returned (.bool (letterF r)) ∧ w' = w := by
  have hL : Hid (letterF r = decide (97 ≤ r ∧ r ≤ 122 ∨ 65 ≤ r ∧ r ≤ 90 ∨ r = 95 ∨ 128 ≤ r)) := Lib.hid rfl
  generalize letterF r = L at *
  go_enter Try.func34, Try.ntmps34
  go_wp2
  all_goals (go_ret; refine ⟨ret_bool ?_, rfl⟩; rw [hL.out]; clear hL; first | (simp_all; done) | (rw [Bool.eq_iff_iff]; simp only [Bool.or_eq_true, decide_eq_true_eq, beq_iff_eq]; omega) | (simp_all; omega))

set_option maxHeartbeats 1600000 in
theorem name_any (s : ByteArray) (hs : s.size ≤ maxLen) (w : World) :
    Calls Try.prog 19 #[.string s] w fun e w' => e = .returned (.bool (nameF s)) ∧ Below w.heap.size w w' := by
  have hs2 : s.size ≤ 9223372036854775807 := by unfold maxLen at hs; omega
  have hc := Lib.hid (count_any s hs)
  have hN : Hid (nameF s = (rightF s && decide (1 ≤ (runesF s).length ∧ (runesF s).length ≤ 32) && (runesF s).all nameAt)) := Lib.hid rfl
  generalize nameF s = N at *
  obtain ⟨C, hC⟩ : ∃ C : Int, (if rightF s then ((runesF s).length : Int) else 0) = C := ⟨_, rfl⟩
  rw [hC] at hc
  obtain ⟨T, hT⟩ : ∃ T : Bool, rightF s = T := ⟨_, rfl⟩
  rw [hT] at hC hc hN
  clear hT
  go_enter Try.func19, Try.ntmps19
  go_wp2_with fail
  refine (hc.out _).mono ?_
  rintro e w1 ⟨rfl, hb1⟩
  have hs1 := hb1.size
  cases T with
  | false =>
    have hn : N = false := by rw [hN.out]; rfl
    subst hn
    clear hC hN hc
    go_wp2
    go_ret
    exact ⟨rfl, hb1⟩
  | true =>
    rw [if_pos rfl] at hC
    by_cases h1 : C < 1
    · have hn : N = false := by rw [hN.out]; have : ¬ 1 ≤ (runesF s).length := by omega
                                simp [this]
      subst hn
      clear hC hN hc
      go_wp2
      go_ret
      exact ⟨rfl, hb1⟩
    · by_cases h2 : 32 < C
      · have hn : N = false := by rw [hN.out]; have : ¬ (runesF s).length ≤ 32 := by omega
                                  simp [this]
        subst hn
        clear hC hN hc
        go_wp2
        go_ret
        exact ⟨rfl, hb1⟩
      · have HN : Hid (N = (runesF s).all nameAt) := Lib.hid (by
          rw [hN.out]
          have : 1 ≤ (runesF s).length ∧ (runesF s).length ≤ 32 := by omega
          simp [this])
        clear hC hN hc
        go_wp2
        go_loopw [] (fun wr => ∃ (p f : Nat) (pre : List (Nat × Nat)), wr = w1.iter s p ∧ Hid (runesF s = pre ++ rl s f p) ∧ Hid (pre.all nameAt = true) ∧ s.size ≤ p + f ∧ p ≤ s.size) (fun wr => s.size - wr.iterPos w1.heap.size)
        case atStart => exact ⟨0, s.size, [], rfl, Lib.hid rfl, Lib.hid rfl, by omega, by omega⟩
        case round =>
          obtain ⟨p, f, pre, rfl, HR, HA, hpf, hps⟩ := hrel
          by_cases hp : p < s.size
          · obtain ⟨f, rfl⟩ : ∃ g, f = g + 1 := ⟨f - 1, by omega⟩
            have hnx : ∀ ty, (Instr.next (.pointer (some ⟨w1.heap.size, 0, none⟩)) true ty).run Try.prog (w1.iter s p) = _ := fun ty => run_next_any w1 s p ty hp
            have hwd := decode_wid hp
            rw [rl_step s f p hp] at HR
            obtain ⟨W, hW⟩ : ∃ W, p + (Utf8.decode s p).2 = W := ⟨_, rfl⟩
            rw [hW] at hnx HR
            obtain ⟨R, hR⟩ : ∃ R, (Utf8.decode s p).1 = R := ⟨_, rfl⟩
            rw [hR] at hnx HR hwd
            have hlet := letter_any R hwd.2.2.2
            have hbW : Below w.heap.size w (w1.iter s W) := hb1.trans ((below_iter w1 s W).mono hs1)
            have hWb : p < W ∧ W ≤ s.size := by omega
            have HX : Hid (nameAt (R, p) = (letterF R || (decide (p ≠ 0) && otherF R))) := Lib.hid rfl
            have HXF : Hid (nameAt (R, p) = false → N = false) := Lib.hid (fun h => by
              rw [HN.out, HR.out, List.all_append, List.all_cons, h]; simp)
            have HXT : Hid (nameAt (R, p) = true → (pre ++ [(R, p)]).all nameAt = true) := Lib.hid (fun h => by
              rw [List.all_append, HA.out]; simp [h])
            have HOT : Hid (otherF R = decide (R = 45 ∨ R = 46 ∨ 48 ≤ R ∧ R ≤ 57)) := Lib.hid rfl
            generalize nameAt (R, p) = X at *
            generalize letterF R = L at *
            have HLT := Lib.hid hlet
            have hRb : R ≤ 1114111 := hwd.2.2.2
            clear hlet hwd hR hW
            go_wp2_with fail
            refine (HLT.out _).mono ?_
            rintro e w2 ⟨rfl, rfl⟩
            cases L with
            | true =>
              have hX : X = true := by rw [HX.out]; rfl
              have HP := Lib.hid (HXT.out hX)
              clear HX HXF HXT HOT HLT hX
              go_wp2
              go_roundw
              case rel => exact ⟨W, f, pre ++ [(R, p)], rfl, Lib.hid (by rw [HR.out, List.append_assoc]; rfl), HP, by omega, by omega⟩
              case measure => simp; omega
            | false =>
              by_cases hp0 : p = 0
              · subst hp0
                have hN0 : N = false := HXF.out (by rw [HX.out]; rfl)
                subst hN0
                clear HX HXF HXT HOT HLT HN HR HA
                go_wp2
                go_ret
                exact ⟨rfl, hbW⟩
              · have hpb : ((p : Int) == 0) = false := by rw [beq_eq_false_iff_ne]; omega
                by_cases r1 : (R : Int) = 45
                · have hR1 : R = 45 := by omega
                  have hX : X = true := by rw [HX.out, HOT.out]; simp; omega
                  have HP := Lib.hid (HXT.out hX)
                  clear HX HXF HXT HOT HLT hX
                  go_wp2
                  all_goals (refine ⟨⟨W, f, pre ++ [(R, p)], rfl, Lib.hid (by rw [HR.out, List.append_assoc]; rfl), HP, by omega, by omega⟩, ?_⟩; simp; omega)
                · by_cases r2 : (R : Int) = 46
                  · have hR1 : R = 46 := by omega
                    have hX : X = true := by rw [HX.out, HOT.out]; simp; omega
                    have HP := Lib.hid (HXT.out hX)
                    clear HX HXF HXT HOT HLT hX
                    go_wp2
                    all_goals (refine ⟨⟨W, f, pre ++ [(R, p)], rfl, Lib.hid (by rw [HR.out, List.append_assoc]; rfl), HP, by omega, by omega⟩, ?_⟩; simp; omega)
                  · have n1 : ((R : Int) != 45) = true := bne_iff_ne.2 r1
                    have n2 : ((R : Int) != 46) = true := bne_iff_ne.2 r2
                    by_cases r3 : (R : Int) < 48
                    · have hN0 : N = false := HXF.out (by rw [HX.out, HOT.out]; simp; omega)
                      subst hN0
                      clear HX HXF HXT HOT HLT HN HR HA
                      go_wp2
                      go_ret
                      exact ⟨rfl, hbW⟩
                    · by_cases r4 : 57 < (R : Int)
                      · have hN0 : N = false := HXF.out (by rw [HX.out, HOT.out]; simp; omega)
                        subst hN0
                        clear HX HXF HXT HOT HLT HN HR HA
                        go_wp2
                        go_ret
                        exact ⟨rfl, hbW⟩
                      · have hX : X = true := by rw [HX.out, HOT.out]; simp; omega
                        have HP := Lib.hid (HXT.out hX)
                        clear HX HXF HXT HOT HLT hX
                        go_wp2
                        go_roundw
                        case rel => exact ⟨W, f, pre ++ [(R, p)], rfl, Lib.hid (by rw [HR.out, List.append_assoc]; rfl), HP, by omega, by omega⟩
                        case measure => simp; omega
          · have hnx : ∀ ty, (Instr.next (.pointer (some ⟨w1.heap.size, 0, none⟩)) true ty).run Try.prog (w1.iter s p) = _ := fun ty => Lib.run_next_end_at (w1.iter s p) w1.heap.size s p ty (World.iter_heap w1 s p) hp
            have hbW : Below w.heap.size w (w1.iter s p) := hb1.trans ((below_iter w1 s p).mono hs1)
            rw [rl_end s f p hp, List.append_nil] at HR
            have hF : N = true := by rw [HN.out, HR.out]; exact HA.out
            subst hF
            clear HR HA HN
            go_wp2
            go_ret
            exact ⟨rfl, hbW⟩
end Go.Proofs.Ytbjiamakchklpaa
