/-
  text.Count, text.Right: the runes of a text.
-/
import Derived.Test.YtbjiamakchklpaaTbad
import Derived.Laws.RangeString
import Derived.Lib.OthersKept
set_option linter.unusedVariables false
set_option linter.unusedSimpArgs false
namespace Go
open Go.RowKit
/-- The runes from a place on, each with its place. -/
def rl (s : ByteArray) : Nat → Nat → List (Nat × Nat)
  | 0, _ => []
  | f + 1, p => if p < s.size then ((Utf8.decode s p).1, p) :: rl s f (p + (Utf8.decode s p).2) else []
def runesF (s : ByteArray) : List (Nat × Nat) := rl s s.size 0
/-- Is a text right? -/
def rightF (s : ByteArray) : Bool := (runesF s).all (fun x => !badAt s x.2)
theorem rl_end (s : ByteArray) (f p : Nat) (h : ¬ p < s.size) : rl s f p = [] := by
  cases f with
  | zero => rfl
  | succ f => simp [rl, h]
theorem rl_step (s : ByteArray) (f p : Nat) (h : p < s.size) : rl s (f + 1) p = ((Utf8.decode s p).1, p) :: rl s f (p + (Utf8.decode s p).2) := by simp [rl, h]
theorem below_iter (w : World) (s : ByteArray) (p : Nat) : Below w.heap.size w (w.iter s p) := (Below.refl _ _).alloc (Nat.le_refl _) _
end Go
namespace Go.Proofs.Ytbjiamakchklpaa
open Go.RowKit

set_option maxHeartbeats 800000 in
theorem count_any (s : ByteArray) (hs : s.size ≤ maxLen) (w : World) :
    Calls Try.prog 16 #[.string s] w fun e w' => e = .returned (.tuple #[.int .i64 (if rightF s then ((runesF s).length : Int) else 0), .bool (rightF s)]) ∧ Below w.heap.size w w' := by
  have hs2 : s.size ≤ 9223372036854775807 := by unfold maxLen at hs; omega
  obtain ⟨C, hC⟩ : ∃ C : Int, (if rightF s then ((runesF s).length : Int) else 0) = C := ⟨_, rfl⟩
  rw [hC]
  obtain ⟨T, hT⟩ : ∃ T : Bool, rightF s = T := ⟨_, rfl⟩
  rw [hT] at hC ⊢
  have HC := Lib.hid hC
  have HT := Lib.hid hT
  clear hC hT
  go_enter Try.func16, Try.ntmps16
  go_wp2
  go_loopw [4] (fun n wr => ∃ (p f : Nat) (pre : List (Nat × Nat)), n = .int .i64 (pre.length : Int) ∧ wr = w.iter s p ∧ Hid (runesF s = pre ++ rl s f p) ∧ Hid (pre.all (fun x => !badAt s x.2) = true) ∧ s.size ≤ p + f ∧ pre.length ≤ p ∧ p ≤ s.size) (fun n _ => s.size - (intOf n).toNat)
  case atStart => exact ⟨0, s.size, [], rfl, rfl, Lib.hid rfl, Lib.hid rfl, by omega, by simp, by omega⟩
  case round =>
    obtain ⟨p, f, pre, rfl, rfl, HR, HA, hpf, hpl, hps⟩ := hrel
    by_cases hp : p < s.size
    · obtain ⟨f, rfl⟩ : ∃ g, f = g + 1 := ⟨f - 1, by omega⟩
      have hnx : ∀ ty, (Instr.next (.pointer (some ⟨w.heap.size, 0, none⟩)) true ty).run Try.prog (w.iter s p) = _ := fun ty => run_next_any w s p ty hp
      have hwd := decode_wid hp
      have hbad := bad_any s p hp hs
      rw [rl_step s f p hp] at HR
      have HRT : Hid (badAt s p = true → rightF s = false) := Lib.hid (fun h => by
        unfold rightF
        rw [HR.out, List.all_append, List.all_cons]
        simp [h])
      obtain ⟨B, hB⟩ : ∃ B, badAt s p = B := ⟨_, rfl⟩
      have HBB := Lib.hid hB
      rw [hB] at hbad HRT
      clear hB
      obtain ⟨W, hW⟩ : ∃ W, p + (Utf8.decode s p).2 = W := ⟨_, rfl⟩
      rw [hW] at hnx HR
      obtain ⟨R, hR⟩ : ∃ R, (Utf8.decode s p).1 = R := ⟨_, rfl⟩
      rw [hR] at hnx hbad HR
      have HBAD := Lib.hid hbad
      have hbW : Below w.heap.size w (w.iter s W) := below_iter w s W
      have hWb : p < W ∧ W ≤ s.size := by omega
      clear hbad hwd hR hW
      go_wp2_with fail
      refine (HBAD.out _).mono ?_
      rintro e w1 ⟨rfl, rfl⟩
      cases B with
      | true =>
        have HF := Lib.hid (HRT.out rfl)
        clear HRT
        go_wp2
        refine bodyPost_ret (v := .tuple #[.int .i64 0, .bool false]) (by simp [results, Try.results16, go_sem]) rfl ⟨?_, hbW⟩
        rw [← HC.out, ← HT.out, HF.out]; rfl
      | false =>
        have hlen : Value.int .i64 ((pre.length : Int) + 1) = Value.int .i64 (((pre ++ [(R, p)]).length : Nat) : Int) := by simp
        have hw0 : IntKind.i64.wrap ((pre.length : Int) + 1) = (pre.length : Int) + 1 := IntWalk.i64_in _ (by omega)
        go_wp2
        go_roundw
        case rel => exact ⟨W, f, pre ++ [(R, p)], rfl, rfl, Lib.hid (by rw [HR.out, List.append_assoc]; rfl), Lib.hid (by rw [List.all_append, HA.out]; simp [HBB.out]), by omega, by simp; omega, by omega⟩
        case measure => simp [intOf]; omega
    · have hnx : ∀ ty, (Instr.next (.pointer (some ⟨w.heap.size, 0, none⟩)) true ty).run Try.prog (w.iter s p) = _ := fun ty => Lib.run_next_end_at (w.iter s p) w.heap.size s p ty (World.iter_heap w s p) hp
      have hbW : Below w.heap.size w (w.iter s p) := below_iter w s p
      rw [rl_end s f p hp, List.append_nil] at HR
      have hF : rightF s = true := by unfold rightF; rw [HR.out]; exact HA.out
      have HF := Lib.hid hF
      clear hF HA
      go_wp2
      refine bodyPost_ret (v := .tuple #[.int .i64 (pre.length : Int), .bool true]) (by simp [results, Try.results16, go_sem]) rfl ⟨?_, hbW⟩
      rw [← HC.out, ← HT.out, HF.out, HR.out]; simp

theorem right_any (s : ByteArray) (hs : s.size ≤ maxLen) (w : World) :
    Calls Try.prog 17 #[.string s] w fun e w' => e = .returned (.bool (rightF s)) ∧ Below w.heap.size w w' := by
  have hc := Lib.hid (count_any s hs)
  generalize (if rightF s then ((runesF s).length : Int) else 0) = C at *
  generalize rightF s = T at *
  go_enter Try.func17, Try.ntmps17
  go_wp2_with fail
  refine (hc.out _).mono ?_
  rintro e w1 ⟨rfl, hb⟩
  go_wp2
  go_ret
  exact ⟨rfl, hb⟩
end Go.Proofs.Ytbjiamakchklpaa
