/-
  text.Cut.
-/
import Derived.Test.YtbjiamakchklpaaTcount
set_option linter.unusedVariables false
set_option linter.unusedSimpArgs false
set_option maxRecDepth 100000
namespace Go
open Go.RowKit
/-- A text's first runes. -/
def cutF (s : ByteArray) (n : Int) : ByteArray := if rightF s then (match (runesF s)[n.toNat]? with | some x => s.extract 0 x.2 | none => s) else ⟨#[]⟩
end Go
namespace Go.Proofs.Ytbjiamakchklpaa
open Go.RowKit

set_option maxHeartbeats 1600000 in
theorem cut_any (s : ByteArray) (hs : s.size ≤ maxLen) (n : Int) (w : World) :
    Calls Try.prog 18 #[.string s, .int .i64 n] w fun e w' => e = .returned (.string (cutF s n)) ∧ Below w.heap.size w w' := by
  have hs2 : s.size ≤ 9223372036854775807 := by unfold maxLen at hs; omega
  have hc := Lib.hid (right_any s hs)
  have hF : Hid (cutF s n = if rightF s then (match (runesF s)[n.toNat]? with | some x => s.extract 0 x.2 | none => s) else ⟨#[]⟩) := Lib.hid rfl
  generalize cutF s n = F at *
  generalize rightF s = T at *
  go_enter Try.func18, Try.ntmps18
  go_wp2_with fail
  refine (hc.out _).mono ?_
  rintro e w1 ⟨rfl, hb1⟩
  have hs1 := hb1.size
  cases T with
  | false =>
    have hn := hF.out
    rw [if_neg (by decide)] at hn
    subst hn
    clear hc
    go_wp2
    go_ret
    exact ⟨rfl, hb1⟩
  | true =>
    have HF : Hid (F = match (runesF s)[n.toNat]? with | some x => s.extract 0 x.2 | none => s) := Lib.hid (by have := hF.out; rwa [if_pos rfl] at this)
    clear hF hc
    go_wp2
    go_loopw [5] (fun k wr => ∃ (p f : Nat) (pre : List (Nat × Nat)), k = .int .i64 (pre.length : Int) ∧ wr = w1.iter s p ∧ Hid (runesF s = pre ++ rl s f p) ∧ s.size ≤ p + f ∧ p ≤ s.size ∧ pre.length ≤ p ∧ pre.length ≤ n.toNat) (fun _ wr => s.size - wr.iterPos w1.heap.size)
    case atStart => exact ⟨0, s.size, [], rfl, rfl, Lib.hid rfl, by omega, by omega, by simp, by simp⟩
    case round =>
      obtain ⟨p, f, pre, rfl, rfl, HR, hpf, hps, hpl, hpn⟩ := hrel
      by_cases hp : p < s.size
      · obtain ⟨f, rfl⟩ : ∃ g, f = g + 1 := ⟨f - 1, by omega⟩
        have hnx : ∀ ty, (Instr.next (.pointer (some ⟨w1.heap.size, 0, none⟩)) true ty).run Try.prog (w1.iter s p) = _ := fun ty => run_next_any w1 s p ty hp
        have hwd := decode_wid hp
        rw [rl_step s f p hp] at HR
        obtain ⟨W, hW⟩ : ∃ W, p + (Utf8.decode s p).2 = W := ⟨_, rfl⟩
        rw [hW] at hnx HR
        obtain ⟨R, hR⟩ : ∃ R, (Utf8.decode s p).1 = R := ⟨_, rfl⟩
        rw [hR] at hnx HR hwd
        have hbW : Below w.heap.size w (w1.iter s W) := hb1.trans ((below_iter w1 s W).mono hs1)
        have hWb : p < W ∧ W ≤ s.size := by omega
        clear hwd hR hW
        by_cases hle : n ≤ (pre.length : Int)
        · have hFv : F = s.extract 0 p := by
            have hk : n.toNat = pre.length := by omega
            rw [HF.out, HR.out, hk, List.getElem?_append_right (Nat.le_refl _), Nat.sub_self]
            rfl
          have HFV := Lib.hid hFv
          clear HF HR hFv
          have hpi : (p : Int) ≤ (s.size : Int) := by omega
          go_wp2
          go_ret
          exact ⟨by rw [HFV.out]; rfl, hbW⟩
        · have hw0 : IntKind.i64.wrap ((pre.length : Int) + 1) = (pre.length : Int) + 1 := IntWalk.i64_in _ (by omega)
          have hlen : ((pre ++ [(R, p)]).length : Int) = (pre.length : Int) + 1 := by simp
          have HL := Lib.hid hlen
          clear hlen
          go_wp2
          go_roundw
          case rel => exact ⟨W, f, pre ++ [(R, p)], by rw [HL.out], rfl, Lib.hid (by rw [HR.out, List.append_assoc]; rfl), by omega, by omega, by simp; omega, by simp; omega⟩
          case measure => simp; omega
      · have hnx : ∀ ty, (Instr.next (.pointer (some ⟨w1.heap.size, 0, none⟩)) true ty).run Try.prog (w1.iter s p) = _ := fun ty => Lib.run_next_end_at (w1.iter s p) w1.heap.size s p ty (World.iter_heap w1 s p) hp
        have hbW : Below w.heap.size w (w1.iter s p) := hb1.trans ((below_iter w1 s p).mono hs1)
        rw [rl_end s f p hp, List.append_nil] at HR
        have hFv : F = s := by rw [HF.out, HR.out, List.getElem?_eq_none (by omega)]
        subst hFv
        clear HR HF
        go_wp2
        go_ret
        exact ⟨rfl, hbW⟩
end Go.Proofs.Ytbjiamakchklpaa
