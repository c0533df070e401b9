/-
  ring.Alike of rings that are the same.
-/
import Derived.Test.YtmmhkageehlknaaPts
import Derived.BigRegion
import Derived.RegionTactic
import Derived.Test.YtmmhkageehlknaaProg
set_option linter.unusedVariables false
set_option linter.unusedSimpArgs false
set_option maxRecDepth 100000
namespace Go.Proofs.Ytmmhkageehlknaa
open Go.RowKit
set_option maxHeartbeats 1600000 in
theorem same_yes (Ba Bb : Nat) (a b : Option Addr) (ca cb : Nat) (L : List Pt) (hlen : L.length ≤ 1000000) (w : World) (hBa : Blk w Ba [.slice a L.length ca]) (hBb : Blk w Bb [.slice b L.length cb]) (ha : Rd w a (pts L)) (hb : Rd w b (pts L)) :
    Calls Try.prog 35 #[.int .i64 0, .pointer (some ⟨Ba, 0, none⟩), .pointer (some ⟨Bb, 0, none⟩)] w fun e w' => e = .returned (.bool true) ∧ Below w.heap.size w w' := by
  obtain ⟨n, hn⟩ : ∃ n, L.length = n := ⟨_, rfl⟩
  have HN := Lib.hid hn
  rw [hn] at hlen hBa hBb
  clear hn
  have HA := Lib.hid ha
  have HB := Lib.hid hb
  have a0 := hBa.cell 0 rfl
  clear ha hb
  go_enter Try.func35, Try.ntmps35
  go_wp2
  go_loopw [9] (fun i wr => ∃ k : Nat, k ≤ n ∧ i = .int .i64 k ∧ Below w.heap.size w wr) (fun i _ => n - (intOf i).toNat)
  case atStart => exact ⟨0, by omega, rfl, Below.refl _ _⟩
  case round =>
    obtain ⟨k, hk, rfl, hbl⟩ := hrel
    by_cases hlt : k < n
    · have hlt2 : (k : Int) < (n : Int) := by omega
      have hkl : k < L.length := by rw [HN.out]; exact hlt
      obtain ⟨b1, o1, rfl, hbb1, c0, c1⟩ := (HA.out.keep hbl).pt k hkl
      obtain ⟨b2, o2, rfl, hbb2, d0, d1⟩ := (HB.out.keep hbl).pt k hkl
      generalize L[k] = p at *
      obtain ⟨x, y⟩ := p
      dsimp only at c0 c1 d0 d1
      have kb := (hBb.keep hbl).alloc (.cells #[.int .i64 x, .int .i64 y] 23)
      have kq := Blk.lit wr wr.heap.size [.int .i64 x, .int .i64 y] 23 rfl
      have hb2 := hbl.alloc hbl.size (.cells #[.int .i64 x, .int .i64 y] 23)
      have e0 := (Below.cell (Below.new wr (.cells #[.int .i64 x, .int .i64 y] 23)) (p := ⟨b2, o2 + k * 2, none⟩) hbb2).trans d0
      have e1 := (Below.cell (Below.new wr (.cells #[.int .i64 x, .int .i64 y] 23)) (p := ⟨b2, o2 + k * 2 + 1, none⟩) hbb2).trans d1
      have q0 := kq.cell 0 rfl
      have q1 := kq.cell 1 rfl
      have f0 := kb.cell 0 rfl
      have hrem : (IntKind.i64.wrap ((0 : Int) + (k : Int))).tmod (n : Int) = (k : Int) := by
        rw [IntWalk.i64_in _ (by omega), Int.tmod_eq_emod_of_nonneg (by omega), Int.zero_add]; exact Int.emod_eq_of_lt (by omega) (by omega)
      have hrem2 : (k : Int).tmod (n : Int) = (k : Int) := by rw [Int.tmod_eq_emod_of_nonneg (by omega)]; exact Int.emod_eq_of_lt (by omega) (by omega)
      have hnz : ¬ (n : Int) = 0 := by omega
      have hnn : ¬ n = 0 := by omega
      have hk0 : (0 : Int) ≤ (k : Int) := by omega
      clear d0 d1
      go_wp2
      go_quiet (fail)
      go_wp2
      exact ⟨⟨k + 1, by omega, by go_num, below_drewN hb2 _⟩, by simp [intOf]; omega⟩
    · have hk3 : k = n := by omega
      subst hk3
      go_wp2
      go_ret
      exact ⟨rfl, hbl⟩

set_option maxHeartbeats 1600000 in
theorem alike_same (a b : Option Addr) (ca cb : Nat) (L : List Pt) (hlen : L.length ≤ 1000000) (w : World) (ha : Rd w a (pts L)) (hb : Rd w b (pts L)) :
    Calls Try.prog 21 #[.slice a L.length ca, .slice b L.length cb] w fun e w' => e = .returned (.bool true) ∧ Below w.heap.size w w' := by
  have HS := Lib.hid (fun w Ba Bb h1 h2 h3 h4 => same_yes Ba Bb a b ca cb L hlen w h1 h2 h3 h4)
  obtain ⟨n, hn⟩ : ∃ n, L.length = n := ⟨_, rfl⟩
  rw [hn] at HS hlen ⊢
  clear hn
  have hBa : Blk ((w.alloc (.cells #[.slice a n ca] 40)).alloc (.cells #[.slice b n cb] 40)) w.heap.size [.slice a n ca] := (Blk.lit w w.heap.size [.slice a n ca] 40 rfl).alloc _
  have hBb : Blk ((w.alloc (.cells #[.slice a n ca] 40)).alloc (.cells #[.slice b n cb] 40)) (w.heap.size + 1) [.slice b n cb] := Blk.lit _ _ [.slice b n cb] 40 (by simp)
  have hb0 : Below w.heap.size w ((w.alloc (.cells #[.slice a n ca] 40)).alloc (.cells #[.slice b n cb] 40)) := (Below.new w _).alloc (by simp) _
  have HSS := Lib.hid (HS.out _ _ _ hBa hBb ((ha.alloc _).alloc _) ((hb.alloc _).alloc _))
  have a0 := hBa.cell 0 rfl
  have b0 := hBb.cell 0 rfl
  clear HS ha hb hBa hBb
  go_enter Try.func21, Try.ntmps21
  by_cases h0 : n = 0
  · subst h0
    go_wp2
    obtain ⟨wA, hwA⟩ : ∃ W, (w.alloc (.cells #[.slice a 0 ca] 40)).alloc (.cells #[.slice b 0 cb] 40) = W := ⟨_, rfl⟩
    rw [hwA] at hb0 a0 b0 ⊢
    clear hwA HSS
    go_loopw [15] (fun i wr => i = .int .i64 0 ∧ wr = wA) (fun _ _ => 0)
    case atStart => exact ⟨rfl, rfl⟩
    case round =>
      obtain ⟨rfl, rfl⟩ := hrel
      go_wp2
      go_ret
      exact ⟨rfl, hb0⟩
  · have hnn : ¬ (n : Int) = 0 := by omega
    have hpos : (0 : Int) < (n : Int) := by omega
    go_wp2
    obtain ⟨wA, hwA⟩ : ∃ W, (w.alloc (.cells #[.slice a n ca] 40)).alloc (.cells #[.slice b n cb] 40) = W := ⟨_, rfl⟩
    rw [hwA] at hb0 HSS a0 b0 ⊢
    clear hwA
    go_loopw [15] (fun i wr => i = .int .i64 0 ∧ wr = wA) (fun _ _ => 0)
    case atStart => exact ⟨rfl, rfl⟩
    case round =>
      obtain ⟨rfl, rfl⟩ := hrel
      go_wp2_with fail
      refine HSS.out.mono ?_
      rintro e w2 ⟨rfl, hb2⟩
      go_wp2
      go_ret
      exact ⟨rfl, hb0.trans (hb2.mono hb0.size)⟩
end Go.Proofs.Ytmmhkageehlknaa
