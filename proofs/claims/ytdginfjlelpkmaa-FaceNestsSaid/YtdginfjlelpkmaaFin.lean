/-
  face.within; slices.ContainsFunc of points out of the world.
-/
import Derived.Test.YtdginfjlelpkmaaFc
set_option linter.unusedVariables false
set_option linter.unusedSimpArgs false
set_option maxRecDepth 100000
namespace Go
open Go.RowKit
def inW (p : Pt) : Bool := decide (0 ≤ p.x) && (decide (p.x ≤ 65536) && (decide (0 ≤ p.y) && decide (p.y ≤ 65536)))
end Go
namespace Go.Proofs.Ytdginfjlelpkmaa
open Go.RowKit

set_option maxHeartbeats 800000 in
theorem fwithin_any (p : Pt) (w : World) :
    Calls Try.prog 27 #[p.val] w fun e w' => e = .returned (.bool (inW p)) ∧ Below w.heap.size w w' := by
  have HB : Hid (inW p = (decide (0 ≤ p.x) && (decide (p.x ≤ 65536) && (decide (0 ≤ p.y) && decide (p.y ≤ 65536))))) := Lib.hid rfl
  generalize inW p = BB at *
  obtain ⟨x, y⟩ := p
  dsimp only [Pt.val] at *
  go_enter Try.func27, Try.ntmps27
  by_cases q1 : 0 ≤ x
  · by_cases q2 : x ≤ 65536
    · by_cases q3 : 0 ≤ y
      · by_cases q4 : y ≤ 65536
        · go_wp2
          go_ret
          exact ⟨by rw [HB.out]; simp [q1, q2, q3, q4], Below.new _ _⟩
        · go_wp2
          go_ret
          exact ⟨by rw [HB.out]; simp [q1, q2, q3, q4]; try omega, Below.new _ _⟩
      · go_wp2
        go_ret
        exact ⟨by rw [HB.out]; simp [q1, q2, q3]; try omega, Below.new _ _⟩
    · go_wp2
      go_ret
      exact ⟨by rw [HB.out]; simp [q1, q2]; try omega, Below.new _ _⟩
  · go_wp2
    go_ret
    exact ⟨by rw [HB.out]; simp [q1]; try omega, Below.new _ _⟩

theorem fcheck1_any (p : Pt) (w : World) :
    Calls Try.prog 26 #[p.val] w fun e w' => e = .returned (.bool (!inW p)) ∧ Below w.heap.size w w' := by
  have H := Lib.hid (fun w => fwithin_any p w)
  generalize inW p = BB at *
  obtain ⟨x, y⟩ := p
  dsimp only [Pt.val] at *
  have hb0 := Below.new w (.cells #[.int .i64 x, .int .i64 y] 37)
  go_enter Try.func26, Try.ntmps26
  go_wp2_with fail
  refine (H.out _).mono ?_
  rintro e w1 ⟨rfl, hb1⟩
  have hb2 := hb0.trans (hb1.mono hb0.size)
  cases BB with
  | true =>
    go_wp2
    go_ret
    exact ⟨rfl, hb2⟩
  | false =>
    go_wp2
    go_ret
    exact ⟨rfl, hb2⟩

set_option maxHeartbeats 1600000 in
theorem indexW_any (a : Option Addr) (c : Nat) (L : List Pt) (hlen : L.length ≤ 1000000) (w : World) (hr : Rd w a (pts L)) :
    Calls Try.prog 46 #[.slice a L.length c, .func (.func 26) #[] #[]] w fun e w' => ∃ z : Int, e = .returned (.int .i64 z) ∧ Hid (0 ≤ z ↔ L.all inW = false) ∧ Below w.heap.size w w' := by
  have HR := Lib.hid hr
  have HC := Lib.hid (fun p w => fcheck1_any p w)
  obtain ⟨N, hN⟩ : ∃ N, L.length = N := ⟨_, rfl⟩
  have HN := Lib.hid hN
  rw [hN] at hlen ⊢
  obtain ⟨AB, hAB⟩ : ∃ B, L.all inW = B := ⟨_, rfl⟩
  have HAB := Lib.hid hAB
  rw [hAB]
  clear hr hN hAB
  go_enter Try.func46, Try.ntmps46
  go_wp2
  go_loopw [8] (fun i wr => ∃ k : Nat, k ≤ N ∧ i = .int .i64 k ∧ Hid ((L.take k).all inW = true) ∧ Below w.heap.size w wr) (fun i _ => N - (intOf i).toNat)
  case atStart => exact ⟨0, by omega, rfl, Lib.hid rfl, Below.refl _ _⟩
  case round =>
    obtain ⟨k, hk, rfl, HA, hbl⟩ := hrel
    by_cases h1 : k < N
    · have h1' : (k : Int) < (N : Int) := by omega
      have hkl : k < L.length := by rw [HN.out]; exact h1
      obtain ⟨b, o, rfl, hb, c0, c1⟩ := (HR.out.keep hbl).pt k hkl
      have HM := Lib.hid (List.getElem_mem hkl)
      have HT : Hid (L.take (k + 1) = L.take k ++ [L[k]]) := Lib.hid (List.take_succ_eq_append_getElem hkl)
      generalize L[k] = P at *
      have HCP := Lib.hid (fun w => HC.out P w)
      obtain ⟨BB, hBB⟩ : ∃ B, inW P = B := ⟨_, rfl⟩
      rw [hBB] at HCP
      have HBB := Lib.hid hBB
      clear hBB HC
      obtain ⟨x, y⟩ := P
      dsimp only [Pt.val] at c0 c1 HCP
      go_wp2_with fail
      refine (HCP.out _).mono ?_
      rintro e w1 ⟨rfl, hb1⟩
      have hb2 := hbl.trans (hb1.mono hbl.size)
      cases BB with
      | true =>
        have HA2 : Hid ((L.take (k + 1)).all inW = true) := Lib.hid (by rw [HT.out, List.all_append, HA.out]; simp [HBB.out])
        go_wp2
        exact ⟨⟨k + 1, by omega, by go_num, HA2, hb2⟩, by simp [intOf]; omega⟩
      | false =>
        have HF : Hid (AB = false) := Lib.hid (by rw [← HAB.out, List.all_eq_false]; exact ⟨_, HM.out, by rw [HBB.out]; simp⟩)
        go_wp2
        go_ret
        exact ⟨k, rfl, Lib.hid ⟨fun _ => HF.out, fun _ => by omega⟩, hb2⟩
    · have h1' : ¬ (k : Int) < (N : Int) := by omega
      have hall : L.take k = L := List.take_of_length_le (by rw [HN.out]; omega)
      have HAT : Hid (AB = true) := Lib.hid (by rw [← HAB.out, ← hall]; exact HA.out)
      clear hall
      go_wp2
      go_ret
      exact ⟨-1, rfl, Lib.hid ⟨fun h => by omega, fun h => by rw [HAT.out] at h; cases h⟩, hbl⟩

set_option maxHeartbeats 800000 in
theorem containsW_any (a : Option Addr) (c : Nat) (L : List Pt) (hlen : L.length ≤ 1000000) (w : World) (hr : Rd w a (pts L)) :
    Calls Try.prog 25 #[.slice a L.length c, .func (.func 26) #[] #[]] w fun e w' => e = .returned (.bool (!L.all inW)) ∧ Below w.heap.size w w' := by
  have H := Lib.hid (indexW_any a c L hlen w hr)
  generalize L.all inW = BB at *
  generalize L.length = N at *
  clear hr
  go_enter Try.func25, Try.ntmps25
  go_wp2_with fail
  refine H.out.mono ?_
  rintro e w1 ⟨z, rfl, HZ, hb⟩
  by_cases q : 0 ≤ z
  · go_wp2
    go_ret
    exact ⟨by rw [HZ.out.1 q]; simp [q], hb⟩
  · have e1 : BB = true := by
      cases BB with
      | true => rfl
      | false => exact absurd (HZ.out.2 rfl) q
    have HE := Lib.hid e1
    clear e1
    go_wp2
    go_ret
    exact ⟨by rw [HE.out]; simp; try omega, hb⟩
end Go.Proofs.Ytdginfjlelpkmaa
