/-
  snap.level, within; exact.Shift; snap.Point.
-/
import Derived.Test.YtmmhkageehlknaaExr
set_option linter.unusedVariables false
set_option linter.unusedSimpArgs false
set_option maxRecDepth 100000
namespace Go
open Go.RowKit
def levelB (z : Int) : Bool := decide (0 ≤ z ∧ z ≤ 4)
def worldB (p : Pt) : Bool := decide ((0 ≤ p.x ∧ p.x ≤ 65536) ∧ (0 ≤ p.y ∧ p.y ≤ 65536))
/-- Half of a power of 2; 0 of 1. -/
def halfF (d : Int) : Int := d / 2
/-- A number by a power of 2 (d), rounded. -/
def shiftF (v d : Int) : Int := (v + d / 2) / d
def powD (z : Int) : Int := 2 ^ (4 - z).toNat
def snapP (p : Pt) (z : Int) : Pt := ⟨shiftF p.x (powD z), shiftF p.y (powD z)⟩
theorem level_cases {z : Int} (h : levelB z = true) : z = 0 ∨ z = 1 ∨ z = 2 ∨ z = 3 ∨ z = 4 := by
  unfold levelB at h
  rw [decide_eq_true_eq] at h
  omega
end Go
namespace Go.Proofs.Ytmmhkageehlknaa
open Go.RowKit

set_option maxHeartbeats 800000 in
theorem level_any (z : Int) (w : World) : Calls Try.prog 22 #[.int .i64 z] w fun e w' => e = .returned (.bool (levelB z)) ∧ w' = w := by
  have hL : Hid (levelB z = decide (0 ≤ z ∧ z ≤ 4)) := Lib.hid rfl
  generalize levelB z = L at *
  go_enter Try.func22, Try.ntmps22
  by_cases h1 : 0 ≤ z
  · by_cases h2 : z ≤ 4
    · have hl : L = true := by rw [hL.out]; simp; omega
      subst hl
      go_wp2
      go_ret
      exact ⟨rfl, rfl⟩
    · have hl : L = false := by rw [hL.out]; simp; omega
      subst hl
      go_wp2
      go_ret
      exact ⟨rfl, rfl⟩
  · have hl : L = false := by rw [hL.out]; simp; omega
    subst hl
    go_wp2
    go_ret
    exact ⟨rfl, rfl⟩

set_option maxHeartbeats 1600000 in
theorem world_any (p : Pt) (w : World) : Calls Try.prog 25 #[p.val] w fun e w' => e = .returned (.bool (worldB p)) ∧ Below w.heap.size w w' := by
  have hL : Hid (worldB p = decide ((0 ≤ p.x ∧ p.x ≤ 65536) ∧ (0 ≤ p.y ∧ p.y ≤ 65536))) := Lib.hid rfl
  generalize worldB p = L at *
  obtain ⟨x, y⟩ := p
  dsimp only [Pt.val] at *
  have hb := Below.new w (.cells #[.int .i64 x, .int .i64 y] 23)
  have k0 := Blk.lit w w.heap.size [.int .i64 x, .int .i64 y] 23 rfl
  have c0 := k0.cell 0 rfl
  have c1 := k0.cell 1 rfl
  go_enter Try.func25, Try.ntmps25
  by_cases h1 : 0 ≤ x
  · by_cases h2 : x ≤ 65536
    · by_cases h3 : 0 ≤ y
      · by_cases h4 : y ≤ 65536
        · have hl : L = true := by rw [hL.out]; simp; omega
          subst hl
          go_wp2
          go_ret
          exact ⟨rfl, hb⟩
        · have hl : L = false := by rw [hL.out]; simp; omega
          subst hl
          go_wp2
          go_ret
          exact ⟨rfl, hb⟩
      · have hl : L = false := by rw [hL.out]; simp; omega
        subst hl
        go_wp2
        go_ret
        exact ⟨rfl, hb⟩
    · have hl : L = false := by rw [hL.out]; simp; omega
      subst hl
      go_wp2
      go_ret
      exact ⟨rfl, hb⟩
  · have hl : L = false := by rw [hL.out]; simp; omega
    subst hl
    go_wp2
    go_ret
    exact ⟨rfl, hb⟩

set_option maxHeartbeats 1600000 in
theorem shift_any (v s : Int) (hs : 0 ≤ s ∧ s ≤ 4) (hv : 0 ≤ v ∧ v ≤ 65536) (w : World) : Calls Try.prog 26 #[.int .i64 v, .int .i64 s] w fun e w' => e = .returned (.tuple #[.int .i64 (shiftF v (2 ^ s.toNat)), .bool true]) ∧ w' = w := by
  go_enter Try.func26, Try.ntmps26
  go_wp2_with fail
  refine (xwithin_any s 0 20 _).mono ?_
  rintro e w1 ⟨rfl, rfl⟩
  rw [decide_eq_true (show 0 ≤ s ∧ s ≤ 20 by omega)]
  go_wp2_with fail
  refine (xwithin_any v (-16777216) 16777216 _).mono ?_
  rintro e w1 ⟨rfl, rfl⟩
  rw [decide_eq_true (show -16777216 ≤ v ∧ v ≤ 16777216 by omega)]
  have hc : s = 0 ∨ s = 1 ∨ s = 2 ∨ s = 3 ∨ s = 4 := by omega
  rcases hc with rfl | rfl | rfl | rfl | rfl
  · have hv2 : shiftF v (2 ^ (0 : Int).toNat) = v := by unfold shiftF; simp
    go_wp2
    refine bodyPost_ret (v := .tuple #[.int .i64 v, .bool true]) (by simp [results, Try.results26, go_sem]) rfl ⟨by rw [hv2], rfl⟩
  · have hv2 : shiftF v (2 ^ (1 : Int).toNat) = ((v + 1) / 2) := by unfold shiftF; rfl
    go_wp2
    refine bodyPost_ret (v := .tuple #[.int .i64 ((v + 1) / 2), .bool true]) (by simp [results, Try.results26, go_sem]) rfl ⟨by rw [hv2], rfl⟩
  · have hv2 : shiftF v (2 ^ (2 : Int).toNat) = ((v + 2) / 4) := by unfold shiftF; rfl
    go_wp2
    refine bodyPost_ret (v := .tuple #[.int .i64 ((v + 2) / 4), .bool true]) (by simp [results, Try.results26, go_sem]) rfl ⟨by rw [hv2], rfl⟩
  · have hv2 : shiftF v (2 ^ (3 : Int).toNat) = ((v + 4) / 8) := by unfold shiftF; rfl
    go_wp2
    refine bodyPost_ret (v := .tuple #[.int .i64 ((v + 4) / 8), .bool true]) (by simp [results, Try.results26, go_sem]) rfl ⟨by rw [hv2], rfl⟩
  · have hv2 : shiftF v (2 ^ (4 : Int).toNat) = ((v + 8) / 16) := by unfold shiftF; rfl
    go_wp2
    refine bodyPost_ret (v := .tuple #[.int .i64 ((v + 8) / 16), .bool true]) (by simp [results, Try.results26, go_sem]) rfl ⟨by rw [hv2], rfl⟩

theorem shift_snap (v z : Int) (h : levelB z = true) (hv : 0 ≤ v ∧ v ≤ 65536) (w : World) : Calls Try.prog 26 #[.int .i64 v, .int .i64 (4 - z)] w fun e w' => e = .returned (.tuple #[.int .i64 (shiftF v (powD z)), .bool true]) ∧ w' = w :=
  shift_any v (4 - z) (by unfold levelB at h; rw [decide_eq_true_eq] at h; omega) hv w

set_option maxHeartbeats 3200000 in
theorem point_any (p : Pt) (z : Int) (hz : -9223372036854775808 ≤ z ∧ z ≤ 9223372036854775807) (w : World) : Calls Try.prog 9 #[p.val, .int .i64 z] w fun e w' => e = .returned (.tuple #[(if levelB z && worldB p then snapP p z else ⟨0, 0⟩ : Pt).val, .bool (levelB z && worldB p)]) ∧ Below w.heap.size w w' := by
  have HL := Lib.hid (level_any z)
  have HW := Lib.hid (world_any p)
  have hS : Hid (levelB z = true → worldB p = true → (∀ w, Calls Try.prog 26 #[.int .i64 p.x, .int .i64 (4 - z)] w fun e w' => e = .returned (.tuple #[.int .i64 (shiftF p.x (powD z)), .bool true]) ∧ w' = w) ∧ (∀ w, Calls Try.prog 26 #[.int .i64 p.y, .int .i64 (4 - z)] w fun e w' => e = .returned (.tuple #[.int .i64 (shiftF p.y (powD z)), .bool true]) ∧ w' = w)) := Lib.hid (fun h h2 => by
    have hw : (0 ≤ p.x ∧ p.x ≤ 65536) ∧ (0 ≤ p.y ∧ p.y ≤ 65536) := by unfold worldB at h2; simpa using h2
    exact ⟨fun w => shift_snap p.x z h hw.1 w, fun w => shift_snap p.y z h hw.2 w⟩)
  have hzb : Hid (levelB z = true → 0 ≤ z ∧ z ≤ 4) := Lib.hid (fun h => by unfold levelB at h; simpa using h)
  have hP : snapP p z = ⟨shiftF p.x (powD z), shiftF p.y (powD z)⟩ := rfl
  generalize snapP p z = Q at *
  subst hP
  generalize shiftF p.x (powD z) = qx at *
  generalize shiftF p.y (powD z) = qy at *
  generalize levelB z = L at *
  generalize worldB p = Wd at *
  obtain ⟨x, y⟩ := p
  dsimp only [Pt.val] at *
  have kb := Blk.lit w w.heap.size [.int .i64 x, .int .i64 y] 23 rfl
  have kc := kb.alloc (.cells #[.int .i64 0, .int .i64 0] 23)
  have kd := Blk.lit (w.alloc (.cells #[.int .i64 x, .int .i64 y] 23)) (w.heap.size + 1) [.int .i64 0, .int .i64 0] 23 (by simp)
  have hb := (Below.new w (.cells #[.int .i64 x, .int .i64 y] 23)).alloc (by simp) (.cells #[.int .i64 0, .int .i64 0] 23)
  go_enter Try.func9, Try.ntmps9
  cases L with
  | false =>
    have c0 := kd.cell 0 rfl
    have c1 := kd.cell 1 rfl
    have f0 := kd.free 0
    have f1 := kd.free 1
    go_wp2_with fail
    refine (HL.out _).mono ?_
    rintro e w1 ⟨rfl, rfl⟩
    clear HL HW hS
    generalize ((w.alloc (.cells #[.int .i64 x, .int .i64 y] 23)).alloc (.cells #[.int .i64 0, .int .i64 0] 23)) = w1 at *
    go_wp2
    have k1 := ((kd.set 0 (.int .i64 0)).set 1 (.int .i64 0) : Blk _ _ [.int .i64 0, .int .i64 0])
    have q0 := k1.cell 0 rfl
    have q1 := k1.cell 1 rfl
    refine bodyPost_ret (v := .tuple #[.agg #[.int .i64 0, .int .i64 0], .bool false]) (by simp [results, Try.results9, go_sem, q0, q1]) rfl ⟨rfl, (hb.set_at (b := w.heap.size + 1) (o := 0) (by omega) _).set_at (b := w.heap.size + 1) (o := 1) (by omega) _⟩
  | true =>
    have hS2 := Lib.hid (hS.out rfl)
    clear hS
    obtain ⟨hz0, hz4⟩ := hzb.out rfl
    have c0 := kc.cell 0 rfl
    have c1 := kc.cell 1 rfl
    go_wp2_with fail
    refine (HL.out _).mono ?_
    rintro e w1 ⟨rfl, rfl⟩
    generalize ((w.alloc (.cells #[.int .i64 x, .int .i64 y] 23)).alloc (.cells #[.int .i64 0, .int .i64 0] 23)) = w1 at *
    go_wp2_with fail
    refine (HW.out _).mono ?_
    rintro e w2 ⟨rfl, hb2⟩
    have kc := kc.keep hb2
    have kd := kd.keep hb2
    have hb := hb.trans (hb2.mono hb.size)
    have c0 := kc.cell 0 rfl
    have c1 := kc.cell 1 rfl
    have d0 := kd.cell 0 rfl
    have d1 := kd.cell 1 rfl
    have f0 := kd.free 0
    have f1 := kd.free 1
    clear HL HW hb2 kb
    cases Wd with
    | false =>
      clear hS2
      go_wp2
      have k1 := ((kd.set 0 (.int .i64 0)).set 1 (.int .i64 0) : Blk _ _ [.int .i64 0, .int .i64 0])
      have q0 := k1.cell 0 rfl
      have q1 := k1.cell 1 rfl
      refine bodyPost_ret (v := .tuple #[.agg #[.int .i64 0, .int .i64 0], .bool false]) (by simp [results, Try.results9, go_sem, q0, q1]) rfl ⟨rfl, (hb.set_at (b := w.heap.size + 1) (o := 0) (by omega) _).set_at (b := w.heap.size + 1) (o := 1) (by omega) _⟩
    | true =>
      obtain ⟨h1, h2⟩ := hS2.out rfl
      have H1 := Lib.hid h1
      have H2 := Lib.hid h2
      clear hS2 h1 h2
      go_wp2_with fail
      refine (H1.out _).mono ?_
      rintro e w3 ⟨rfl, rfl⟩
      go_wp2_with fail
      refine (H2.out _).mono ?_
      rintro e w4 ⟨rfl, rfl⟩
      go_wp2
      have k1 := ((kd.set 0 (.int .i64 qx)).set 1 (.int .i64 qy) : Blk _ _ [.int .i64 qx, .int .i64 qy])
      have q0 := k1.cell 0 rfl
      have q1 := k1.cell 1 rfl
      refine bodyPost_ret (v := .tuple #[.agg #[.int .i64 qx, .int .i64 qy], .bool true]) (by simp [results, Try.results9, go_sem, q0, q1]) rfl ⟨rfl, (hb.set_at (b := w.heap.size + 1) (o := 0) (by omega) _).set_at (b := w.heap.size + 1) (o := 1) (by omega) _⟩
end Go.Proofs.Ytmmhkageehlknaa
