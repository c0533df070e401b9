/-
  exact.within, Right, Cross. snap.level, within; exact.Shift; snap.Point. slices.Clone of points. clear of a slice of points (any two-cell element of zeros); slices.Clip of points. Rows of points in a block: read, and written in place. slices.Compact of points. ring.Thin.
-/
import Derived.Test.YtediblljgakoeaaProg
import Derived.Test.YtediblljgakoeaaPk3
import Derived.Lib.SliceRun
/- exact.within, Right, Cross. -/
set_option linter.unusedVariables false
set_option linter.unusedSimpArgs false
namespace Go.Proofs.Ytediblljgakoeaa
open Go.RowKit

theorem xwithin_any (n lo hi : Int) (w : World) :
    Calls Try.prog 31 #[.int .i64 n, .int .i64 lo, .int .i64 hi] w fun e w' => e = .returned (.bool (decide (lo ≤ n ∧ n ≤ hi))) ∧ w = w' := by
  go_enter Try.func31, Try.ntmps31
  by_cases h1 : lo ≤ n
  · go_wp2
    go_ret
    refine ⟨ret_bool ?_, rfl⟩
    simp [h1]
  · go_wp2
    go_ret
    refine ⟨ret_bool ?_, rfl⟩
    symm; rw [Bool.and_eq_false_iff]
    exact .inl (decide_eq_false (by omega))

set_option maxHeartbeats 800000 in
theorem xright_any (a : Option Addr) (c : Nat) (l : List Pt) (hl : l.length ≤ maxLen) (w : World) (hr : Rd w a (pts l)) :
    Calls Try.prog 19 #[.slice a l.length c] w fun e w' => e = .returned (.bool (l.all okPt)) ∧ Below w.heap.size w w' := by
  go_enter Try.func19, Try.ntmps19
  unfold maxLen at hl
  go_wp2
  go_loopw [7] (fun i wr => ∃ k : Nat, k ≤ l.length ∧ i = .int .i64 k ∧ (l.take k).all okPt = true ∧ Below w.heap.size w wr) (fun i _ => l.length - (intOf i).toNat)
  case atStart => exact ⟨0, Nat.zero_le _, rfl, rfl, Below.refl _ _⟩
  case round =>
    obtain ⟨k, hk, rfl, hall, hbl⟩ := hrel
    have HA := Lib.hid hall
    clear hall
    by_cases hlt : k < l.length
    · obtain ⟨b, off, rfl, hb, c0, c1⟩ := (hr.keep hbl).pt k hlt
      have HST : Hid ((l.take (k + 1)).all okPt = okPt l[k]) := by
        refine Lib.hid ?_
        rw [List.take_succ_eq_append_getElem hlt, List.all_append, HA.out]
        simp
      have HNO : Hid (okPt l[k] = false → l.all okPt = false) := by
        refine Lib.hid fun h => ?_
        rw [List.all_eq_false]
        exact ⟨l[k], List.getElem_mem _, by simp [h]⟩
      generalize l[k] = p at *
      obtain ⟨x, y⟩ := p
      dsimp only at c0 c1
      have hs := hbl.size
      by_cases hx : -16777216 ≤ x ∧ x ≤ 16777216
      · by_cases hy : -16777216 ≤ y ∧ y ≤ 16777216
        · have HX := Lib.hid hx
          have HY := Lib.hid hy
          clear hx hy
          go_wp2_with fail
          refine (xwithin_any x (-16777216) 16777216 _).mono ?_
          rintro e w1 ⟨rfl, rfl⟩
          rw [decide_eq_true HX.out]
          go_wp2_with fail
          refine (xwithin_any y (-16777216) 16777216 _).mono ?_
          rintro e w1 ⟨rfl, rfl⟩
          rw [decide_eq_true HY.out]
          go_wp2
          go_roundw
          case rel =>
            refine ⟨k + 1, by omega, by go_num, ?_, hbl.alloc hs _⟩
            rw [HST.out, okPt_iff]
            exact ⟨HX.out, HY.out⟩
          case measure => simp [intOf]; omega
        · have HX := Lib.hid hx
          have HY := Lib.hid hy
          clear hx hy
          go_wp2_with fail
          refine (xwithin_any x (-16777216) 16777216 _).mono ?_
          rintro e w1 ⟨rfl, rfl⟩
          rw [decide_eq_true HX.out]
          go_wp2_with fail
          refine (xwithin_any y (-16777216) 16777216 _).mono ?_
          rintro e w1 ⟨rfl, rfl⟩
          rw [decide_eq_false HY.out]
          go_wp2
          go_ret
          refine ⟨ret_bool (HNO.out ?_).symm, hbl.alloc hs _⟩
          simp [okPt, HY.out]
      · have HX := Lib.hid hx
        clear hx
        go_wp2_with fail
        refine (xwithin_any x (-16777216) 16777216 _).mono ?_
        rintro e w1 ⟨rfl, rfl⟩
        rw [decide_eq_false HX.out]
        go_wp2
        go_ret
        refine ⟨ret_bool (HNO.out ?_).symm, hbl.alloc hs _⟩
        simp [okPt, HX.out]
    · obtain rfl : k = l.length := by omega
      have HA := Lib.hid HA.out
      rw [List.take_length] at HA
      go_wp2
      go_ret
      exact ⟨ret_bool HA.out.symm, hbl⟩

end Go.Proofs.Ytediblljgakoeaa
/- snap.level, within; exact.Shift; snap.Point. -/
set_option linter.unusedVariables false
set_option linter.unusedSimpArgs false
set_option maxRecDepth 100000
namespace Go
open Go.RowKit
def levelB (z : Int) : Bool := decide (0 ≤ z ∧ z ≤ 4)
def worldB (p : Pt) : Bool := decide ((0 ≤ p.x ∧ p.x ≤ 65536) ∧ (0 ≤ p.y ∧ p.y ≤ 65536))
/-- Half of a power of 2; 0 of 1. -/
def halfF (d : Int) : Int := d / 2
/-- A number by a power of 2 (d), rounded. -/
def shiftF (v d : Int) : Int := (v + d / 2) / d
def powD (z : Int) : Int := 2 ^ (4 - z).toNat
def snapP (p : Pt) (z : Int) : Pt := ⟨shiftF p.x (powD z), shiftF p.y (powD z)⟩
theorem level_cases {z : Int} (h : levelB z = true) : z = 0 ∨ z = 1 ∨ z = 2 ∨ z = 3 ∨ z = 4 := by
  unfold levelB at h
  rw [decide_eq_true_eq] at h
  omega
end Go
namespace Go.Proofs.Ytediblljgakoeaa
open Go.RowKit

set_option maxHeartbeats 800000 in
theorem level_any (z : Int) (w : World) : Calls Try.prog 13 #[.int .i64 z] w fun e w' => e = .returned (.bool (levelB z)) ∧ w' = w := by
  have hL : Hid (levelB z = decide (0 ≤ z ∧ z ≤ 4)) := Lib.hid rfl
  generalize levelB z = L at *
  go_enter Try.func13, Try.ntmps13
  by_cases h1 : 0 ≤ z
  · by_cases h2 : z ≤ 4
    · have hl : L = true := by rw [hL.out]; simp; omega
      subst hl
      go_wp2
      go_ret
      exact ⟨rfl, rfl⟩
    · have hl : L = false := by rw [hL.out]; simp; omega
      subst hl
      go_wp2
      go_ret
      exact ⟨rfl, rfl⟩
  · have hl : L = false := by rw [hL.out]; simp; omega
    subst hl
    go_wp2
    go_ret
    exact ⟨rfl, rfl⟩

set_option maxHeartbeats 1600000 in
theorem world_any (p : Pt) (w : World) : Calls Try.prog 14 #[p.val] w fun e w' => e = .returned (.bool (worldB p)) ∧ Below w.heap.size w w' := by
  have hL : Hid (worldB p = decide ((0 ≤ p.x ∧ p.x ≤ 65536) ∧ (0 ≤ p.y ∧ p.y ≤ 65536))) := Lib.hid rfl
  generalize worldB p = L at *
  obtain ⟨x, y⟩ := p
  dsimp only [Pt.val] at *
  have hb := Below.new w (.cells #[.int .i64 x, .int .i64 y] 32)
  have k0 := Blk.lit w w.heap.size [.int .i64 x, .int .i64 y] 32 rfl
  have c0 := k0.cell 0 rfl
  have c1 := k0.cell 1 rfl
  go_enter Try.func14, Try.ntmps14
  by_cases h1 : 0 ≤ x
  · by_cases h2 : x ≤ 65536
    · by_cases h3 : 0 ≤ y
      · by_cases h4 : y ≤ 65536
        · have hl : L = true := by rw [hL.out]; simp; omega
          subst hl
          go_wp2
          go_ret
          exact ⟨rfl, hb⟩
        · have hl : L = false := by rw [hL.out]; simp; omega
          subst hl
          go_wp2
          go_ret
          exact ⟨rfl, hb⟩
      · have hl : L = false := by rw [hL.out]; simp; omega
        subst hl
        go_wp2
        go_ret
        exact ⟨rfl, hb⟩
    · have hl : L = false := by rw [hL.out]; simp; omega
      subst hl
      go_wp2
      go_ret
      exact ⟨rfl, hb⟩
  · have hl : L = false := by rw [hL.out]; simp; omega
    subst hl
    go_wp2
    go_ret
    exact ⟨rfl, hb⟩

set_option maxHeartbeats 1600000 in
theorem shift_any (v s : Int) (hs : 0 ≤ s ∧ s ≤ 4) (hv : 0 ≤ v ∧ v ≤ 65536) (w : World) : Calls Try.prog 27 #[.int .i64 v, .int .i64 s] w fun e w' => e = .returned (.tuple #[.int .i64 (shiftF v (2 ^ s.toNat)), .bool true]) ∧ w' = w := by
  go_enter Try.func27, Try.ntmps27
  go_wp2_with fail
  refine (xwithin_any s 0 20 _).mono ?_
  rintro e w1 ⟨rfl, rfl⟩
  rw [decide_eq_true (show 0 ≤ s ∧ s ≤ 20 by omega)]
  go_wp2_with fail
  refine (xwithin_any v (-16777216) 16777216 _).mono ?_
  rintro e w1 ⟨rfl, rfl⟩
  rw [decide_eq_true (show -16777216 ≤ v ∧ v ≤ 16777216 by omega)]
  have hc : s = 0 ∨ s = 1 ∨ s = 2 ∨ s = 3 ∨ s = 4 := by omega
  rcases hc with rfl | rfl | rfl | rfl | rfl
  · have hv2 : shiftF v (2 ^ (0 : Int).toNat) = v := by unfold shiftF; simp
    go_wp2
    refine bodyPost_ret (v := .tuple #[.int .i64 v, .bool true]) (by simp [results, Try.results27, go_sem]) rfl ⟨by rw [hv2], rfl⟩
  · have hv2 : shiftF v (2 ^ (1 : Int).toNat) = ((v + 1) / 2) := by unfold shiftF; rfl
    go_wp2
    refine bodyPost_ret (v := .tuple #[.int .i64 ((v + 1) / 2), .bool true]) (by simp [results, Try.results27, go_sem]) rfl ⟨by rw [hv2], rfl⟩
  · have hv2 : shiftF v (2 ^ (2 : Int).toNat) = ((v + 2) / 4) := by unfold shiftF; rfl
    go_wp2
    refine bodyPost_ret (v := .tuple #[.int .i64 ((v + 2) / 4), .bool true]) (by simp [results, Try.results27, go_sem]) rfl ⟨by rw [hv2], rfl⟩
  · have hv2 : shiftF v (2 ^ (3 : Int).toNat) = ((v + 4) / 8) := by unfold shiftF; rfl
    go_wp2
    refine bodyPost_ret (v := .tuple #[.int .i64 ((v + 4) / 8), .bool true]) (by simp [results, Try.results27, go_sem]) rfl ⟨by rw [hv2], rfl⟩
  · have hv2 : shiftF v (2 ^ (4 : Int).toNat) = ((v + 8) / 16) := by unfold shiftF; rfl
    go_wp2
    refine bodyPost_ret (v := .tuple #[.int .i64 ((v + 8) / 16), .bool true]) (by simp [results, Try.results27, go_sem]) rfl ⟨by rw [hv2], rfl⟩

theorem shift_snap (v z : Int) (h : levelB z = true) (hv : 0 ≤ v ∧ v ≤ 65536) (w : World) : Calls Try.prog 27 #[.int .i64 v, .int .i64 (4 - z)] w fun e w' => e = .returned (.tuple #[.int .i64 (shiftF v (powD z)), .bool true]) ∧ w' = w :=
  shift_any v (4 - z) (by unfold levelB at h; rw [decide_eq_true_eq] at h; omega) hv w

set_option maxHeartbeats 3200000 in
theorem point_any (p : Pt) (z : Int) (hz : -9223372036854775808 ≤ z ∧ z ≤ 9223372036854775807) (w : World) : Calls Try.prog 15 #[p.val, .int .i64 z] w fun e w' => e = .returned (.tuple #[(if levelB z && worldB p then snapP p z else ⟨0, 0⟩ : Pt).val, .bool (levelB z && worldB p)]) ∧ Below w.heap.size w w' := by
  have HL := Lib.hid (level_any z)
  have HW := Lib.hid (world_any p)
  have hS : Hid (levelB z = true → worldB p = true → (∀ w, Calls Try.prog 27 #[.int .i64 p.x, .int .i64 (4 - z)] w fun e w' => e = .returned (.tuple #[.int .i64 (shiftF p.x (powD z)), .bool true]) ∧ w' = w) ∧ (∀ w, Calls Try.prog 27 #[.int .i64 p.y, .int .i64 (4 - z)] w fun e w' => e = .returned (.tuple #[.int .i64 (shiftF p.y (powD z)), .bool true]) ∧ w' = w)) := Lib.hid (fun h h2 => by
    have hw : (0 ≤ p.x ∧ p.x ≤ 65536) ∧ (0 ≤ p.y ∧ p.y ≤ 65536) := by unfold worldB at h2; simpa using h2
    exact ⟨fun w => shift_snap p.x z h hw.1 w, fun w => shift_snap p.y z h hw.2 w⟩)
  have hzb : Hid (levelB z = true → 0 ≤ z ∧ z ≤ 4) := Lib.hid (fun h => by unfold levelB at h; simpa using h)
  have hP : snapP p z = ⟨shiftF p.x (powD z), shiftF p.y (powD z)⟩ := rfl
  generalize snapP p z = Q at *
  subst hP
  generalize shiftF p.x (powD z) = qx at *
  generalize shiftF p.y (powD z) = qy at *
  generalize levelB z = L at *
  generalize worldB p = Wd at *
  obtain ⟨x, y⟩ := p
  dsimp only [Pt.val] at *
  have kb := Blk.lit w w.heap.size [.int .i64 x, .int .i64 y] 32 rfl
  have kc := kb.alloc (.cells #[.int .i64 0, .int .i64 0] 32)
  have kd := Blk.lit (w.alloc (.cells #[.int .i64 x, .int .i64 y] 32)) (w.heap.size + 1) [.int .i64 0, .int .i64 0] 32 (by simp)
  have hb := (Below.new w (.cells #[.int .i64 x, .int .i64 y] 32)).alloc (by simp) (.cells #[.int .i64 0, .int .i64 0] 32)
  go_enter Try.func15, Try.ntmps15
  cases L with
  | false =>
    have c0 := kd.cell 0 rfl
    have c1 := kd.cell 1 rfl
    have f0 := kd.free 0
    have f1 := kd.free 1
    go_wp2_with fail
    refine (HL.out _).mono ?_
    rintro e w1 ⟨rfl, rfl⟩
    clear HL HW hS
    generalize ((w.alloc (.cells #[.int .i64 x, .int .i64 y] 32)).alloc (.cells #[.int .i64 0, .int .i64 0] 32)) = w1 at *
    go_wp2
    have k1 := ((kd.set 0 (.int .i64 0)).set 1 (.int .i64 0) : Blk _ _ [.int .i64 0, .int .i64 0])
    have q0 := k1.cell 0 rfl
    have q1 := k1.cell 1 rfl
    refine bodyPost_ret (v := .tuple #[.agg #[.int .i64 0, .int .i64 0], .bool false]) (by simp [results, Try.results15, go_sem, q0, q1]) rfl ⟨rfl, (hb.set_at (b := w.heap.size + 1) (o := 0) (by omega) _).set_at (b := w.heap.size + 1) (o := 1) (by omega) _⟩
  | true =>
    have hS2 := Lib.hid (hS.out rfl)
    clear hS
    obtain ⟨hz0, hz4⟩ := hzb.out rfl
    have c0 := kc.cell 0 rfl
    have c1 := kc.cell 1 rfl
    go_wp2_with fail
    refine (HL.out _).mono ?_
    rintro e w1 ⟨rfl, rfl⟩
    generalize ((w.alloc (.cells #[.int .i64 x, .int .i64 y] 32)).alloc (.cells #[.int .i64 0, .int .i64 0] 32)) = w1 at *
    go_wp2_with fail
    refine (HW.out _).mono ?_
    rintro e w2 ⟨rfl, hb2⟩
    have kc := kc.keep hb2
    have kd := kd.keep hb2
    have hb := hb.trans (hb2.mono hb.size)
    have c0 := kc.cell 0 rfl
    have c1 := kc.cell 1 rfl
    have d0 := kd.cell 0 rfl
    have d1 := kd.cell 1 rfl
    have f0 := kd.free 0
    have f1 := kd.free 1
    clear HL HW hb2 kb
    cases Wd with
    | false =>
      clear hS2
      go_wp2
      have k1 := ((kd.set 0 (.int .i64 0)).set 1 (.int .i64 0) : Blk _ _ [.int .i64 0, .int .i64 0])
      have q0 := k1.cell 0 rfl
      have q1 := k1.cell 1 rfl
      refine bodyPost_ret (v := .tuple #[.agg #[.int .i64 0, .int .i64 0], .bool false]) (by simp [results, Try.results15, go_sem, q0, q1]) rfl ⟨rfl, (hb.set_at (b := w.heap.size + 1) (o := 0) (by omega) _).set_at (b := w.heap.size + 1) (o := 1) (by omega) _⟩
    | true =>
      obtain ⟨h1, h2⟩ := hS2.out rfl
      have H1 := Lib.hid h1
      have H2 := Lib.hid h2
      clear hS2 h1 h2
      go_wp2_with fail
      refine (H1.out _).mono ?_
      rintro e w3 ⟨rfl, rfl⟩
      go_wp2_with fail
      refine (H2.out _).mono ?_
      rintro e w4 ⟨rfl, rfl⟩
      go_wp2
      have k1 := ((kd.set 0 (.int .i64 qx)).set 1 (.int .i64 qy) : Blk _ _ [.int .i64 qx, .int .i64 qy])
      have q0 := k1.cell 0 rfl
      have q1 := k1.cell 1 rfl
      refine bodyPost_ret (v := .tuple #[.agg #[.int .i64 qx, .int .i64 qy], .bool true]) (by simp [results, Try.results15, go_sem, q0, q1]) rfl ⟨rfl, (hb.set_at (b := w.heap.size + 1) (o := 0) (by omega) _).set_at (b := w.heap.size + 1) (o := 1) (by omega) _⟩
end Go.Proofs.Ytediblljgakoeaa
/- slices.Clone of points. -/
set_option linter.unusedVariables false
set_option linter.unusedSimpArgs false
set_option maxRecDepth 100000
namespace Go.Proofs.Ytediblljgakoeaa
open Go.RowKit
theorem Try.infoZP : (Try.prog.info? 32).map (fun i => (i.zero, i.size, i.bytes)) = some (some (.agg #[.int .i64 0, .int .i64 0]), 2, 16) := by kernel_rfl

set_option maxHeartbeats 1600000 in
theorem cloneP_any (a : Option Addr) (c : Nat) (L : List Pt) (hlen : L.length ≤ 1000000) (w : World) (hr : Rd w a (pts L)) (hc : a = none → c = 0) :
    Calls Try.prog 38 #[.slice a L.length c] w fun e w' => ∃ v, e = .returned v ∧ w'.ownsRow w.heap.size 32 2 v L.length (pts L) ∧ Below w.heap.size w w' := by
  have hnil := fun a n c => Lib.run_eql_slice_nil (P := Try.prog) w 42 32 a n c 0 0 Try.underlying42
  cases a with
  | none =>
    have h0 : L = [] := by
      rcases hr with h | ⟨_, _, h, _⟩
      · have h2 := congrArg List.length h
        rw [pts_len] at h2
        exact List.length_eq_zero_iff.1 (by simp only [List.length_nil] at h2; omega)
      · cases h
    subst h0
    go_enter Try.func38, Try.ntmps38
    go_wp2
    go_ret
    exact ⟨_, rfl, World.ownsRow_nil _ _ _ _, Below.refl _ _⟩
  | some ad =>
    obtain ⟨n, hn⟩ : ∃ n, L.length = n := ⟨_, rfl⟩
    have HN := Lib.hid hn
    rw [hn] at hlen ⊢
    clear hn
    go_enter Try.func38, Try.ntmps38
    go_wp2_with (at_builtin; go_must (refine wpList_app' w (Below.new w (.cells #[] 32)) rfl (.tmp 5) (.tmp 6) 42 rfl 32 (.agg #[.int .i64 0, .int .i64 0]) 2 16 Try.underlying42 Try.infoZP rfl (by decide) (.slice (some ⟨w.heap.size, 0, none⟩) 0 0) 0 [] rfl (ownsRow_empty w _ _) (some ad) n c (pts L) rfl hc (hr.alloc _) (by rw [pts_len, HN.out]; try omega) (pts_one L) (by omega) (by decide) ?_); intro v1 w1 hown1 _ hbl1)
    go_ret
    refine ⟨_, rfl, ?_, hbl1⟩
    simpa using hown1

end Go.Proofs.Ytediblljgakoeaa
/- clear of a slice of points (any two-cell element of zeros); slices.Clip of points. -/
set_option linter.unusedVariables false
set_option linter.unusedSimpArgs false
set_option maxRecDepth 100000
namespace Go
open Go.RowKit
theorem run_clear_two {P : Program} (w : World) (t e ty : TypeId) (ht : P.underlying t = some (.slice e)) (hv : ∀ w, (zeroValue e).run P w = .ok (.agg #[.int .i64 0, .int .i64 0]) w) (b o n c : Nat) (hn : 0 < n)
    (hc : ∀ j, j < n * 2 → (w.cell? ⟨b, o + j, none⟩).isSome = true) (hf : ∀ j, j < n * 2 → w.frozen? ⟨b, o + j, none⟩ = false) :
    (Builtin.clear_ #[t] ty #[.slice (some ⟨b, o, none⟩) n c]).run P w = .ok (.tuple #[]) (w.setCells b o (List.replicate (n * 2) (.int .i64 0))) := by
  have hzc : (Builtin.zeroCells (Value.agg #[.int .i64 0, .int .i64 0]).cells n).toList = List.replicate (n * 2) (.int .i64 0) := by
    have e0 : (Value.agg #[.int .i64 0, .int .i64 0]).cells = #[.int .i64 0, .int .i64 0] := rfl
    rw [e0]
    simp [Builtin.zeroCells]
    apply List.ext_getElem
    · simp
    · intro i h1 h2
      simp
      rcases Nat.mod_two_eq_zero_or_one i with h | h <;> simp [h]
  have hst := run_storeCells_cells (P := P) b o (List.replicate (n * 2) (.int .i64 0)) 0 w (by simpa using hc) (by simpa using hf) (by intro v hv'; rw [List.eq_of_mem_replicate hv']; rfl)
  simp only [Nat.add_zero] at hst
  obtain ⟨m, rfl⟩ : ∃ m, n = m + 1 := ⟨n - 1, by omega⟩
  simp [Builtin.clear_, run_underlying ht, hv, hzc, hst]
end Go
namespace Go.Proofs.Ytediblljgakoeaa
open Go.RowKit
theorem clipP_any (a : Option Addr) (m c : Nat) (hmc : m ≤ c) (hc : c ≤ 9223372036854775807) (hn : a = none → c = 0) (w : World) :
    Calls Try.prog 39 #[.slice a m c] w fun e w' => e = .returned (.slice a m m) ∧ w' = w := by
  cases a with
  | none =>
    have h0 := hn rfl
    subst h0
    have h1 : m = 0 := by omega
    subst h1
    go_enter Try.func39, Try.ntmps39
    go_wp2
    go_ret
    exact ⟨rfl, rfl⟩
  | some ad =>
    clear hn
    go_enter Try.func39, Try.ntmps39
    go_wp2
    go_ret
    exact ⟨rfl, rfl⟩
end Go.Proofs.Ytediblljgakoeaa
/- Rows of points in a block: read, and written in place. -/
/- A ring, the other way round: in plain terms. -/
namespace Go
/-- The other way round. -/
def turnedP (l : List Pt) : List Pt := match l with | [] => [] | p :: t => p :: t.reverse
theorem turnedP_len (l : List Pt) : (turnedP l).length = l.length := by cases l <;> simp [turnedP]
theorem turnedP_map (f : Pt → Pt) (l : List Pt) : (turnedP l).map f = turnedP (l.map f) := by cases l <;> simp [turnedP]
theorem turnedP_all (f : Pt → Bool) (l : List Pt) : (turnedP l).all f = l.all f := by cases l <;> simp [turnedP]
end Go
set_option linter.unusedVariables false
set_option linter.unusedSimpArgs false
set_option maxRecDepth 100000
namespace Go
open Go.RowKit
theorem cellP {w : World} {g : Nat} {R : List Pt} {TL : List Value} {e : TypeId} (h : w.heap[g]? = some (.cells (pts R ++ TL).toArray e (0, 0))) (i : Nat) (hi : i < R.length) :
    w.cell? ⟨g, i * 2, none⟩ = some (.int .i64 R[i]!.x) ∧ w.cell? ⟨g, i * 2 + 1, none⟩ = some (.int .i64 R[i]!.y) := by
  have hb : Blk w g (pts R ++ TL) := ⟨_, h⟩
  have hl := pts_len R
  have g0 := pts_get R i 0 hi (by omega)
  have g1 := pts_get R i 1 hi (by omega)
  rw [getElem!_pos R i hi]
  constructor
  · refine hb.cell (i * 2) ?_
    rw [List.getElem?_append_left (by omega)]
    exact g0
  · refine hb.cell (i * 2 + 1) ?_
    rw [List.getElem?_append_left (by omega)]
    exact g1
theorem blkT_set {w : World} {b : Nat} {T : TypeId} {vs : List Value} (h : w.heap[b]? = some (.cells vs.toArray T (0, 0))) (i : Nat) (u : Value) : (w.setCell ⟨b, i, none⟩ u).heap[b]? = some (.cells (vs.set i u).toArray T (0, 0)) := by
  simp [World.setCell, Array.getElem?_modify, h]
theorem row_set (C D : List Pt) (q p : Pt) (TL : List Value) (kk : Nat) (hk : C.length = kk) :
    ((pts (C ++ q :: D) ++ TL).set (kk * 2) (.int .i64 p.x)).set (kk * 2 + 1) (.int .i64 p.y) = pts ((C ++ [p]) ++ D) ++ TL := by
  have e1 : pts (C ++ q :: D) ++ TL = pts C ++ (.int .i64 q.x :: .int .i64 q.y :: (pts D ++ TL)) := by simp [pts, Pt.cells]
  have e2 : pts ((C ++ [p]) ++ D) ++ TL = pts C ++ (.int .i64 p.x :: .int .i64 p.y :: (pts D ++ TL)) := by simp [pts, Pt.cells]
  have hl : (pts C).length = kk * 2 := by rw [pts_len, hk]
  rw [e1, e2, List.set_append_right _ _ (by omega), List.set_append_right _ _ (by omega), hl]
  simp
end Go
/- slices.Compact of points. -/
set_option linter.unusedVariables false
set_option linter.unusedSimpArgs false
set_option maxRecDepth 100000
namespace Go
open Go.RowKit Go.Lib
theorem compact_short (l : List Pt) (h : l.length < 2) : compact l = l :=
  compact_all l (fun j hj => keeps_lt_one _ j (by omega))
theorem row_get (C l : List Pt) (kk m : Nat) (hk : C.length = kk) (hkm : kk ≤ m) (hm : m < l.length) : (C ++ l.drop kk)[m]! = l[m]! := by
  have h1 : m < (C ++ l.drop kk).length := by rw [List.length_append, List.length_drop]; omega
  rw [getElem!_pos _ m h1, getElem!_pos l m hm, List.getElem_append_right (by omega), List.getElem_drop]
  congr 1; omega
end Go
namespace Go.Proofs.Ytediblljgakoeaa
open Go.RowKit

set_option maxHeartbeats 6400000 in
theorem compactP_any (v : Value) (l : List Pt) (hn : l.length ≤ 1000000) (w : World) (base : Nat) (ho : w.ownsRow base 32 2 v l.length (pts l)) :
    Calls Try.prog 37 #[v] w fun e w' => ∃ v, e = .returned v ∧ w'.ownsRow base 32 2 v (Lib.compact l).length (pts (Lib.compact l)) ∧ Below base w w' := by
  by_cases hs : l.length < 2
  · rw [compact_short l hs]
    obtain ⟨n, hnl⟩ : ∃ n, l.length = n := ⟨_, rfl⟩
    rw [hnl] at ho hs hn ⊢
    clear hnl
    obtain ⟨oa, oc, rfl, -, -, -, -, -⟩ := ho.form
    have hs' : (n : Int) < 2 := by omega
    go_enter Try.func37, Try.ntmps37
    go_wp2
    go_ret
    exact ⟨_, rfl, ho, Below.refl _ _⟩
  · obtain ⟨C0, hC0⟩ : ∃ C0, Lib.compact l = C0 := ⟨_, rfl⟩
    rw [hC0]
    have HC : Hid (Lib.compactUpTo l.toArray l.length = C0) := Lib.hid hC0
    clear hC0
    obtain ⟨n, hnl⟩ : ∃ n, l.length = n := ⟨_, rfl⟩
    have HN := Lib.hid hnl
    have hown := Lib.hid ho
    obtain ⟨h1, h2⟩ := ho
    rcases h2 with ⟨-, h0⟩ | ⟨g, cap, cur, rfl, hbg, hg, hnc, hcm, hcs, htk⟩
    · omega
    obtain ⟨CU, rfl⟩ : ∃ CU : List Value, cur = CU.toArray := ⟨cur.toList, by simp⟩
    have hcl : CU.length = cap * 2 := by simpa using hcs
    have htk' : CU.take (l.length * 2) = pts l := by simpa using htk
    obtain ⟨TL, hTL⟩ : ∃ TL, CU.drop (l.length * 2) = TL := ⟨_, rfl⟩
    have hcu : CU = pts l ++ TL := by rw [← htk', ← hTL, List.take_append_drop]
    have HTL : Hid (n * 2 + TL.length = cap * 2) := Lib.hid (by rw [← hcl, hcu, List.length_append, pts_len, hnl])
    rw [hcu] at hg
    have HG := Lib.hid hg
    clear hg hcs htk hcu hcl htk' hTL h1
    rw [hnl] at hn hs hnc ⊢
    clear hnl
    have hs' : ¬ (n : Int) < 2 := by omega
    go_enter Try.func37, Try.ntmps37
    go_wp2
    go_loopw [3] (fun o wr => ∃ (k : Nat), 1 ≤ k ∧ k ≤ n ∧ o = .int .i64 k ∧ Hid (Lib.compactUpTo l.toArray k = l.take k) ∧ ∃ q, wr = w.drewN q) (fun o _ => n - (intOf o).toNat)
    case atStart => exact ⟨1, by omega, by omega, rfl, Lib.hid (by rw [Lib.compactUpTo_all _ _ (fun j hj => Lib.keeps_lt_one _ j hj)]; cases l with | nil => (have := HN.out; simp at this; omega) | cons x l => simp), 0, rfl⟩
    case round =>
      obtain ⟨k, hk1, hk, rfl, HK, q, rfl⟩ := hrel
      by_cases hlt : k < n
      · have hlt2 : (k : Int) < (n : Int) := by omega
        obtain ⟨k1, hk2⟩ : ∃ k1, k = k1 + 1 := ⟨k - 1, by omega⟩
        have hw1 : IntKind.i64.wrap ((k : Int) - 1) = (k1 : Int) := by rw [IntWalk.i64_in _ (by omega)]; omega
        have hg2 := HG.out
        obtain ⟨c0, c1⟩ := cellP hg2 k (by rw [HN.out]; exact hlt)
        obtain ⟨d0, d1⟩ := cellP hg2 k1 (by rw [HN.out]; omega)
        have hkn : k1 < n := by omega
        have hq1 : l.toArray[k]! = l[k]! := by simp
        have hq2 : l.toArray[k - 1]! = l[k1]! := by rw [hk2]; simp
        have HKEEP : Hid (l[k]! ≠ l[k1]! → Lib.compactUpTo l.toArray (k + 1) = l.take (k + 1)) := Lib.hid (fun h => by
          rw [Lib.compactUpTo_succ, Lib.keeps_pos (by rw [hq1, hq2]; exact h), HK.out, List.take_succ_eq_append_getElem (by rw [HN.out]; exact hlt), if_pos rfl, hq1, getElem!_pos l k (by rw [HN.out]; exact hlt)])
        have HDROP : Hid (l[k]! = l[k1]! → Lib.compactUpTo l.toArray (k + 1) = l.take k) := Lib.hid (fun h => by
          rw [Lib.compactUpTo_succ, Lib.keeps_neg (by omega) (by rw [hq1, hq2]; exact h), HK.out]; simp)
        clear hq1 hq2
        obtain ⟨⟨px, py⟩, hpp⟩ : ∃ p, l[k]! = p := ⟨_, rfl⟩
        obtain ⟨⟨qx, qy⟩, hqq⟩ : ∃ p, l[k1]! = p := ⟨_, rfl⟩
        rw [hpp] at c0 c1
        rw [hqq] at d0 d1
        rw [hpp, hqq] at HKEEP HDROP
        dsimp only at c0 c1 d0 d1
        have HK2 := Lib.hid hk2
        clear hk2
        by_cases hx : px = qx
        · by_cases hy : py = qy
          · subst hx hy
            have HD0 := Lib.hid (HDROP.out rfl)
            clear HKEEP HDROP hpp hqq
            go_wp2
            go_quiet (fail)
            have hb0 : Below base w ((w.drewN q).drewN nq) := below_drewN (below_drewN (Below.refl _ _) q) nq
            have HG0 : Hid (((w.drewN q).drewN nq).heap[g]? = some (.cells (pts l ++ TL).toArray 32 (0, 0))) := Lib.hid HG.out
            clear c0 c1 d0 d1 hg2 HG
            generalize ((w.drewN q).drewN nq) = wz at *
            have hck : ¬ cap = k := by omega
            go_wp2
            go_loopw [3, 5] (fun o i wr => ∃ (m j kk : Nat) (C : List Pt), m = k + j ∧ 1 ≤ j ∧ m ≤ n ∧ kk < m ∧ i = .int .i64 j ∧ o = .int .i64 kk ∧ Hid (C.length = kk) ∧ Hid (Lib.compactUpTo l.toArray m = C) ∧ Hid (wr.heap[g]? = some (.cells (pts (C ++ l.drop kk) ++ TL).toArray 32 (0, 0))) ∧ Below base w wr) (fun _ i _ => n - (intOf i).toNat)
            case atStart => exact ⟨k + 1, 1, k, l.take k, rfl, by omega, by omega, by omega, rfl, rfl, Lib.hid (by rw [List.length_take, HN.out]; omega), HD0, Lib.hid (by rw [List.take_append_drop]; exact HG0.out), hb0⟩
            case round =>
              obtain ⟨m, j, kk, C, hm, hj1, hmn, hkm, rfl, rfl, HCL, HCM, HGW, hbw⟩ := hrel
              by_cases hlm : m < n
              · have hjl : (j : Int) < ((n - k : Nat) : Int) := by omega
                have hjn : j < n - k := by omega
                obtain ⟨j1, hj2⟩ : ∃ j1, j = j1 + 1 := ⟨j - 1, by omega⟩
                have hw2 : IntKind.i64.wrap ((j : Int) - 1) = (j1 : Int) := by rw [IntWalk.i64_in _ (by omega)]; omega
                have hj1n : j1 < n - k := by omega
                have hrl : (C ++ l.drop kk).length = n := by rw [List.length_append, List.length_drop, HCL.out, HN.out]; omega
                have hkn2 : kk < n := by omega
                have haj : (k + j) * 2 = k * 2 + j * 2 := by omega
                have haj1 : (k + j1) * 2 = k * 2 + j1 * 2 := by omega
                have HE1 : Hid ((pts (C ++ l.drop kk) ++ TL)[kk * 2 + 1]? = some (.int .i64 (C ++ l.drop kk)[kk]!.y)) := Lib.hid (by
                  rw [List.getElem?_append_left (by rw [pts_len]; omega), pts_get _ kk 1 (by omega) (by omega), getElem!_pos _ kk (by omega)]; rfl)
                have HDK : Hid (C ++ l.drop kk = C ++ l[kk]! :: l.drop (kk + 1)) := Lib.hid (by
                  rw [getElem!_pos l kk (by rw [HN.out]; exact hkn2), List.drop_eq_getElem_cons (by rw [HN.out]; exact hkn2)])
                have hgw := HGW.out
                obtain ⟨c0, c1⟩ := cellP hgw (k + j) (by omega)
                obtain ⟨d0, d1⟩ := cellP hgw (k + j1) (by omega)
                rw [row_get C l kk (k + j) HCL.out (by omega) (by rw [HN.out]; omega), haj] at c0 c1
                rw [row_get C l kk (k + j1) HCL.out (by omega) (by rw [HN.out]; omega), haj1] at d0 d1
                clear hgw
                have hq1 : l.toArray[m]! = l[k + j]! := by rw [hm]; simp
                have hq2 : l.toArray[m - 1]! = l[k + j1]! := by rw [show m - 1 = k + j1 by omega]; simp
                have HKEEP : Hid (l[k + j]! ≠ l[k + j1]! → Lib.compactUpTo l.toArray (m + 1) = C ++ [l[k + j]!]) := Lib.hid (fun h => by
                  rw [Lib.compactUpTo_succ, Lib.keeps_pos (by rw [hq1, hq2]; exact h), HCM.out, if_pos rfl, hq1])
                have HDROP : Hid (l[k + j]! = l[k + j1]! → Lib.compactUpTo l.toArray (m + 1) = C) := Lib.hid (fun h => by
                  rw [Lib.compactUpTo_succ, Lib.keeps_neg (by omega) (by rw [hq1, hq2]; exact h), HCM.out]; simp)
                clear hq1 hq2
                obtain ⟨⟨ax, ay⟩, hpp⟩ : ∃ p, l[k + j]! = p := ⟨_, rfl⟩
                obtain ⟨⟨bx, by'⟩, hqq⟩ : ∃ p, l[k + j1]! = p := ⟨_, rfl⟩
                rw [hpp] at c0 c1
                rw [hqq] at d0 d1
                rw [hpp, hqq] at HKEEP HDROP
                dsimp only at c0 c1 d0 d1
                clear hj2
                by_cases hx : ax = bx
                · by_cases hy : ay = by'
                  · subst hx hy
                    have HD2 := Lib.hid (HDROP.out rfl)
                    clear hpp hqq HDROP HKEEP
                    go_wp2
                    go_quiet (fail)
                    have HGY : Hid ((wr.drewN nq).heap[g]? = some (.cells (pts (C ++ l.drop kk) ++ TL).toArray 32 (0, 0))) := Lib.hid HGW.out
                    have hby := below_drewN hbw nq
                    go_wp2
                    exact ⟨⟨m + 1, j + 1, kk, C, by omega, by omega, by omega, by omega, val_int (by omega), rfl, HCL, HD2, HGY, hby⟩, by simp [intOf]; omega⟩
                  · have hy2 : (ay == by') = false := by simpa using hy
                    have HNE : ay = by' → False := hy
                    subst hx
                    go_wp2
                    go_quiet (fail)
                    have HGY : Hid ((wr.drewN nq).heap[g]? = some (.cells (pts (C ++ l.drop kk) ++ TL).toArray 32 (0, 0))) := Lib.hid HGW.out
                    have hby := below_drewN hbw nq
                    clear c0 c1 d0 d1 HGW hbw
                    generalize wr.drewN nq = wy at *
                    have hgy := HGY.out
                    obtain ⟨c0, c1⟩ := cellP hgy (k + j) (by omega)
                    obtain ⟨e0, e1⟩ := cellP hgy kk (by omega)
                    rw [row_get C l kk (k + j) HCL.out (by omega) (by rw [HN.out]; omega), hpp, haj] at c0 c1
                    have hby2 := (hby.setCell (p := ⟨g, kk * 2, none⟩) hbg (.int .i64 ax)).setCell (p := ⟨g, kk * 2 + 1, none⟩) hbg (.int .i64 ay)
                    have kb : Blk wy g (pts (C ++ l.drop kk) ++ TL) := ⟨_, hgy⟩
                    have f0 := kb.free (kk * 2)
                    have f1 := (kb.set (kk * 2) (.int .i64 ax)).free (kk * 2 + 1)
                    have g1 : (wy.setCell ⟨g, kk * 2, none⟩ (.int .i64 ax)).cell? ⟨g, kk * 2 + 1, none⟩ = some (.int .i64 (C ++ l.drop kk)[kk]!.y) := (kb.set (kk * 2) (.int .i64 ax)).cell (kk * 2 + 1) (by rw [List.getElem?_set_ne (by omega)]; exact HE1.out)
                    have HGS : Hid (((wy.setCell ⟨g, kk * 2, none⟩ (.int .i64 ax)).setCell ⟨g, kk * 2 + 1, none⟩ (.int .i64 ay)).heap[g]? = some (.cells (pts ((C ++ [⟨ax, ay⟩]) ++ l.drop (kk + 1)) ++ TL).toArray 32 (0, 0))) := Lib.hid (by
                      have := blkT_set (blkT_set hgy (kk * 2) (.int .i64 ax)) (kk * 2 + 1) (.int .i64 ay)
                      rw [HDK.out, row_set C (l.drop (kk + 1)) l[kk]! ⟨ax, ay⟩ TL kk HCL.out] at this
                      exact this)
                    clear hgy kb
                    go_wp2
                    exact ⟨⟨m + 1, j + 1, kk + 1, C ++ [⟨ax, ay⟩], by omega, by omega, by omega, by omega, val_int (by omega), val_int (by omega), Lib.hid (by rw [List.length_append, HCL.out]; rfl), Lib.hid (HKEEP.out (fun h => HNE (by injection h))), HGS, hby2⟩, by simp [intOf]; omega⟩
                · have hx2 : (ax == bx) = false := by simpa using hx
                  have HNE : ax = bx → False := hx
                  go_wp2
                  go_quiet (fail)
                  have HGY : Hid ((wr.drewN nq).heap[g]? = some (.cells (pts (C ++ l.drop kk) ++ TL).toArray 32 (0, 0))) := Lib.hid HGW.out
                  have hby := below_drewN hbw nq
                  clear c0 c1 d0 d1 HGW hbw
                  generalize wr.drewN nq = wy at *
                  have hgy := HGY.out
                  obtain ⟨c0, c1⟩ := cellP hgy (k + j) (by omega)
                  obtain ⟨e0, e1⟩ := cellP hgy kk (by omega)
                  rw [row_get C l kk (k + j) HCL.out (by omega) (by rw [HN.out]; omega), hpp, haj] at c0 c1
                  have hby2 := (hby.setCell (p := ⟨g, kk * 2, none⟩) hbg (.int .i64 ax)).setCell (p := ⟨g, kk * 2 + 1, none⟩) hbg (.int .i64 ay)
                  have kb : Blk wy g (pts (C ++ l.drop kk) ++ TL) := ⟨_, hgy⟩
                  have f0 := kb.free (kk * 2)
                  have f1 := (kb.set (kk * 2) (.int .i64 ax)).free (kk * 2 + 1)
                  have g1 : (wy.setCell ⟨g, kk * 2, none⟩ (.int .i64 ax)).cell? ⟨g, kk * 2 + 1, none⟩ = some (.int .i64 (C ++ l.drop kk)[kk]!.y) := (kb.set (kk * 2) (.int .i64 ax)).cell (kk * 2 + 1) (by rw [List.getElem?_set_ne (by omega)]; exact HE1.out)
                  have HGS : Hid (((wy.setCell ⟨g, kk * 2, none⟩ (.int .i64 ax)).setCell ⟨g, kk * 2 + 1, none⟩ (.int .i64 ay)).heap[g]? = some (.cells (pts ((C ++ [⟨ax, ay⟩]) ++ l.drop (kk + 1)) ++ TL).toArray 32 (0, 0))) := Lib.hid (by
                    have := blkT_set (blkT_set hgy (kk * 2) (.int .i64 ax)) (kk * 2 + 1) (.int .i64 ay)
                    rw [HDK.out, row_set C (l.drop (kk + 1)) l[kk]! ⟨ax, ay⟩ TL kk HCL.out] at this
                    exact this)
                  clear hgy kb
                  go_wp2
                  exact ⟨⟨m + 1, j + 1, kk + 1, C ++ [⟨ax, ay⟩], by omega, by omega, by omega, by omega, val_int (by omega), val_int (by omega), Lib.hid (by rw [List.length_append, HCL.out]; rfl), Lib.hid (HKEEP.out (fun h => HNE (by injection h))), HGS, hby2⟩, by simp [intOf]; omega⟩
              · have hjl : ¬ (j : Int) < ((n - k : Nat) : Int) := by omega
                have hmn2 : m = n := by omega
                have hCC : C0 = C := by rw [← HC.out, HN.out, ← hmn2, HCM.out]
                subst hCC
                have hrl : (C0 ++ l.drop kk).length = n := by rw [List.length_append, List.length_drop, HCL.out, HN.out]; omega
                have hxl : (pts (C0 ++ l.drop kk) ++ TL).length = cap * 2 := by rw [List.length_append, pts_len, hrl, HTL.out]
                have hbk : Blk wr g (pts (C0 ++ l.drop kk) ++ TL) := ⟨_, HGW.out⟩
                have hclr := fun ty => run_clear_two (P := Try.prog) wr 42 32 ty Try.underlying42 Try.zeroValue32 g (kk * 2) (n - kk) (cap - kk) (by omega) (fun q hq => by rw [hbk.cell (kk * 2 + q) (List.getElem?_eq_getElem (by omega))]; rfl) (fun q hq => hbk.free _)
                obtain ⟨c2, hg2, hc2⟩ := heap_setCells g 32 (List.replicate ((n - kk) * 2) (.int .i64 0)) (kk * 2) wr _ HGW.out (by rw [List.length_replicate]; omega)
                have hb2 := Lib.below_setCells g hbg (List.replicate ((n - kk) * 2) (.int .i64 0)) (kk * 2) hbw
                obtain ⟨wc, hwc⟩ : ∃ wc, wr.setCells g (kk * 2) (List.replicate ((n - kk) * 2) (.int .i64 0)) = wc := ⟨_, rfl⟩
                rw [hwc] at hclr hg2 hb2
                have hck2 : ¬ cap = kk := by omega
                have hkk2 : kk ≤ n := by omega
                have hkk3 : kk ≤ cap := by omega
                have HOWN : Hid (wc.ownsRow base 32 2 (.slice (some ⟨g, 0, none⟩) kk cap) kk (pts C0)) := Lib.hid (by
                  refine ⟨by rw [pts_len, HCL.out], .inr ⟨g, cap, c2.toArray, rfl, hbg, hg2, hkk3, hcm, ?_, ?_⟩⟩
                  · rw [List.size_toArray, hc2, List.length_append, List.length_append, List.length_take, List.length_drop, List.length_replicate, hxl]; omega
                  · rw [hc2]
                    have e9 : (pts (C0 ++ l.drop kk) ++ TL).take (kk * 2) = pts C0 := by
                      rw [pts_append, List.append_assoc, List.take_append_of_le_length (by rw [pts_len, HCL.out]; omega), List.take_of_length_le (by rw [pts_len, HCL.out]; omega)]
                    rw [e9]
                    simp only [List.append_assoc]
                    rw [List.take_append_of_le_length (by rw [pts_len, HCL.out]; omega), List.take_of_length_le (by rw [pts_len, HCL.out]; omega)])
                clear hwc hc2 hg2 hbk hxl hrl
                go_wp2
                go_ret
                refine ⟨_, rfl, ?_, hb2⟩
                rw [HCL.out]; exact HOWN.out
          · have hy2 : (py == qy) = false := by simpa using hy
            subst hx
            go_wp2
            go_quiet (fail)
            go_wp2
            exact ⟨⟨k + 1, by omega, by omega, val_int (by omega), Lib.hid (HKEEP.out (fun h => hy (by injection h))), _, rfl⟩, by simp [intOf]; omega⟩
        · have hx2 : (px == qx) = false := by simpa using hx
          go_wp2
          go_quiet (fail)
          go_wp2
          exact ⟨⟨k + 1, by omega, by omega, val_int (by omega), Lib.hid (HKEEP.out (fun h => hx (by injection h))), _, rfl⟩, by simp [intOf]; omega⟩
      · have hk3 : k = n := by omega
        subst hk3
        have hC : C0 = l := by rw [← HC.out, HN.out, HK.out, ← HN.out, List.take_length]
        subst hC
        go_wp2
        go_ret
        refine ⟨_, rfl, ?_, below_drewN (Below.refl _ _) q⟩
        have := hown.out
        rw [HN.out] at this ⊢
        exact this
end Go.Proofs.Ytediblljgakoeaa
/- ring.Thin. -/
set_option linter.unusedVariables false
set_option linter.unusedSimpArgs false
set_option maxRecDepth 100000
namespace Go
open Go.RowKit
/-- A row without the last points that are the first one. -/
def stripN : Nat → List Pt → List Pt
  | 0, l => l
  | f + 1, l => if 1 < l.length ∧ l[l.length - 1]! = l[0]! then stripN f l.dropLast else l
def thinR (l : List Pt) : List Pt := stripN (Lib.compact l).length (Lib.compact l)
theorem stripN_short (l : List Pt) (h : ¬ 1 < l.length) : ∀ f, stripN f l = l
  | 0 => rfl
  | f + 1 => by unfold stripN; rw [if_neg (fun q => h q.1)]
theorem ownsRow_pre {w : World} {base : Nat} {e : TypeId} {a : Option Addr} {n c : Nat} {R : List Pt} (h : w.ownsRow base e 2 (.slice a n c) n (pts R)) (hn : R.length = n) (m : Nat) (hm : m < n) :
    w.ownsRow base e 2 (.slice a m c) m (pts (R.take m)) := by
  obtain ⟨h1, h2⟩ := h
  rcases h2 with ⟨h2, h0⟩ | ⟨g, cap, cur, hv, hb, hg, hnc, hcm, hcs, htk⟩
  · omega
  · injection hv with q1 q2 q3
    subst q1 q3
    refine ⟨by rw [pts_len, List.length_take, hn]; omega, .inr ⟨g, c, cur, rfl, hb, hg, by omega, hcm, hcs, ?_⟩⟩
    rw [← pts_take, ← htk, List.take_take]
    congr 1; omega
end Go
namespace Go.Proofs.Ytediblljgakoeaa
open Go.RowKit

set_option maxHeartbeats 6400000 in
theorem thinR_any (a : Option Addr) (c : Nat) (l : List Pt) (hn : l.length ≤ 1000000) (w : World) (hr : Rd w a (pts l)) (hc : a = none → c = 0) :
    Calls Try.prog 25 #[.slice a l.length c] w fun e w' => ∃ ra, e = .returned (.slice ra (thinR l).length (thinR l).length) ∧ Rd w' ra (pts (thinR l)) ∧ Below w.heap.size w w' := by
  have h1 := cloneP_any a c l hn w hr hc
  have h2 := fun v w1 h => compactP_any v l hn w1 w.heap.size h
  obtain ⟨RES, hRES⟩ : ∃ R, thinR l = R := ⟨_, rfl⟩
  have HR : Hid (stripN (Lib.compact l).length (Lib.compact l) = RES) := Lib.hid hRES
  rw [hRES]
  have hle := Lib.compact_length_le l
  clear hRES hr hc
  generalize Lib.compact l = C at *
  obtain ⟨n, hnl⟩ : ∃ n, l.length = n := ⟨_, rfl⟩
  rw [hnl] at h1 h2 hn hle ⊢
  have H2 := Lib.hid h2
  clear hnl h2
  go_enter Try.func25, Try.ntmps25
  go_wp2_with fail
  refine h1.mono ?_
  rintro e w1 ⟨v, rfl, ho, hb⟩
  go_wp2_with fail
  refine (H2.out v w1 ho).mono ?_
  rintro e w2 ⟨v2, rfl, ho2, hb2⟩
  have hb3 := hb.trans hb2
  clear h1 H2 ho hb hb2
  go_wp2
  go_loopw [3] (fun o wr => ∃ (R : List Pt) (m : Nat) (oa : Option Addr) (oc : Nat), m ≤ n ∧ o = .slice oa m oc ∧ Hid (R.length = m) ∧ Hid (stripN m R = RES) ∧ wr.ownsRow w.heap.size 32 2 (.slice oa m oc) m (pts R) ∧ Below w.heap.size w wr) (fun o _ => match o with | .slice _ m _ => m | _ => 0)
  case atStart =>
    obtain ⟨oa, oc, rfl, -, -, -, -, -⟩ := ho2.form
    exact ⟨C, C.length, oa, oc, by omega, rfl, Lib.hid rfl, HR, ho2, hb3⟩
  case round =>
    obtain ⟨R, m, oa, oc, hmn, rfl, HL, HS, hor, hbr⟩ := hrel
    obtain ⟨oa', oc', he, hmc, hcm, hno, hro, -⟩ := hor.form
    cases he
    have hRd := Lib.hid hro
    have hoc : oc ≤ 9223372036854775807 := by unfold maxLen at hcm; omega
    by_cases hm1 : 1 < m
    · have hm2 : (1 : Int) < (m : Int) := by omega
      obtain ⟨m1, hm3⟩ : ∃ m1, m = m1 + 1 := ⟨m - 1, by omega⟩
      have hw1 : IntKind.i64.wrap ((m : Int) - 1) = (m1 : Int) := by rw [IntWalk.i64_in _ (by omega)]; omega
      have hm0 : 0 < m := by omega
      have hmm : m1 < m := by omega
      have hl1 : m1 < R.length := by rw [HL.out]; exact hmm
      have hl0 : 0 < R.length := by rw [HL.out]; exact hm0
      obtain ⟨b, off, rfl, hb0, c0, c1⟩ := hro.pt m1 hl1
      obtain ⟨b', off', he2, hb1, d0', d1'⟩ := hro.pt 0 hl0
      cases he2
      have d0 : wr.cell? ⟨b, off, none⟩ = some (.int .i64 (R[0]'hl0).x) := by simpa using d0'
      have d1 : wr.cell? ⟨b, off + 1, none⟩ = some (.int .i64 (R[0]'hl0).y) := by simpa using d1'
      clear d0' d1'
      obtain ⟨⟨px, py⟩, hpp⟩ : ∃ p, R[m1]'hl1 = p := ⟨_, rfl⟩
      obtain ⟨⟨qx, qy⟩, hqq⟩ : ∃ p, R[0]'hl0 = p := ⟨_, rfl⟩
      rw [hpp] at c0 c1
      rw [hqq] at d0 d1
      dsimp only at c0 c1 d0 d1
      have hm1c : m1 ≤ oc := by omega
      by_cases hx : px = qx
      · by_cases hy : py = qy
        · subst hx hy
          have HS2 : Hid (stripN m1 (R.take m1) = RES) := Lib.hid (by
            rw [← HS.out, hm3]
            conv => rhs; unfold stripN
            rw [if_pos ⟨by rw [HL.out]; exact hm1, by rw [HL.out, show m - 1 = m1 by omega, getElem!_pos R m1 hl1, getElem!_pos R 0 hl0, hpp, hqq]⟩, List.dropLast_eq_take, HL.out]
            rw [show m - 1 = m1 by omega])
          have HL2 : Hid ((R.take m1).length = m1) := Lib.hid (by rw [List.length_take, HL.out]; omega)
          have HO2 := Lib.hid (ownsRow_pre hor HL.out m1 hmm)
          have hmn1 : m1 ≤ n := by omega
          clear hpp hqq hm3 HS hor
          go_wp2
          go_quiet (fail)
          have hbr2 := below_drewN hbr nq
          have HO3 : Hid ((wr.drewN nq).ownsRow w.heap.size 32 2 (.slice (some ⟨b, off, none⟩) m1 oc) m1 (pts (R.take m1))) := Lib.hid HO2.out
          go_wp2
          exact ⟨⟨R.take m1, m1, _, oc, hmn1, rfl, HL2, HS2, HO3.out, hbr2⟩, hmm⟩
        · have hy2 : (py == qy) = false := by simpa using hy
          have HNE : py = qy → False := hy
          subst hx
          have hcond : ¬ (1 < R.length ∧ R[R.length - 1]! = R[0]!) := by
            rintro ⟨-, h⟩
            rw [HL.out, show m - 1 = m1 by omega, getElem!_pos R m1 hl1, getElem!_pos R 0 hl0, hpp, hqq] at h
            exact HNE (by injection h)
          have hRR : R = RES := by
            rw [← HS.out]
            have e9 : stripN m R = stripN (m1 + 1) R := by rw [← hm3]
            rw [e9]; unfold stripN; rw [if_neg hcond]
          clear hcond
          subst hRR
          clear hm3
          go_wp2
          go_quiet (fail)
          go_wp2_with fail
          refine (clipP_any _ m oc hmc hoc hno _).mono ?_
          rintro e w5 ⟨rfl, rfl⟩
          go_wp2
          refine bodyPost_ret (v := .slice (some ⟨b, off, none⟩) m m) (by simp [results, Try.results25, go_sem]) rfl ⟨_, by rw [HL.out], hRd.out, below_drewN hbr _⟩
      · have hx2 : (px == qx) = false := by simpa using hx
        have HNE : px = qx → False := hx
        have hcond : ¬ (1 < R.length ∧ R[R.length - 1]! = R[0]!) := by
          rintro ⟨-, h⟩
          rw [HL.out, show m - 1 = m1 by omega, getElem!_pos R m1 hl1, getElem!_pos R 0 hl0, hpp, hqq] at h
          exact HNE (by injection h)
        have hRR : R = RES := by
          rw [← HS.out]
          have e9 : stripN m R = stripN (m1 + 1) R := by rw [← hm3]
          rw [e9]; unfold stripN; rw [if_neg hcond]
        clear hcond
        subst hRR
        clear hm3
        go_wp2
        go_quiet (fail)
        go_wp2_with fail
        refine (clipP_any _ m oc hmc hoc hno _).mono ?_
        rintro e w5 ⟨rfl, rfl⟩
        go_wp2
        refine bodyPost_ret (v := .slice (some ⟨b, off, none⟩) m m) (by simp [results, Try.results25, go_sem]) rfl ⟨_, by rw [HL.out], hRd.out, below_drewN hbr _⟩
    · have hm2 : ¬ (1 : Int) < (m : Int) := by omega
      have hRR : R = RES := by rw [← HS.out, stripN_short R (by rw [HL.out]; exact hm1)]
      subst hRR
      go_wp2
      have hm9 : ¬ (1 : Int) < (m : Int) := by omega
      go_quiet (fail)
      go_wp2_with fail
      refine (clipP_any _ m oc hmc hoc hno _).mono ?_
      rintro e w5 ⟨rfl, rfl⟩
      go_wp2
      refine bodyPost_ret (v := .slice oa m m) (by simp [results, Try.results25, go_sem]) rfl ⟨_, by rw [HL.out], hRd.out, below_drewN hbr _⟩
end Go.Proofs.Ytediblljgakoeaa
