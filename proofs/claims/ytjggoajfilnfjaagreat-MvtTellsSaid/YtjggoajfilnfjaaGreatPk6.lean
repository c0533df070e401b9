/-
  value.known: the value of a field. A range over a function whose iterator promises something of the world at each call of yield, and of the world behind all rounds; the body never leaves. What a round keeps: blocks of two element types. (The same lies in XPeach, XPall8, XPonly: those texts and this one do not go together.) proto.each, its closure: the contract. (Under way: does not build yet.) proto.Skip.
-/
import Derived.Test.YtjggoajfilnfjaaGreatPk5
import Derived.RangeFuncNested
import Derived.RangeFuncBound
import Derived.RangeFuncCalls
import Derived.RangeFuncLeaves
import Derived.WalkKit
import Derived.RangeFuncBox
import Derived.Test.YtjggoajfilnfjaaGreatPk1
import Derived.Shelf.Abstract
import Derived.Shelf.RegionOpen
import Derived.OwnWalkIn
import Derived.TacticsInMore
import Derived.LoopNIn
import Derived.LoopIn
import Derived.Test.YtjggoajfilnfjaaGreatPk4
set_option linter.unusedVariables false
set_option linter.unusedSimpArgs false
set_option maxRecDepth 100000
namespace Go
open Go.RowKit Go.Proto Go.Vint
def knF (f : Fld) : (Int × ByteArray × Int) × Int :=
 if f.num = 2 then ((0, ⟨#[]⟩, 0), 14) else if f.num = 3 then ((0, ⟨#[]⟩, 0), 14) else if f.num = 4 then ((0, ⟨#[]⟩, 0), 14)
 else if f.num = 1 then (if f.kind = 2 then ((1, strOfNums f.bs, 0), 0) else ((0, ⟨#[]⟩, 0), 19))
 else if f.num = 6 then (if f.kind = 0 then ((3, ⟨#[]⟩, zag f.n), 0) else ((0, ⟨#[]⟩, 0), 19))
 else if f.num = 5 then (if f.kind = 0 then ((2, ⟨#[]⟩, if 1152921504606846977 < f.n then 1152921504606846977 else f.n), 0) else ((0, ⟨#[]⟩, 0), 19))
 else if f.num = 7 then (if f.kind = 0 then ((4, ⟨#[]⟩, if 1152921504606846977 < f.n then 1152921504606846977 else f.n), 0) else ((0, ⟨#[]⟩, 0), 19))
 else ((0, ⟨#[]⟩, 0), 0)
end Go
namespace Go.Proofs.YtjggoajfilnfjaaGreat
open Go.RowKit Go.Vint Go.Proto

set_option maxHeartbeats 4000000 in
theorem known_any (x : FC) (w : World) (hx : x.Ok w) (hn : 0 ≤ x.f.n ∧ x.f.n ≤ 18446744073709551615) :
  Calls Tryz.prog 107 #[x.val] w fun e w' => e = .returned (.tuple #[vVal (knF x.f).1, .int .i64 (knF x.f).2]) ∧ Below w.heap.size w w' := by
 obtain ⟨⟨num, kind, n, bs⟩, p, c⟩ := x; dsimp only [FC.val] at *; have hx1 := hx.1; dsimp only at hx1; have HK := Lib.hid (knF.eq_1 ⟨num, kind, n, bs⟩); dsimp only at HK; generalize knF ⟨num, kind, n, bs⟩ = V at *; obtain ⟨B, hB⟩ : ∃ B, w.heap.size = B := ⟨_, rfl⟩; have HBE := Lib.hid hB; have hb0 := Below.new w (.cells #[.int .i64 num, .int .i64 kind, .int .u64 n, .slice p bs.length c] 72); have hb1 := hb0.alloc (by simp) (.cells #[.int .i64 0, .string ⟨#[]⟩, .int .i64 0] 101); have hb2 := hb1.alloc (by simp; omega) (.cells #[.int .i64 0, .string ⟨#[]⟩, .int .i64 0] 101); have k0 := ((Blk.lit w B [.int .i64 num, .int .i64 kind, .int .u64 n, .slice p bs.length c] 72 hB).alloc (.cells #[.int .i64 0, .string ⟨#[]⟩, .int .i64 0] 101)).alloc (.cells #[.int .i64 0, .string ⟨#[]⟩, .int .i64 0] 101); have k1 := (Blk.lit (w.alloc (.cells #[.int .i64 num, .int .i64 kind, .int .u64 n, .slice p bs.length c] 72)) (B + 1) [.int .i64 0, .string ⟨#[]⟩, .int .i64 0] 101 (by simp [hB])).alloc (.cells #[.int .i64 0, .string ⟨#[]⟩, .int .i64 0] 101); have k2 := Blk.lit ((w.alloc (.cells #[.int .i64 num, .int .i64 kind, .int .u64 n, .slice p bs.length c] 72)).alloc (.cells #[.int .i64 0, .string ⟨#[]⟩, .int .i64 0] 101)) (B + 1 + 1) [.int .i64 0, .string ⟨#[]⟩, .int .i64 0] 101 (by simp [hB]); have hr0 := hx1.keep hb2
 go_enter Tryz.func107, Tryz.ntmps107
 by_cases c2 : num = 2
 ·subst c2; have hV := HK.out; simp only [if_true, if_false, Int.reduceEq] at hV; clear HK; go_wp2; refine bodyPost_ret (v := .tuple #[vVal V.1, .int .i64 V.2]) ?_ rfl ⟨by first | rfl | (rw [hV]), by first | exact ((Below.new w _).alloc (by simp) _).alloc (by simp; omega) _ | (rw [← HBE.out]; exact ((Below.new w _).alloc (by simp) _).alloc (by simp; omega) _)⟩; have q := Blk.alloc (Blk.lit (w.alloc (.cells #[.int .i64 2, .int .i64 kind, .int .u64 n, .slice p bs.length c] 72)) (B + 1) (vCells V.1) 101 (by simp [hB])) (.cells #[.int .i64 0, .string ⟨#[]⟩, .int .i64 0] 101)
  try subst hV
  have q0 := q.cell 0 rfl; have q1 := q.cell 1 rfl; have q2 := q.cell 2 rfl; dsimp only [vCells] at q0 q1 q2; simp [results, Tryz.results107, go_sem, vVal, q0, q1, q2]
 have e2 : (num == 2) = false := by simpa using c2
 by_cases c3 : num = 3
 ·subst c3; have hV := HK.out; simp only [if_true, if_false, Int.reduceEq] at hV; clear HK; go_wp2; refine bodyPost_ret (v := .tuple #[vVal V.1, .int .i64 V.2]) ?_ rfl ⟨by first | rfl | (rw [hV]), by first | exact ((Below.new w _).alloc (by simp) _).alloc (by simp; omega) _ | (rw [← HBE.out]; exact ((Below.new w _).alloc (by simp) _).alloc (by simp; omega) _)⟩; have q := Blk.alloc (Blk.lit (w.alloc (.cells #[.int .i64 3, .int .i64 kind, .int .u64 n, .slice p bs.length c] 72)) (B + 1) (vCells V.1) 101 (by simp [hB])) (.cells #[.int .i64 0, .string ⟨#[]⟩, .int .i64 0] 101)
  try subst hV
  have q0 := q.cell 0 rfl; have q1 := q.cell 1 rfl; have q2 := q.cell 2 rfl; dsimp only [vCells] at q0 q1 q2; simp [results, Tryz.results107, go_sem, vVal, q0, q1, q2]
 have e3 : (num == 3) = false := by simpa using c3
 by_cases c4 : num = 4
 ·subst c4; have hV := HK.out; simp only [if_true, if_false, Int.reduceEq] at hV; clear HK; go_wp2; refine bodyPost_ret (v := .tuple #[vVal V.1, .int .i64 V.2]) ?_ rfl ⟨by first | rfl | (rw [hV]), by first | exact ((Below.new w _).alloc (by simp) _).alloc (by simp; omega) _ | (rw [← HBE.out]; exact ((Below.new w _).alloc (by simp) _).alloc (by simp; omega) _)⟩; have q := Blk.alloc (Blk.lit (w.alloc (.cells #[.int .i64 4, .int .i64 kind, .int .u64 n, .slice p bs.length c] 72)) (B + 1) (vCells V.1) 101 (by simp [hB])) (.cells #[.int .i64 0, .string ⟨#[]⟩, .int .i64 0] 101)
  try subst hV
  have q0 := q.cell 0 rfl; have q1 := q.cell 1 rfl; have q2 := q.cell 2 rfl; dsimp only [vCells] at q0 q1 q2; simp [results, Tryz.results107, go_sem, vVal, q0, q1, q2]
 have e4 : (num == 4) = false := by simpa using c4
 by_cases c1 : num = 1
 ·subst c1; have hV := HK.out; simp only [if_true, if_false, Int.reduceEq] at hV; clear HK
  by_cases ck : kind = 2
  ·subst ck; simp only [if_true] at hV; have hcv := run_convert_rd (P := Tryz.prog) _ 31 5 9 Tryz.underlying31 Tryz.underlying5 Tryz.underlying9 p c bs hr0; go_wp2; refine bodyPost_ret (v := .tuple #[vVal V.1, .int .i64 V.2]) ?_ rfl ⟨by first | rfl | (rw [hV]), by first | exact ((Below.new w _).alloc (by simp) _).alloc (by simp; omega) _ | (rw [← HBE.out]; exact ((Below.new w _).alloc (by simp) _).alloc (by simp; omega) _)⟩; have q := Blk.alloc (Blk.lit (w.alloc (.cells #[.int .i64 1, .int .i64 2, .int .u64 n, .slice p bs.length c] 72)) (B + 1) (vCells V.1) 101 (by simp [hB])) (.cells #[.int .i64 1, .string (strOfNums bs), .int .i64 0] 101)
   try subst hV
   have q0 := q.cell 0 rfl; have q1 := q.cell 1 rfl; have q2 := q.cell 2 rfl; dsimp only [vCells] at q0 q1 q2; simp [results, Tryz.results107, go_sem, vVal, q0, q1, q2]
  ·have ek : (kind != 2) = true := by simpa using ck
   simp only [if_neg ck] at hV; have hcv := run_convert_rd (P := Tryz.prog) _ 31 5 9 Tryz.underlying31 Tryz.underlying5 Tryz.underlying9 p c bs hr0; go_wp2; refine bodyPost_ret (v := .tuple #[vVal V.1, .int .i64 V.2]) ?_ rfl ⟨by first | rfl | (rw [hV]), by first | exact ((Below.new w _).alloc (by simp) _).alloc (by simp; omega) _ | (rw [← HBE.out]; exact ((Below.new w _).alloc (by simp) _).alloc (by simp; omega) _)⟩; have q := Blk.alloc (Blk.lit (w.alloc (.cells #[.int .i64 1, .int .i64 kind, .int .u64 n, .slice p bs.length c] 72)) (B + 1) (vCells V.1) 101 (by simp [hB])) (.cells #[.int .i64 1, .string (strOfNums bs), .int .i64 0] 101)
   try subst hV
   have q0 := q.cell 0 rfl; have q1 := q.cell 1 rfl; have q2 := q.cell 2 rfl; dsimp only [vCells] at q0 q1 q2; simp [results, Tryz.results107, go_sem, vVal, q0, q1, q2]
 have e1 : (num == 1) = false := by simpa using c1
 by_cases c6 : num = 6
 ·subst c6; have hV := HK.out; simp only [if_true, if_false, Int.reduceEq] at hV; clear HK
  by_cases ck : kind = 0
  ·subst ck; simp only [if_true] at hV
   go_wp2_with fail
   refine (vzag_any n hn.1 hn.2 _).mono ?_; rintro e w1 ⟨rfl, rfl⟩; go_wp2; refine bodyPost_ret (v := .tuple #[vVal V.1, .int .i64 V.2]) ?_ rfl ⟨by first | rfl | (rw [hV]), by first | exact ((Below.new w _).alloc (by simp) _).alloc (by simp; omega) _ | (rw [← HBE.out]; exact ((Below.new w _).alloc (by simp) _).alloc (by simp; omega) _)⟩; have q := Blk.alloc (Blk.lit (w.alloc (.cells #[.int .i64 6, .int .i64 0, .int .u64 n, .slice p bs.length c] 72)) (B + 1) (vCells V.1) 101 (by simp [hB])) (.cells #[.int .i64 3, .string ⟨#[]⟩, .int .i64 (zag n)] 101)
   try subst hV
   have q0 := q.cell 0 rfl; have q1 := q.cell 1 rfl; have q2 := q.cell 2 rfl; dsimp only [vCells] at q0 q1 q2; simp [results, Tryz.results107, go_sem, vVal, q0, q1, q2]
  ·have ek : (kind != 0) = true := by simpa using ck
   simp only [if_neg ck] at hV
   go_wp2_with fail
   refine (vzag_any n hn.1 hn.2 _).mono ?_; rintro e w1 ⟨rfl, rfl⟩; go_wp2; refine bodyPost_ret (v := .tuple #[vVal V.1, .int .i64 V.2]) ?_ rfl ⟨by first | rfl | (rw [hV]), by first | exact ((Below.new w _).alloc (by simp) _).alloc (by simp; omega) _ | (rw [← HBE.out]; exact ((Below.new w _).alloc (by simp) _).alloc (by simp; omega) _)⟩; have q := Blk.alloc (Blk.lit (w.alloc (.cells #[.int .i64 6, .int .i64 kind, .int .u64 n, .slice p bs.length c] 72)) (B + 1) (vCells V.1) 101 (by simp [hB])) (.cells #[.int .i64 3, .string ⟨#[]⟩, .int .i64 (zag n)] 101)
   try subst hV
   have q0 := q.cell 0 rfl; have q1 := q.cell 1 rfl; have q2 := q.cell 2 rfl; dsimp only [vCells] at q0 q1 q2; simp [results, Tryz.results107, go_sem, vVal, q0, q1, q2]
 have e6 : (num == 6) = false := by simpa using c6
 by_cases c5 : num = 5
 ·subst c5; have hV := HK.out; simp only [if_true, if_false, Int.reduceEq] at hV; clear HK
  by_cases hm : 1152921504606846977 < n
  ·simp only [if_pos hm] at hV; have hmn1 : min n 1152921504606846977 = 1152921504606846977 := by omega
   have hmn2 : min 1152921504606846977 n = 1152921504606846977 := by omega
   by_cases ck : kind = 0
   ·subst ck; simp only [if_true] at hV; go_wp2; refine bodyPost_ret (v := .tuple #[vVal V.1, .int .i64 V.2]) ?_ rfl ⟨by first | rfl | (rw [hV]), by first | exact ((Below.new w _).alloc (by simp) _).alloc (by simp; omega) _ | (rw [← HBE.out]; exact ((Below.new w _).alloc (by simp) _).alloc (by simp; omega) _)⟩; have q := Blk.alloc (Blk.lit (w.alloc (.cells #[.int .i64 5, .int .i64 0, .int .u64 n, .slice p bs.length c] 72)) (B + 1) (vCells V.1) 101 (by simp [hB])) (.cells #[.int .i64 2, .string ⟨#[]⟩, .int .i64 1152921504606846977] 101)
    try subst hV
    have q0 := q.cell 0 rfl; have q1 := q.cell 1 rfl; have q2 := q.cell 2 rfl; dsimp only [vCells] at q0 q1 q2; simp [results, Tryz.results107, go_sem, vVal, q0, q1, q2]
   ·have ek : (kind != 0) = true := by simpa using ck
    simp only [if_neg ck] at hV; go_wp2; refine bodyPost_ret (v := .tuple #[vVal V.1, .int .i64 V.2]) ?_ rfl ⟨by first | rfl | (rw [hV]), by first | exact ((Below.new w _).alloc (by simp) _).alloc (by simp; omega) _ | (rw [← HBE.out]; exact ((Below.new w _).alloc (by simp) _).alloc (by simp; omega) _)⟩; have q := Blk.alloc (Blk.lit (w.alloc (.cells #[.int .i64 5, .int .i64 kind, .int .u64 n, .slice p bs.length c] 72)) (B + 1) (vCells V.1) 101 (by simp [hB])) (.cells #[.int .i64 2, .string ⟨#[]⟩, .int .i64 1152921504606846977] 101)
    try subst hV
    have q0 := q.cell 0 rfl; have q1 := q.cell 1 rfl; have q2 := q.cell 2 rfl; dsimp only [vCells] at q0 q1 q2; simp [results, Tryz.results107, go_sem, vVal, q0, q1, q2]
  ·simp only [if_neg hm] at hV; have hmn1 : min n 1152921504606846977 = n := by omega
   have hmn2 : min 1152921504606846977 n = n := by omega
   by_cases ck : kind = 0
   ·subst ck; simp only [if_true] at hV; go_wp2; refine bodyPost_ret (v := .tuple #[vVal V.1, .int .i64 V.2]) ?_ rfl ⟨by first | rfl | (rw [hV]), by first | exact ((Below.new w _).alloc (by simp) _).alloc (by simp; omega) _ | (rw [← HBE.out]; exact ((Below.new w _).alloc (by simp) _).alloc (by simp; omega) _)⟩; have q := Blk.alloc (Blk.lit (w.alloc (.cells #[.int .i64 5, .int .i64 0, .int .u64 n, .slice p bs.length c] 72)) (B + 1) (vCells V.1) 101 (by simp [hB])) (.cells #[.int .i64 2, .string ⟨#[]⟩, .int .i64 n] 101)
    try subst hV
    have q0 := q.cell 0 rfl; have q1 := q.cell 1 rfl; have q2 := q.cell 2 rfl; dsimp only [vCells] at q0 q1 q2; simp [results, Tryz.results107, go_sem, vVal, q0, q1, q2]
   ·have ek : (kind != 0) = true := by simpa using ck
    simp only [if_neg ck] at hV; go_wp2; refine bodyPost_ret (v := .tuple #[vVal V.1, .int .i64 V.2]) ?_ rfl ⟨by first | rfl | (rw [hV]), by first | exact ((Below.new w _).alloc (by simp) _).alloc (by simp; omega) _ | (rw [← HBE.out]; exact ((Below.new w _).alloc (by simp) _).alloc (by simp; omega) _)⟩; have q := Blk.alloc (Blk.lit (w.alloc (.cells #[.int .i64 5, .int .i64 kind, .int .u64 n, .slice p bs.length c] 72)) (B + 1) (vCells V.1) 101 (by simp [hB])) (.cells #[.int .i64 2, .string ⟨#[]⟩, .int .i64 n] 101)
    try subst hV
    have q0 := q.cell 0 rfl; have q1 := q.cell 1 rfl; have q2 := q.cell 2 rfl; dsimp only [vCells] at q0 q1 q2; simp [results, Tryz.results107, go_sem, vVal, q0, q1, q2]
 have e5 : (num == 5) = false := by simpa using c5
 by_cases c7 : num = 7
 ·subst c7; have hV := HK.out; simp only [if_true, if_false, Int.reduceEq] at hV; clear HK
  by_cases hm : 1152921504606846977 < n
  ·simp only [if_pos hm] at hV; have hmn1 : min n 1152921504606846977 = 1152921504606846977 := by omega
   have hmn2 : min 1152921504606846977 n = 1152921504606846977 := by omega
   by_cases ck : kind = 0
   ·subst ck; simp only [if_true] at hV; go_wp2; refine bodyPost_ret (v := .tuple #[vVal V.1, .int .i64 V.2]) ?_ rfl ⟨by first | rfl | (rw [hV]), by first | exact ((Below.new w _).alloc (by simp) _).alloc (by simp; omega) _ | (rw [← HBE.out]; exact ((Below.new w _).alloc (by simp) _).alloc (by simp; omega) _)⟩; have q := Blk.alloc (Blk.lit (w.alloc (.cells #[.int .i64 7, .int .i64 0, .int .u64 n, .slice p bs.length c] 72)) (B + 1) (vCells V.1) 101 (by simp [hB])) (.cells #[.int .i64 4, .string ⟨#[]⟩, .int .i64 1152921504606846977] 101)
    try subst hV
    have q0 := q.cell 0 rfl; have q1 := q.cell 1 rfl; have q2 := q.cell 2 rfl; dsimp only [vCells] at q0 q1 q2; simp [results, Tryz.results107, go_sem, vVal, q0, q1, q2]
   ·have ek : (kind != 0) = true := by simpa using ck
    simp only [if_neg ck] at hV; go_wp2; refine bodyPost_ret (v := .tuple #[vVal V.1, .int .i64 V.2]) ?_ rfl ⟨by first | rfl | (rw [hV]), by first | exact ((Below.new w _).alloc (by simp) _).alloc (by simp; omega) _ | (rw [← HBE.out]; exact ((Below.new w _).alloc (by simp) _).alloc (by simp; omega) _)⟩; have q := Blk.alloc (Blk.lit (w.alloc (.cells #[.int .i64 7, .int .i64 kind, .int .u64 n, .slice p bs.length c] 72)) (B + 1) (vCells V.1) 101 (by simp [hB])) (.cells #[.int .i64 4, .string ⟨#[]⟩, .int .i64 1152921504606846977] 101)
    try subst hV
    have q0 := q.cell 0 rfl; have q1 := q.cell 1 rfl; have q2 := q.cell 2 rfl; dsimp only [vCells] at q0 q1 q2; simp [results, Tryz.results107, go_sem, vVal, q0, q1, q2]
  ·simp only [if_neg hm] at hV; have hmn1 : min n 1152921504606846977 = n := by omega
   have hmn2 : min 1152921504606846977 n = n := by omega
   by_cases ck : kind = 0
   ·subst ck; simp only [if_true] at hV; go_wp2; refine bodyPost_ret (v := .tuple #[vVal V.1, .int .i64 V.2]) ?_ rfl ⟨by first | rfl | (rw [hV]), by first | exact ((Below.new w _).alloc (by simp) _).alloc (by simp; omega) _ | (rw [← HBE.out]; exact ((Below.new w _).alloc (by simp) _).alloc (by simp; omega) _)⟩; have q := Blk.alloc (Blk.lit (w.alloc (.cells #[.int .i64 7, .int .i64 0, .int .u64 n, .slice p bs.length c] 72)) (B + 1) (vCells V.1) 101 (by simp [hB])) (.cells #[.int .i64 4, .string ⟨#[]⟩, .int .i64 n] 101)
    try subst hV
    have q0 := q.cell 0 rfl; have q1 := q.cell 1 rfl; have q2 := q.cell 2 rfl; dsimp only [vCells] at q0 q1 q2; simp [results, Tryz.results107, go_sem, vVal, q0, q1, q2]
   ·have ek : (kind != 0) = true := by simpa using ck
    simp only [if_neg ck] at hV; go_wp2; refine bodyPost_ret (v := .tuple #[vVal V.1, .int .i64 V.2]) ?_ rfl ⟨by first | rfl | (rw [hV]), by first | exact ((Below.new w _).alloc (by simp) _).alloc (by simp; omega) _ | (rw [← HBE.out]; exact ((Below.new w _).alloc (by simp) _).alloc (by simp; omega) _)⟩; have q := Blk.alloc (Blk.lit (w.alloc (.cells #[.int .i64 7, .int .i64 kind, .int .u64 n, .slice p bs.length c] 72)) (B + 1) (vCells V.1) 101 (by simp [hB])) (.cells #[.int .i64 4, .string ⟨#[]⟩, .int .i64 n] 101)
    try subst hV
    have q0 := q.cell 0 rfl; have q1 := q.cell 1 rfl; have q2 := q.cell 2 rfl; dsimp only [vCells] at q0 q1 q2; simp [results, Tryz.results107, go_sem, vVal, q0, q1, q2]
 have e7 : (num == 7) = false := by simpa using c7
 have hV := HK.out; simp only [if_neg c2, if_neg c3, if_neg c4, if_neg c1, if_neg c6, if_neg c5, if_neg c7] at hV; go_wp2; refine bodyPost_ret (v := .tuple #[vVal V.1, .int .i64 V.2]) ?_ rfl ⟨by first | rfl | (rw [hV]), by first | exact ((Below.new w _).alloc (by simp) _).alloc (by simp; omega) _ | (rw [← HBE.out]; exact ((Below.new w _).alloc (by simp) _).alloc (by simp; omega) _)⟩; have q := Blk.alloc (Blk.lit (w.alloc (.cells #[.int .i64 num, .int .i64 kind, .int .u64 n, .slice p bs.length c] 72)) (B + 1) (vCells V.1) 101 (by simp [hB])) (.cells #[.int .i64 0, .string ⟨#[]⟩, .int .i64 0] 101)
 try subst hV
 have q0 := q.cell 0 rfl; have q1 := q.cell 1 rfl; have q2 := q.cell 2 rfl; dsimp only [vCells] at q0 q1 q2; simp [results, Tryz.results107, go_sem, vVal, q0, q1, q2]
end Go.Proofs.YtjggoajfilnfjaaGreat
namespace Go
open Go.RowKit

variable {F : Fence} {n : Nat} {P : Program}

def SeqAhead {α : Type} (F : Fence) (n : Nat) (P : Program) (g : Nat) (lb : Array Value) (encs : α → Array Value) (Ahead : List α → α → World → Prop) (Kp : World → World → Prop) (S : List α → World → Prop) (w : World) : Prop :=
 ∀ (l : Nat) (J : List α → World → Prop) (W : World), Below w.heap.size w W → AbidesFrom W.heap.size J →
  (∀ pre x W1, J pre W1 → Ahead pre x W1 → YieldAt F (n - 1) P l (encs x) W1 fun e W' => e = .returned (.bool true) ∧ J (pre ++ [x]) W' ∧ Kp W1 W') →
  J [] W → CallsIn F n P g (#[.func (.yield l) #[] #[]] ++ lb) W fun e W' => (∃ v, e = .returned v) ∧ ∃ xs, S xs W' ∧ J xs W'

def postAhead {α : Type} (Kp : World → World → Prop) (I : List α → World → Prop) (xs : List α) (W : World) : Exit → Act → World → Prop
 | .normal, _, W' => KeepsOthers W W' ∧ Kp W W' ∧ I xs W'
 | _, _, _ => False

theorem wpIn_rangeFunc_ahead {α : Type} {g : Operand} {ps : Array Tmp} {assign body : Code} {Q : Exit → Act → World → Prop} {a : Act} {w : World}
  (hro : F.round = none) (h1 : 1 ≤ n) {gf : Nat} {lb : Array Value} (hg : a.eval g = .func (.func gf) #[] lb) (hFg : F.fn gf) (eg : ∀ args w, (callFunc gf args).run P w = .ok (.enter gf args) w)
  {encs : α → Array Value} {Ahead : List α → α → World → Prop} {Kp : World → World → Prop} {S : List α → World → Prop} {w0 : World} (hseq : SeqAhead F (n - 1) P gf lb encs Ahead Kp S w0)
  (hKt : ∀ {A B C : World}, Kp A B → Kp B C → Kp A C) (hKb : ∀ (W : World) (l : Nat) (o o' : Obj), w.heap.size ≤ l → W.heap[l]? = some o → o.isCells = false → Kp W (W.putObj l o'))
  (hb0 : Below w0.heap.size w0 w) (hps : ∀ x, (encs x).size = ps.size)
  (I : List α → World → Prop) (hI : OwnFrom w.heap.size I) (hS : OwnFrom w.heap.size S) (h0 : I [] w)
  (Mid : List α → α → Act → World → Prop) (hM : ∀ pre x a', OwnFrom w.heap.size (fun (_ : Unit) W => Mid pre x a' W))
  (hassign : ∀ (l : Nat) (pre : List α) (x : α) (W : World), I pre W → Ahead pre x W →
   assign.wpIn (F.inRound l) (n - 1 - 1) P (Exit.then (fun a' W' => KeepsOthers W W' ∧ Kp W W' ∧ Mid pre x a' W') (fun _ _ _ => False)) { tmps := (ps.zip (encs x)).foldl (fun t (p, v) => t.setIfInBounds p v) a.tmps, defers := [] } W)
  (hbody : ∀ (l : Nat) (pre : List α) (x : α) (a' : Act) (W : World), Mid pre x a' W → body.wpIn (F.inRound l) (n - 1 - 1) P (postAhead Kp I (pre ++ [x]) W) a' W)
  (hdone : ∀ (D : Nat) (xs : List α) (W : World), w.heap.size ≤ D → S xs W → I xs W → W.heap[D]? = some (.deferred (some [])) → Q .normal { a with defers := { target := .collected D, args := #[] } :: a.defers } W) :
  (Code.rangeFunc g ps assign body).wpIn F n P Q a w := by
 refine wpIn_rangeFunc fun fn hfn => ?_; rw [hro]
 -- the loop's record, block H + 1; the block for the rounds' deferred calls, block H
 obtain ⟨rec, hrec⟩ : ∃ rec : LoopState → Loop, rec = fun st => { state := st, pending := none, fn, tmps := a.tmps, params := ps, assign, body, defers := w.heap.size } := ⟨_, rfl⟩; obtain ⟨W1, hW1⟩ : ∃ W1, (w.alloc (.deferred (some []))).alloc (.loop (rec .ready)) = W1 := ⟨_, rfl⟩; have hs1 : W1.heap.size = w.heap.size + 2 := by rw [← hW1]; simp
 have hk1 : KeepsOthers w W1 := by rw [← hW1]; exact (KeepsOthers.alloc _ _).trans (KeepsOthers.alloc _ _)
 have hL1 : W1.heap[w.heap.size + 1]? = some (.loop (rec .ready)) := by
  rw [← hW1]; have := World.alloc_heap_new (w.alloc (.deferred (some []))) (.loop (rec .ready)); rwa [World.size_alloc] at this
 have hD1 : W1.heap[w.heap.size]? = some (.deferred (some [])) := by
  rw [← hW1]; exact (Below.heap_alloc _ _ _ (by simp)).trans (World.alloc_heap_new w _)
 have hI1 : I [] W1 := by rw [← hW1]; exact hI.alloc _ (hI.alloc _ h0)
 have hb1 : Below w0.heap.size w0 W1 := by
  rw [← hW1]; exact hb0.trans ((((Below.refl _ w).alloc (Nat.le_refl _) _).alloc (by simp) _).mono hb0.size)
 refine ⟨w.heap.size + 1, [{ target := .collected w.heap.size, args := #[] }], W1, { target := .fn (.func gf) lb, args := #[.func (.yield (w.heap.size + 1)) #[] #[]] }, W1, gf,
  #[.func (.yield (w.heap.size + 1)) #[] #[]] ++ lb, W1, ?_, ?_, ?_, ?_, fun _ => h1, ?_⟩
 ·rw [← hW1, hrec]; exact run_enterLoop_outer _ _ _ _ _
 ·simp only [resolve, hg]; simp [go_sem]
 ·intro f' hf'; simp [Target.leads] at hf'; subst hf'; exact hFg
 ·simp [invoke, go_sem, eg]
 ·refine (hseq (w.heap.size + 1) (fun pre W => I pre W ∧ W.heap[w.heap.size + 1]? = some (.loop (rec .ready)) ∧ W.heap[w.heap.size]? = some (.deferred (some []))) W1 hb1 ?_ ?_ ⟨hI1, hL1, hD1⟩).mono ?_
  ·rintro pre A B row ⟨hi, hl, hd⟩ hgr hr; refine ⟨hI pre A B row hi hgr fun r e => ?_, ?_, ?_⟩
   ·obtain ⟨hB, o, ho, hw⟩ := hr r e; exact ⟨by omega, o, ho, Obj.not_cells_of_walk hw⟩
   ·exact (grownBy_keeps hgr (fun r e => (hr r e).2) hl rfl).trans hl
   ·exact (grownBy_keeps hgr (fun r e => (hr r e).2) hd rfl).trans hd
  ·rintro pre x W ⟨hi, hl, hd⟩ hah; have hy := run_yield (P := P) (args := encs x) hl (by rw [hrec]; exact hps x); rw [hrec] at hy; refine ⟨fn, _, assign, body, hy, roundIn_of_wpIn hfn (wpIn_mono (hassign _ pre x W hi hah) ?_)⟩; rintro e a' Wa hp
   cases e with
   | normal =>
    obtain ⟨hka, hkpa, hm⟩ := hp; have hla := hka.same _ _ hl rfl; have hda := hka.same _ _ hd rfl; have hlt : w.heap.size + 1 < Wa.heap.size := (Array.getElem?_eq_some_iff.1 hla).1; refine ⟨_, run_beginRound hla (by rw [hrec]), ?_⟩; refine wpIn_mono (hbody _ pre x a' _ ((hM pre x a').putObj (s := ()) _ hm (by omega) hla rfl)) ?_; have hl2 : (Wa.putObj (w.heap.size + 1) (.loop { rec .ready with state := .busy })).heap[w.heap.size + 1]? = some (.loop { rec .ready with state := .busy }) := World.putObj_heap_same hlt; have hd2 : (Wa.putObj (w.heap.size + 1) (.loop { rec .ready with state := .busy })).heap[w.heap.size]? = some (.deferred (some [])) := (World.putObj_heap_other (by omega)).trans hda; have hw2 : Kp Wa (Wa.putObj (w.heap.size + 1) (.loop { rec .ready with state := .busy })) := hKb _ _ _ _ (by omega) hla rfl; rintro e a3 W3 hp3
    cases e with
    | normal =>
     obtain ⟨hk3, hkp3, hi3⟩ := hp3; have hl3 := hk3.same _ _ hl2 rfl; have hd3 := hk3.same _ _ hd2 rfl; have her := run_endRound (P := P) none hl3; refine ⟨_, _, her, rfl, ⟨hI.putObj _ hi3 (by omega) hl3 rfl, ?_, ?_⟩, hKt hkpa (hKt hw2 (hKt hkp3 (hKb _ _ _ _ (by omega) hl3 rfl)))⟩
     ·rw [World.putObj_heap_same (Array.getElem?_eq_some_iff.1 hl3).1, hrec]; rfl
     ·exact (World.putObj_heap_other (by omega)).trans hd3
    | ret => exact hp3.elim
    | exit id => exact hp3.elim
    | goto t => exact hp3.elim
    | panic ch => exact hp3.elim
    | outgrown => exact hp3.elim
   | ret => exact hp.elim
   | exit id => exact hp.elim
   | goto t => exact hp.elim
   | panic ch => exact hp.elim
   | outgrown => exact hp.elim
  ·rintro e W2 ⟨⟨v, rfl⟩, xs, hSx, hi, hl, hd⟩; have hel := run_endLoop (P := P) hl (by rw [hrec]; simp); rw [hrec] at hel; refine ⟨none, _, hel, hdone _ xs _ (Nat.le_refl _) (hS.putObj _ hSx (by omega) hl rfl) (hI.putObj _ hi (by omega) hl rfl) ((World.putObj_heap_other (by omega)).trans hd)⟩
end Go
namespace Go
open Go.RowKit

def KeepT (T U : TypeId) (A B : World) : Prop := A.heap.size ≤ B.heap.size ∧ ∀ (k : Nat) (cs : Array Value) (V : TypeId) (fr : Nat × Nat), A.heap[k]? = some (Obj.cells cs V fr) → (V = T ∨ V = U) → B.heap[k]? = A.heap[k]?

theorem KeepT.trans {T U : TypeId} {A B C : World} (h : KeepT T U A B) (k : KeepT T U B C) : KeepT T U A C :=
 ⟨Nat.le_trans h.1 k.1, fun i cs V fr hi hv => by
  have h1 := h.2 i cs V fr hi hv; rw [k.2 i cs V fr (h1.trans hi) hv, h1]⟩
theorem KeepT.of_below {T U : TypeId} {A B : World} (h : Below A.heap.size A B) : KeepT T U A B :=
 ⟨h.size, fun k _ _ _ hk _ => h.block k (Array.getElem?_eq_some_iff.1 hk).1⟩
theorem KeepT.putObj {T U : TypeId} (W : World) (l : Nat) (o o' : Obj) (h : W.heap[l]? = some o) (ho : o.isCells = false) : KeepT T U W (W.putObj l o') := by
 have hg := grownBy_putObj' W l o'; refine ⟨hg.size, fun k cs V fr hk _ => hg.block k (Array.getElem?_eq_some_iff.1 hk).1 fun e => ?_⟩
 cases e
 rw [h] at hk
 cases hk
 cases ho
theorem KeepT.refl {T U : TypeId} (A : World) : KeepT T U A A := ⟨Nat.le_refl _, fun _ _ _ _ _ _ => rfl⟩

theorem KeepT.of_grownBy {T U : TypeId} {A B : World} {row : Option Nat} (hg : A.grownBy B row) (hr : ∀ r, row = some r → ∀ cs V fr, A.heap[r]? = some (Obj.cells cs V fr) → V ≠ T ∧ V ≠ U) : KeepT T U A B := by
 refine ⟨hg.size, fun k cs V fr hk hv => hg.block k (Array.getElem?_eq_some_iff.1 hk).1 fun e => ?_⟩; have := hr k e.symm cs V fr hk
 rcases hv with rfl | rfl
 ·exact this.1 rfl
 ·exact this.2 rfl

theorem KeepT.of_row {T U : TypeId} {A B : World} {n₀ : Nat} {e : TypeId} {size : Nat} {v : Value} {k : Nat} {xs : List Value} (hrow : A.ownsRow n₀ e size v k xs) (hT : e ≠ T) (hU : e ≠ U) (hg : A.grownBy B v.ownBlock) : KeepT T U A B :=
 KeepT.of_grownBy hg fun r he cs V fr hk => by
  rcases hrow.2 with ⟨rfl, _⟩ | ⟨g, cap, cur, rfl, _, hgb, _⟩
  ·cases he
  ·obtain rfl : g = r := by simpa [Value.ownBlock] using he
   rw [hgb] at hk
   cases hk
   exact ⟨hT, hU⟩

theorem KeepT.store {T U : TypeId} {A : World} {B : Nat} {t : TypeId} {v : Value} (h : Boxed A B t v) (hT : t ≠ T) (hU : t ≠ U) (u : Value) : KeepT T U A (A.setCell ⟨B, 0, none⟩ u) :=
 KeepT.of_grownBy (grownBy_setCell' A B u) fun r he cs V fr hk => by
  cases he
  rw [show A.heap[B]? = _ from h] at hk
  cases hk
  exact ⟨hT, hU⟩

theorem KeepsOthers.of_below {A B : World} (h : Below A.heap.size A B) : KeepsOthers A B :=
 KeepsOthers.of_grownBy (row := none) ⟨h.os, h.tape, h.output, h.size, fun k hk _ => h.block k hk⟩ fun _ _ e => by cases e
theorem grownBy_of_below {A B : World} (h : Below A.heap.size A B) (r : Option Nat) : A.grownBy B r := ⟨h.os, h.tape, h.output, h.size, fun k hk _ => h.block k hk⟩
end Go
namespace Go.Proofs.YtjggoajfilnfjaaGreat
open Go.RowKit Go.Vint Go.Proto
attribute [local go_sem] Oper.semAt_some

def behind (L : List Int) (pre : List (Nat × FC)) : Int := match pre.getLast? with
 | none => 0
 | some x => (x.1 : Int) + (prd (L.drop x.1)).2.1

theorem behind_snoc (L : List Int) (pre : List (Nat × FC)) (x : Nat × FC) : behind L (pre ++ [x]) = (x.1 : Int) + (prd (L.drop x.1)).2.1 := by simp [behind]

def Lies (W : World) (x : FC) : Prop := x.Ok W ∧ ∀ b, x.p.map (·.block) = some b → Typed 5 W b

def AtYield (L : List Int) (pre : List (Nat × FC)) (x : Nat × FC) (W : World) : Prop :=
 pre.length ≤ x.1 ∧ x.1 < L.length ∧ (prd (L.drop x.1)).2.2 = 0 ∧ (prd (L.drop x.1)).1 = x.2.f ∧ Lies W x.2

def AtEnd (L : List Int) (xs : List (Nat × FC)) (W : World) : Prop :=
 (∃ p g : Nat, behind L xs = p ∧ p ≤ L.length ∧ xs.length ≤ p ∧ pall L = pallF (g + 1) L p (xs.map (·.2.f)) ∧ (p = L.length ∨ (prd (L.drop p)).2.2 ≠ 0)) ∧ ∀ x ∈ xs, Lies W x.2

def KpE (n₀ : Nat) (A B : World) : Prop := Below n₀ A B ∧ KeepT 5 31 A B

theorem Lies.kept {A B : World} {x : FC} (h : Lies A x) (hk : KeepT 5 31 A B) : Lies B x := by
 obtain ⟨⟨hr, h2⟩, ht⟩ := h; refine ⟨⟨?_, h2⟩, fun b hb => ?_⟩
 ·rcases hr with hr | ⟨b, off, hp, hc⟩
  ·exact .inl hr
  ·refine .inr ⟨b, off, hp, fun i v hv => ?_⟩; obtain ⟨cs, fr, hb⟩ := ht b (by rw [hp]; rfl); rw [World.cell?_of_block (w := A) (hk.2 b cs _ fr hb (.inl rfl))]; exact hc i v hv
 ·obtain ⟨cs, fr, hb2⟩ := ht b hb; exact ⟨cs, fr, (hk.2 b cs _ fr hb2 (.inl rfl)).trans hb2⟩


set_option maxRecDepth 100000 in
set_option maxHeartbeats 4000000 in
theorem each1_in (n : Nat) (l Bn : Nat) (a : Option Addr) (c : Nat) (L : List Int) (hb : ∀ x ∈ L, 0 ≤ x ∧ x ≤ 255) (hlen : L.length ≤ 10000000) (hlc : L.length ≤ c) (hcm : c ≤ maxLen) (w0 : World) (hr0 : Rd w0 a (L.map (Value.int .u8)))
  (J : List (Nat × FC) → World → Prop) (W : World) (hbl : Below w0.heap.size w0 W) (hJ : AbidesFrom W.heap.size J) (fr : Nat × Nat) (hBn : W.heap[Bn]? = some (.cells #[.slice a L.length c] 31 fr))
  (hY : ∀ pre x W1, J pre W1 → AtYield L pre x W1 → YieldAt Fence.wide (n - 1) Tryz.prog l #[.int .i64 (x.1 : Int), x.2.val] W1 fun e W' => e = .returned (.bool true) ∧ J (pre ++ [x]) W' ∧ KpE w0.heap.size W1 W')
  (h0 : J [] W) :
  CallsIn Fence.wide n Tryz.prog 86 #[.func (.yield l) #[] #[], .pointer (some ⟨Bn, 0, none⟩)] W fun e W' => (∃ v, e = .returned v) ∧ ∃ xs, AtEnd L xs W' ∧ J xs W' := by
 refine callsIn_of_wp Tryz.func86 rfl trivial ?_ rfl; simp only [Tryz.ntmps86, List.size_toArray, List.length_cons, List.length_nil, Nat.reduceAdd, Nat.reduceSub, Array.replicate_succ, Array.replicate_zero, List.push_toArray, List.append_toArray, List.nil_append, List.cons_append]
 gi_wp2
 gi_loopw [3] (fun i wr => ∃ (p g : Nat) (pre : List (Nat × FC)), i = .int .i64 p ∧ behind L pre = p ∧ p ≤ L.length ∧ L.length < p + (g + 1) ∧ pre.length ≤ p ∧ pall L = pallF (g + 1) L p (pre.map (·.2.f)) ∧ (∀ x ∈ pre, Lies wr x.2) ∧ J pre wr ∧
  Below w0.heap.size w0 wr ∧ wr.heap[Bn]? = some (.cells #[.slice a L.length c] 31 fr)) (fun i _ => L.length - (intOf i).toNat)
 case atStart => exact ⟨0, L.length, [], rfl, rfl, Nat.zero_le _, by omega, Nat.le_refl _, rfl, by simp, h0, hbl, hBn⟩
 case round =>
  obtain ⟨p, g, pre, rfl, hbe, hp, hg, hpl, hpa, hli, hj, hb1, hBx⟩ := hrel; have hbc : wr.cell? ⟨Bn, 0, none⟩ = some (.slice a L.length c) := by simp [World.cell?, hBx]
  have HPA := Lib.hid hpa; have HBE := Lib.hid hbe; have HLI := Lib.hid hli; have HY := Lib.hid hY; clear hpa hbe hli hBn hY
  by_cases hlt : p < L.length
  ·obtain ⟨b0, off0, rfl, -, -⟩ := hr0.at (i := p) (v := .int .u8 L[p]) (by simp [hlt]); have hD : ∀ x ∈ L.drop p, 0 ≤ x ∧ x ≤ 255 := fun x hx => hb x (List.mem_of_mem_drop hx); have hDl : (L.drop p).length = L.length - p := by simp
   have hrw := (hr0.keep hb1).drop p; rw [← List.map_drop] at hrw; have hcl := pread_any _ (c - p) (L.drop p) hD (by omega) (by omega) (by omega) wr hrw; rw [hDl] at hcl; have HCL := Lib.hid (callsIn_wide (n := n - 1).2 hcl); have hcp : ¬ c = p := by omega
   clear hcl hrw
   by_cases he : (prd (L.drop p)).2.2 = 0
   ·obtain ⟨m, hm, n1, n2, -, -, -, -, -, -⟩ := prd_ok _ hD he; have HE := Lib.hid he; have HM := Lib.hid hm; rw [hDl] at n2; obtain ⟨g', rfl⟩ : ∃ g', g = g' + 1 := ⟨g - 1, by omega⟩; have hst := HPA.out.trans (pallF_step (g' + 1) L p _ hlt he); rw [hm, Int.toNat_natCast] at hst; have HST := Lib.hid hst; clear HPA hst; have HJ := Lib.hid hJ; clear he hm hD hDl hJ
    gi_wp2_with fail
    refine ⟨trivial, (fun h => by cases h), HCL.out.mono ?_⟩; rintro e w1 ⟨⟨ao, co, rfl, hrd, hl1, hl2, hl3, hl4⟩, hb2⟩; rw [HE.out, HM.out]; have hkp : KpE w0.heap.size wr w1 := ⟨hb2.mono hb1.size, KeepT.of_below hb2⟩; have hj1 := HJ.out _ _ _ none hj (grownBy_of_below hb2 none) (fun r h => by cases h); obtain ⟨fl, hfl⟩ : ∃ fl, fl = (prd (L.drop p)).1 := ⟨_, rfl⟩; rw [← hfl] at hrd hl1 ⊢; have hx1 : Lies w1 ⟨fl, ao, co⟩ := ⟨⟨hrd, hl1, hl2, hl3⟩, hl4⟩; have hb3 : Below w1.heap.size w1 (w1.alloc (.cells #[.int .i64 fl.num, .int .i64 fl.kind, .int .u64 fl.n, .slice ao fl.bs.length co] 72)) := Below.new _ _; have hkp3 : KpE w0.heap.size w1 (w1.alloc (.cells #[.int .i64 fl.num, .int .i64 fl.kind, .int .u64 fl.n, .slice ao fl.bs.length co] 72)) := ⟨hb3.mono (Nat.le_trans hb1.size hb2.size), KeepT.of_below hb3⟩; have hj3 := HJ.out _ _ _ none hj1 (grownBy_of_below hb3 none) (fun r h => by cases h); obtain ⟨fn, tmps, assign, body, hy, hR⟩ := HY.out pre (p, ⟨fl, ao, co⟩) _ hj3 ⟨hpl, hlt, HE.out, hfl.symm, hx1.kept hkp3.2⟩; dsimp only [FC.val] at hy; have hk4 := (hb1.trans hkp.1).trans hkp3.1; have HR := Lib.hid hR; have HX := Lib.hid (hx1.kept hkp3.2); have HK := Lib.hid (hkp.2.trans hkp3.2); have HB := Lib.hid hk4; have HFL := Lib.hid hfl; clear hR hj3 hj1 hkp hkp3 hb2 hb3 hx1 hrd hk4 hfl
    gi_wp2
    refine ⟨(fun h => by cases h), HR.out.mono ?_⟩; rintro e W3 ⟨rfl, hJ3, hk3⟩
    gi_wp2
    clear HCL; go_roundw
    case rel =>
     have hst := HST.out; rw [← HFL.out] at hst; refine ⟨p + m, g', pre ++ [(p, ⟨fl, ao, co⟩)], by go_num, by rw [behind_snoc, HM.out]; simp, by omega, by omega, by simp; omega, by simpa using hst, ?_, hJ3, HB.out.trans hk3.1, ?_⟩
     ·intro x hx
      rcases List.mem_append.1 hx with hx | hx
      ·exact (HLI.out x hx).kept (HK.out.trans hk3.2)
      ·obtain rfl : x = _ := by simpa using hx
       exact HX.out.kept hk3.2
     ·exact ((HK.out.trans hk3.2).2 Bn _ _ _ hBx (.inr rfl)).trans hBx
    case measure => simp [intOf]; omega
   ·have HE : Hid (pall L = ([], (p : Int), (prd (L.drop p)).2.2)) := HPA.out.trans (pallF_err g L p _ hlt he); have hne : ((prd (L.drop p)).2.2 != 0) = true := by simpa using he
    have hHE := Lib.hid he; clear he hD hDl
    gi_wp2_with fail
    refine ⟨trivial, (fun h => by cases h), HCL.out.mono ?_⟩; rintro e w1 ⟨⟨ao, co, rfl, hrd, hl1, hl2, hl3, hl4⟩, hb2⟩; have HJ1 := Lib.hid (hJ _ _ _ none hj (grownBy_of_below hb2 none) (fun r h => by cases h)); have HJ := Lib.hid hJ; have HB := Lib.hid hb2; clear hJ hb2 hrd hl1 hl2 hl3 hl4 hj
    gi_wp2
    refine ⟨fun _ h => (by cases h), ?_⟩
    gi_wp2
    refine bodyPost_ret (results_none rfl _ _ _) rfl ?_; have hb3 := Below.new w1 (.cells #[.int .i64 (prd (L.drop p)).1.num, .int .i64 (prd (L.drop p)).1.kind, .int .u64 (prd (L.drop p)).1.n, .slice ao (prd (L.drop p)).1.bs.length co] 72); refine ⟨⟨_, rfl⟩, pre, ⟨⟨p, g, HBE.out, hp, hpl, HPA.out, .inr hHE.out⟩, fun x hx => (HLI.out x hx).kept ((KeepT.of_below HB.out).trans (KeepT.of_below hb3))⟩, ?_⟩; exact HJ.out _ _ _ none HJ1.out (grownBy_of_below hb3 none) (fun r h => by cases h)
  ·gi_wp2
   go_end0
   exact ⟨⟨_, rfl⟩, pre, ⟨⟨p, g, HBE.out, hp, hpl, HPA.out, .inl (by omega)⟩, HLI.out⟩, hj⟩
end Go.Proofs.YtjggoajfilnfjaaGreat
namespace Go.Proofs.YtjggoajfilnfjaaGreat
open Go.RowKit Go.Vint Go.Proto

theorem pskip_any (a : Option Addr) (c : Nat) (L : List Int) (hb : ∀ x ∈ L, 0 ≤ x ∧ x ≤ 255) (hlen : L.length ≤ 1073741824) (hlc : L.length ≤ c) (hcm : c ≤ maxLen) (w : World) (hr : Rd w a (L.map (Value.int .u8))) :
  Calls Tryz.prog 61 #[.slice a L.length c] w fun e w' => e = .returned (.tuple #[.int .i64 (prd L).2.1, .int .i64 (prd L).2.2]) ∧ Below w.heap.size w w' := by
 go_enter Tryz.func61, Tryz.ntmps61
 go_wp2_with fail
 refine (pread_any a c L hb hlen hlc hcm w hr).mono ?_; rintro e w1 ⟨⟨ao, co, rfl, -, -, -, -, -⟩, hb1⟩; go_wp2; refine bodyPost_ret (v := .tuple #[.int .i64 (prd L).2.1, .int .i64 (prd L).2.2]) (by simp [results, Tryz.results61, go_sem]) rfl ⟨rfl, hb1.alloc hb1.size _⟩
end Go.Proofs.YtjggoajfilnfjaaGreat
