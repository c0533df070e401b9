/-
  graticuleref10.Bytes of a right value.
-/
import Derived.Test.YtjggoajfilnfjaaGreatPk9
import Derived.Test.YtjggoajfilnfjaaGreatPk38
import Derived.BigRegion
import Derived.RegionTactic
set_option linter.unusedVariables false
set_option linter.unusedSimpArgs false
set_option maxRecDepth 100000
namespace Go.Proofs.YtjggoajfilnfjaaGreat
open Go.RowKit Go.Vint Go.Proto
set_option maxHeartbeats 8000000 in
theorem rvby_any (v : VV) (hE : vE v = 0) (w : World) :
  Calls Tryz.prog 72 #[vVal v] w fun e w' => ∃ x, e = .returned x ∧ w'.ownsRow w.heap.size 5 1 x (fby (vFld v)).length ((fby (vFld v)).map (Value.int .u8)) ∧ Below w.heap.size w w' := by
 have hz := vE_zero v hE; obtain ⟨h1, h2, h3, h4, h5⟩ := vFld_ok v hE; have HF := Lib.hid (fun W => rfby_any (vFld v) h1 h4 ⟨h2, h3⟩ (by omega) W); have HRC : Hid (rcells (vFld v) = [.int .i64 (vFld v).num, .int .i64 (vFld v).kind, .int .u64 (vFld v).n, .string (strOfNums (vFld v).bs)]) := Lib.hid rfl; rw [HRC.out] at HF; obtain ⟨k, t, n⟩ := v; dsimp only at hz; dsimp only [vVal]; have hV := vFld.eq_1 (k, t, n); dsimp only at hV; obtain ⟨FB, hFB⟩ : ∃ x, fby (vFld (k, t, n)) = x := ⟨_, rfl⟩; rw [hFB] at HF ⊢; generalize vFld (k, t, n) = FL at *; obtain ⟨B, hB⟩ : ∃ B, w.heap.size = B := ⟨_, rfl⟩; have HBQ := Lib.hid hB; have hb0 := Below.new w (.cells #[.int .i64 k, .string t, .int .i64 n] 110); have k0 := Blk.lit w B [.int .i64 k, .string t, .int .i64 n] 110 hB; have hwA : (w.alloc (.cells #[.int .i64 k, .string t, .int .i64 n] 110)).heap.size = B + 1 := by simp [hB]
 clear hE HRC hFB h1 h2 h3 h4 h5
 go_enter Tryz.func72, Tryz.ntmps72
 go_wp2; generalize w.alloc (.cells #[.int .i64 k, .string t, .int .i64 n] 110) = wA at *; have x0 := k0.cell 0 rfl; have x2 := k0.cell 2 rfl; have hs0 := hb0.size; have hB1 : B < wA.heap.size := by omega
 have hB2 : B ≠ wA.heap.size := by omega
 have hB3 : B ≠ wA.heap.size + 1 := by omega
 clear hB
 rcases hz with ⟨rfl, rfl, g3⟩ | ⟨rfl, rfl, g3, g4⟩ | ⟨rfl, rfl, g3, g4⟩ | ⟨rfl, rfl, g3, g4⟩
 ·rw [if_pos rfl] at hV; subst hV; dsimp only at HF; rw [strOfNums_bnums] at HF
  go_region
  ·have kV := ((k0.alloc (.cells #[.int .i64 1, .int .i64 5, .int .i64 6, .int .i64 7] 3)).alloc (.cells #[.int .i64 1, .int .i64 0, .int .u64 0, .string ⟨#[]⟩] 145)).drew; have kF := (Blk.lit (wA.alloc (.cells #[.int .i64 1, .int .i64 5, .int .i64 6, .int .i64 7] 3)) (B + 1 + 1) [.int .i64 1, .int .i64 0, .int .u64 0, .string ⟨#[]⟩] 145 (by simp [hwA])).drew; have hbz := ((hb0.alloc hs0 (.cells #[.int .i64 1, .int .i64 5, .int .i64 6, .int .i64 7] 3)).alloc (by simp; omega) (.cells #[.int .i64 1, .int .i64 0, .int .u64 0, .string ⟨#[]⟩] 145)).drew; have hsz : B + 1 + 1 < ((wA.alloc (.cells #[.int .i64 1, .int .i64 5, .int .i64 6, .int .i64 7] 3)).alloc (.cells #[.int .i64 1, .int .i64 0, .int .u64 0, .string ⟨#[]⟩] 145)).drew.heap.size := by simp [hwA]
   generalize ((wA.alloc (.cells #[.int .i64 1, .int .i64 5, .int .i64 6, .int .i64 7] 3)).alloc (.cells #[.int .i64 1, .int .i64 0, .int .u64 0, .string ⟨#[]⟩] 145)).drew = Z at *; obtain ⟨PF, hPF⟩ : ∃ p, B + 1 + 1 = p := ⟨_, rfl⟩; rw [hPF] at kF; have hVF : B ≠ PF := by omega
   have hWF : w.heap.size ≤ PF := by rw [HBQ.out]; omega
   rw [hPF]; clear hPF k0 x0 x2 hwA hB1 hB2 hB3; have v0 := kV.cell 0 rfl; have v1 := kV.cell 1 rfl; have c1 := kF.cell 1 rfl; have f1 := kF.free 1; have c2 := kF.cell 2 rfl; have f2 := kF.free 2; have c3 := kF.cell 3 rfl; have f3 := kF.free 3; have s3 := (((kF.set 1 (.int .i64 2)).set 2 (.int .u64 0)).set 3 (.string t)).drew; have kV3 := (((kV.set_at (o := 1) hVF (.int .i64 2)).set_at (o := 2) hVF (.int .u64 0)).set_at (o := 3) hVF (.string t)).drew; have u0 := kV3.cell 0 rfl; have hbz3 := (((hbz.set_at (b := PF) (o := 1) hWF (.int .i64 2)).set_at (b := PF) (o := 2) hWF (.int .u64 0)).set_at (b := PF) (o := 3) hWF (.string t)).drew; have q0 := s3.cell 0 rfl; have q1 := s3.cell 1 rfl; have q2 := s3.cell 2 rfl; have q3 := s3.cell 3 rfl; go_wp2
   go_region
   go_wp2_with fail
   refine (HF.out _).mono ?_; rintro e w3 ⟨x, rfl, hown, hb3⟩; have hbw3 := hbz3.trans (hb3.mono hbz3.size); have hown3 : w3.ownsRow w.heap.size _ _ _ _ _ := hown.mono hbz3.size; clear HF hown hb3; go_wp2; go_ret; exact ⟨x, rfl, hown3, hbw3⟩
  ·have kV := ((k0.alloc (.cells #[.int .i64 1, .int .i64 0, .int .u64 0, .string ⟨#[]⟩] 145)).alloc (.cells #[.int .i64 1, .int .i64 5, .int .i64 6, .int .i64 7] 3)).drew; have kF := ((Blk.lit wA (B + 1) [.int .i64 1, .int .i64 0, .int .u64 0, .string ⟨#[]⟩] 145 hwA).alloc (.cells #[.int .i64 1, .int .i64 5, .int .i64 6, .int .i64 7] 3)).drew; have hbz := ((hb0.alloc hs0 (.cells #[.int .i64 1, .int .i64 0, .int .u64 0, .string ⟨#[]⟩] 145)).alloc (by simp; omega) (.cells #[.int .i64 1, .int .i64 5, .int .i64 6, .int .i64 7] 3)).drew; have hsz : B + 1 + 1 < ((wA.alloc (.cells #[.int .i64 1, .int .i64 0, .int .u64 0, .string ⟨#[]⟩] 145)).alloc (.cells #[.int .i64 1, .int .i64 5, .int .i64 6, .int .i64 7] 3)).drew.heap.size := by simp [hwA]
   generalize ((wA.alloc (.cells #[.int .i64 1, .int .i64 0, .int .u64 0, .string ⟨#[]⟩] 145)).alloc (.cells #[.int .i64 1, .int .i64 5, .int .i64 6, .int .i64 7] 3)).drew = Z at *; obtain ⟨PF, hPF⟩ : ∃ p, B + 1 = p := ⟨_, rfl⟩; rw [hPF] at kF; have hVF : B ≠ PF := by omega
   have hWF : w.heap.size ≤ PF := by rw [HBQ.out]; omega
   rw [hPF]; clear hPF k0 x0 x2 hwA hB1 hB2 hB3; have v0 := kV.cell 0 rfl; have v1 := kV.cell 1 rfl; have c1 := kF.cell 1 rfl; have f1 := kF.free 1; have c2 := kF.cell 2 rfl; have f2 := kF.free 2; have c3 := kF.cell 3 rfl; have f3 := kF.free 3; have s3 := (((kF.set 1 (.int .i64 2)).set 2 (.int .u64 0)).set 3 (.string t)).drew; have kV3 := (((kV.set_at (o := 1) hVF (.int .i64 2)).set_at (o := 2) hVF (.int .u64 0)).set_at (o := 3) hVF (.string t)).drew; have u0 := kV3.cell 0 rfl; have hbz3 := (((hbz.set_at (b := PF) (o := 1) hWF (.int .i64 2)).set_at (b := PF) (o := 2) hWF (.int .u64 0)).set_at (b := PF) (o := 3) hWF (.string t)).drew; have q0 := s3.cell 0 rfl; have q1 := s3.cell 1 rfl; have q2 := s3.cell 2 rfl; have q3 := s3.cell 3 rfl; go_wp2
   go_region
   go_wp2_with fail
   refine (HF.out _).mono ?_; rintro e w3 ⟨x, rfl, hown, hb3⟩; have hbw3 := hbz3.trans (hb3.mono hbz3.size); have hown3 : w3.ownsRow w.heap.size _ _ _ _ _ := hown.mono hbz3.size; clear HF hown hb3; go_wp2; go_ret; exact ⟨x, rfl, hown3, hbw3⟩
 ·rw [if_neg (by decide), if_pos rfl] at hV; subst hV; dsimp only at HF; have hw : IntKind.u64.wrap n = n := IntWalk.u64_in _ ⟨g3, by omega⟩; have hsn : strOfNums [] = ⟨#[]⟩ := rfl; rw [hsn] at HF
  go_region
  ·have kV := ((k0.alloc (.cells #[.int .i64 1, .int .i64 5, .int .i64 6, .int .i64 7] 3)).alloc (.cells #[.int .i64 5, .int .i64 0, .int .u64 n, .string ⟨#[]⟩] 145)).drew; have kF := (Blk.lit (wA.alloc (.cells #[.int .i64 1, .int .i64 5, .int .i64 6, .int .i64 7] 3)) (B + 1 + 1) [.int .i64 5, .int .i64 0, .int .u64 n, .string ⟨#[]⟩] 145 (by simp [hwA])).drew; have hbz := ((hb0.alloc hs0 (.cells #[.int .i64 1, .int .i64 5, .int .i64 6, .int .i64 7] 3)).alloc (by simp; omega) (.cells #[.int .i64 5, .int .i64 0, .int .u64 n, .string ⟨#[]⟩] 145)).drew; have hsz : B + 1 + 1 < ((wA.alloc (.cells #[.int .i64 1, .int .i64 5, .int .i64 6, .int .i64 7] 3)).alloc (.cells #[.int .i64 5, .int .i64 0, .int .u64 n, .string ⟨#[]⟩] 145)).drew.heap.size := by simp [hwA]
   generalize ((wA.alloc (.cells #[.int .i64 1, .int .i64 5, .int .i64 6, .int .i64 7] 3)).alloc (.cells #[.int .i64 5, .int .i64 0, .int .u64 n, .string ⟨#[]⟩] 145)).drew = Z at *; obtain ⟨PF, hPF⟩ : ∃ p, B + 1 + 1 = p := ⟨_, rfl⟩; rw [hPF] at kF; have hVF : B ≠ PF := by omega
   have hWF : w.heap.size ≤ PF := by rw [HBQ.out]; omega
   rw [hPF]; clear hPF k0 x0 x2 hwA hB1 hB2 hB3; have v0 := kV.cell 0 rfl; have q0 := kF.cell 0 rfl; have q1 := kF.cell 1 rfl; have q2 := kF.cell 2 rfl; have q3 := kF.cell 3 rfl; have hbz3 := hbz
   go_wp2_with fail
   refine (HF.out _).mono ?_; rintro e w3 ⟨x, rfl, hown, hb3⟩; have hbw3 := hbz3.trans (hb3.mono hbz3.size); have hown3 : w3.ownsRow w.heap.size _ _ _ _ _ := hown.mono hbz3.size; clear HF hown hb3; go_wp2; go_ret; exact ⟨x, rfl, hown3, hbw3⟩
  ·have kV := ((k0.alloc (.cells #[.int .i64 5, .int .i64 0, .int .u64 n, .string ⟨#[]⟩] 145)).alloc (.cells #[.int .i64 1, .int .i64 5, .int .i64 6, .int .i64 7] 3)).drew; have kF := ((Blk.lit wA (B + 1) [.int .i64 5, .int .i64 0, .int .u64 n, .string ⟨#[]⟩] 145 hwA).alloc (.cells #[.int .i64 1, .int .i64 5, .int .i64 6, .int .i64 7] 3)).drew; have hbz := ((hb0.alloc hs0 (.cells #[.int .i64 5, .int .i64 0, .int .u64 n, .string ⟨#[]⟩] 145)).alloc (by simp; omega) (.cells #[.int .i64 1, .int .i64 5, .int .i64 6, .int .i64 7] 3)).drew; have hsz : B + 1 + 1 < ((wA.alloc (.cells #[.int .i64 5, .int .i64 0, .int .u64 n, .string ⟨#[]⟩] 145)).alloc (.cells #[.int .i64 1, .int .i64 5, .int .i64 6, .int .i64 7] 3)).drew.heap.size := by simp [hwA]
   generalize ((wA.alloc (.cells #[.int .i64 5, .int .i64 0, .int .u64 n, .string ⟨#[]⟩] 145)).alloc (.cells #[.int .i64 1, .int .i64 5, .int .i64 6, .int .i64 7] 3)).drew = Z at *; obtain ⟨PF, hPF⟩ : ∃ p, B + 1 = p := ⟨_, rfl⟩; rw [hPF] at kF; have hVF : B ≠ PF := by omega
   have hWF : w.heap.size ≤ PF := by rw [HBQ.out]; omega
   rw [hPF]; clear hPF k0 x0 x2 hwA hB1 hB2 hB3; have v0 := kV.cell 0 rfl; have q0 := kF.cell 0 rfl; have q1 := kF.cell 1 rfl; have q2 := kF.cell 2 rfl; have q3 := kF.cell 3 rfl; have hbz3 := hbz
   go_wp2_with fail
   refine (HF.out _).mono ?_; rintro e w3 ⟨x, rfl, hown, hb3⟩; have hbw3 := hbz3.trans (hb3.mono hbz3.size); have hown3 : w3.ownsRow w.heap.size _ _ _ _ _ := hown.mono hbz3.size; clear HF hown hb3; go_wp2; go_ret; exact ⟨x, rfl, hown3, hbw3⟩
 ·rw [if_neg (by decide), if_neg (by decide), if_pos rfl] at hV; subst hV; dsimp only at HF; have hsn : strOfNums [] = ⟨#[]⟩ := rfl; rw [hsn] at HF
  go_region
  ·have kV := ((k0.alloc (.cells #[.int .i64 1, .int .i64 5, .int .i64 6, .int .i64 7] 3)).alloc (.cells #[.int .i64 6, .int .i64 0, .int .u64 (IntKind.u64.wrap n), .string ⟨#[]⟩] 145)).drew; have kF := (Blk.lit (wA.alloc (.cells #[.int .i64 1, .int .i64 5, .int .i64 6, .int .i64 7] 3)) (B + 1 + 1) [.int .i64 6, .int .i64 0, .int .u64 (IntKind.u64.wrap n), .string ⟨#[]⟩] 145 (by simp [hwA])).drew; have hbz := ((hb0.alloc hs0 (.cells #[.int .i64 1, .int .i64 5, .int .i64 6, .int .i64 7] 3)).alloc (by simp; omega) (.cells #[.int .i64 6, .int .i64 0, .int .u64 (IntKind.u64.wrap n), .string ⟨#[]⟩] 145)).drew; have hsz : B + 1 + 1 < ((wA.alloc (.cells #[.int .i64 1, .int .i64 5, .int .i64 6, .int .i64 7] 3)).alloc (.cells #[.int .i64 6, .int .i64 0, .int .u64 (IntKind.u64.wrap n), .string ⟨#[]⟩] 145)).drew.heap.size := by simp [hwA]
   generalize ((wA.alloc (.cells #[.int .i64 1, .int .i64 5, .int .i64 6, .int .i64 7] 3)).alloc (.cells #[.int .i64 6, .int .i64 0, .int .u64 (IntKind.u64.wrap n), .string ⟨#[]⟩] 145)).drew = Z at *; obtain ⟨PF, hPF⟩ : ∃ p, B + 1 + 1 = p := ⟨_, rfl⟩; rw [hPF] at kF; have hVF : B ≠ PF := by omega
   have hWF : w.heap.size ≤ PF := by rw [HBQ.out]; omega
   rw [hPF]; clear hPF k0 x0 x2 hwA hB1 hB2 hB3; have v0 := kV.cell 0 rfl; have v2 := kV.cell 2 rfl; have c2 := kF.cell 2 rfl; have f2 := kF.free 2; have s2 := kF.set 2 (.int .u64 (zig n)); have hbz3 := hbz.set_at (b := PF) (o := 2) hWF (.int .u64 (zig n))
   go_wp2_with fail
   refine (rzig_any n (by omega) (by omega) Z).mono ?_; rintro e w2 ⟨rfl, rfl⟩; have q0 := s2.cell 0 rfl; have q1 := s2.cell 1 rfl; have q2 := s2.cell 2 rfl; have q3 := s2.cell 3 rfl
   go_wp2_with fail
   refine (HF.out _).mono ?_; rintro e w3 ⟨x, rfl, hown, hb3⟩; have hbw3 := hbz3.trans (hb3.mono hbz3.size); have hown3 : w3.ownsRow w.heap.size _ _ _ _ _ := hown.mono hbz3.size; clear HF hown hb3; go_wp2; go_ret; exact ⟨x, rfl, hown3, hbw3⟩
  ·have kV := ((k0.alloc (.cells #[.int .i64 6, .int .i64 0, .int .u64 (IntKind.u64.wrap n), .string ⟨#[]⟩] 145)).alloc (.cells #[.int .i64 1, .int .i64 5, .int .i64 6, .int .i64 7] 3)).drew; have kF := ((Blk.lit wA (B + 1) [.int .i64 6, .int .i64 0, .int .u64 (IntKind.u64.wrap n), .string ⟨#[]⟩] 145 hwA).alloc (.cells #[.int .i64 1, .int .i64 5, .int .i64 6, .int .i64 7] 3)).drew; have hbz := ((hb0.alloc hs0 (.cells #[.int .i64 6, .int .i64 0, .int .u64 (IntKind.u64.wrap n), .string ⟨#[]⟩] 145)).alloc (by simp; omega) (.cells #[.int .i64 1, .int .i64 5, .int .i64 6, .int .i64 7] 3)).drew; have hsz : B + 1 + 1 < ((wA.alloc (.cells #[.int .i64 6, .int .i64 0, .int .u64 (IntKind.u64.wrap n), .string ⟨#[]⟩] 145)).alloc (.cells #[.int .i64 1, .int .i64 5, .int .i64 6, .int .i64 7] 3)).drew.heap.size := by simp [hwA]
   generalize ((wA.alloc (.cells #[.int .i64 6, .int .i64 0, .int .u64 (IntKind.u64.wrap n), .string ⟨#[]⟩] 145)).alloc (.cells #[.int .i64 1, .int .i64 5, .int .i64 6, .int .i64 7] 3)).drew = Z at *; obtain ⟨PF, hPF⟩ : ∃ p, B + 1 = p := ⟨_, rfl⟩; rw [hPF] at kF; have hVF : B ≠ PF := by omega
   have hWF : w.heap.size ≤ PF := by rw [HBQ.out]; omega
   rw [hPF]; clear hPF k0 x0 x2 hwA hB1 hB2 hB3; have v0 := kV.cell 0 rfl; have v2 := kV.cell 2 rfl; have c2 := kF.cell 2 rfl; have f2 := kF.free 2; have s2 := kF.set 2 (.int .u64 (zig n)); have hbz3 := hbz.set_at (b := PF) (o := 2) hWF (.int .u64 (zig n))
   go_wp2_with fail
   refine (rzig_any n (by omega) (by omega) Z).mono ?_; rintro e w2 ⟨rfl, rfl⟩; have q0 := s2.cell 0 rfl; have q1 := s2.cell 1 rfl; have q2 := s2.cell 2 rfl; have q3 := s2.cell 3 rfl
   go_wp2_with fail
   refine (HF.out _).mono ?_; rintro e w3 ⟨x, rfl, hown, hb3⟩; have hbw3 := hbz3.trans (hb3.mono hbz3.size); have hown3 : w3.ownsRow w.heap.size _ _ _ _ _ := hown.mono hbz3.size; clear HF hown hb3; go_wp2; go_ret; exact ⟨x, rfl, hown3, hbw3⟩
 ·rw [if_neg (by decide), if_neg (by decide), if_neg (by decide)] at hV; subst hV; dsimp only at HF; have hw : IntKind.u64.wrap n = n := IntWalk.u64_in _ ⟨g3, by omega⟩; have hsn : strOfNums [] = ⟨#[]⟩ := rfl; rw [hsn] at HF
  go_region
  ·have kV := ((k0.alloc (.cells #[.int .i64 1, .int .i64 5, .int .i64 6, .int .i64 7] 3)).alloc (.cells #[.int .i64 7, .int .i64 0, .int .u64 n, .string ⟨#[]⟩] 145)).drew; have kF := (Blk.lit (wA.alloc (.cells #[.int .i64 1, .int .i64 5, .int .i64 6, .int .i64 7] 3)) (B + 1 + 1) [.int .i64 7, .int .i64 0, .int .u64 n, .string ⟨#[]⟩] 145 (by simp [hwA])).drew; have hbz := ((hb0.alloc hs0 (.cells #[.int .i64 1, .int .i64 5, .int .i64 6, .int .i64 7] 3)).alloc (by simp; omega) (.cells #[.int .i64 7, .int .i64 0, .int .u64 n, .string ⟨#[]⟩] 145)).drew; have hsz : B + 1 + 1 < ((wA.alloc (.cells #[.int .i64 1, .int .i64 5, .int .i64 6, .int .i64 7] 3)).alloc (.cells #[.int .i64 7, .int .i64 0, .int .u64 n, .string ⟨#[]⟩] 145)).drew.heap.size := by simp [hwA]
   generalize ((wA.alloc (.cells #[.int .i64 1, .int .i64 5, .int .i64 6, .int .i64 7] 3)).alloc (.cells #[.int .i64 7, .int .i64 0, .int .u64 n, .string ⟨#[]⟩] 145)).drew = Z at *; obtain ⟨PF, hPF⟩ : ∃ p, B + 1 + 1 = p := ⟨_, rfl⟩; rw [hPF] at kF; have hVF : B ≠ PF := by omega
   have hWF : w.heap.size ≤ PF := by rw [HBQ.out]; omega
   rw [hPF]; clear hPF k0 x0 x2 hwA hB1 hB2 hB3; have v0 := kV.cell 0 rfl; have q0 := kF.cell 0 rfl; have q1 := kF.cell 1 rfl; have q2 := kF.cell 2 rfl; have q3 := kF.cell 3 rfl; have hbz3 := hbz
   go_wp2_with fail
   refine (HF.out _).mono ?_; rintro e w3 ⟨x, rfl, hown, hb3⟩; have hbw3 := hbz3.trans (hb3.mono hbz3.size); have hown3 : w3.ownsRow w.heap.size _ _ _ _ _ := hown.mono hbz3.size; clear HF hown hb3; go_wp2; go_ret; exact ⟨x, rfl, hown3, hbw3⟩
  ·have kV := ((k0.alloc (.cells #[.int .i64 7, .int .i64 0, .int .u64 n, .string ⟨#[]⟩] 145)).alloc (.cells #[.int .i64 1, .int .i64 5, .int .i64 6, .int .i64 7] 3)).drew; have kF := ((Blk.lit wA (B + 1) [.int .i64 7, .int .i64 0, .int .u64 n, .string ⟨#[]⟩] 145 hwA).alloc (.cells #[.int .i64 1, .int .i64 5, .int .i64 6, .int .i64 7] 3)).drew; have hbz := ((hb0.alloc hs0 (.cells #[.int .i64 7, .int .i64 0, .int .u64 n, .string ⟨#[]⟩] 145)).alloc (by simp; omega) (.cells #[.int .i64 1, .int .i64 5, .int .i64 6, .int .i64 7] 3)).drew; have hsz : B + 1 + 1 < ((wA.alloc (.cells #[.int .i64 7, .int .i64 0, .int .u64 n, .string ⟨#[]⟩] 145)).alloc (.cells #[.int .i64 1, .int .i64 5, .int .i64 6, .int .i64 7] 3)).drew.heap.size := by simp [hwA]
   generalize ((wA.alloc (.cells #[.int .i64 7, .int .i64 0, .int .u64 n, .string ⟨#[]⟩] 145)).alloc (.cells #[.int .i64 1, .int .i64 5, .int .i64 6, .int .i64 7] 3)).drew = Z at *; obtain ⟨PF, hPF⟩ : ∃ p, B + 1 = p := ⟨_, rfl⟩; rw [hPF] at kF; have hVF : B ≠ PF := by omega
   have hWF : w.heap.size ≤ PF := by rw [HBQ.out]; omega
   rw [hPF]; clear hPF k0 x0 x2 hwA hB1 hB2 hB3; have v0 := kV.cell 0 rfl; have q0 := kF.cell 0 rfl; have q1 := kF.cell 1 rfl; have q2 := kF.cell 2 rfl; have q3 := kF.cell 3 rfl; have hbz3 := hbz
   go_wp2_with fail
   refine (HF.out _).mono ?_; rintro e w3 ⟨x, rfl, hown, hb3⟩; have hbw3 := hbz3.trans (hb3.mono hbz3.size); have hown3 : w3.ownsRow w.heap.size _ _ _ _ _ := hown.mono hbz3.size; clear HF hown hb3; go_wp2; go_ret; exact ⟨x, rfl, hown3, hbw3⟩
end Go.Proofs.YtjggoajfilnfjaaGreat
