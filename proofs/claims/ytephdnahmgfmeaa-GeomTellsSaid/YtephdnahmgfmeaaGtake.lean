/-
  geom's reader: take, by, point, command, where nothing is wrong.
-/
import Derived.Test.YtephdnahmgfmeaaGnums
import Derived.Test.YtephdnahmgfmeaaVzag
set_option linter.unusedVariables false
set_option linter.unusedSimpArgs false
set_option maxRecDepth 100000
namespace Go
open Go.RowKit Go.Vint

/-- The reader's block B: the row L (at b, off, in the first world), where it stands, the last point. -/
def RdS (w0 w : World) (B b off c : Nat) (L : List Int) (k : Nat) (p : Pt) : Prop :=
  Rd w0 (some ⟨b, off, none⟩) (L.map (Value.int .u64)) ∧ w0.heap.size ≤ B ∧ Blk w B [.slice (some ⟨b, off, none⟩) L.length c, .int .i64 k, .int .i64 p.x, .int .i64 p.y] ∧ Below w0.heap.size w0 w

theorem grown_drewN (w : World) (n : Nat) (r : Option Nat) : w.grownBy (w.drewN n) r := ⟨rfl, rfl, rfl, Nat.le_refl _, fun _ _ _ => rfl⟩
theorem grown_set (w : World) (B i : Nat) (v : Value) : w.grownBy (w.setCell ⟨B, i, none⟩ v) (some B) :=
  ⟨rfl, rfl, rfl, by rw [size_setCell]; exact Nat.le_refl _, fun k _ h => Below.heap_setCell _ _ _ _ (by intro e; exact h (by rw [e]))⟩
theorem grown_alloc (w : World) (o : Obj) (r : Option Nat) : w.grownBy (w.alloc o) r :=
  ⟨rfl, rfl, rfl, by simp, fun k h _ => heap_alloc_old w o h⟩
theorem RdS.grown {w0 w w' : World} {B b off c : Nat} {L : List Int} {k : Nat} {p : Pt} (h : RdS w0 w B b off c L k p) (hg : w.grownBy w' none) : RdS w0 w' B b off c L k p :=
  ⟨h.1, h.2.1, h.2.2.1.grown hg (by simp), h.2.2.2.grown hg h.2.2.2.size (by simp)⟩
theorem RdS.kept {w0 w w' : World} {B b off c : Nat} {L : List Int} {k : Nat} {p : Pt} (h : RdS w0 w B b off c L k p) {r : Nat} (hg : w.grownBy w' (some r)) (hr : w0.heap.size ≤ r) (hne : r ≠ B) : RdS w0 w' B b off c L k p :=
  ⟨h.1, h.2.1, h.2.2.1.grown hg (by simp; exact fun e => hne e.symm), h.2.2.2.grown hg h.2.2.2.size (by simp; exact hr)⟩
end Go
namespace Go.Proofs.Ytephdnahmgfmeaa
open Go.RowKit Go.Vint

set_option maxHeartbeats 800000 in
theorem take_ok (w0 w : World) (B b off c : Nat) (L : List Int) (k : Nat) (p : Pt) (v : Int) (hv : L[k]? = some v) (hv1 : v ≤ 4294967295) (hL : L.length ≤ 1000000) (hc : L.length ≤ c) (h : RdS w0 w B b off c L k p) :
    Calls Try.prog 51 #[.pointer (some ⟨B, 0, none⟩)] w fun e w' => e = .returned (.tuple #[.int .u64 v, .int .i64 0]) ∧ RdS w0 w' B b off c L (k + 1) p ∧ w.grownBy w' (some B) := by
  obtain ⟨hr, hB, hb, hbl⟩ := h
  have hk : k < L.length := (List.getElem?_eq_some_iff.1 hv).1
  have hcell : ∀ W, Below w0.heap.size w0 W → W.cell? ⟨b, off + k, none⟩ = some (.int .u64 v) := fun W h => by
    obtain ⟨_, _, he, h0, _⟩ := (hr.keep h).at (i := k) (v := .int .u64 v) (by simp [hv])
    cases he; exact h0
  have HC := Lib.hid hcell
  have HR := Lib.hid hr
  obtain ⟨N, hN⟩ : ∃ N, L.length = N := ⟨_, rfl⟩
  have HN := Lib.hid hN
  rw [hN] at hk hL hc hb
  clear hcell hr hN hv
  have c0 := hb.cell 0 rfl
  have c1 := hb.cell 1 rfl
  have d0 := HC.out _ hbl
  go_enter Try.func51, Try.ntmps51
  have hkN : ((k : Int) == (N : Int)) = false := by simp; omega
  have hv2 : decide (4294967295 < v) = false := by simp; omega
  have hfr := hb.free 1
  go_wp2
  go_quiet (fail)
  rename Nat => n1
  go_wp2
  go_quiet (fail)
  go_wp2
  have g1 := (grown_drewN w (n1 + nq) (some B)).trans (grown_set (w.drewN (n1 + nq)) B 1 (.int .i64 ((k : Int) + 1)))
  have b1 := (hb.drewN (n1 + nq)).set 1 (.int .i64 ((k : Int) + 1))
  have l1 := hbl.grown g1 hbl.size (by simp; exact hB)
  generalize (w.drewN (n1 + nq)).setCell ⟨B, 1, none⟩ (.int .i64 ((k : Int) + 1)) = w2 at *
  clear c0 c1 d0 hfr
  have c0 := b1.cell 0 rfl
  have c1 := b1.cell 1 rfl
  have d0 := HC.out _ l1
  go_quiet (fail)
  go_wp2
  refine bodyPost_ret (v := .tuple #[.int .u64 v, .int .i64 0]) (by simp [results, Try.results51, go_sem]) rfl ⟨rfl, ⟨HR.out, hB, ?_, below_drewN l1 _⟩, g1.trans (grown_drewN _ _ _)⟩
  rw [HN.out]
  exact b1

set_option maxHeartbeats 800000 in
theorem by_ok (w0 w : World) (B b off c : Nat) (L : List Int) (k : Nat) (p : Pt) (last n : Int) (hv : L[k]? = some (zig (n - last))) (hn : -1048576 ≤ n ∧ n ≤ 1048576) (hl : -1048576 ≤ last ∧ last ≤ 1048576) (hL : L.length ≤ 1000000) (hc : L.length ≤ c) (h : RdS w0 w B b off c L k p) :
    Calls Try.prog 53 #[.pointer (some ⟨B, 0, none⟩), .int .i64 last] w fun e w' => e = .returned (.tuple #[.int .i64 n, .int .i64 0]) ∧ RdS w0 w' B b off c L (k + 1) p ∧ w.grownBy w' (some B) := by
  have hz := zag_zig (n - last)
  have hz1 : 0 ≤ zig (n - last) ∧ zig (n - last) ≤ 4294967295 := by unfold zig; split <;> omega
  have ht := take_ok w0 w B b off c L k p _ hv hz1.2 hL hc h
  have hzg := vzag_any (zig (n - last)) hz1.1 (by omega)
  rw [hz] at hzg
  generalize zig (n - last) = v at *
  have HT := Lib.hid ht
  have HZ := Lib.hid hzg
  have hs : last + (n - last) = n := by omega
  clear ht hzg hz hz1 hv h hL hc
  go_enter Try.func53, Try.ntmps53
  go_wp2_with fail
  refine HT.out.mono ?_
  rintro e w1 ⟨rfl, h1, hg1⟩
  go_wp2_with fail
  refine (HZ.out _).mono ?_
  rintro e w2 ⟨rfl, rfl⟩
  go_wp2_with fail
  refine (gwithin_any n _).mono ?_
  rintro e w2 ⟨rfl, rfl⟩
  rw [decide_eq_true hn]
  go_wp2
  refine bodyPost_ret (v := .tuple #[.int .i64 n, .int .i64 0]) (by simp [results, Try.results53, go_sem]) rfl ⟨rfl, h1, hg1⟩

set_option maxHeartbeats 1600000 in
theorem point_ok (w0 w : World) (B b off c : Nat) (L : List Int) (k : Nat) (p q : Pt) (hx : L[k]? = some (zig (q.x - p.x))) (hy : L[k + 1]? = some (zig (q.y - p.y))) (hp : Close p) (hq : Close q) (hL : L.length ≤ 1000000) (hc : L.length ≤ c) (h : RdS w0 w B b off c L k p) :
    Calls Try.prog 44 #[.pointer (some ⟨B, 0, none⟩)] w fun e w' => e = .returned (.tuple #[q.val, .int .i64 0]) ∧ RdS w0 w' B b off c L (k + 2) q ∧ w.grownBy w' (some B) := by
  have g0 := grown_alloc w (.cells #[.int .i64 0, .int .i64 0] 59) none
  have g0' := grown_alloc w (.cells #[.int .i64 0, .int .i64 0] 59) (some B)
  have hBl := h.2.2.1.lt
  have r0 := Blk.new w [.int .i64 0, .int .i64 0] 59
  have h0 := h.grown g0
  have hB := h.2.1
  obtain ⟨x, y⟩ := q
  obtain ⟨px, py⟩ := p
  dsimp only [Pt.val] at *
  have hbx := fun W k p h => by_ok w0 W B b off c L k p px x h hq.1 hp.1 hL hc
  have hby := fun W k p h => by_ok w0 W B b off c L k p py y h hq.2 hp.2 hL hc
  have HX := Lib.hid hbx
  have HY := Lib.hid hby
  have HVX := Lib.hid hx
  have HVY := Lib.hid hy
  clear hbx hby hx hy hp hq g0 hL hc h
  go_enter Try.func44, Try.ntmps44
  have c2 := h0.2.2.1.cell 2 rfl
  have c3 := h0.2.2.1.cell 3 rfl
  dsimp only at c2 c3
  go_wp2_with fail
  refine (HX.out _ _ _ HVX.out h0).mono ?_
  rintro e w1 ⟨rfl, h1, hg1⟩
  have r1 := r0.grown hg1 (by simp; omega)
  have g1 := g0'.trans hg1
  clear c2 c3 h0 hg1 r0 g0'
  have c2 := h1.2.2.1.cell 2 rfl
  have c3 := h1.2.2.1.cell 3 rfl
  dsimp only at c2 c3
  go_wp2_with fail
  refine (HY.out _ _ _ HVY.out h1).mono ?_
  rintro e w2 ⟨rfl, h2, hg2⟩
  have r2 := r1.grown hg2 (by simp; omega)
  have g2 := g1.trans hg2
  clear c2 c3 h1 hg2 r1 g1
  have c2 := h2.2.2.1.cell 2 rfl
  have c3 := h2.2.2.1.cell 3 rfl
  have f2 := h2.2.2.1.free 2
  have f3 := h2.2.2.1.free 3
  have e0 := r2.cell 0 rfl
  have e1 := r2.cell 1 rfl
  have j0 := r2.free 0
  have j1 := r2.free 1
  dsimp only at c2 c3
  have hne : w.heap.size ≠ B := by omega
  have hne2 : B ≠ w.heap.size := by omega
  go_wp2
  have b4 := (((h2.2.2.1.set 2 (.int .i64 x)).set 3 (.int .i64 y)).set_at (o := 0) hne2 (.int .i64 x)).set_at (o := 1) hne2 (.int .i64 y)
  have r4 := (((r2.set_at (o := 2) hne (.int .i64 x)).set_at (o := 3) hne (.int .i64 y)).set 0 (.int .i64 x)).set 1 (.int .i64 y)
  have g4 := (g2.trans (grown_set w2 B 2 (.int .i64 x))).trans (grown_set _ B 3 (.int .i64 y))
  have l4 := ((h2.2.2.2.grown (grown_set w2 B 2 (.int .i64 x)) h2.2.2.2.size (by simp; exact hB)).set_at (o := 3) hB (.int .i64 y))
  have hwR : w0.heap.size ≤ w.heap.size := by omega
  have l5 := (l4.set_at (o := 0) hwR (.int .i64 x)).set_at (o := 1) hwR (.int .i64 y)
  have g5 : w.grownBy ((((w2.setCell ⟨B, 2, none⟩ (.int .i64 x)).setCell ⟨B, 3, none⟩ (.int .i64 y)).setCell ⟨w.heap.size, 0, none⟩ (.int .i64 x)).setCell ⟨w.heap.size, 1, none⟩ (.int .i64 y)) (some B) := by
    refine ⟨g4.os, g4.tape, g4.output, by rw [size_setCell, size_setCell]; exact g4.size, fun i hi hn => ?_⟩
    rw [Below.heap_setCell _ _ _ _ (by show i ≠ w.heap.size; omega), Below.heap_setCell _ _ _ _ (by show i ≠ w.heap.size; omega)]
    exact g4.block i hi hn
  obtain ⟨w3, hw3⟩ : ∃ w3, ((((w2.setCell ⟨B, 2, none⟩ (.int .i64 x)).setCell ⟨B, 3, none⟩ (.int .i64 y)).setCell ⟨w.heap.size, 0, none⟩ (.int .i64 x)).setCell ⟨w.heap.size, 1, none⟩ (.int .i64 y)) = w3 := ⟨_, rfl⟩
  rw [hw3] at b4 r4 l5 g5
  rw [hw3]
  have q0 := r4.cell 0 rfl
  have q1 := r4.cell 1 rfl
  refine bodyPost_ret (v := .tuple #[.agg #[.int .i64 x, .int .i64 y], .int .i64 0]) (by simp [results, Try.results44, go_sem, q0, q1]) rfl ⟨rfl, ⟨h2.1, hB, b4, l5⟩, g5⟩
end Go.Proofs.Ytephdnahmgfmeaa
