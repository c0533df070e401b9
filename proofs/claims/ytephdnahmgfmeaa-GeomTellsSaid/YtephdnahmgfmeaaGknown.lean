/-
  The chapter's examples hold: graticulelaw23.known answers true.
-/
import Derived.Test.YtephdnahmgfmeaaGnums
import Derived.Test.YtephdnahmgfmeaaGsame
set_option linter.unusedVariables false
set_option linter.unusedSimpArgs false
set_option maxRecDepth 100000
namespace Go.Proofs.Ytephdnahmgfmeaa
open Go.RowKit Go.Vint

theorem one_ring_any (kind : Int) (L : List Pt) (R : List Int) (h0 : checkE kind [L] = 0) (hR : numsF kind ⟨0, 0⟩ [L] = R) (hl : L.length ≤ 1000) (b c : Nat) (w : World) (h1 : Rd w (some ⟨b, 0, none⟩) (pts L)) (h2 : Rd w (some ⟨c, 0, none⟩) [.slice (some ⟨b, 0, none⟩) L.length L.length]) :
    Calls Try.prog 11 #[.int .i64 kind, .slice (some ⟨c, 0, none⟩) 1 1] w fun e w' => ∃ v, e = .returned (.tuple #[v, .int .i64 0]) ∧
      w'.ownsRow w.heap.size 44 1 v R.length (R.map (Value.int .u64)) ∧ Below w.heap.size w w' := by
  have h := gnums_any kind (some ⟨c, 0, none⟩) 1 [⟨L, some ⟨b, 0, none⟩, L.length⟩] (by simp) (by simpa using hl) w h2 (by
    intro x hx
    obtain rfl := List.mem_singleton.1 hx
    exact ⟨h1, Nat.le_refl _, by unfold maxLen; dsimp only; omega, fun h => by cases h⟩) R (by simp only [List.map_cons, List.map_nil]; rw [if_pos h0]; exact hR.symm)
  simp only [List.map_cons, List.map_nil] at h
  rw [h0] at h
  exact h

set_option maxHeartbeats 800000 in
theorem gknown_any (w : World) :
    Calls Try.prog 8 #[] w fun e w' => e = .returned (.bool true) ∧ Below w.heap.size w w' := by
  have a1 := one_ring_any 2 [⟨2, 2⟩, ⟨2, 10⟩, ⟨10, 10⟩] [9, 4, 4, 18, 0, 16, 16, 0] (by decide +kernel) (by decide +kernel) (by decide)
  have a2 := one_ring_any 3 [⟨3, 6⟩, ⟨8, 12⟩, ⟨20, 34⟩] [9, 6, 12, 18, 10, 12, 24, 44, 15] (by decide +kernel) (by decide +kernel) (by decide)
  have A1 := Lib.hid a1
  have A2 := Lib.hid a2
  clear a1 a2
  go_enter Try.func8, Try.ntmps8
  go_wp2_with fail
  refine (A1.out w.heap.size (w.heap.size + 1) _ ((Rd.new w [.int .i64 2, .int .i64 2, .int .i64 2, .int .i64 10, .int .i64 10, .int .i64 10] _).alloc _) (Rd.lit _ _ [.slice (some ⟨w.heap.size, 0, none⟩) 3 3] _ (by simp))).mono ?_
  rintro e w1 ⟨v1, rfl, hown1, hbl⟩
  obtain ⟨p1, c1, rfl, -, -, -, hr1, -⟩ := hown1.form
  have hb1 : Below w.heap.size w w1 := (((Below.refl _ _).alloc (Nat.le_refl _) _).alloc (by simp) _).trans (hbl.mono (by simp; omega))
  have hs1 := hb1.size
  clear hown1 hbl A1
  go_wp2_with fail
  refine (A2.out w1.heap.size (w1.heap.size + 1) _ ((Rd.new w1 [.int .i64 3, .int .i64 6, .int .i64 8, .int .i64 12, .int .i64 20, .int .i64 34] _).alloc _) (Rd.lit _ _ [.slice (some ⟨w1.heap.size, 0, none⟩) 3 3] _ (by simp))).mono ?_
  rintro e w2 ⟨v2, rfl, hown2, hbl⟩
  obtain ⟨p2, c2, rfl, -, -, -, hr2, -⟩ := hown2.form
  have hb2' : Below w1.heap.size w1 w2 := (((Below.refl _ _).alloc (Nat.le_refl _) _).alloc (by simp) _).trans (hbl.mono (by simp; omega))
  have hr3 := hr1.keep hb2'
  have hb2 : Below w.heap.size w w2 := hb1.trans (hb2'.mono hs1)
  have hs2 := hb2.size
  clear hown2 hbl A2 hr1 hb2' hb1
  go_wp2_with fail
  refine (gsame_any _ _ _ _ [9, 4, 4, 18, 0, 16, 16, 0] [9, 4, 4, 18, 0, 16, 16, 0] (by decide) (by decide) _ (hr3.alloc _) (Rd.new w2 [.int .u64 9, .int .u64 4, .int .u64 4, .int .u64 18, .int .u64 0, .int .u64 16, .int .u64 16, .int .u64 0] _)).mono ?_
  rintro e w3 ⟨rfl, n, rfl⟩
  have hr4 := (hr2.alloc (.cells #[.int .u64 9, .int .u64 4, .int .u64 4, .int .u64 18, .int .u64 0, .int .u64 16, .int .u64 16, .int .u64 0] 44)).drewN n
  have hb3 := below_drewN (hb2.alloc hs2 (.cells #[.int .u64 9, .int .u64 4, .int .u64 4, .int .u64 18, .int .u64 0, .int .u64 16, .int .u64 16, .int .u64 0] 44)) n
  have hs3 := hb3.size
  clear hr2 hr3 hb2
  generalize (w2.alloc (.cells #[.int .u64 9, .int .u64 4, .int .u64 4, .int .u64 18, .int .u64 0, .int .u64 16, .int .u64 16, .int .u64 0] 44)).drewN n = w3 at *
  go_wp2_with fail
  refine (gsame_any _ _ _ _ [9, 6, 12, 18, 10, 12, 24, 44, 15] [9, 6, 12, 18, 10, 12, 24, 44, 15] (by decide) (by decide) _ (hr4.alloc _) (Rd.new w3 [.int .u64 9, .int .u64 6, .int .u64 12, .int .u64 18, .int .u64 10, .int .u64 12, .int .u64 24, .int .u64 44, .int .u64 15] _)).mono ?_
  rintro e w4 ⟨rfl, m, rfl⟩
  have hb4 := below_drewN (hb3.alloc hs3 (.cells #[.int .u64 9, .int .u64 6, .int .u64 12, .int .u64 18, .int .u64 10, .int .u64 12, .int .u64 24, .int .u64 44, .int .u64 15] 44)) m
  go_wp2
  go_ret
  exact ⟨rfl, hb4⟩
end Go.Proofs.Ytephdnahmgfmeaa
