/-
  geom.Numbers' closure: a point's two numbers behind the others.
-/
import Derived.Test.YtephdnahmgfmeaaGpart
import Derived.Test.YtephdnahmgfmeaaRegApp
import Derived.Test.YtephdnahmgfmeaaVzig
import Derived.Test.YtephdnahmgfmeaaVmath
set_option linter.unusedVariables false
set_option linter.unusedSimpArgs false
set_option maxRecDepth 100000
namespace Go
open Go.RowKit Go.Vint

/-- A point's two numbers. -/
def byN (a p : Pt) : List Int := [zig (p.x - a.x), zig (p.y - a.y)]

/-- The row in its box, the last point in its own. -/
def Num (e : TypeId) (base B1 B2 : Nat) (W : World) (R : List Int) (at' : Pt) : Prop :=
  ∃ v, Blk W B1 [v] ∧ Blk W B2 at'.cells ∧ W.ownsRow base e 1 v R.length (R.map (Value.int .u64)) ∧ base ≤ W.heap.size
def Close (p : Pt) : Prop := (-1048576 ≤ p.x ∧ p.x ≤ 1048576) ∧ (-1048576 ≤ p.y ∧ p.y ≤ 1048576)
end Go
namespace Go.Proofs.Ytephdnahmgfmeaa
open Go.RowKit Go.Vint

set_option maxHeartbeats 1600000 in
theorem by_any (p at' : Pt) (R : List Int) (base B1 B2 n0 : Nat) (h1 : B1 < base) (h2 : B2 < base) (hne : B1 ≠ B2) (hn1 : n0 ≤ B1) (hn2 : n0 ≤ B2) (hp : Close p) (ha : Close at') (hR : R.length ≤ 1000000) (w : World) (h : Num 44 base B1 B2 w R at') :
    Calls Try.prog 27 #[p.val, .pointer (some ⟨B1, 0, none⟩), .pointer (some ⟨B2, 0, none⟩)] w fun e w' => (∃ v, e = .returned v) ∧ Num 44 base B1 B2 w' (R ++ byN at' p) p ∧ Below n0 w w' := by
  obtain ⟨v, hb1, hb2, hown, hbs⟩ := h
  obtain ⟨x, y⟩ := p
  obtain ⟨ax, ay⟩ := at'
  obtain ⟨⟨p1, p2⟩, p3, p4⟩ := hp
  obtain ⟨⟨a1, a2⟩, a3, a4⟩ := ha
  dsimp only [Pt.val, Pt.cells] at *
  go_enter Try.func27, Try.ntmps27
  have hw1 : IntKind.i64.wrap (x - ax) = x - ax := IntWalk.i64_in _ (by omega)
  have hw2 : IntKind.i64.wrap (y - ay) = y - ay := IntWalk.i64_in _ (by omega)
  have hz1 := vzig_any (x - ax) (by omega) (by omega)
  have hz2 := vzig_any (y - ay) (by omega) (by omega)
  have hby : byN ⟨ax, ay⟩ ⟨x, y⟩ = [zig (x - ax), zig (y - ay)] := rfl
  have HBY := Lib.hid hby
  have HZ1 := Lib.hid hz1
  have HZ2 := Lib.hid hz2
  clear hby hz1 hz2
  generalize zig (x - ax) = zx at *
  generalize zig (y - ay) = zy at *
  clear p1 p2 p3 p4 a1 a2 a3 a4
  go_wp2_with fail
  have hbx := Blk.new w [.int .i64 x, .int .i64 y] 59
  have k1 := hb1.alloc (.cells #[.int .i64 x, .int .i64 y] 59)
  have k2 := hb2.alloc (.cells #[.int .i64 x, .int .i64 y] 59)
  have ko := hown.below (Below.new w (.cells #[.int .i64 x, .int .i64 y] 59))
  have hBl := Below.new w (.cells #[.int .i64 x, .int .i64 y] 59)
  obtain ⟨w1, hw1e⟩ : ∃ w1, w.alloc (.cells #[.int .i64 x, .int .i64 y] 59) = w1 := ⟨_, rfl⟩
  rw [hw1e] at hbx k1 k2 ko hBl
  rw [hw1e]
  clear hw1e
  have hbs1 : base ≤ w1.heap.size := Nat.le_trans hbs hBl.size
  have hlt := hbx.lt
  have hvb : ∀ k, v.ownBlock = some k → base ≤ k ∧ k < w.heap.size := fun k hk => hown.lt k hk
  have HVB := Lib.hid hvb
  clear hb1 hb2 hown hvb
  refine wp_region_lit_txtZ (some 15) [0, 1, 2, 3, 4, 5, 7, 8, 9, 10, 11] (fun W => Blk W w.heap.size [.int .i64 x, .int .i64 y] ∧ Blk W B1 [v] ∧ Blk W B2 [.int .i64 ax, .int .i64 ay]) (by kernel_rfl) (by kernel_rfl) (by kernel_rfl) (by kernel_rfl) ⟨hbx.drew, k1.drew, k2.drew⟩ ?_
  refine txt_light v rfl rfl ?_ ?_
  · intro w' hS
    have c0 := hS.2.1.cell 0 rfl
    go_simp
  try simp only [Act.put, List.setIfInBounds_toArray, List.set_cons_zero, List.set_cons_succ]
  (refine txt_light ?_ rfl rfl ?_ ?_; rotate_left; · (intro w' hS; (try dsimp only at hS); go_simp; with_reducible rfl)); try simp only [Act.put, List.setIfInBounds_toArray, List.set_cons_zero, List.set_cons_succ]
  refine txt_light (.int .i64 x) rfl rfl ?_ ?_
  · intro w' hS
    have c0 := hS.1.cell 0 rfl
    go_simp
  try simp only [Act.put, List.setIfInBounds_toArray, List.set_cons_zero, List.set_cons_succ]
  (refine txt_light ?_ rfl rfl ?_ ?_; rotate_left; · (intro w' hS; (try dsimp only at hS); go_simp; with_reducible rfl)); try simp only [Act.put, List.setIfInBounds_toArray, List.set_cons_zero, List.set_cons_succ]
  refine txt_light (.int .i64 ax) rfl rfl ?_ ?_
  · intro w' hS
    have c0 := hS.2.2.cell 0 rfl
    go_simp
  try simp only [Act.put, List.setIfInBounds_toArray, List.set_cons_zero, List.set_cons_succ]
  refine txt_light (.int .i64 (x - ax)) rfl rfl ?_ ?_
  · intro w' hS
    go_simp
  try simp only [Act.put, List.setIfInBounds_toArray, List.set_cons_zero, List.set_cons_succ]
  refine txt_call [.int .i64 (x - ax)] Try.f28 rfl rfl Try.func28 (by kernel_rfl) (by kernel_rfl) rfl ((HZ1.out _).mono ?_)
  rintro e w2 ⟨rfl, rfl⟩
  refine ⟨_, rfl, ⟨hbx.drew, k1.drew, k2.drew⟩, ?_⟩
  try simp only [Act.put, List.setIfInBounds_toArray, List.set_cons_zero, List.set_cons_succ]
  (refine txt_light ?_ rfl rfl ?_ ?_; rotate_left; · (intro w' hS; (try dsimp only at hS); go_simp; with_reducible rfl)); try simp only [Act.put, List.setIfInBounds_toArray, List.set_cons_zero, List.set_cons_succ]
  refine txt_light (.int .i64 y) rfl rfl ?_ ?_
  · intro w' hS
    have c0 := hS.1.cell 1 rfl
    go_simp
  try simp only [Act.put, List.setIfInBounds_toArray, List.set_cons_zero, List.set_cons_succ]
  (refine txt_light ?_ rfl rfl ?_ ?_; rotate_left; · (intro w' hS; (try dsimp only at hS); go_simp; with_reducible rfl)); try simp only [Act.put, List.setIfInBounds_toArray, List.set_cons_zero, List.set_cons_succ]
  refine txt_light (.int .i64 ay) rfl rfl ?_ ?_
  · intro w' hS
    have c0 := hS.2.2.cell 1 rfl
    go_simp
  try simp only [Act.put, List.setIfInBounds_toArray, List.set_cons_zero, List.set_cons_succ]
  refine txt_light (.int .i64 (y - ay)) rfl rfl ?_ ?_
  · intro w' hS
    go_simp
  try simp only [Act.put, List.setIfInBounds_toArray, List.set_cons_zero, List.set_cons_succ]
  refine txt_call [.int .i64 (y - ay)] Try.f28 rfl rfl Try.func28 (by kernel_rfl) (by kernel_rfl) rfl ((HZ2.out _).mono ?_)
  rintro e w2 ⟨rfl, rfl⟩
  refine ⟨_, rfl, ⟨hbx.drew, k1.drew, k2.drew⟩, ?_⟩
  try simp only [Act.put, List.setIfInBounds_toArray, List.set_cons_zero, List.set_cons_succ]
  refine txt_heavy rfl rfl (fun K hK => ?_)
  go_step
  have hb3 := Below.new w1.drew (.cells #[.int .u64 zx, .int .u64 zy] 44)
  have x1 := (Blk.drew hbx).keep hb3
  have x2 := (Blk.drew k1).keep hb3
  have x3 := (Blk.drew k2).keep hb3
  have xo := World.ownsRow.below (w := w1.drew) ko hb3
  have xr := Rd.lit w1.drew w1.heap.size [.int .u64 zx, .int .u64 zy] 44 rfl
  have hB3 : Below n0 w (w1.drew.alloc (.cells #[.int .u64 zx, .int .u64 zy] 44)) := ((hBl.mono (by omega)).drew).alloc (by simp; omega) _
  refine hK.out _ _ ⟨x1, x2, x3⟩ ?_
  clear hK K hbx k1 k2 ko hBl hb3
  try simp only [Act.put, List.setIfInBounds_toArray, List.set_cons_zero, List.set_cons_succ]
  refine txt_heavy rfl rfl (fun K hK => ?_)
  refine wp_app (.tmp 4) (.tmp 17) 34 rfl base 44 (.int .u64 0) 1 8 Try.underlying34 Try.infoU64 rfl (by decide) v R.length (R.map (Value.int .u64)) rfl xo (some ⟨w1.heap.size, 0, none⟩) 2 2 [.int .u64 zx, .int .u64 zy] rfl (fun h => by cases h) xr rfl (by simp [Value.oneCell']) (by omega) (by decide) (by simp; omega) ?_
  intro v2 w2 hown2 hg2
  have hn1' : ∀ b, b < base → some b ≠ v.ownBlock := fun b hb e => by have := (HVB.out b e.symm).1; omega
  have hn2' : some w.heap.size ≠ v.ownBlock := fun e => by have := (HVB.out _ e.symm).2; omega
  have y1 := x1.grown hg2 hn2'
  have y2 := x2.grown hg2 (hn1' B1 h1)
  have y3 := x3.grown hg2 (hn1' B2 h2)
  have hB4 := hB3.grown hg2 (by simp; omega) (fun k hk => by have := (HVB.out k hk).1; omega)
  have hsz : base ≤ w2.heap.size := by have := y1.lt; omega
  refine hK.out _ _ ⟨y1, y2, y3⟩ ?_
  clear hK K x1 x2 x3 xo xr hB3 hg2
  have hf2 := hown2.form
  obtain ⟨pa, pc, rfl, -⟩ := hf2
  try simp only [Act.put, List.setIfInBounds_toArray, List.set_cons_zero, List.set_cons_succ]
  refine txt_last rfl rfl rfl (fun K hK => ?_)
  have c0 := y2.cell 0 rfl
  have f0 := y2.free 0
  go_step
  refine hK.out _ _ ?_
  refine txt_nil ?_
  clear hK K c0 f0
  have z1 := y1.set_at (b' := B1) (o := 0) (by omega) (.slice pa (R.length + 2) pc)
  have z2 := y2.set 0 (.slice pa (R.length + 2) pc)
  have z3 := y3.set_at (b' := B1) (o := 0) (fun e => hne e.symm) (.slice pa (R.length + 2) pc)
  have zo := hown2.set_ne (p := ⟨B1, 0, none⟩) (fun h => by have := (hown2.lt _ h).1; simp at this; omega) (.slice pa (R.length + 2) pc)
  have hB5 := hB4.set_at (b := B1) (o := 0) hn1 (.slice pa (R.length + 2) pc)
  have hz5 : base ≤ (w2.setCell ⟨B1, 0, none⟩ (.slice pa (R.length + 2) pc)).heap.size := by simp [World.setCell]; exact hsz
  generalize w2.setCell ⟨B1, 0, none⟩ (.slice pa (R.length + 2) pc) = w3 at *
  have e0 := z1.cell 0 rfl
  have e1 := z1.cell 1 rfl
  have g0 := z3.cell 0 rfl
  have g1 := z3.cell 1 rfl
  have q0 := z3.free 0
  have q1 := z3.free 1
  clear y1 y2 y3 hown2 hB4 hsz z1
  go_wp2
  refine ⟨rfl, .tuple #[], by simp [results, Try.results27, go_sem], ⟨_, rfl⟩, ⟨.slice pa (R.length + 2) pc, ?_, ?_, ?_, ?_⟩, ?_⟩
  · exact (z2.set_at (b' := B2) (o := 0) hne (.int .i64 x)).set_at (b' := B2) (o := 1) hne (.int .i64 y)
  · exact (z3.set 0 (.int .i64 x)).set 1 (.int .i64 y)
  · rw [HBY.out, List.length_append, List.map_append]
    refine (zo.set_ne (p := ⟨B2, 0, none⟩) ?_ (.int .i64 x)).set_ne (p := ⟨B2, 1, none⟩) ?_ (.int .i64 y)
    · exact fun h => by have := (zo.lt _ h).1; simp at this; omega
    · exact fun h => by have := (zo.lt _ h).1; simp at this; omega
  · simp [World.setCell]; exact hz5
  · exact (hB5.set_at (b := B2) (o := 0) hn2 (.int .i64 x)).set_at (b := B2) (o := 1) hn2 (.int .i64 y)
end Go.Proofs.Ytephdnahmgfmeaa
