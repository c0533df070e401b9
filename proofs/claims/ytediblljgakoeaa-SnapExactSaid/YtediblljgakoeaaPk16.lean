/-
  face.Sides: slices.Collect of the sides.
-/
import Derived.Test.YtediblljgakoeaaPk15
import Derived.RangeFuncBox
/- face.Sides: slices.Collect of the sides. -/
set_option linter.unusedVariables false
set_option linter.unusedSimpArgs false
set_option maxRecDepth 100000
namespace Go
open Go.RowKit
def sds (l : List Sd) : List Value := l.flatMap Sd.cells
theorem sds_snoc (l : List Sd) (s : Sd) : sds (l ++ [s]) = sds l ++ s.cells := by simp [sds]
theorem Sd.cells_one (s : Sd) : ∀ u ∈ s.cells, u.oneCell' = true := by
  intro u hu
  simp [Sd.cells] at hu
  rcases hu with rfl | rfl | rfl | rfl | rfl | rfl <;> rfl
theorem putObj_below (N : Nat) (W : World) (l : Nat) (o' : Obj) (h : N ≤ l) : Below N W (W.putObj l o') :=
  ⟨rfl, rfl, rfl, by simp [World.putObj], fun k hk => World.putObj_heap_other (fun e => by omega)⟩
/-- What AppendSeq keeps: in block Bs the slice, which owns its row. -/
def ApI (w : World) (Bs : Nat) (T e : TypeId) (pre : List Sd) (W : World) : Prop :=
  ∃ v, Boxed W Bs T v ∧ W.ownsRow w.heap.size e 6 v pre.length (sds pre) ∧ Below w.heap.size w W
theorem ApI.own {w : World} {Bs : Nat} {T e : TypeId} {B : Nat} (hB : w.heap.size ≤ B) : OwnFrom B (ApI w Bs T e) := by
  intro pre X Y row hs hg hr
  obtain ⟨v, h1, h2, h3⟩ := hs
  refine ⟨v, boxed_own Bs T (fun (_ : Unit) => v) () X Y row h1 hg (fun r e => (hr r e).2), h2.kept hg ?_, h3.grown hg h3.size (fun k e => Nat.le_trans hB (hr k e).1)⟩
  rcases h2.2 with ⟨rfl, _⟩ | ⟨g, cap, cur, rfl, _, hgb, _⟩
  · exact .inl rfl
  · refine .inr fun e' => ?_
    obtain ⟨o, ho, hc⟩ := (hr g (by simpa [Value.ownBlock] using e'.symm)).2
    rw [hgb] at ho
    cases ho
    cases hc
end Go
namespace Go
open Go.RowKit
/-- The cells of one side of many. -/
theorem Rd.sd {w : World} {a : Option Addr} {l : List Sd} (h : Rd w a (sds l)) (i : Nat) (hi : i < l.length) :
    ∃ b off, a = some ⟨b, off, none⟩ ∧ b < w.heap.size ∧ w.cell? ⟨b, off + i * 6, none⟩ = some (.int .i64 l[i].f) ∧ w.cell? ⟨b, off + i * 6 + 1, none⟩ = some (.int .i64 l[i].r) ∧ w.cell? ⟨b, off + i * 6 + 2, none⟩ = some (.int .i64 l[i].a.x) ∧ w.cell? ⟨b, off + i * 6 + 3, none⟩ = some (.int .i64 l[i].a.y) ∧ w.cell? ⟨b, off + i * 6 + 4, none⟩ = some (.int .i64 l[i].b.x) ∧ w.cell? ⟨b, off + i * 6 + 5, none⟩ = some (.int .i64 l[i].b.y) := by
  have g : ∀ j, j < 6 → (sds l)[i * 6 + j]? = (l[i]).cells[j]? := fun j hj => flatMap_get Sd.cells 6 (fun _ => rfl) l i j hi hj
  obtain ⟨b, off, rfl, h0, hb⟩ := h.at (i := i * 6 + 0) (v := .int .i64 l[i].f) (by rw [g 0 (by omega)]; rfl)
  obtain ⟨b', off', e, h1, -⟩ := h.at (i := i * 6 + 1) (v := .int .i64 l[i].r) (by rw [g 1 (by omega)]; rfl)
  cases e
  obtain ⟨b', off', e, h2, -⟩ := h.at (i := i * 6 + 2) (v := .int .i64 l[i].a.x) (by rw [g 2 (by omega)]; rfl)
  cases e
  obtain ⟨b', off', e, h3, -⟩ := h.at (i := i * 6 + 3) (v := .int .i64 l[i].a.y) (by rw [g 3 (by omega)]; rfl)
  cases e
  obtain ⟨b', off', e, h4, -⟩ := h.at (i := i * 6 + 4) (v := .int .i64 l[i].b.x) (by rw [g 4 (by omega)]; rfl)
  cases e
  obtain ⟨b', off', e, h5, -⟩ := h.at (i := i * 6 + 5) (v := .int .i64 l[i].b.y) (by rw [g 5 (by omega)]; rfl)
  cases e
  exact ⟨b, off, rfl, hb, h0, by rw [Nat.add_assoc]; exact h1, by rw [Nat.add_assoc]; exact h2, by rw [Nat.add_assoc]; exact h3, by rw [Nat.add_assoc]; exact h4, by rw [Nat.add_assoc]; exact h5⟩
end Go
namespace Go.Proofs.Ytediblljgakoeaa
open Go.RowKit
attribute [local go_sem] Oper.semAt_some
theorem Try.infoSd : (Try.prog.info? 34).map (fun i => (i.zero, i.size, i.bytes)) = some (some (.agg #[.int .i64 0, .int .i64 0, .int .i64 0, .int .i64 0, .int .i64 0, .int .i64 0]), 6, 48) := by kernel_rfl

set_option maxHeartbeats 3200000 in
theorem appseq_any (Bn : Nat) (a : Option Addr) (c : Nat) (L : List Fc) (hlen : L.length ≤ 1000000) (hl1 : ∀ f ∈ L, f.rs.length ≤ 1000000) (hl2 : ∀ f ∈ L, ∀ r ∈ f.rs, r.l.length ≤ 1000000) (hall : (allSd (L.map Fc.rings)).length ≤ 1000000)
    (w : World) (hr : Rd w a (fcs L)) (hok : ∀ f ∈ L, f.Ok w) (fr : Nat × Nat) (hBn : w.heap[Bn]? = some (.cells #[.slice a L.length c] 22 fr)) :
    Calls Try.prog 29 #[.slice none 0 0, .func (.func 30) #[] #[.pointer (some ⟨Bn, 0, none⟩)]] w fun e w' => ∃ v, e = .returned v ∧ w'.ownsRow w.heap.size 34 6 v (allSd (L.map Fc.rings)).length (sds (allSd (L.map Fc.rings))) ∧ Below w.heap.size w w' := by
  refine (callsIn_wide (n := 5)).1 ?_
  refine callsIn_of_wp_marks Try.func29 rfl trivial ?_ rfl
  simp only [Try.ntmps29, List.size_toArray, List.length_cons, List.length_nil, Nat.reduceAdd, Nat.reduceSub, Array.replicate_succ, Array.replicate_zero, List.push_toArray, List.append_toArray, List.nil_append, List.cons_append]
  refine wpIn_wide.2 ?_
  have HSL := Lib.hid (sides_leave (5 - 1) Bn a c L hlen hl1 hl2 w hr hok fr hBn)
  obtain ⟨i0, hi, hz0, hz1, hz2⟩ := info_parts Try.infoSd
  obtain ⟨ALL, hALL⟩ : ∃ l, allSd (L.map Fc.rings) = l := ⟨_, rfl⟩
  rw [hALL] at HSL hall ⊢
  clear hALL
  have kB := Boxed.new w 29 (.slice none 0 0)
  have hB0 := Below.new w (.cells #[.slice none 0 0] 29)
  go_wp2_with fail
  obtain ⟨W0, hW0⟩ : ∃ W, w.alloc (.cells #[.slice none 0 0] 29) = W := ⟨_, rfl⟩
  have hsz : W0.heap.size = w.heap.size + 1 := by rw [← hW0]; simp
  rw [hW0] at kB hB0 ⊢
  clear hW0
  refine (wpIn_wide (n := 5)).1 ?_
  refine wpIn_rangeFunc_leave rfl (by decide) (gf := 30) (lb := #[.pointer (some ⟨Bn, 0, none⟩)]) rfl trivial (enters_of Try.func30 (by kernel_rfl) rfl)
    HSL.out (fun h k => h.trans k) (fun W l o o' hl h1 h2 => putObj_below _ W l o' (by omega)) hB0 (fun _ => rfl)
    (ApI w w.heap.size 29 34) (fun _ _ _ => False) (ApI.own (by omega)) (fun _ => ownFrom_pure _ _) (ownFrom_pure _ _)
    ⟨_, kB, World.ownsRow_nil _ _ _ _, hB0⟩
    (fun (pre : List Sd) (x : Sd) a' W => ApI w w.heap.size 29 34 pre W ∧ pre ++ [x] <+: ALL ∧ ∃ Bv, w.heap.size + 1 ≤ Bv ∧ Blk W Bv x.cells ∧ a' = { tmps := List.toArray (Value.slice none 0 0 :: (Value.func (Fn.func 30) #[] #[Value.pointer (some ⟨Bn, 0, none⟩)]) :: Value.pointer (some ⟨w.heap.size, 0, none⟩) :: undef :: Value.slice none 0 0 :: Value.pointer (some ⟨Bv, 0, none⟩) :: (Value.func (Fn.func 30) #[] #[Value.pointer (some ⟨Bn, 0, none⟩)]) :: x.val :: undef :: undef :: undef :: undef :: undef :: []), defers := [] })
    ?hM ?assign ?body ?done ?stop
  case hM =>
    rintro pre x a' _ X Y row ⟨hI, hx, Bv, hb, bV, rfl⟩ hg hrow
    have hne : some Bv ≠ row := by
      intro e
      obtain ⟨o, ho, hc⟩ := (hrow Bv e.symm).2
      obtain ⟨U, hU⟩ := bV
      rw [hU] at ho
      cases ho
      cases hc
    exact ⟨ApI.own (B := W0.heap.size) (by omega) pre X Y row hI hg hrow, hx, Bv, hb, bV.grown hg hne, rfl⟩
  case assign =>
    rintro l' pre ⟨fi, ri, ⟨x1, y1⟩, ⟨x2, y2⟩⟩ W hI hx
    dsimp only [Sd.val]
    have HI := Lib.hid hI
    obtain ⟨v, h1, h2, h3⟩ := hI
    have hlt := h1.lt
    clear h1 h2 h3
    gi_wp2
    exact ⟨KeepsOthers.alloc _ _, (Below.refl _ _).alloc (by omega) _, (ApI.own (B := W0.heap.size) (by omega)).alloc _ HI.out, hx, W.heap.size, by omega, Blk.new W [.int .i64 fi, .int .i64 ri, .int .i64 x1, .int .i64 y1, .int .i64 x2, .int .i64 y2] 34, rfl⟩
  case body =>
    rintro l' pre ⟨fi, ri, ⟨x1, y1⟩, ⟨x2, y2⟩⟩ a' W ⟨⟨v, kv, ho, hbl⟩, hpx, Bv, hb, bV, rfl⟩
    have hpl : pre.length + 1 ≤ 1000000 := by
      have := hpx.length_le
      simp at this
      omega
    have HRR := Lib.hid bV
    dsimp only [Sd.cells, Sd.val] at bV ⊢
    have v0 := bV.cell 0 rfl
    have v1 := bV.cell 1 rfl
    have v2 := bV.cell 2 rfl
    have v3 := bV.cell 3 rfl
    have v4 := bV.cell 4 rfl
    have v5 := bV.cell 5 rfl
    have cB := kv.cell
    have fB := kv.frozen
    have hsW : w.heap.size ≤ W.heap.size := hbl.size
    gi_wp2_with (gi_at_builtin; go_must (refine wpListIn_append_own _ rfl (.tmp 8) (.tmp 10) 29 rfl w.heap.size 34 i0 (.agg #[.int .i64 0, .int .i64 0, .int .i64 0, .int .i64 0, .int .i64 0, .int .i64 0]) 6 48 Try.underlying29 hi hz0 hz1 hz2 rfl (by decide) v pre.length (sds pre) rfl (ho.below (Below.new _ _)) ⟨W.heap.size, 0, none⟩ 1 1 (Sd.cells ⟨fi, ri, ⟨x1, y1⟩, ⟨x2, y2⟩⟩) rfl rfl (Rd.lit _ _ _ _ (by simp)).add (Sd.cells_one _) (by unfold maxLen; omega) (by omega) (by simp; omega) ?_); intro v' w3 hown' hgrow _; obtain ⟨g', cap', rfl⟩ := ownsRow_succ hown'; obtain ⟨hv1, hv2, hr2, hk2, hb3⟩ := kv.appended (by decide) ho hsW (Nat.le_refl _) hown' hgrow; have hc1 := hv1.cell; have hf1 := hv1.frozen)
    refine ⟨hk2, hb3, _, hv2, ?_, hbl.trans hb3⟩
    rw [sds_snoc, List.length_append]
    exact hr2
  case done =>
    rintro D xs W hD rfl ⟨v, kv, ho, hbl⟩ hK
    have cB := kv.cell
    have hDl : D < W.heap.size := (Array.getElem?_eq_some_iff.1 hK).1
    go_wp2
    refine ⟨by simp, .inl ⟨_, _, rfl, run_takeDeferred hK, ?_⟩⟩
    refine ⟨v, by simp [results, Try.results29, go_sem], v, rfl, ownsRow_putObj ho _ hK rfl, hbl.trans (putObj_below _ W D _ (by omega))⟩
  case stop =>
    rintro D cc pre W hD hF hK
    exact hF.elim

theorem collect_any (Bn : Nat) (a : Option Addr) (c : Nat) (L : List Fc) (hlen : L.length ≤ 1000000) (hl1 : ∀ f ∈ L, f.rs.length ≤ 1000000) (hl2 : ∀ f ∈ L, ∀ r ∈ f.rs, r.l.length ≤ 1000000) (hall : (allSd (L.map Fc.rings)).length ≤ 1000000)
    (w : World) (hr : Rd w a (fcs L)) (hok : ∀ f ∈ L, f.Ok w) (fr : Nat × Nat) (hBn : w.heap[Bn]? = some (.cells #[.slice a L.length c] 22 fr)) :
    Calls Try.prog 17 #[.func (.func 30) #[] #[.pointer (some ⟨Bn, 0, none⟩)]] w fun e w' => ∃ v, e = .returned v ∧ w'.ownsRow w.heap.size 34 6 v (allSd (L.map Fc.rings)).length (sds (allSd (L.map Fc.rings))) ∧ Below w.heap.size w w' := by
  have H := Lib.hid (appseq_any Bn a c L hlen hl1 hl2 hall w hr hok fr hBn)
  go_enter Try.func17, Try.ntmps17
  go_wp2_with fail
  refine H.out.mono ?_
  rintro e w1 ⟨v, rfl, ho, hb⟩
  go_wp2
  go_ret
  exact ⟨v, rfl, ho, hb⟩

/-- The sides of faces, as a row of their own. -/
theorem fsides_any (a : Option Addr) (c : Nat) (L : List Fc) (hlen : L.length ≤ 1000000) (hl1 : ∀ f ∈ L, f.rs.length ≤ 1000000) (hl2 : ∀ f ∈ L, ∀ r ∈ f.rs, r.l.length ≤ 1000000) (hall : (allSd (L.map Fc.rings)).length ≤ 1000000)
    (w : World) (hr : Rd w a (fcs L)) (hok : ∀ f ∈ L, f.Ok w) :
    Calls Try.prog 8 #[.slice a L.length c] w fun e w' => ∃ v, e = .returned v ∧ w'.ownsRow w.heap.size 34 6 v (allSd (L.map Fc.rings)).length (sds (allSd (L.map Fc.rings))) ∧ Below w.heap.size w w' := by
  have hb := Below.new w (.cells #[.slice a L.length c] 22)
  have H := Lib.hid (collect_any w.heap.size a c L hlen hl1 hl2 hall (w.alloc (.cells #[.slice a L.length c] 22)) (hr.keep hb) (fun f hf => (hok f hf).keep hb) (0, 0) (heap_alloc_new w _))
  go_enter Try.func8, Try.ntmps8
  go_wp2_with fail
  refine (callsIn_wide.1 (sides_in 5 a L.length c _)).mono ?_
  rintro e w1 ⟨rfl, rfl⟩
  go_wp2_with fail
  refine H.out.mono ?_
  rintro e w2 ⟨v, rfl, ho, hb2⟩
  go_wp2
  go_ret
  exact ⟨v, rfl, ho.mono (by simp), hb.trans (hb2.mono (by simp))⟩
end Go.Proofs.Ytediblljgakoeaa
