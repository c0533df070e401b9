/-
  mvt.count, mvt.first. A range over mvt.only whose body appends to a slice that lies in a block. A map that the call makes, told by what stands at each key, as raw values, and by how many keys there are: keys are whatever 'key' turns into values. A map of keys to true, filled from a list: a set. A map of values to bools: the set of values met.
-/
import Derived.Test.YtjggoajfilnfjaaGreatPk19
import Derived.RangeFuncBox
import Derived.Test.YtjggoajfilnfjaaGreatPk1
import Derived.Maps.OwnSet
import Derived.WideKeyEntry
import Derived.Test.YtjggoajfilnfjaaGreatProg
import Derived.Test.YtjggoajfilnfjaaGreatPk6
import Derived.DeepKeys4
/- mvt.count, mvt.first. -/
set_option linter.unusedVariables false
set_option linter.unusedSimpArgs false
set_option maxRecDepth 100000
namespace Go
open Go.RowKit
theorem putObj_belowM (N : Nat) (W : World) (l : Nat) (o' : Obj) (h : N ≤ l) : Below N W (W.putObj l o') :=
  ⟨rfl, rfl, rfl, by simp [World.putObj], fun k hk => World.putObj_heap_other (fun e => by omega)⟩
theorem blk_ownF {β : Type} (B Bv : Nat) (vs : β → List Value) : OwnFrom B (fun s W => Blk W Bv (vs s)) := by
  intro s X Y row hs hg hr; refine hs.grown hg (fun e => ?_); obtain ⟨o, ho, hc⟩ := (hr Bv e.symm).2; obtain ⟨U, hU⟩ := hs; rw [hU] at ho
  cases ho
  cases hc
def fstC (L : List FC) (k : Int) : FC := (flC L k).headD ⟨Proto.Fld.zero, none, 0⟩
theorem fstC_f (L : List FC) (k : Int) : (fstC L k).f = fstF (L.map (·.f)) k := by
  unfold fstC fstF; rw [← flC_flt]
  cases flC L k <;> rfl
theorem fstC_ok {W : World} {L : List FC} (h : ∀ x ∈ L, x.Ok W) (k : Int) : (fstC L k).Ok W := by
  unfold fstC
  cases hf : flC L k with
  | nil => exact ⟨Rd.nil _ _, Nat.le_refl _, (show (0 : Nat) ≤ maxLen by decide), fun _ => rfl⟩
  | cons x l =>
    have : x ∈ flC L k := by rw [hf]; simp
    exact h x (List.mem_filter.1 this).1
theorem KpF.grown {a : Option Addr} {L : List FC} {Bn Bm : Nat} {A B : World} {r : Option Nat} (hg : A.grownBy B r) (hr : Rd A a (flat L) → Rd B a (flat L)) (hn : Bn < A.heap.size) (hm : Bm < A.heap.size) (h1 : some Bn ≠ r) (h2 : some Bm ≠ r) : KpF a L Bn Bm A B := ⟨hr, hg.block _ hn h1, hg.block _ hm h2⟩
theorem Rd.set_new {w W : World} {a : Option Addr} {vs : List Value} {B o : Nat} {u : Value} (h0 : Rd w a vs) (h : Rd W a vs) (hB : w.heap.size ≤ B) : Rd (W.setCell ⟨B, o, none⟩ u) a vs := by
  rcases h0 with he | ⟨b, off, rfl, hc⟩
  · exact .inl he
  · cases hv : vs with
    | nil => exact .inl rfl
    | cons v l =>
      rw [hv] at h hc; have hl := hc 0 v rfl; have hb : b < w.heap.size := by
        unfold World.cell? at hl; dsimp only at hl
        rcases hx : w.heap[b]? with _ | o
        · rw [hx] at hl; cases hl
        · exact (Array.getElem?_eq_some_iff.1 hx).1
      refine h.set_off (fun b' hb' e => ?_); simp at hb'; omega
end Go
namespace Go.Proofs.YtjggoajfilnfjaaGreat
open Go.RowKit
attribute [local go_sem] Oper.semAt_some
set_option maxHeartbeats 3200000 in
theorem mcount_any (a : Option Addr) (c : Nat) (L : List FC) (num : Int) (hlen : L.length ≤ 1000000) (w : World) (hr : Rd w a (flat L)) :
    Calls Tryz.prog 31 #[.slice a L.length c, .int .i64 num] w fun e w' => e = .returned (.int .i64 (flC L num).length) ∧ Below w.heap.size w w' := by
  refine (callsIn_wide (n := 5)).1 ?_; refine callsIn_of_wp_marks Tryz.func31 rfl trivial ?_ rfl; simp only [Tryz.ntmps31, List.size_toArray, List.length_cons, List.length_nil, Nat.reduceAdd, Nat.reduceSub, Array.replicate_succ, Array.replicate_zero, List.push_toArray, List.append_toArray, List.nil_append, List.cons_append]; refine wpIn_wide.2 ?_; have kN := Boxed.new w 3 (.int .i64 0); have hb0 := Below.new w (.cells #[.int .i64 0] 3); have c0 := kN.cell; have f0 := kN.frozen; have hlc : (flC L num).length ≤ L.length := List.length_filter_le _ _
  go_wp2_with fail
  refine (callsIn_wide.1 (only_in 5 a L.length c num _)).mono ?_; rintro e w4 ⟨rfl, rfl⟩
  go_wp2_with fail
  have k0 := (kN.alloc (.cells #[.slice a L.length c] 68)).alloc (.cells #[.int .i64 num] 3); have k1 := (Boxed.new (w.alloc (.cells #[.int .i64 0] 3)) 68 (.slice a L.length c)).alloc (.cells #[.int .i64 num] 3); have k2 := Boxed.new ((w.alloc (.cells #[.int .i64 0] 3)).alloc (.cells #[.slice a L.length c] 68)) 3 (.int .i64 num); have hB0 := (hb0.alloc (by simp) (.cells #[.slice a L.length c] 68)).alloc (by simp; omega) (.cells #[.int .i64 num] 3); have hsz : (((w.alloc (.cells #[.int .i64 0] 3)).alloc (.cells #[.slice a L.length c] 68)).alloc (.cells #[.int .i64 num] 3)).heap.size = w.heap.size + 1 + 1 + 1 := by simp
  simp only [World.size_alloc] at k1 k2; obtain ⟨W0, hW0⟩ : ∃ W, ((w.alloc (.cells #[.int .i64 0] 3)).alloc (.cells #[.slice a L.length c] 68)).alloc (.cells #[.int .i64 num] 3) = W := ⟨_, rfl⟩; rw [hW0] at k0 k1 k2 hB0 hsz ⊢; clear hW0 kN c0 f0 hb0; have hra := hr.keep hB0; refine (wpIn_wide (n := 5)).1 ?_; refine wpIn_rangeFunc_leave rfl (by decide) (gf := 62) (lb := #[.pointer (some ⟨w.heap.size + 1, 0, none⟩), .pointer (some ⟨w.heap.size + 1 + 1, 0, none⟩)]) rfl trivial (enters_of Tryz.func62 (by kernel_rfl) rfl)
    (only_leave (5 - 1) (w.heap.size + 1) (w.heap.size + 1 + 1) a c L num hlen W0 hra (0, 0) (0, 0) k1 k2) KpF.trans (fun W l o o' hl h1 h2 => KpF.putObj (w := W0) (by omega) (by omega) W l o o' hl h1 h2) (Below.refl _ _) (fun _ => rfl)
    (fun (pre : List FC) W => Boxed W w.heap.size 3 (.int .i64 (pre.length : Int)) ∧ W0.grownBy W (some w.heap.size))
    (fun _ _ _ => False)
    (OwnFrom.and (Own.from (boxed_own _ _ (fun (pre : List FC) => Value.int .i64 (pre.length : Int))) _) (ownFrom_grown _))
    (fun _ => ownFrom_pure _ _) (ownFrom_pure _ _)
    ⟨k0, World.grownBy.refl _ _⟩
    (fun (pre : List FC) (x : FC) a' W => (Boxed W w.heap.size 3 (.int .i64 (pre.length : Int)) ∧ W0.grownBy W (some w.heap.size)) ∧ pre ++ [x] <+: flC L num ∧ a' = { tmps := #[.slice a L.length c, .int .i64 num, undef, undef, .int .i64 0, .pointer (some ⟨w.heap.size, 0, none⟩), .slice a L.length c, .int .i64 num, .func (.func 62) #[] #[.pointer (some ⟨w.heap.size + 1, 0, none⟩), .pointer (some ⟨w.heap.size + 1 + 1, 0, none⟩)], x.val, undef, undef, undef], defers := [] })
    ?hM ?assign ?body ?done ?stop
  case hM =>
    rintro pre x a' _ X Y row ⟨⟨hE, hgx⟩, hx, rfl⟩ hg hrow; exact ⟨⟨boxed_own _ _ (fun (_ : Unit) => _) () X Y row hE hg (fun r e => (hrow r e).2), grown_step hgx hg (fun k e => .inl (hrow k e).1)⟩, hx, rfl⟩
  case assign =>
    rintro l' pre x W hI hx
    gi_wp2
    exact ⟨KeepsOthers.refl _, ⟨fun h => h, rfl, rfl⟩, hI, hx, by simp⟩
  case body =>
    rintro l' pre x a' W ⟨⟨b0, hgx⟩, hpx, rfl⟩; have hpl : (pre.length : Int) + 1 ≤ 1000000 := by
      have h := hpx.length_le; rw [List.length_append, List.length_singleton] at h; omega
    have c0 := b0.cell; have f0 := b0.frozen; have hszW := hgx.size; have HB := Lib.hid (b0.set (.int .i64 ((pre.length : Int) + 1)))
    gi_wp2
    refine ⟨KeepsOthers.setCell _ _ _, ⟨fun h => hr.set_new h (Nat.le_refl _), Below.heap_setCell _ _ _ _ (by simp), Below.heap_setCell _ _ _ _ (by simp; omega)⟩, ?_, grown_step hgx (grownBy_setCell' W w.heap.size _) (fun k e => .inr (Option.some.inj e).symm)⟩; rw [List.length_append]; exact HB.out
  case done =>
    rintro D xs W hD rfl ⟨b0, hgx⟩ hK; have c0 := b0.cell; have hbW := hB0.grown hgx (by omega) (fun k e => by have := Option.some.inj e; omega); go_wp2; refine ⟨by simp, .inl ⟨_, _, rfl, run_takeDeferred hK, ?_⟩⟩; exact ⟨.int .i64 ((flC L num).length : Int), by simp [results, Tryz.results31, go_sem], rfl, hbW.trans (putObj_belowM _ W D _ (by omega))⟩
  case stop =>
    rintro D cc pre W hD hF hK; exact hF.elim
set_option maxHeartbeats 3200000 in
theorem mfirst_any (a : Option Addr) (c : Nat) (L : List FC) (num : Int) (hlen : L.length ≤ 1000000) (w : World) (hr : Rd w a (flat L)) :
    Calls Tryz.prog 66 #[.slice a L.length c, .int .i64 num] w fun e w' => e = .returned (fstC L num).val ∧ Below w.heap.size w w' := by
  refine (callsIn_wide (n := 5)).1 ?_; refine callsIn_of_wp_marks Tryz.func66 rfl trivial ?_ rfl; simp only [Tryz.ntmps66, List.size_toArray, List.length_cons, List.length_nil, Nat.reduceAdd, Nat.reduceSub, Array.replicate_succ, Array.replicate_zero, List.push_toArray, List.append_toArray, List.nil_append, List.cons_append]; refine wpIn_wide.2 ?_; have hz : (Tryz.prog.info? 72).map (fun i => i.zero) = some (some (.agg #[.int .i64 0, .int .i64 0, .int .u64 0, .slice none 0 0])) := by kernel_rfl
  have kR := Blk.new w [.int .i64 0, .int .i64 0, .int .u64 0, .slice none 0 0] 72; have hb0 := Below.new w (.cells #[.int .i64 0, .int .i64 0, .int .u64 0, .slice none 0 0] 72)
  go_wp2_with fail
  refine (callsIn_wide.1 (only_in 5 a L.length c num _)).mono ?_; rintro e w4 ⟨rfl, rfl⟩
  go_wp2_with fail
  have k0 := (kR.alloc (.cells #[.slice a L.length c] 68)).alloc (.cells #[.int .i64 num] 3); have k1 := (Boxed.new (w.alloc (.cells #[.int .i64 0, .int .i64 0, .int .u64 0, .slice none 0 0] 72)) 68 (.slice a L.length c)).alloc (.cells #[.int .i64 num] 3); have k2 := Boxed.new ((w.alloc (.cells #[.int .i64 0, .int .i64 0, .int .u64 0, .slice none 0 0] 72)).alloc (.cells #[.slice a L.length c] 68)) 3 (.int .i64 num); have hB0 := (hb0.alloc (by simp) (.cells #[.slice a L.length c] 68)).alloc (by simp; omega) (.cells #[.int .i64 num] 3); have hsz : (((w.alloc (.cells #[.int .i64 0, .int .i64 0, .int .u64 0, .slice none 0 0] 72)).alloc (.cells #[.slice a L.length c] 68)).alloc (.cells #[.int .i64 num] 3)).heap.size = w.heap.size + 1 + 1 + 1 := by simp
  simp only [World.size_alloc] at k1 k2; obtain ⟨W0, hW0⟩ : ∃ W, ((w.alloc (.cells #[.int .i64 0, .int .i64 0, .int .u64 0, .slice none 0 0] 72)).alloc (.cells #[.slice a L.length c] 68)).alloc (.cells #[.int .i64 num] 3) = W := ⟨_, rfl⟩; rw [hW0] at k0 k1 k2 hB0 hsz ⊢; clear hW0 kR hb0; have hra := hr.keep hB0; refine (wpIn_wide (n := 5)).1 ?_; refine wpIn_rangeFunc_leave rfl (by decide) (gf := 62) (lb := #[.pointer (some ⟨w.heap.size + 1, 0, none⟩), .pointer (some ⟨w.heap.size + 1 + 1, 0, none⟩)]) rfl trivial (enters_of Tryz.func62 (by kernel_rfl) rfl)
    (only_leave (5 - 1) (w.heap.size + 1) (w.heap.size + 1 + 1) a c L num hlen W0 hra (0, 0) (0, 0) k1 k2) KpF.trans (fun W l o o' hl h1 h2 => KpF.putObj (w := W0) (by omega) (by omega) W l o o' hl h1 h2) (Below.refl _ _) (fun _ => rfl)
    (fun (pre : List FC) W => pre = [] ∧ Below W0.heap.size W0 W)
    (fun cc (pre : List FC) W => (cc = Code.ret ∧ pre <+: flC L num ∧ pre.length = 1) ∧ Blk W w.heap.size (pre.headD ⟨Proto.Fld.zero, none, 0⟩).cells ∧ Below w.heap.size w W)
    (OwnFrom.and (ownFrom_pure _ _) (ownFrom_below (Nat.le_refl _) (Nat.le_refl _)))
    (fun cc => OwnFrom.and (ownFrom_pure _ (fun pre => cc = Code.ret ∧ pre <+: flC L num ∧ pre.length = 1)) (OwnFrom.and (blk_ownF _ _ (fun (pre : List FC) => (pre.headD ⟨Proto.Fld.zero, none, 0⟩).cells)) (ownFrom_below (Nat.le_refl _) (by omega)))) (ownFrom_pure _ _)
    ⟨rfl, Below.refl _ _⟩
    (fun (pre : List FC) (x : FC) a' W => (pre = [] ∧ Below W0.heap.size W0 W) ∧ pre ++ [x] <+: flC L num ∧ ∃ Bv, W0.heap.size ≤ Bv ∧ Blk W Bv x.cells ∧ a' = { tmps := #[.slice a L.length c, .int .i64 num, undef, undef, .pointer (some ⟨w.heap.size, 0, none⟩), .pointer (some ⟨Bv, 0, none⟩), .slice a L.length c, .int .i64 num, .func (.func 62) #[] #[.pointer (some ⟨w.heap.size + 1, 0, none⟩), .pointer (some ⟨w.heap.size + 1 + 1, 0, none⟩)], x.val, undef, undef], defers := [] })
    ?hM ?assign ?body ?done ?stop
  case hM =>
    rintro pre x a' _ X Y row ⟨⟨hp, hgx⟩, hx, Bv, hBv, bV, rfl⟩ hg hrow; exact ⟨⟨hp, ownFrom_below (β := Unit) (Nat.le_refl _) (Nat.le_refl _) () X Y row hgx hg hrow⟩, hx, Bv, hBv, blk_ownF (β := Unit) W0.heap.size Bv (fun _ => x.cells) () X Y row bV hg hrow, rfl⟩
  case assign =>
    rintro l' pre ⟨⟨fn, fk, fv, fb⟩, fp, fc⟩ W hI hx; dsimp only [FC.val]; have hs := hI.2.size; have HI := Lib.hid hI; clear hI
    gi_wp2
    exact ⟨KeepsOthers.alloc _ _, KpF.below (Below.new _ _) (by omega) (by omega), ⟨HI.out.1, HI.out.2.alloc hs _⟩, hx, W.heap.size, hs, Blk.new W [.int .i64 fn, .int .i64 fk, .int .u64 fv, .slice fp fb.length fc] 72, rfl⟩
  case body =>
    rintro l' pre ⟨⟨fn, fk, fv, fb⟩, fp, fc⟩ a' W ⟨⟨rfl, hgx⟩, hpx, Bv, hBv, bV, rfl⟩; have kR := k0.keep hgx; dsimp only [FC.cells, FC.val] at bV ⊢; have v0 := bV.cell 0 rfl; have v1 := bV.cell 1 rfl; have v2 := bV.cell 2 rfl; have v3 := bV.cell 3 rfl; have r0 := kR.cell 0 rfl; have r1 := kR.cell 1 rfl; have r2 := kR.cell 2 rfl; have r3 := kR.cell 3 rfl; have g0 := kR.free 0; have g1 := kR.free 1; have g2 := kR.free 2; have g3 := kR.free 3; have kS := ((((kR.set 0 (.int .i64 fn)).set 1 (.int .i64 fk)).set 2 (.int .u64 fv)).set 3 (.slice fp fb.length fc)); have hbS : Below w.heap.size w ((((W.setCell ⟨w.heap.size, 0, none⟩ (.int .i64 fn)).setCell ⟨w.heap.size, 1, none⟩ (.int .i64 fk)).setCell ⟨w.heap.size, 2, none⟩ (.int .u64 fv)).setCell ⟨w.heap.size, 3, none⟩ (.slice fp fb.length fc)) :=
      ((((hB0.trans (hgx.mono (by omega))).set_at (Nat.le_refl _) _).set_at (Nat.le_refl _) _).set_at (Nat.le_refl _) _).set_at (Nat.le_refl _) _
    gi_wp2
    exact ⟨(((KeepsOthers.setCell _ _ _).trans (KeepsOthers.setCell _ _ _)).trans (KeepsOthers.setCell _ _ _)).trans (KeepsOthers.setCell _ _ _), ⟨rfl, hpx, rfl⟩, kS, hbS⟩
  case done =>
    rintro D xs W hD rfl ⟨hp, hgx⟩ hK; have kR := k0.keep hgx; have r0 := kR.cell 0 rfl; have r1 := kR.cell 1 rfl; have r2 := kR.cell 2 rfl; have r3 := kR.cell 3 rfl; have g0 := kR.free 0; have g1 := kR.free 1; have g2 := kR.free 2; have g3 := kR.free 3; have hE : fstC L num = ⟨Proto.Fld.zero, none, 0⟩ := by unfold fstC; rw [hp]; rfl
    have HE := Lib.hid hE; have kS := ((((kR.set 0 (.int .i64 0)).set 1 (.int .i64 0)).set 2 (.int .u64 0)).set 3 (.slice none 0 0)); have hbS : Below w.heap.size w ((((W.setCell ⟨w.heap.size, 0, none⟩ (.int .i64 0)).setCell ⟨w.heap.size, 1, none⟩ (.int .i64 0)).setCell ⟨w.heap.size, 2, none⟩ (.int .u64 0)).setCell ⟨w.heap.size, 3, none⟩ (.slice none 0 0)) :=
      ((((hB0.trans (hgx.mono (by omega))).set_at (Nat.le_refl _) _).set_at (Nat.le_refl _) _).set_at (Nat.le_refl _) _).set_at (Nat.le_refl _) _
    have hKS : ((((W.setCell ⟨w.heap.size, 0, none⟩ (.int .i64 0)).setCell ⟨w.heap.size, 1, none⟩ (.int .i64 0)).setCell ⟨w.heap.size, 2, none⟩ (.int .u64 0)).setCell ⟨w.heap.size, 3, none⟩ (.slice none 0 0)).heap[D]? = some (.deferred (some [])) := by
      rw [Below.heap_setCell _ _ _ _ (by simp; omega), Below.heap_setCell _ _ _ _ (by simp; omega), Below.heap_setCell _ _ _ _ (by simp; omega), Below.heap_setCell _ _ _ _ (by simp; omega)]; exact hK
    clear hE hp; go_wp2; clear r0 r1 r2 r3 g0 g1 g2 g3; generalize (((W.setCell ⟨w.heap.size, 0, none⟩ (.int .i64 0)).setCell ⟨w.heap.size, 1, none⟩ (.int .i64 0)).setCell ⟨w.heap.size, 2, none⟩ (.int .u64 0)).setCell ⟨w.heap.size, 3, none⟩ (.slice none 0 0) = WF at *; refine ⟨by simp, .inl ⟨_, _, rfl, run_takeDeferred hKS, ?_⟩⟩; have kT := kS.grown (grownBy_putObj' WF D (.deferred none)) (fun e => by have := Option.some.inj e; omega); have r0 := kT.cell 0 rfl; have r1 := kT.cell 1 rfl; have r2 := kT.cell 2 rfl; have r3 := kT.cell 3 rfl; exact ⟨.agg #[.int .i64 0, .int .i64 0, .int .u64 0, .slice none 0 0], by simp [results, Tryz.results66, go_sem, r0, r1, r2, r3], by rw [HE.out]; rfl, hbS.trans (putObj_belowM _ WF D _ (by omega))⟩
  case stop =>
    rintro D cc pre W hD ⟨⟨rfl, h1, h2⟩, h3, h4⟩ hK; have hE : fstC L num = pre.headD ⟨Proto.Fld.zero, none, 0⟩ := by
      obtain ⟨t, ht⟩ := h1; unfold fstC; rw [← ht]
      cases pre with
      | nil => simp at h2
      | cons x l => rfl
    have HE := Lib.hid hE; generalize pre.headD ⟨Proto.Fld.zero, none, 0⟩ = x at *; obtain ⟨⟨fn, fk, fv, fb⟩, fp, fc⟩ := x; dsimp only [FC.cells, FC.val] at *; clear hE h1 h2
    gi_wp2
    refine ⟨by simp, .inl ⟨_, _, rfl, run_takeDeferred hK, ?_⟩⟩; have kT := h3.grown (grownBy_putObj' W D (.deferred none)) (fun e => by have := Option.some.inj e; omega); have r0 := kT.cell 0 rfl; have r1 := kT.cell 1 rfl; have r2 := kT.cell 2 rfl; have r3 := kT.cell 3 rfl; exact ⟨.agg #[.int .i64 fn, .int .i64 fk, .int .u64 fv, .slice fp fb.length fc], by simp [results, Tryz.results66, go_sem, r0, r1, r2, r3], by rw [HE.out]; rfl, h4.trans (putObj_belowM _ W D _ (by omega))⟩
end Go.Proofs.YtjggoajfilnfjaaGreat
/- A range over mvt.only whose body appends to a slice that lies in a block. -/
set_option linter.unusedVariables false
set_option linter.unusedSimpArgs false
namespace Go
open Go.RowKit
theorem prefix_at {α : Type} {l pre : List α} {x : α} (h : pre ++ [x] <+: l) : l[pre.length]? = some x := by
  obtain ⟨t, rfl⟩ := h; simp
def BxI (W0 : World) (T : Nat) (e : TypeId) (size : Nat) (mk : Value → List Value) (xs : List FC → List Value) (pre : List FC) (W : World) : Prop :=
  ∃ v, Blk W T (mk v) ∧ W.ownsRow W0.heap.size e size v pre.length (xs pre) ∧ W0.grownBy W (some T)
theorem BxI.own {W0 : World} {T : Nat} {e : TypeId} {size : Nat} {mk : Value → List Value} {xs : List FC → List Value} : OwnFrom W0.heap.size (BxI W0 T e size mk xs) := by
  intro pre X Y row hs hg hr; obtain ⟨v, h1, h2, h3⟩ := hs; refine ⟨v, blk_ownF (β := Unit) W0.heap.size T (fun _ => mk v) () X Y row h1 hg hr, h2.kept hg ?_, grown_step h3 hg (fun k e => .inl (hr k e).1)⟩
  rcases h2.2 with ⟨rfl, _⟩ | ⟨g, cap, cur, rfl, _, hgb, _⟩
  · exact .inl rfl
  · refine .inr fun e' => ?_; obtain ⟨o, ho, hc⟩ := (hr g (by simpa [Value.ownBlock] using e'.symm)).2; rw [hgb] at ho
    cases ho
    cases hc
theorem BxI.step {W0 W w3 : World} {T i : Nat} {e : TypeId} {size : Nat} {vs : List Value} {v v' : Value} {m k : Nat} {xs ys : List Value} {tmp : Obj}
    (hv : Blk W T vs) (hrow : W.ownsRow W0.heap.size e size v k xs) (hg0 : W0.grownBy W (some T)) (hT : T < W0.heap.size)
    (hown' : w3.ownsRow W0.heap.size e size v' m ys) (hgrow : (W.alloc tmp).grownBy w3 v.ownBlock) :
    Blk w3 T vs ∧ Blk (w3.setCell ⟨T, i, none⟩ v') T (vs.set i v') ∧ (w3.setCell ⟨T, i, none⟩ v').ownsRow W0.heap.size e size v' m ys ∧ KeepsOthers W (w3.setCell ⟨T, i, none⟩ v') ∧ W0.grownBy (w3.setCell ⟨T, i, none⟩ v') (some T) := by
  have h1 : Blk w3 T vs := (hv.alloc tmp).grown hgrow (hrow.ne hT); refine ⟨h1, h1.set i v', hown'.set_lt hT v', ?_, ?_⟩
  · exact ((KeepsOthers.alloc W tmp).trans (KeepsOthers.of_row (hrow.alloc tmp) hgrow)).trans (KeepsOthers.setCell _ _ _)
  · refine grown_step (grown_step (grown_step hg0 (World.grownBy_alloc W tmp none) (fun k h => by cases h)) hgrow (fun k h => .inl (hrow.lt k h).1)) (grown_set w3 T i v') (fun k h => by cases h; exact .inr rfl)
theorem KpF.of_grown {a : Option Addr} {L : List FC} {Bn Bm T : Nat} {W0 A B : World} (hA : W0.grownBy A (some T)) (hB : W0.grownBy B (some T)) (hr : Rd B a (flat L)) (hn : Bn < W0.heap.size) (hm : Bm < W0.heap.size) (h1 : Bn ≠ T) (h2 : Bm ≠ T) : KpF a L Bn Bm A B :=
  ⟨fun _ => hr, (hB.block Bn hn (fun e => h1 (Option.some.inj e))).trans (hA.block Bn hn (fun e => h1 (Option.some.inj e))).symm, (hB.block Bm hm (fun e => h2 (Option.some.inj e))).trans (hA.block Bm hm (fun e => h2 (Option.some.inj e))).symm⟩
end Go
/- A map that the call makes, told by what stands at each key, as raw values, and by how many keys there are: keys are whatever 'key' turns into values. -/
set_option linter.unusedVariables false
set_option linter.unusedSimpArgs false
namespace Go
open Go.RowKit Go.ChangeMaps Go.MapKept Go.WideShapes
open Go.WideElems (Fit rd rg pl rd_val elemAt findIdx_born findIdx_arr modify_last set_self)
open Go.Maps (Keyed IsMap Tidy)

def rawElem (v : Value) : Option (DataW Value × List MemPlace) := some (.held v, [])

def VMap {α : Type} (P : Program) (K : TypeId) (key : α → Value) (w : World) (b : Nat) (f : α → Option Value) (m n : Nat) : Prop :=
  ∃ D : DataW Value, w.ownsMap P K rawElem b n D ∧ Maps.size D = m ∧ ∀ a l, keyOf P K (key a) = some l → Maps.has D l = (f a).isSome ∧ ∀ z, D.atKey l z = match f a with | some v => .held v | none => z

section
variable {α : Type} {P : Program} {K E T : TypeId} {key : α → Value} {w w' : World} {b m n : Nat} {f : α → Option Value}

theorem VMap.made (P : Program) (K : TypeId) (key : α → Value) (w : World) : VMap P K key (w.alloc (.map #[] 0)) w.heap.size (fun _ => none) 0 0 :=
  ⟨.map [], World.ownsMap_made w P K _, rfl, fun a l _ => ⟨rfl, fun z => rfl⟩⟩

theorem VMap.madeB (P : Program) (K : TypeId) (key : α → Value) (w : World) (B : Nat) (hB : w.heap.size = B) : VMap P K key (w.alloc (.map #[] 0)) B (fun _ => none) 0 0 := by
  subst hB; exact VMap.made P K key w

theorem VMap.lt (h : VMap P K key w b f m n) : b < w.heap.size := by
  obtain ⟨D, hD, _⟩ := h; exact hD.lt

theorem VMap.same (h : VMap P K key w b f m n) (hb : w'.heap[b]? = w.heap[b]?) : VMap P K key w' b f m n := by
  obtain ⟨D, ⟨es, clock, he, r⟩, hs, hk⟩ := h; exact ⟨D, ⟨es, clock, hb.trans he, r⟩, hs, hk⟩

theorem VMap.below {B : Nat} (h : VMap P K key w b f m n) (hb : Below B w w') (hB : b < B) : VMap P K key w' b f m n := h.same (hb.block b hB)
theorem VMap.keep (h : VMap P K key w b f m n) (hb : Below w.heap.size w w') : VMap P K key w' b f m n := h.below hb h.lt
theorem VMap.kept {row : Option Nat} (h : VMap P K key w b f m n) (hg : w.grownBy w' row) (hne : some b ≠ row) : VMap P K key w' b f m n := h.same (hg.block b h.lt hne)
theorem VMap.alloc (h : VMap P K key w b f m n) (o : Obj) : VMap P K key (w.alloc o) b f m n := h.kept (World.grownBy_alloc w o none) (by simp)
theorem VMap.mono (h : VMap P K key w b f m n) {n' : Nat} (hn : n ≤ n') : VMap P K key w b f m n' := by
  obtain ⟨D, hD, r⟩ := h; exact ⟨D, hD.mono hn, r⟩
theorem VMap.le (h : VMap P K key w b f m n) : m ≤ n := by
  obtain ⟨D, hD, rfl, _⟩ := h; exact hD.size_le
theorem VMap.congr (h : VMap P K key w b f m n) {f' : α → Option Value} (hf : ∀ a, f' a = f a) : VMap P K key w b f' m n := by
  have : f' = f := funext hf; rw [this]; exact h

theorem VMap.look (h : VMap P K key w b f m n) (KK : Keyed P K) (ht : P.underlying T = some (.map K E)) {z : Value} (hz : (zeroValue E).run P w = .ok z w) {a : α} (hk : ∃ l, keyOf P K (key a) = some l) :
    (Instr.lookup T (.map (some b)) (key a) false).run P w = .ok ((f a).getD z) w := by
  obtain ⟨D, hD, _, hf⟩ := h; obtain ⟨l, hl⟩ := hk; obtain ⟨v, ps, hrun, hv⟩ := hD.lookup KK ht hz (zd := .held z) (zp := []) rfl hl; rw [hrun]; rw [(hf a l hl).2] at hv; simp only [rawElem, Option.some.injEq, Prod.mk.injEq] at hv
  cases hfa : f a with
  | none => rw [hfa] at hv; simp at hv; simp [hv.1]
  | some u => rw [hfa] at hv; simp at hv; simp [hv.1]

theorem VMap.look_ok (h : VMap P K key w b f m n) (KK : Keyed P K) (ht : P.underlying T = some (.map K E)) {z : Value} (hz : (zeroValue E).run P w = .ok z w) {a : α} (hk : ∃ l, keyOf P K (key a) = some l) :
    (Instr.lookup T (.map (some b)) (key a) true).run P w = .ok (.tuple #[(f a).getD z, .bool (f a).isSome]) w := by
  obtain ⟨D, hD, _, hf⟩ := h; obtain ⟨l, hl⟩ := hk; obtain ⟨v, ps, hrun, hv⟩ := hD.look_ok KK ht hz (zd := .held z) (zp := []) rfl hl; rw [hrun]; rw [(hf a l hl).2] at hv; rw [(hf a l hl).1]; simp only [rawElem, Option.some.injEq, Prod.mk.injEq] at hv
  cases hfa : f a with
  | none => rw [hfa] at hv; simp at hv; simp [hv.1]
  | some u => rw [hfa] at hv; simp at hv; simp [hv.1]

open Classical in
noncomputable def fput (f : α → Option Value) (a : α) (v : Value) : α → Option Value := fun x => if x = a then some v else f x
open Classical in
noncomputable def fdel (f : α → Option Value) (a : α) : α → Option Value := fun x => if x = a then none else f x
@[simp] theorem fput_same (f : α → Option Value) (a : α) (v : Value) : fput f a v a = some v := by simp [fput]
theorem fput_other (f : α → Option Value) {a x : α} (v : Value) (h : x ≠ a) : fput f a v x = f x := by simp [fput, h]
@[simp] theorem fdel_same (f : α → Option Value) (a : α) : fdel f a a = none := by simp [fdel]
theorem fdel_other (f : α → Option Value) {a x : α} (h : x ≠ a) : fdel f a x = f x := by simp [fdel, h]

theorem VMap.of_put {D : DataW Value} (KK : Keyed P K) (inj : ∀ x y, key x = key y → x = y) (hD : w.ownsMap P K rawElem b n D) (hs : Maps.size D = m) (hf : ∀ a l, keyOf P K (key a) = some l → Maps.has D l = (f a).isSome ∧ ∀ z, D.atKey l z = match f a with | some v => .held v | none => z)
    {a : α} {l : Lit} (hl : keyOf P K (key a) = some l) (v : Value) (ho : w'.ownsMap P K rawElem b (n + 1) (D.put l (.held v))) :
    VMap P K key w' b (fput f a v) (if (f a).isSome then m else m + 1) (n + 1) := by
  have ti := hD.tidy KK; refine ⟨_, ho, ?_, fun x lx hx => ?_⟩
  · rw [Maps.size_put ti, (hf a l hl).1, hs]
  · by_cases e : x = a
    · subst e; rw [hl] at hx; cases hx; rw [fput_same]; exact ⟨Maps.has_put_same ti.isMap (KK.key hl) _, fun z => Maps.atKey_put_same ti.isMap (KK.key hl) _ _⟩
    · have hne : lx ≠ l := fun e2 => e (inj _ _ (KK.inj hx (e2 ▸ hl))); rw [fput_other f v e]; refine ⟨?_, fun z => ?_⟩
      · rw [Maps.has_put_other hne]; exact (hf x lx hx).1
      · rw [Maps.atKey_put_other hne]; exact (hf x lx hx).2 z

theorem VMap.put (h : VMap P K key w b f m n) (KK : Keyed P K) (inj : ∀ x y, key x = key y → x = y) (ht : P.underlying T = some (.map K E)) (hn : n < maxLen) {a : α} (hk : ∃ l, keyOf P K (key a) = some l) (v : Value) :
    ∃ w', (Instr.mapUpdate T (.map (some b)) (key a) v).run P w = .ok () w' ∧ VMap P K key w' b (fput f a v) (if (f a).isSome then m else m + 1) (n + 1) ∧ w.grownBy w' (some b) := by
  obtain ⟨D, hD, hs, hf⟩ := h; obtain ⟨l, hl⟩ := hk; obtain ⟨w', hrun, ho, hg⟩ := hD.update KK ht hn (d := .held v) (ps := []) hl rfl; exact ⟨w', hrun, VMap.of_put KK inj hD hs hf hl v ho, hg⟩

theorem VMap.drop (h : VMap P K key w b f m n) (KK : Keyed P K) (inj : ∀ x y, key x = key y → x = y) (ht : P.underlying T = some (.map K E)) {a : α} (hk : ∃ l, keyOf P K (key a) = some l) (ty : TypeId) :
    ∃ w', (Builtin.delete_ #[T, K] ty #[.map (some b), key a]).run P w = .ok (.tuple #[]) w' ∧ VMap P K key w' b (fdel f a) (if (f a).isSome then m - 1 else m) n ∧ w.grownBy w' (some b) := by
  obtain ⟨D, hD, hs, hf⟩ := h; obtain ⟨l, hl⟩ := hk; obtain ⟨w', hrun, ho, hg⟩ := hD.drop KK ht hl ty; have ti := hD.tidy KK; refine ⟨w', hrun, ⟨_, ho, ?_, fun x lx hx => ?_⟩, hg.grown⟩
  · have := Maps.size_del (k := l) ti; rw [(hf a l hl).1, hs] at this
    split at this <;> simp_all <;> omega
  · by_cases e : x = a
    · subst e; rw [hl] at hx; cases hx; rw [fdel_same]; exact ⟨Maps.has_del_same, fun z => Maps.atKey_del_same z⟩
    · have hne : lx ≠ l := fun e2 => e (inj _ _ (KK.inj hx (e2 ▸ hl))); rw [fdel_other f e]; refine ⟨?_, fun z => ?_⟩
      · rw [Maps.has_del_other hne]; exact (hf x lx hx).1
      · rw [Maps.atKey_del_other hne]; exact (hf x lx hx).2 z

theorem entry_then_store' {R : Value → Option (DataW Value × List MemPlace)} {es : Array MapEntry} {clock : Nat} (KK : Keyed P K) (ht : P.underlying T = some (.map K E)) {z : Value} (hz : ∀ u : World, (zeroValue E).run P u = .ok z u) (hb : w.heap[b]? = some (.map es clock)) (F : Fit P K R es clock)
    {k : Value} {kl : Lit} (hkey : keyOf P K k = some kl) :
    ∃ (v0 : Value) (st : Nat) (es1 : Array MapEntry) (clock1 : Nat), (Instr.mapEntry T (.map (some b)) k).run P w = .ok (.tuple #[v0, .int .i64 st]) (setBlock w b (.map es1 clock1)) ∧
      (Instr.lookup T (.map (some b)) k false).run P w = .ok v0 w ∧
      ∀ (w2 : World) (val : Value), w2.heap[b]? = some (.map es1 clock1) → ∃ es' clock', (Instr.entryStore T (.map (some b)) (.int .i64 st) val).run P w2 = .ok () (setBlock w2 b (.map es' clock')) ∧
        (Instr.mapUpdate T (.map (some b)) k val).run P w = .ok () (setBlock w b (.map es' clock')) := by
  obtain ⟨s1, s2, _⟩ := F.stamped
  rcases KK.find w hkey es.toList F.keys with ⟨h1, h2⟩ | ⟨j, e0, h1, h2, h3⟩
  · refine ⟨z, clock, es.push ⟨k, z, clock⟩, clock + 1, ?_, ?_, fun w2 val hw2 => ⟨es.push ⟨k, val, clock⟩, clock + 1, ?_, ?_⟩⟩
    · simp [Instr.mapEntry, run_underlying ht, MapKept.run_getObj_map hb, KK.check w false hkey, h1, hz, MapKept.run_setObj_map _ hb, Result.andThen, setBlock, goInt]
    · simp [Instr.lookup, run_underlying ht, MapKept.run_getObj_map hb, KK.check w _ hkey, h1, hz, Result.andThen]
    · have hidx : (es.push ⟨k, z, clock⟩).findIdx? (fun e => ((e.born : Nat) : Int) == ((clock : Nat) : Int)) = some es.size := by
        rw [findIdx_arr]; have := findIdx_born (l := (es.push ⟨k, z, clock⟩).toList) (j := es.size) (e0 := ⟨k, z, clock⟩) (by
          simp only [Array.toList_push, List.map_append, List.map_cons, List.map_nil]; refine List.nodup_append.2 ⟨s2, by simp, fun a ha c hc e1 => ?_⟩; simp only [List.mem_singleton] at hc; obtain ⟨x, hx, rfl⟩ := List.mem_map.1 ha; have := s1 x hx; omega) (by simp)
        exact this
      have hmod : (es.push ⟨k, z, clock⟩).modify es.size (fun e => { e with val := val }) = es.push ⟨k, val, clock⟩ := by
        apply Array.ext'; rw [Array.toList_modify, Array.toList_push, Array.toList_push, ← Array.length_toList, modify_last]
      simp [Instr.entryStore, MapKept.run_getObj_map hw2, asInt, asIntOf, goInt, hidx, hmod, MapKept.run_setObj_map _ hw2, Result.andThen, setBlock]
    · simp [Instr.mapUpdate, run_underlying ht, MapKept.run_getObj_map hb, KK.check w false hkey, h1, MapKept.run_setObj_map _ hb, Result.andThen, setBlock]
  · have hj : es[j]? = some e0 := by simpa using h2
    have hsame : es.modify j (fun e => { e with key := k }) = es := by
      apply Array.ext'; rw [Array.toList_modify, modify_eq_set _ _ _ _ h2]; have : ({ e0 with key := k } : MapEntry) = e0 := by rw [← h3]
      rw [this]; exact set_self _ _ _ h2
    refine ⟨e0.val, e0.born, es, clock, ?_, ?_, fun w2 val hw2 => ⟨es.modify j (fun e' => { e' with key := k, val := val }), clock, ?_, ?_⟩⟩
    · simp [Instr.mapEntry, run_underlying ht, MapKept.run_getObj_map hb, KK.check w false hkey, h1, hj, h3, KK.stays w hkey, hsame, MapKept.run_setObj_map _ hb, Result.andThen, setBlock, goInt]
    · simp [Instr.lookup, run_underlying ht, MapKept.run_getObj_map hb, KK.check w _ hkey, h1, Result.andThen]
    · have hidx : es.findIdx? (fun e => ((e.born : Nat) : Int) == ((e0.born : Nat) : Int)) = some j := by
        rw [findIdx_arr]; exact findIdx_born s2 h2
      have hmod : es.modify j (fun e => { e with val := val }) = es.modify j (fun e' => { e' with key := k, val := val }) := by
        apply Array.ext'; rw [Array.toList_modify, Array.toList_modify, modify_eq_set _ _ _ _ h2, modify_eq_set _ _ _ _ h2, ← h3]
      simp [Instr.entryStore, MapKept.run_getObj_map hw2, asInt, asIntOf, goInt, hidx, hmod, MapKept.run_setObj_map _ hw2, Result.andThen, setBlock]
    · simp [Instr.mapUpdate, run_underlying ht, MapKept.run_getObj_map hb, KK.check w false hkey, h1, hj, h3, KK.stays w hkey, MapKept.run_setObj_map _ hb, Result.andThen, setBlock]

theorem grownBy_setBlock {es : Array MapEntry} {clock : Nat} {o' : Obj} (hb : w.heap[b]? = some (.map es clock)) : w.grownBy (setBlock w b o') (some b) :=
  ⟨rfl, rfl, rfl, by simp [setBlock], fun i _ hi => heap_setBlock_other hb _ (fun e => hi (by rw [e]))⟩

theorem VMap.entry (h : VMap P K key w b f m n) (KK : Keyed P K) (inj : ∀ x y, key x = key y → x = y) (ht : P.underlying T = some (.map K E)) (hn : n < maxLen) {z : Value} (hz : ∀ u : World, (zeroValue E).run P u = .ok z u) {a : α} (hk : ∃ l, keyOf P K (key a) = some l) :
    ∃ (st : Nat) (o : Obj), (Instr.mapEntry T (.map (some b)) (key a)).run P w = .ok (.tuple #[(f a).getD z, .int .i64 st]) (setBlock w b o) ∧ (setBlock w b o).heap[b]? = some o ∧ w.grownBy (setBlock w b o) (some b) ∧
      ∀ (w2 : World) (v : Value), w2.heap[b]? = some o → ∃ w3, (Instr.entryStore T (.map (some b)) (.int .i64 st) v).run P w2 = .ok () w3 ∧ VMap P K key w3 b (fput f a v) (if (f a).isSome then m else m + 1) (n + 1) ∧ w2.grownBy w3 (some b) := by
  have hlook := h.look KK ht (hz w) hk; obtain ⟨D, hD, hs, hf⟩ := h; obtain ⟨l, hl⟩ := hk; have hup := fun v => hD.update (t := T) KK ht hn (d := .held v) (ps := []) hl rfl; obtain ⟨es, clock, hb, F, hsz, hDe⟩ := id hD; obtain ⟨v0, st, es1, clock1, h1, h2, h3⟩ := entry_then_store' KK ht hz hb F hl; rw [hlook] at h2
  cases h2
  refine ⟨st, _, h1, heap_setBlock_same hb _, grownBy_setBlock hb, fun w2 v hw2 => ?_⟩; obtain ⟨es', clock', g1, g2⟩ := h3 w2 v hw2; obtain ⟨w', k1, k2, k3⟩ := hup v; rw [g2] at k1
  cases k1
  refine ⟨_, g1, VMap.of_put (w' := setBlock w2 b (.map es' clock')) KK inj hD hs hf hl v ?_, grownBy_setBlock hw2⟩; obtain ⟨es2, clock2, e1, r⟩ := k2; rw [heap_setBlock_same hb _] at e1
  cases e1
  exact ⟨es', clock', heap_setBlock_same hw2 _, r⟩

theorem VMap.len (h : VMap P K key w b f m n) (ht : P.underlying T = some (.map K E)) (ty : TypeId) : (Builtin.len_ #[T] ty #[.map (some b)]).run P w = .ok (.int .i64 m) w := by
  obtain ⟨D, hD, rfl, hf⟩ := h; exact hD.len ht ty
end

section
variable {α : Type} {P : Program} {K E T : TypeId} {key : α → Value} {b m n : Nat} {f : α → Option Value} (w : World) {ops : Array Oper} {rest : List Oper} {o : Oper} {a : Act} {Q : Exit → Act → World → Prop}

theorem wpList_vmap_put (hg : o.guard = none) (mm x v : Operand) (hop : o.op = Op.mapUpdate T mm x v) (KK : Keyed P K) (inj : ∀ x y, key x = key y → x = y) (ht : P.underlying T = some (.map K E))
    (hm : a.eval mm = .map (some b)) (h : VMap P K key w b f m n) (hn : n < maxLen) (k : α) (hx : a.eval x = key k) (hk : ∃ l, keyOf P K (key k) = some l) (val : Value) (hv : a.eval v = val)
    (hK : ∀ w', VMap P K key w' b (fput f k val) (if (f k).isSome then m else m + 1) (n + 1) → w.grownBy w' (some b) → wpList P ops Q rest (a.put o.dst undef) w') :
    wpList P ops Q (o :: rest) a w := by
  refine wpList_plain hg fun K' hK' => ?_; obtain ⟨w', hrun, r1, r2⟩ := h.put KK inj ht hn hk val; unfold Oper.wp; simp [execOp, hop, hm, hx, hv, hrun, Result.andThen]; exact hK' _ _ (hK w' r1 r2)

theorem wpList_vmap_look (hg : o.guard = none) (mm x : Operand) (hop : o.op = Op.lookup T mm x false) (KK : Keyed P K) (ht : P.underlying T = some (.map K E)) {z : Value} (hz : (zeroValue E).run P w = .ok z w)
    (hm : a.eval mm = .map (some b)) (h : VMap P K key w b f m n) (k : α) (hx : a.eval x = key k) (hk : ∃ l, keyOf P K (key k) = some l) (r : Value) (hr : (f k).getD z = r)
    (hK : wpList P ops Q rest (a.put o.dst r) w) :
    wpList P ops Q (o :: rest) a w := by
  refine wpList_plain hg fun K' hK' => ?_; have hrun := h.look KK ht hz hk; unfold Oper.wp; simp [execOp, hop, hm, hx, hrun, Result.andThen]; exact hK' _ _ (hr ▸ hK)

theorem wpList_vmap_del (hg : o.guard = none) (mm x : Operand) (hop : o.op = Op.call { callee := Callee.builtin Builtin.delete, args := #[mm, x], argTypes := #[T, K] }) (KK : Keyed P K) (inj : ∀ x y, key x = key y → x = y) (ht : P.underlying T = some (.map K E))
    (hm : a.eval mm = .map (some b)) (h : VMap P K key w b f m n) (k : α) (hx : a.eval x = key k) (hk : ∃ l, keyOf P K (key k) = some l)
    (hK : ∀ w', VMap P K key w' b (fdel f k) (if (f k).isSome then m - 1 else m) n → w.grownBy w' (some b) → wpList P ops Q rest (a.put o.dst (.tuple #[])) w') :
    wpList P ops Q (o :: rest) a w := by
  refine wpList_plain hg fun K' hK' => ?_; obtain ⟨w', hrun, r1, r2⟩ := h.drop KK inj ht hk o.type; unfold Oper.wp; simp [execOp, hop, resolve, invoke, builtin, hm, hx, hrun, Result.andThen]; exact hK' _ _ (hK w' r1 r2)

theorem wpList_vmap_len (mm : Operand) (hop : o.op = Op.call { callee := Callee.builtin Builtin.len, args := #[mm], argTypes := #[T] }) (hg : o.guard = none) (ht : P.underlying T = some (.map K E))
    (hm : a.eval mm = .map (some b)) (h : VMap P K key w b f m n) (hK : wpList P ops Q rest (a.put o.dst (.int .i64 m)) w) :
    wpList P ops Q (o :: rest) a w := by
  refine wpList_plain hg fun K' hK' => ?_; unfold Oper.wp; simp [execOp, hop, resolve, invoke, builtin, hm, h.len ht o.type, Result.andThen]; exact hK' _ _ hK
end
end Go
/- A map of keys to true, filled from a list: a set. -/
set_option linter.unusedVariables false
set_option linter.unusedSimpArgs false
namespace Go
open Go.RowKit
open Go.Maps (Keyed IsMap Tidy)

def setF {α : Type} [DecidableEq α] (l : List α) : α → Option Value := fun x => if x ∈ l then some (.bool true) else none

def VSet {α : Type} [DecidableEq α] (P : Program) (K : TypeId) (key : α → Value) (w : World) (b : Nat) (l : List α) : Prop :=
  ∃ m, VMap P K key w b (setF l) m l.length ∧ m ≤ l.length ∧ (m = l.length ↔ l.Nodup)

section
variable {α : Type} [DecidableEq α] {P : Program} {K E T : TypeId} {key : α → Value} {w w' : World} {b : Nat} {l : List α}
theorem setF_isSome (l : List α) (x : α) : (setF l x).isSome = decide (x ∈ l) := by unfold setF; split <;> simp_all
theorem setF_getD (l : List α) (x : α) : (setF l x).getD (.bool false) = .bool (decide (x ∈ l)) := by unfold setF; split <;> simp_all
theorem setF_nil : setF ([] : List α) = fun _ => none := by funext x; simp [setF]
theorem setF_put (l : List α) (a x : α) : setF (l ++ [a]) x = fput (setF l) a (.bool true) x := by
  unfold fput setF
  by_cases h : x = a
  · simp [h]
  · simp [h]
theorem VSet.made (P : Program) (K : TypeId) (key : α → Value) (w : World) (B : Nat) (hB : w.heap.size = B) : VSet P K key (w.alloc (.map #[] 0)) B ([] : List α) :=
  ⟨0, by rw [setF_nil]; exact VMap.madeB P K key w B hB, Nat.le_refl _, by simp⟩
theorem VSet.lt (h : VSet P K key w b l) : b < w.heap.size := by obtain ⟨m, h, _⟩ := h; exact h.lt
theorem VSet.keep (h : VSet P K key w b l) (hb : Below w.heap.size w w') : VSet P K key w' b l := by obtain ⟨m, h, r⟩ := h; exact ⟨m, h.keep hb, r⟩
theorem VSet.kept {row : Option Nat} (h : VSet P K key w b l) (hg : w.grownBy w' row) (hne : some b ≠ row) : VSet P K key w' b l := by obtain ⟨m, h, r⟩ := h; exact ⟨m, h.kept hg hne, r⟩
omit [DecidableEq α] in
theorem nodup_snoc (l : List α) (a : α) : (l ++ [a]).Nodup ↔ l.Nodup ∧ a ∉ l := by
  rw [List.nodup_append]; constructor
  · rintro ⟨h1, -, h3⟩; exact ⟨h1, fun h => h3 a h a (by simp) rfl⟩
  · rintro ⟨h1, h2⟩; exact ⟨h1, by simp, fun x hx y hy e => by simp at hy; subst hy; subst e; exact h2 hx⟩
end
section
variable {α : Type} [DecidableEq α] {P : Program} {K E T : TypeId} {key : α → Value} {b : Nat} {l : List α} (w : World) {ops : Array Oper} {rest : List Oper} {o : Oper} {a : Act} {Q : Exit → Act → World → Prop}
theorem wpList_vset_put (hg : o.guard = none) (mm x v : Operand) (hop : o.op = Op.mapUpdate T mm x v) (KK : Keyed P K) (inj : ∀ x y, key x = key y → x = y) (ht : P.underlying T = some (.map K E))
    (hm : a.eval mm = .map (some b)) (h : VSet P K key w b l) (hn : l.length < maxLen) (k : α) (hx : a.eval x = key k) (hk : ∃ l, keyOf P K (key k) = some l) (hv : a.eval v = .bool true)
    (hK : ∀ w', VSet P K key w' b (l ++ [k]) → w.grownBy w' (some b) → wpList P ops Q rest (a.put o.dst undef) w') :
    wpList P ops Q (o :: rest) a w := by
  obtain ⟨m, h, hle, hiff⟩ := h; refine wpList_vmap_put w hg mm x v hop KK inj ht hm h hn k hx hk _ hv fun w' h' hg' => hK w' ⟨if (setF l k).isSome then m else m + 1, ?_, ?_, ?_⟩ hg'
  · have := h'.congr (f' := setF (l ++ [k])) (setF_put l k); rw [List.length_append]; exact this
  · rw [List.length_append, List.length_singleton]; split <;> omega
  · rw [List.length_append, List.length_singleton, nodup_snoc, setF_isSome, ← hiff]
    by_cases hin : k ∈ l
    · simp only [hin, decide_true, if_true, not_true_eq_false, and_false, iff_false]; omega
    · simp only [hin, decide_false, Bool.false_eq_true, if_false, not_false_eq_true, and_true]; omega
theorem wpList_vset_look (hg : o.guard = none) (mm x : Operand) (hop : o.op = Op.lookup T mm x false) (KK : Keyed P K) (ht : P.underlying T = some (.map K E)) (hz : (zeroValue E).run P w = .ok (.bool false) w)
    (hm : a.eval mm = .map (some b)) (h : VSet P K key w b l) (k : α) (hx : a.eval x = key k) (hk : ∃ l, keyOf P K (key k) = some l) (r : Bool) (hr : decide (k ∈ l) = r)
    (hK : wpList P ops Q rest (a.put o.dst (.bool r)) w) :
    wpList P ops Q (o :: rest) a w := by
  obtain ⟨m, h, hle, hiff⟩ := h; exact wpList_vmap_look w hg mm x hop KK ht hz hm h k hx hk _ (by rw [setF_getD, hr]) hK
theorem wpList_vset_len (mm : Operand) (hop : o.op = Op.call { callee := Callee.builtin Builtin.len, args := #[mm], argTypes := #[T] }) (hg : o.guard = none) (ht : P.underlying T = some (.map K E))
    (hm : a.eval mm = .map (some b)) (h : VSet P K key w b l) (hK : ∀ m : Nat, m ≤ l.length → (m = l.length ↔ l.Nodup) → wpList P ops Q rest (a.put o.dst (.int .i64 m)) w) :
    wpList P ops Q (o :: rest) a w := by
  obtain ⟨m, h, hle, hiff⟩ := h; exact wpList_vmap_len w mm hop hg ht hm h (hK m hle hiff)
end
end Go
/- A map of values to bools: the set of values met. -/
set_option linter.unusedVariables false
set_option linter.unusedSimpArgs false
namespace Go
open Go.RowKit
theorem vVal_inj (p q : VV) (h : vVal p = vVal q) : p = q := by
  obtain ⟨a, b, c⟩ := p; obtain ⟨d, e, f⟩ := q; simp [vVal] at h; rw [h.1, h.2.1, h.2.2]
end Go
namespace Go.Proofs.YtjggoajfilnfjaaGreat
open Go.RowKit
theorem kv.laidOut : laidOutB Tryz.prog = true := by kernel_rfl
theorem kv.val : Maps.Keyed Tryz.prog 101 := Maps.Keyed.of_law (deep_law_laid kv.laidOut (m := 2) (by omega) (of_decide_eq_true (by kernel_rfl)) (by kernel_rfl) (by rw [Tryz.underlying101]))
theorem kv.key (v : VV) (h1 : (Lit.int .i64 v.1).wf = true) (h2 : v.2.1.size ≤ maxLen) (h3 : (Lit.int .i64 v.2.2).wf = true) : ∃ l, keyOf Tryz.prog 101 (vVal v) = some l := by
  have k1 : Tryz.prog.keyType 101 = true := by kernel_rfl
  have k2 : (vVal v).formed Tryz.prog 101 = true := by simp [Value.formed, vVal, Tryz.underlying101]; kernel_rfl
  unfold keyOf; rw [Tryz.underlying101]; simp only [k1, k2, Bool.and_self, if_true]; have h9 : ∃ n, Tryz.prog.types.size + 1 = n + 1 + 1 := ⟨Tryz.prog.types.size - 1, by kernel_rfl⟩; obtain ⟨n, hn⟩ := h9; have hc : Tryz.prog.cellsOf 101 = 3 := by kernel_rfl
  have hi : Tryz.prog.cellsOf 3 = 1 := by kernel_rfl
  have hs : Tryz.prog.cellsOf 9 = 1 := by kernel_rfl
  rw [hn]; simp [Program.keyLits, Tryz.underlying101, Tryz.underlying3, Tryz.underlying9, hc, hi, hs, vVal, Value.cells, h1, h3]; rw [if_pos h2]; simp
end Go.Proofs.YtjggoajfilnfjaaGreat
