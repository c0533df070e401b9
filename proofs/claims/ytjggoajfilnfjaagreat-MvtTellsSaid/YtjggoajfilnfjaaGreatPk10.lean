/-
  ring.edges, ring.Area. graticulelaw23.Cut; rows in rows. mvt.number, mvt.bytes: fields.
-/
import Derived.Test.YtjggoajfilnfjaaGreatPk9
import Derived.WalkSmall
import Derived.Test.YtjggoajfilnfjaaGreatPk5
set_option linter.unusedVariables false
set_option linter.unusedSimpArgs false
namespace Go
def fan (l : List Pt) : List (Pt × Pt) → Int
 | [] => 0
 | e :: r => crs l[0]! e.1 e.2 + fan l r
theorem fan_snoc (l : List Pt) (r : List (Pt × Pt)) (e : Pt × Pt) : fan l (r ++ [e]) = fan l r + crs l[0]! e.1 e.2 := by
 induction r with
 | nil => simp [fan]
 | cons x r ih => simp only [List.cons_append, fan, ih]; omega
def areaF (l : List Pt) : Int := if l.length < 3 ∨ l.all okPt = false then 0 else fan l (edges l)

theorem fan_bd (l : List Pt) (h : l.all okPt = true) (h0 : 0 < l.length) (r : List (Pt × Pt)) (hr : ∀ e ∈ r, okPt e.1 = true ∧ okPt e.2 = true) : -(2251799813685248 * r.length) ≤ fan l r ∧ fan l r ≤ 2251799813685248 * r.length := by
 induction r with
 | nil => simp [fan]
 | cons e r ih =>
  have h1 := crs_bd l[0]! e.1 e.2 (ok_get l h 0 h0) (hr e (by simp)).1 (hr e (by simp)).2; have h2 := ih (fun x hx => hr x (by simp [hx])); simp only [fan, List.length_cons]; omega
theorem edges_ok (l : List Pt) (h : l.all okPt = true) : ∀ e ∈ edges l, okPt e.1 = true ∧ okPt e.2 = true := by
 intro e he; unfold edges at he; obtain ⟨i, hi, rfl⟩ := List.mem_map.1 he; have hi := List.mem_range.1 hi; exact ⟨ok_get l h i hi, ok_get l h _ (Nat.mod_lt _ (by omega))⟩
end Go
namespace Go.Proofs.YtjggoajfilnfjaaGreat
open Go.RowKit
attribute [local go_sem] Oper.semAt_some

set_option maxHeartbeats 1000000 in
theorem edges_in (n : Nat) (a : Option Addr) (m c : Nat) (w : World) :
  CallsIn Fence.wide n Tryz.prog 121 #[.slice a m c] w fun e w' => e = .returned (.func (.func 128) #[] #[.pointer (some ⟨w.heap.size, 0, none⟩)]) ∧ w' = w.alloc (.cells #[.slice a m c] 80) := by
 refine callsIn_of_wp Tryz.func121 rfl trivial ?_ rfl; simp only [Tryz.ntmps121, List.size_toArray, List.length_cons, List.length_nil, Nat.reduceAdd, Nat.reduceSub, Array.replicate_succ, Array.replicate_zero, List.push_toArray, List.append_toArray, List.nil_append, List.cons_append]
 gi_wp2
 go_ret; exact ⟨rfl, rfl⟩

theorem edges_ahead (n : Nat) (Bn : Nat) (a : Option Addr) (c : Nat) (L : List Pt) (hlen : L.length ≤ 1000000) (w : World) (hr : Rd w a (pts L))
  (W0 : World) (hB0 : Below w.heap.size w W0) (fr : Nat × Nat) (hBn : W0.heap[Bn]? = some (.cells #[.slice a L.length c] 80 fr)) :
  SeqAhead Fence.wide n Tryz.prog 128 #[.pointer (some ⟨Bn, 0, none⟩)] (fun x : Pt × Pt => #[x.1.val, x.2.val]) (fun pre x _ => pre.length < L.length ∧ x = (L[pre.length]!, L[(pre.length + 1) % L.length]!)) (KpP w.heap.size) (fun xs _ => xs = edges L) W0 := by
 intro l J W hb0 hJ hY h0; exact edges1_in n l Bn a c L hlen w hr J W (hB0.trans (hb0.mono hB0.size)) hJ fr ((hb0.block Bn (Array.getElem?_eq_some_iff.1 hBn).1).trans hBn) hY h0

set_option maxRecDepth 100000 in
set_option maxHeartbeats 1000000 in
theorem rarea_any (a : Option Addr) (c : Nat) (L : List Pt) (hlen : L.length ≤ 1000) (w : World) (hr : Rd w a (pts L)) :
  Calls Tryz.prog 105 #[.slice a L.length c] w fun e w' => e = .returned (.int .i64 (areaF L)) ∧ Below w.heap.size w w' := by
 refine (callsIn_wide (n := 5)).1 ?_; refine callsIn_of_wp_marks Tryz.func105 rfl trivial ?_ rfl; simp only [Tryz.ntmps105, List.size_toArray, List.length_cons, List.length_nil, Nat.reduceAdd, Nat.reduceSub, Array.replicate_succ, Array.replicate_zero, List.push_toArray, List.append_toArray, List.nil_append, List.cons_append]; have hri := fun W h => xright_any a c L (by unfold maxLen; omega) W h; have HRI := Lib.hid hri; clear hri
 by_cases h3 : L.length < 3
 ·have h3' : (L.length : Int) < 3 := by omega
  have hz : Hid (areaF L = 0) := Lib.hid (by unfold areaF; rw [if_pos (.inl h3)])
  gi_wp2
  refine ⟨trivial, ?_⟩
  gi_wp2
  exact ⟨.int .i64 0, by simp [results, Tryz.results105, go_sem], ret_int hz.out.symm, Below.new _ _⟩
 ·have h3' : ¬ (L.length : Int) < 3 := by omega
  gi_wp2_with fail
  refine ⟨trivial, (callsIn_wide.2 (HRI.out _ (hr.alloc _))).mono ?_⟩; rintro e w1 ⟨rfl, hb1⟩; clear HRI
  by_cases hok : L.all okPt = true
  ·have hok' : (L.all okPt) = true := hok; rw [hok]; have HOK := Lib.hid hok; have hA : Hid (areaF L = fan L (edges L)) := Lib.hid (by unfold areaF; rw [if_neg (by rw [hok]; simp; omega)]); have bL0 := (Boxed.new w 80 (.slice a L.length c)); have bL1 : Boxed w1 w.heap.size 80 (.slice a L.length c) := (hb1.block _ bL0.lt).trans bL0; have hbl1 : Below w.heap.size w w1 := (Below.new w _).trans (hb1.mono (by simp)); have hs1 := hbl1.size; have hlt1 := bL1.lt; have cL := bL1.cell; have hneH : ¬ w.heap.size = w1.heap.size := by omega
   clear hok hok' hb1 bL0
   gi_wp2_with (first | (refine ⟨trivial, ?_⟩; gi_at_call 121; refine (edges_in _ _ _ _ _).mono ?_; rintro e w' ⟨rfl, rfl⟩) | (gi_at_call 121; refine (edges_in _ _ _ _ _).mono ?_; rintro e w' ⟨rfl, rfl⟩))
   have bS := (Boxed.new w1 3 (.int .i64 0)).alloc (.cells #[.slice a L.length c] 80); have bN := Boxed.new (w1.alloc (.cells #[.int .i64 0] 3)) 80 (.slice a L.length c); have bL2 := (bL1.alloc (.cells #[.int .i64 0] 3)).alloc (.cells #[.slice a L.length c] 80); simp only [World.size_alloc] at bN; have hB0 : Below w.heap.size w ((w1.alloc (.cells #[.int .i64 0] 3)).alloc (.cells #[.slice a L.length c] 80)) := (hbl1.alloc hs1 _).alloc (by simp; omega) _; have hsz : ((w1.alloc (.cells #[.int .i64 0] 3)).alloc (.cells #[.slice a L.length c] 80)).heap.size = w1.heap.size + 2 := by simp
   obtain ⟨W0, hW0⟩ : ∃ W0, ((w1.alloc (.cells #[.int .i64 0] 3)).alloc (.cells #[.slice a L.length c] 80)) = W0 := ⟨_, rfl⟩; rw [hW0] at bS bN bL2 hB0 hsz ⊢; clear hW0 bL1 cL; refine wpIn_rangeFunc_ahead rfl (by decide) (gf := 128) (lb := #[.pointer (some ⟨w1.heap.size + 1, 0, none⟩)]) rfl trivial (enters_of Tryz.func128 (by kernel_rfl) rfl)
    (edges_ahead (5 - 1) (w1.heap.size + 1) a c L (by omega) w hr W0 hB0 (0, 0) bN) (fun h k => ⟨h.1.trans k.1, h.2.trans k.2⟩)
    (fun W l o o' hl h1 h2 => ⟨(Below.refl _ W).grown (grownBy_putObj' W l o') (by have := (Array.getElem?_eq_some_iff.1 h1).1; omega) (fun k e => by cases e; omega), KeepT.putObj W l o o' h1 h2⟩) (Below.refl _ _) (fun _ => rfl)
    (fun (pre : List (Pt × Pt)) W => ((Boxed W w1.heap.size 3 (.int .i64 (fan L pre)) ∧ Boxed W w.heap.size 80 (.slice a L.length c)) ∧ pre = (edges L).take pre.length) ∧ Below w.heap.size w W)
    (OwnFrom.and (OwnFrom.and (OwnFrom.and (Own.from (boxed_own _ _ (fun (pre : List (Pt × Pt)) => Value.int .i64 (fan L pre))) _) (Own.from (boxed_own _ _ _) _)) (ownFrom_pure _ _)) (ownFrom_below (Nat.le_refl _) (by omega)))
    (ownFrom_pure _ _)
    ⟨⟨⟨bS, bL2⟩, rfl⟩, hB0⟩
    (fun (pre : List (Pt × Pt)) (x : Pt × Pt) a' W => (((Boxed W w1.heap.size 3 (.int .i64 (fan L pre)) ∧ Boxed W w.heap.size 80 (.slice a L.length c)) ∧ pre = (edges L).take pre.length) ∧ Below w.heap.size w W) ∧ (pre.length < L.length ∧ x = (L[pre.length]!, L[(pre.length + 1) % L.length]!)) ∧
     ∃ Ba Bb, w1.heap.size < Ba ∧ w1.heap.size < Bb ∧ Blk W Ba x.1.cells ∧ Blk W Bb x.2.cells ∧ a' = { tmps := #[.slice a L.length c, .pointer (some ⟨w.heap.size, 0, none⟩), .int .i64 0, .pointer (some ⟨w1.heap.size, 0, none⟩), .pointer (some ⟨Ba, 0, none⟩), .pointer (some ⟨Bb, 0, none⟩), .slice a L.length c, .int .i64 (L.length : Nat), .bool false, .bool false, .slice a L.length c, .bool true, .bool false, .bool false, .slice a L.length c, .func (.func 128) #[] #[.pointer (some ⟨w1.heap.size + 1, 0, none⟩)], x.1.val, x.2.val, undef, undef, undef, undef, undef, undef, undef, undef, undef], defers := [] })
    ?hM ?assign ?body ?done
   case hM =>
    rintro pre x a' _ X Y row ⟨⟨⟨⟨hE, hL2⟩, hpre⟩, hbw⟩, hx, Ba, Bb, ha, hb, bA, bB, rfl⟩ hg hrow; have hr' : ∀ r, row = some r → ∃ o : Obj, X.heap[r]? = some o ∧ o.isCells = false := fun r e => (hrow r e).2; have hne : ∀ (B : Nat) vs, Blk X B vs → some B ≠ row := by
     intro B vs ⟨T, hT⟩ e; obtain ⟨o, ho, hc⟩ := hr' B e.symm; rw [hT] at ho
     cases ho
     cases hc
    exact ⟨⟨⟨⟨boxed_own _ _ (fun (_ : Unit) => _) () X Y row hE hg hr', boxed_own _ _ (fun (_ : Unit) => _) () X Y row hL2 hg hr'⟩, hpre⟩, hbw.grown hg (by have := hbw.size; omega) (fun k e => by have := (hrow k e).1; omega)⟩, hx, Ba, Bb, ha, hb, bA.grown hg (hne _ _ bA), bB.grown hg (hne _ _ bB), rfl⟩
   case assign =>
    rintro l pre ⟨⟨x1, y1⟩, ⟨x2, y2⟩⟩ W ⟨⟨⟨hE, hL2⟩, hpre⟩, hbw⟩ hx; dsimp only [Pt.val]; have HPRE := Lib.hid hpre; clear hpre
    gi_wp2
    have hb2 : Below W.heap.size W ((W.alloc (.cells #[.int .i64 x1, .int .i64 y1] 79)).alloc (.cells #[.int .i64 x2, .int .i64 y2] 79)) := (Below.new W _).alloc (by simp) _; exact ⟨(KeepsOthers.alloc _ _).trans (KeepsOthers.alloc _ _), ⟨hb2.mono hbw.size, KeepT.of_below hb2⟩, ⟨⟨⟨(hE.alloc _).alloc _, (hL2.alloc _).alloc _⟩, HPRE.out⟩, hbw.trans (hb2.mono hbw.size)⟩, hx, W.heap.size, W.heap.size + 1, hE.lt, by have := hE.lt; omega,
     (Blk.new W [.int .i64 x1, .int .i64 y1] 79).alloc _, Blk.lit (W.alloc (.cells #[.int .i64 x1, .int .i64 y1] 79)) (W.heap.size + 1) [.int .i64 x2, .int .i64 y2] 79 (by simp), rfl⟩
   case body =>
    rintro l pre ⟨⟨x1, y1⟩, ⟨x2, y2⟩⟩ a' W ⟨⟨⟨⟨hE, hL2⟩, hpre⟩, hbw⟩, ⟨hpl, hxe⟩, Ba, Bb, ha, hb, bA, bB, rfl⟩; obtain ⟨b, off, rfl, hbs, -, -⟩ := hr.pt 0 (by omega); obtain ⟨b', off', hbe, -, c0, c1⟩ := (hr.keep hbw).pt 0 (by omega)
    cases hbe
    have hp0 : L[0]! = L[0] := getElem!_pos L 0 (by omega); have ok0 : okPt L[0] = true := by rw [← hp0]; exact ok_get L HOK.out 0 (by omega)
    simp only [Prod.mk.injEq] at hxe; have ok1 : okPt ⟨x1, y1⟩ = true := by rw [hxe.1]; exact ok_get L HOK.out _ hpl
    have ok2 : okPt ⟨x2, y2⟩ = true := by rw [hxe.2]; exact ok_get L HOK.out _ (Nat.mod_lt _ (by omega))
    have hsn := fan_snoc L pre (⟨x1, y1⟩, ⟨x2, y2⟩); have hfb := fan_bd L HOK.out (by omega) pre (fun e he => edges_ok L HOK.out e (by rw [hpre] at he; exact List.mem_of_mem_take he)); have hzb := crs_bd L[0] ⟨x1, y1⟩ ⟨x2, y2⟩ ok0 ok1 ok2; rw [hp0] at hsn; have hnp : (edges L).take (pre.length + 1) = pre ++ [(⟨x1, y1⟩, ⟨x2, y2⟩)] := by
     have hel : (edges L).length = L.length := by simp [edges]
     have hek : (edges L)[pre.length]? = some (⟨x1, y1⟩, ⟨x2, y2⟩) := by
      unfold edges; rw [List.getElem?_map, List.getElem?_range hpl, hxe.1, hxe.2]
      rfl
     rw [List.take_add_one, hek, ← hpre]; rfl
    have hxr := fun W' => xcross_any L[0] ⟨x1, y1⟩ ⟨x2, y2⟩ ok0 ok1 ok2 W'; dsimp only at hsn; generalize crs L[0] ⟨x1, y1⟩ ⟨x2, y2⟩ = z at *; generalize L[0] = p0 at *; obtain ⟨x0, y0⟩ := p0; obtain ⟨F, hF⟩ : ∃ F, fan L pre = F := ⟨_, rfl⟩; rw [hF] at hsn hfb hE; have HSN := Lib.hid hsn; have HXR := Lib.hid hxr; have HNP := Lib.hid hnp; have hF64 : -2251799813685248000 ≤ F ∧ F ≤ 2251799813685248000 := by omega
    dsimp only at c0 c1; rw [Nat.zero_mul, Nat.add_zero] at c0 c1; clear hsn hxr hnp hp0 ok0 ok1 ok2 hxe hfb hF hpre; have cE := hE.cell; have fE := hE.frozen; have cL := hL2.cell; have a0 := bA.cell 0 rfl; have a1 := bA.cell 1 rfl; have b0 := bB.cell 0 rfl; have b1 := bB.cell 1 rfl
    gi_wp2
    have hbs2 : b < w1.heap.size := by omega
    have hH := hL2.lt; have hL0 : 0 < L.length := by omega
    have hwr : IntKind.i64.wrap (F + z) = F + z := IntWalk.i64_in _ (by omega); refine wpIn_region_two [1, 2, 3, 4, 5, 7] [1, 2, 3, 4, 5] 0 6 [6, 7, 8] [0, 7, 8] 3 (fun W' => W'.cell? ⟨w.heap.size, 0, none⟩ = some (.slice (some ⟨b, off, none⟩) L.length c) ∧ W'.cell? ⟨b, off, none⟩ = some (.int .i64 x0) ∧ W'.cell? ⟨b, off + 1, none⟩ = some (.int .i64 y0) ∧ W'.cell? ⟨Ba, 0, none⟩ = some (.int .i64 x1) ∧ W'.cell? ⟨Ba, 1, none⟩ = some (.int .i64 y1) ∧ W'.cell? ⟨Bb, 0, none⟩ = some (.int .i64 x2) ∧ W'.cell? ⟨Bb, 1, none⟩ = some (.int .i64 y2)) _ _ (by kernel_rfl) (by kernel_rfl) (by kernel_rfl) (by kernel_rfl) (by kernel_rfl) rfl rfl (by kernel_rfl) (by kernel_rfl) (by kernel_rfl) ⟨cL, c0, c1, a0, a1, b0, b1⟩ ?_; refine wpPre_cons ?_ rfl rfl ?_ ?_
    rotate_left
    ·(intro w' hS; obtain ⟨s0, s1, s2, s3, s4, s5, s6⟩ := hS; go_simp; with_reducible rfl)
    try simp only [Act.put, List.setIfInBounds_toArray, List.set_cons_zero, List.set_cons_succ]
    refine wpPre_cons ?_ rfl rfl ?_ ?_
    rotate_left
    ·(intro w' hS; obtain ⟨s0, s1, s2, s3, s4, s5, s6⟩ := hS; go_simp; with_reducible rfl)
    try simp only [Act.put, List.setIfInBounds_toArray, List.set_cons_zero, List.set_cons_succ]
    refine wpPre_cons ?_ rfl rfl ?_ ?_
    rotate_left
    ·(intro w' hS; obtain ⟨s0, s1, s2, s3, s4, s5, s6⟩ := hS; go_simp; with_reducible rfl)
    try simp only [Act.put, List.setIfInBounds_toArray, List.set_cons_zero, List.set_cons_succ]
    refine wpPre_cons ?_ rfl rfl ?_ ?_
    rotate_left
    ·(intro w' hS; obtain ⟨s0, s1, s2, s3, s4, s5, s6⟩ := hS; go_simp; with_reducible rfl)
    try simp only [Act.put, List.setIfInBounds_toArray, List.set_cons_zero, List.set_cons_succ]
    refine wpPre_cons ?_ rfl rfl ?_ ?_
    rotate_left
    ·(intro w' hS; obtain ⟨s0, s1, s2, s3, s4, s5, s6⟩ := hS; go_simp; with_reducible rfl)
    try simp only [Act.put, List.setIfInBounds_toArray, List.set_cons_zero, List.set_cons_succ]
    refine wpPre_nil ?_; have hF : ∀ (A w2 : World), A = W.drew → Below A.heap.size A w2 → (fun W' : World => W'.cell? ⟨w.heap.size, 0, none⟩ = some (.slice (some ⟨b, off, none⟩) L.length c) ∧ W'.cell? ⟨b, off, none⟩ = some (.int .i64 x0) ∧ W'.cell? ⟨b, off + 1, none⟩ = some (.int .i64 y0) ∧ W'.cell? ⟨Ba, 0, none⟩ = some (.int .i64 x1) ∧ W'.cell? ⟨Ba, 1, none⟩ = some (.int .i64 y1) ∧ W'.cell? ⟨Bb, 0, none⟩ = some (.int .i64 x2) ∧ W'.cell? ⟨Bb, 1, none⟩ = some (.int .i64 y2)) w2 := by
     rintro A w2 rfl hb2; exact ⟨(hb2.cell (p := ⟨w.heap.size, 0, none⟩) (show w.heap.size < W.drew.heap.size from hH)).trans cL, (hb2.cell (p := ⟨b, off, none⟩) (show b < W.drew.heap.size by show b < W.heap.size; omega)).trans c0, (hb2.cell (p := ⟨b, off + 1, none⟩) (show b < W.drew.heap.size by show b < W.heap.size; omega)).trans c1, (hb2.cell (p := ⟨Ba, 0, none⟩) (show Ba < W.drew.heap.size from bA.lt)).trans a0, (hb2.cell (p := ⟨Ba, 1, none⟩) (show Ba < W.drew.heap.size from bA.lt)).trans a1, (hb2.cell (p := ⟨Bb, 0, none⟩) (show Bb < W.drew.heap.size from bB.lt)).trans b0, (hb2.cell (p := ⟨Bb, 1, none⟩) (show Bb < W.drew.heap.size from bB.lt)).trans b1⟩
    have hfin : ∀ w2, Below W.drew.heap.size W.drew w2 → postAhead (KpP w.heap.size) (fun (pre : List (Pt × Pt)) W => ((Boxed W w1.heap.size 3 (.int .i64 (fan L pre)) ∧ Boxed W w.heap.size 80 (.slice (some ⟨b, off, none⟩) L.length c)) ∧ pre = (edges L).take pre.length) ∧ Below w.heap.size w W) (pre ++ [(⟨x1, y1⟩, ⟨x2, y2⟩)]) W .normal { tmps := #[], defers := [] } (w2.setCell ⟨w1.heap.size, 0, none⟩ (.int .i64 (F + z))) := by
     intro w2 hb2; have hbx : Below W.heap.size W w2 := (Below.refl _ W).drew.trans hb2; have hsW := hbw.size; have bE2 : Boxed w2 w1.heap.size 3 (.int .i64 F) := (hbx.block _ hE.lt).trans hE; have bL3 : Boxed w2 w.heap.size 80 _ := (hbx.block _ hL2.lt).trans hL2; have hbz : Below w.heap.size W (w2.setCell ⟨w1.heap.size, 0, none⟩ (.int .i64 (F + z))) := (hbx.mono hsW).set_at hs1 _; refine ⟨(KeepsOthers.of_below hbx).trans (KeepsOthers.setCell _ _ _), ⟨hbz, (KeepT.of_below hbx).trans (KeepT.store bE2 (by decide) (by decide) _)⟩, ⟨⟨?_, bL3.other (by omega) _⟩, ?_⟩, hbw.trans hbz⟩
     ·rw [HSN.out]; exact bE2.set _
     ·rw [List.length_append]; exact HNP.out.symm
    refine ⟨⟨rfl, fun K hK => ?_⟩, ⟨rfl, fun K hK => ?_⟩⟩
    ·go_step; refine hK.out _ _ ⟨cL, c0, c1, a0, a1, b0, b1⟩ ?_; clear hK K
     try simp only [Act.put, List.setIfInBounds_toArray, List.set_cons_zero, List.set_cons_succ]
     refine wpTxt_heavy rfl rfl rfl (fun K hK => ?_); refine wp_callgo [.agg #[.int .i64 x0, .int .i64 y0], .agg #[.int .i64 x1, .int .i64 y1], .agg #[.int .i64 x2, .int .i64 y2]] Tryz.f122 Tryz.func122 (by kernel_rfl) (by kernel_rfl) rfl ((HXR.out _).mono ?_); rintro e w2 ⟨rfl, hb2⟩; have hF2 := hF W.drew w2 rfl hb2; have cE2 : w2.cell? ⟨w1.heap.size, 0, none⟩ = some (.int .i64 F) := (hb2.cell (p := ⟨w1.heap.size, 0, none⟩) (show w1.heap.size < W.drew.heap.size from hE.lt)).trans cE; have bE2 : Boxed w2 w1.heap.size 3 (.int .i64 F) := (hb2.block _ hE.lt).trans hE; have fE2 := bE2.frozen; refine ⟨_, rfl, hK.out _ _ hF2 ?_⟩; clear hK K
     try simp only [Act.put, List.setIfInBounds_toArray, List.set_cons_zero, List.set_cons_succ]
     refine wpTxt_light ?_ rfl rfl rfl ?_ ?_
     rotate_left
     ·(intro w' hS; obtain ⟨s0, s1, s2, s3, s4, s5, s6⟩ := hS; go_simp; with_reducible rfl)
     try simp only [Act.put, List.setIfInBounds_toArray, List.set_cons_zero, List.set_cons_succ]
     refine wpTxt_heavy rfl rfl rfl (fun K hK => ?_); go_step; refine hK.out _ _ ?_ ?_
     ·obtain ⟨s0, s1, s2, s3, s4, s5, s6⟩ := hF2; exact ⟨(World.cell?_setCell_far _ _ _ _ (by simp; omega)).trans s0, (World.cell?_setCell_far _ _ _ _ (by simp; omega)).trans s1, (World.cell?_setCell_far _ _ _ _ (by simp; omega)).trans s2, (World.cell?_setCell_far _ _ _ _ (by simp; omega)).trans s3, (World.cell?_setCell_far _ _ _ _ (by simp; omega)).trans s4, (World.cell?_setCell_far _ _ _ _ (by simp; omega)).trans s5, (World.cell?_setCell_far _ _ _ _ (by simp; omega)).trans s6⟩
     clear hK K
     try simp only [Act.put, List.setIfInBounds_toArray, List.set_cons_zero, List.set_cons_succ]
     refine wpTxt_nil ?_
     gi_wp2
     exact hfin w2 hb2
    ·skip
     refine wp_callgo [.agg #[.int .i64 x0, .int .i64 y0], .agg #[.int .i64 x1, .int .i64 y1], .agg #[.int .i64 x2, .int .i64 y2]] Tryz.f122 Tryz.func122 (by kernel_rfl) (by kernel_rfl) rfl ((HXR.out _).mono ?_); rintro e w2 ⟨rfl, hb2⟩; have hF2 := hF W.drew w2 rfl hb2; have cE2 : w2.cell? ⟨w1.heap.size, 0, none⟩ = some (.int .i64 F) := (hb2.cell (p := ⟨w1.heap.size, 0, none⟩) (show w1.heap.size < W.drew.heap.size from hE.lt)).trans cE; have bE2 : Boxed w2 w1.heap.size 3 (.int .i64 F) := (hb2.block _ hE.lt).trans hE; have fE2 := bE2.frozen; refine ⟨_, rfl, hK.out _ _ hF2 ?_⟩; clear hK K
     try simp only [Act.put, List.setIfInBounds_toArray, List.set_cons_zero, List.set_cons_succ]
     refine wpTxt_heavy rfl rfl rfl (fun K hK => ?_); go_step; refine hK.out _ _ hF2 ?_; clear hK K
     try simp only [Act.put, List.setIfInBounds_toArray, List.set_cons_zero, List.set_cons_succ]
     refine wpTxt_light ?_ rfl rfl rfl ?_ ?_
     rotate_left
     ·(intro w' hS; obtain ⟨s0, s1, s2, s3, s4, s5, s6⟩ := hS; go_simp; with_reducible rfl)
     try simp only [Act.put, List.setIfInBounds_toArray, List.set_cons_zero, List.set_cons_succ]
     refine wpTxt_heavy rfl rfl rfl (fun K hK => ?_); go_step; refine hK.out _ _ ?_ ?_
     ·obtain ⟨s0, s1, s2, s3, s4, s5, s6⟩ := hF2; exact ⟨(World.cell?_setCell_far _ _ _ _ (by simp; omega)).trans s0, (World.cell?_setCell_far _ _ _ _ (by simp; omega)).trans s1, (World.cell?_setCell_far _ _ _ _ (by simp; omega)).trans s2, (World.cell?_setCell_far _ _ _ _ (by simp; omega)).trans s3, (World.cell?_setCell_far _ _ _ _ (by simp; omega)).trans s4, (World.cell?_setCell_far _ _ _ _ (by simp; omega)).trans s5, (World.cell?_setCell_far _ _ _ _ (by simp; omega)).trans s6⟩
     clear hK K
     try simp only [Act.put, List.setIfInBounds_toArray, List.set_cons_zero, List.set_cons_succ]
     refine wpTxt_nil ?_
     gi_wp2
     exact hfin w2 hb2
   case done =>
    rintro D xs W hD rfl ⟨⟨⟨hE, hL2⟩, -⟩, hbw⟩ hK; have cE := hE.cell
    gi_wp2
    refine ⟨by simp, .inl ⟨_, _, rfl, run_takeDeferred hK, ?_⟩⟩; exact ⟨.int .i64 (fan L (edges L)), by simp [results, Tryz.results105, go_sem], ret_int hA.out.symm, hbw.trans (belowK_b (w := w) (Nat.le_refl _) W D _ _ (by omega) hK rfl rfl)⟩
  ·have hok' : (L.all okPt) = false := by simpa using hok
   rw [hok']; have hz : Hid (areaF L = 0) := Lib.hid (by unfold areaF; rw [if_pos (.inr hok')]); have hbl1 : Below w.heap.size w w1 := (Below.new w _).trans (hb1.mono (by simp)); clear hok hok' hb1
   gi_wp2
   exact ⟨.int .i64 0, by simp [results, Tryz.results105, go_sem], ret_int hz.out.symm, hbl1⟩
end Go.Proofs.YtjggoajfilnfjaaGreat
set_option maxRecDepth 100000
namespace Go
open Go.RowKit

def Inn (H : Nat) (e : TypeId) (W : World) (vals : List Value) (G : List (List Int)) : Prop :=
 vals.length = G.length ∧ (∀ (j : Nat) (v : Value) (g : List Int), vals[j]? = some v → G[j]? = some g → W.ownsRow H e 1 v g.length (g.map (Value.int .i64)) ∧ g ≠ []) ∧ (∀ (i j : Nat) (u v : Value), i ≠ j → vals[i]? = some u → vals[j]? = some v → u.ownBlock ≠ v.ownBlock)

theorem ownsRow_ne_type {W : World} {b1 b2 : Nat} {e1 e2 : TypeId} {s1 s2 : Nat} {v1 v2 : Value} {n1 n2 : Nat} {x1 x2 : List Value} (h1 : W.ownsRow b1 e1 s1 v1 n1 x1) (h2 : W.ownsRow b2 e2 s2 v2 n2 x2) (he : e1 ≠ e2) : v1.ownBlock = none ∨ v1.ownBlock ≠ v2.ownBlock := by
 rcases h1.2 with ⟨rfl, _⟩ | ⟨g, cap, cur, rfl, _, hg, _⟩
 ·exact .inl rfl
 ·refine .inr fun e => ?_
  rcases h2.2 with ⟨rfl, _⟩ | ⟨g2, cap2, cur2, rfl, _, hg2, _⟩
  ·simp [Value.ownBlock] at e
  ·obtain rfl : g = g2 := by simpa [Value.ownBlock] using e
   rw [hg] at hg2
   cases hg2
   exact he rfl

theorem Inn.keep {H : Nat} {e : TypeId} {W W' : World} {vals : List Value} {G : List (List Int)} (h : Inn H e W vals G) (hb : Below W.heap.size W W') : Inn H e W' vals G :=
 ⟨h.1, fun j v g hv hg => ⟨(h.2.1 j v g hv hg).1.below hb, (h.2.1 j v g hv hg).2⟩, h.2.2⟩

theorem Inn.grown {H : Nat} {e e2 : TypeId} {W W' : World} {vals : List Value} {G : List (List Int)} {b s n : Nat} {o : Value} {xs : List Value} (h : Inn H e W vals G) (ho : W.ownsRow b e2 s o n xs) (he : e ≠ e2) (hg : W.grownBy W' o.ownBlock) : Inn H e W' vals G :=
 ⟨h.1, fun j v g hv hgg => ⟨(h.2.1 j v g hv hgg).1.kept hg (ownsRow_ne_type (h.2.1 j v g hv hgg).1 ho he), (h.2.1 j v g hv hgg).2⟩, h.2.2⟩

theorem Inn.snoc {H : Nat} {e : TypeId} {W : World} {vals : List Value} {G : List (List Int)} (h : Inn H e W vals G) {v : Value} {g : List Int} (hv : W.ownsRow H e 1 v g.length (g.map (Value.int .i64))) (hg : g ≠ []) (hne : ∀ u ∈ vals, u.ownBlock ≠ v.ownBlock) : Inn H e W (vals ++ [v]) (G ++ [g]) := by
 obtain ⟨h1, h2, h3⟩ := h; refine ⟨by simp [h1], ?_, ?_⟩
 ·intro j u k hu hk
  by_cases hj : j < vals.length
  ·rw [List.getElem?_append_left hj] at hu; rw [List.getElem?_append_left (by omega)] at hk; exact h2 j u k hu hk
  ·have hj2 : j = vals.length := by
    have := (List.getElem?_eq_some_iff.1 hu).1; simp at this; omega
   subst hj2; rw [List.getElem?_append_right (Nat.le_refl _)] at hu; rw [h1, List.getElem?_append_right (Nat.le_refl _)] at hk; simp at hu hk; subst hu hk; exact ⟨hv, hg⟩
 ·intro i j u k hij hu hk; have ui : ∀ (i : Nat) (u : Value), (vals ++ [v])[i]? = some u → (i < vals.length ∧ vals[i]? = some u) ∨ (i = vals.length ∧ u = v) := by
   intro i u hu
   by_cases hi : i < vals.length
   ·rw [List.getElem?_append_left hi] at hu; exact .inl ⟨hi, hu⟩
   ·have : i = vals.length := by
     have := (List.getElem?_eq_some_iff.1 hu).1; simp at this; omega
    subst this; rw [List.getElem?_append_right (Nat.le_refl _)] at hu; simp at hu; exact .inr ⟨rfl, hu.symm⟩
  rcases ui i u hu with ⟨_, hu2⟩ | ⟨e1, e2⟩
  ·rcases ui j k hk with ⟨_, hk2⟩ | ⟨e3, e4⟩
   ·exact h3 i j u k hij hu2 hk2
   ·rw [e4]; exact hne u (List.mem_of_getElem? hu2)
  ·rcases ui j k hk with ⟨_, hk2⟩ | ⟨e3, e4⟩
   ·rw [e2]; exact (hne k (List.mem_of_getElem? hk2)).symm
   ·exact absurd (e1.trans e3.symm) hij

theorem Inn.owns {H : Nat} {e : TypeId} {W : World} {vals : List Value} {G : List (List Int)} (h : Inn H e W vals G) {u : Value} (hu : u ∈ vals) : ∃ g : List Int, W.ownsRow H e 1 u g.length (g.map (Value.int .i64)) := by
 obtain ⟨j, hj, rfl⟩ := List.getElem_of_mem hu; have hj2 : j < G.length := by rw [← h.1]; exact hj
 exact ⟨G[j], (h.2.1 j _ _ (List.getElem?_eq_getElem hj) (List.getElem?_eq_getElem hj2)).1⟩

theorem Inn.last {H : Nat} {e : TypeId} {W W' : World} {vals : List Value} {G : List (List Int)} {m : Nat} {u v2 : Value} {gl : List Int} {k : Int} (h : Inn H e W vals G) (hu : vals[m]? = some u) (hgl : G[m]? = some gl) (hg : W.grownBy W' u.ownBlock)
  (hv : W'.ownsRow H e 1 v2 (gl ++ [k]).length ((gl ++ [k]).map (Value.int .i64))) (hb : v2.ownBlock = u.ownBlock ∨ ∃ b, v2.ownBlock = some b ∧ W.heap.size ≤ b) : Inn H e W' (vals.set m v2) (G.set m (gl ++ [k])) := by
 obtain ⟨h1, h2, h3⟩ := h; have hm : m < vals.length := (List.getElem?_eq_some_iff.1 hu).1; have hm2 : m < G.length := (List.getElem?_eq_some_iff.1 hgl).1; have hoth : ∀ (j : Nat) (x : Value), j ≠ m → vals[j]? = some x → x.ownBlock ≠ u.ownBlock ∧ x.ownBlock ≠ v2.ownBlock := by
  intro j x hj hx; have n1 := h3 j m x u hj hx hu; refine ⟨n1, ?_⟩
  rcases hb with e1 | ⟨b, e1, hle⟩
  ·rw [e1]; exact n1
  ·rw [e1]; intro e2; have hj2 : j < G.length := by rw [← h1]; exact (List.getElem?_eq_some_iff.1 hx).1
   have := (h2 j x _ hx (List.getElem?_eq_getElem hj2)).1; have := (this.lt b e2).2; omega
 refine ⟨by simp [h1], ?_, ?_⟩
 ·intro j x g hx hgg
  by_cases hj : m = j
  ·subst hj; rw [List.getElem?_set_self hm] at hx; rw [List.getElem?_set_self hm2] at hgg
   cases hx
   cases hgg
   exact ⟨hv, by simp⟩
  ·rw [List.getElem?_set_ne hj] at hx hgg; have := h2 j x g hx hgg; exact ⟨this.1.kept hg (.inr (hoth j x (Ne.symm hj) hx).1), this.2⟩
 ·intro i j x y hij hx hy
  by_cases hi : m = i
  ·subst hi; rw [List.getElem?_set_self hm] at hx; rw [List.getElem?_set_ne hij] at hy
   cases hx
   exact ((hoth j y (Ne.symm hij) hy).2).symm
  ·rw [List.getElem?_set_ne hi] at hx
   by_cases hj : m = j
   ·subst hj; rw [List.getElem?_set_self hm] at hy
    cases hy
    exact (hoth i x (Ne.symm hi) hx).2
   ·rw [List.getElem?_set_ne hj] at hy; exact h3 i j x y hij hx hy

theorem Inn.store {H : Nat} {e e2 : TypeId} {W : World} {vals : List Value} {G : List (List Int)} {b s n : Nat} {g c o : Nat} {xs : List Value} (h : Inn H e W vals G) (ho : W.ownsRow b e2 s (.slice (some ⟨g, 0, none⟩) n c) n xs) (he : e ≠ e2) (u : Value) : Inn H e (W.setCell ⟨g, o, none⟩ u) vals G :=
 ⟨h.1, fun j v gg hv hgg => ⟨(h.2.1 j v gg hv hgg).1.set_ne (p := ⟨g, o, none⟩) (by
  rcases ownsRow_ne_type (h.2.1 j v gg hv hgg).1 ho he with h0 | h0
  ·rw [h0]; simp
  ·simpa [Value.ownBlock] using h0) u, (h.2.1 j v gg hv hgg).2⟩, h.2.2⟩

end Go
namespace Go.Proofs.YtjggoajfilnfjaaGreat
open Go.RowKit
set_option maxHeartbeats 800000 in
theorem cut23_any (a : Option Addr) (c : Nat) (xs : List PC) (w : World) (hr : Rd w a (xs.map PC.val)) (hok : ∀ x ∈ xs, x.Ok w) (hl : xs.length ≤ maxLen) :
  Calls Tryz.prog 18 #[.slice a xs.length c] w fun e w' => ∃ v, e = .returned v ∧
   w'.ownsRow w.heap.size 80 1 v ((xs.take 10).map PC.cut).length (((xs.take 10).map PC.cut).map PC.val) ∧ Below w.heap.size w w' := by
 obtain ⟨Y, hY⟩ : ∃ Y, (xs.take 10).map PC.cut = Y := ⟨_, rfl⟩; rw [hY]; have HY := Lib.hid hY; clear hY
 go_enter Tryz.func18, Tryz.ntmps18
 unfold maxLen at hl; go_wp2
 go_loopw [3, 4] (fun o i wr => ∃ k : Nat, k ≤ xs.length ∧ k ≤ 10 ∧ i = .int .i64 k ∧ wr.ownsRow w.heap.size 80 1 o k (((xs.take k).map PC.cut).map PC.val) ∧ Below w.heap.size w wr) (fun _ i _ => xs.length - (intOf i).toNat)
 case atStart => exact ⟨0, Nat.zero_le _, by omega, rfl, World.ownsRow_nil _ _ _ _, Below.refl _ _⟩
 case round =>
  obtain ⟨k, hk, hk2, rfl, hown, hbl⟩ := hrel
  by_cases hlt : k < xs.length ∧ k < 10
  ·obtain ⟨hlt, hlt2⟩ := hlt; obtain ⟨x, hxk⟩ : ∃ x, xs[k] = x := ⟨_, rfl⟩; have hxo : x.Ok w := hok x (by rw [← hxk]; exact List.getElem_mem _); obtain ⟨b1, off1, rfl, c0, _⟩ := (hr.keep hbl).at (i := k) (v := x.val) (by simp [hlt, hxk]); have hst : Hid (((xs.take (k + 1)).map PC.cut).map PC.val = ((xs.take k).map PC.cut).map PC.val ++ [x.cut.val]) := by
    refine Lib.hid ?_; rw [List.take_succ_eq_append_getElem hlt, List.map_append, List.map_append, hxk]
    rfl
   have hct := cut3_any x wr (hxo.keep hbl); have HCT := Lib.hid hct; clear hct hr hok hxk hxo; obtain ⟨l, p, cx⟩ := x; dsimp only [PC.val, PC.cut] at *
   go_wp2_with fail
   refine HCT.out.mono ?_; rintro e w1 ⟨rfl, rfl⟩; clear HCT c0
   go_wp2_with (at_builtin; go_must (refine wpList_appLit' w hbl rfl (.tmp 15) (.tmp 21) 51 rfl 80 (.slice none 0 0) 1 24 Tryz.underlying51 Tryz.infoPts rfl (by decide) (by decide) u3 k (((xs.take k).map PC.cut).map PC.val) rfl hown 1 1 [.slice p (min 40 l.length) cx] _ rfl rfl (by simp [Value.oneCell']) (by omega) ?_); intro v2 w2 hown2 _ hbl2; clear hown hbl)
   go_roundw
   case rel =>
    refine ⟨k + 1, by omega, by omega, by go_num, ?_, hbl2⟩; rw [hst.out]
    simpa [List.length_take] using hown2
   case measure => simp [intOf]; omega
  ·have e : xs.take 10 = xs.take k := by
    by_cases h : k < xs.length
    ·rw [show k = 10 by omega]
    ·rw [List.take_of_length_le (by omega), List.take_of_length_le (by omega)]
   have e2 : (xs.take 10).length = k := by simp; omega
   have hfin : wr.ownsRow w.heap.size 80 1 u3 Y.length (Y.map PC.val) := by
    rw [← HY.out, List.length_map, e2, e]; exact hown
   have HFIN := Lib.hid hfin; clear e e2 hfin
   by_cases h1 : k < xs.length
   ·obtain rfl : k = 10 := by omega
    go_wp2; go_ret; exact ⟨_, rfl, HFIN.out, hbl⟩
   ·obtain rfl : k = xs.length := by omega
    go_wp2; go_ret; exact ⟨_, rfl, HFIN.out, hbl⟩

end Go.Proofs.YtjggoajfilnfjaaGreat
namespace Go.Proofs.YtjggoajfilnfjaaGreat
open Go.RowKit Go.Vint Go.Proto
theorem number_any (num n : Int) (w : World) :
  Calls Tryz.prog 51 #[.int .i64 num, .int .u64 n] w fun e w' => e = .returned (.agg #[.int .i64 num, .int .i64 0, .int .u64 n, .slice none 0 0]) ∧ Below w.heap.size w w' := by
 go_enter Tryz.func51, Tryz.ntmps51
 have hz : (Tryz.prog.info? 72).map (fun i => i.zero) = some (some (.agg #[.int .i64 0, .int .i64 0, .int .u64 0, .slice none 0 0])) := by kernel_rfl
 have k0 := Blk.new w [.int .i64 0, .int .i64 0, .int .u64 0, .slice none 0 0] 72; have a0 := k0.cell 0 rfl; have a1 := k0.cell 1 rfl; have a2 := k0.cell 2 rfl; have a3 := k0.cell 3 rfl; go_wp2; have k1 := Blk.new w [.int .i64 num, .int .i64 0, .int .u64 n, .slice none 0 0] 72; have q0 := k1.cell 0 rfl; have q1 := k1.cell 1 rfl; have q2 := k1.cell 2 rfl; have q3 := k1.cell 3 rfl; exact bodyPost_ret (v := .agg #[.int .i64 num, .int .i64 0, .int .u64 n, .slice none 0 0]) (by simp [results, Tryz.results51, go_sem, q0, q1, q2, q3]) rfl ⟨rfl, Below.new _ _⟩
theorem bytes_any (num : Int) (p : Option Addr) (m c : Nat) (w : World) :
  Calls Tryz.prog 25 #[.int .i64 num, .slice p m c] w fun e w' => e = .returned (.agg #[.int .i64 num, .int .i64 2, .int .u64 0, .slice p m c]) ∧ Below w.heap.size w w' := by
 go_enter Tryz.func25, Tryz.ntmps25
 have hz : (Tryz.prog.info? 72).map (fun i => i.zero) = some (some (.agg #[.int .i64 0, .int .i64 0, .int .u64 0, .slice none 0 0])) := by kernel_rfl
 have k0 := Blk.new w [.int .i64 0, .int .i64 0, .int .u64 0, .slice none 0 0] 72; have a0 := k0.cell 0 rfl; have a1 := k0.cell 1 rfl; have a2 := k0.cell 2 rfl; have a3 := k0.cell 3 rfl; go_wp2; have k1 := Blk.new w [.int .i64 num, .int .i64 2, .int .u64 0, .slice p m c] 72; have q0 := k1.cell 0 rfl; have q1 := k1.cell 1 rfl; have q2 := k1.cell 2 rfl; have q3 := k1.cell 3 rfl; exact bodyPost_ret (v := .agg #[.int .i64 num, .int .i64 2, .int .u64 0, .slice p m c]) (by simp [results, Tryz.results25, go_sem, q0, q1, q2, q3]) rfl ⟨rfl, Below.new _ _⟩
def FdT (W : World) (x : FC) : Prop := ∃ b, W.ownsRow b 5 1 (.slice x.p x.f.bs.length x.c) x.f.bs.length (x.f.bs.map (Value.int .u8))
theorem fdT_none {W : World} {x : FC} (h1 : x.p = none) (h2 : x.c = 0) (h3 : x.f.bs = []) : FdT W x := ⟨0, by rw [h1, h2, h3]; exact World.ownsRow_nil _ _ _ _⟩
theorem FdT.below {W W' : World} {x : FC} (h : FdT W x) (hb : Below W.heap.size W W') : FdT W' x := by
 obtain ⟨b, h⟩ := h; exact ⟨b, h.below hb⟩
theorem FdT.grown {W W' : World} {x : FC} (h : FdT W x) {base n : Nat} {v : Value} {xs : List Value} (hg : W.grownBy W' v.ownBlock) (ho : W.ownsRow base 72 4 v n xs) : FdT W' x := by
 obtain ⟨b, h⟩ := h; exact ⟨b, h.kept hg (ownsRow_ne_type h ho (by decide))⟩
theorem FdT.ok {W : World} {x : FC} (h : FdT W x) : x.Ok W := by
 obtain ⟨b, h⟩ := h; obtain ⟨a, c, e, h1, h2, h3, h4, -⟩ := h.form
 cases e
 exact ⟨h4, h1, h2, h3⟩
end Go.Proofs.YtjggoajfilnfjaaGreat
