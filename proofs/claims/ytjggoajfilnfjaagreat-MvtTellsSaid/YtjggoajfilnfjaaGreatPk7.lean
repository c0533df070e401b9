/-
  proto.each and proto.All: the contracts. value.Read: the value of bytes. '[]byte(s)' of any string. proto.check. proto.low.
-/
import Derived.Test.YtjggoajfilnfjaaGreatPk6
import Derived.Maps.AppendAt
import Derived.Deep.QuietTactic
import Derived.BigRegionIn
import Derived.Test.YtjggoajfilnfjaaGreatPk5
import Derived.Test.YtjggoajfilnfjaaGreatPk1
import Derived.Lib.ConvBytes
import Derived.Test.YtjggoajfilnfjaaGreatPk3
namespace Go.Proofs.YtjggoajfilnfjaaGreat
open Go.RowKit Go.Vint Go.Proto
attribute [local go_sem] Oper.semAt_some

theorem flat_append (xs ys : List FC) : flat (xs ++ ys) = flat xs ++ flat ys := by simp [flat]

theorem Lies.grown {A B : World} {row : Option Nat} {x : FC} (h : Lies A x) (hg : A.grownBy B row) (hr : ∀ r, row = some r → ∃ o : Obj, A.heap[r]? = some o ∧ o.isCells = false) : Lies B x :=
 h.kept (KeepT.of_grownBy hg fun r e cs V fr hk => by
  obtain ⟨o, ho, hc⟩ := hr r e; rw [ho] at hk
  cases hk
  cases hc)

set_option maxHeartbeats 1000000 in
theorem each_in (n : Nat) (a : Option Addr) (m c : Nat) (w : World) :
  CallsIn Fence.wide n Tryz.prog 60 #[.slice a m c] w fun e w' => e = .returned (.func (.func 86) #[] #[.pointer (some ⟨w.heap.size, 0, none⟩)]) ∧ w' = w.alloc (.cells #[.slice a m c] 31) := by
 refine callsIn_of_wp Tryz.func60 rfl trivial ?_ rfl; simp only [Tryz.ntmps60, List.size_toArray, List.length_cons, List.length_nil, Nat.reduceAdd, Nat.reduceSub, Array.replicate_succ, Array.replicate_zero, List.push_toArray, List.append_toArray, List.nil_append, List.cons_append]
 gi_wp2
 go_ret; exact ⟨rfl, rfl⟩

theorem each_ahead (n : Nat) (Bn : Nat) (a : Option Addr) (c : Nat) (L : List Int) (hb : ∀ x ∈ L, 0 ≤ x ∧ x ≤ 255) (hlen : L.length ≤ 10000000) (hlc : L.length ≤ c) (hcm : c ≤ maxLen) (w : World) (hr : Rd w a (L.map (Value.int .u8)))
  (W0 : World) (hB0 : Below w.heap.size w W0) (fr : Nat × Nat) (hBn : W0.heap[Bn]? = some (.cells #[.slice a L.length c] 31 fr)) :
  SeqAhead Fence.wide n Tryz.prog 86 #[.pointer (some ⟨Bn, 0, none⟩)] (fun x : Nat × FC => #[.int .i64 (x.1 : Int), x.2.val]) (AtYield L) (KpE w.heap.size) (AtEnd L) W0 := by
 intro l J W hb0 hJ hY h0; exact each1_in n l Bn a c L hb hlen hlc hcm w hr J W (hB0.trans (hb0.mono hB0.size)) hJ fr ((hb0.block Bn (Array.getElem?_eq_some_iff.1 hBn).1).trans hBn) hY h0

set_option maxRecDepth 100000 in
set_option maxHeartbeats 4000000 in
theorem protoAll_lies (a : Option Addr) (c : Nat) (L : List Int) (hb : ∀ x ∈ L, 0 ≤ x ∧ x ≤ 255) (hlen : L.length ≤ 10000000) (hlc : L.length ≤ c) (hcm : c ≤ maxLen) (w : World) (hr : Rd w a (L.map (Value.int .u8))) :
  Calls Tryz.prog 29 #[.slice a L.length c] w fun e w' => ∃ v, e = .returned (.tuple #[v, .int .i64 (pall L).2.1, .int .i64 (pall L).2.2]) ∧ ∃ xs : List FC, xs.map (·.f) = (pall L).1 ∧
   w'.ownsRow w.heap.size 72 4 v xs.length (flat xs) ∧ (∀ x ∈ xs, Lies w' x) ∧ Below w.heap.size w w' := by
 refine (callsIn_wide (n := 5)).1 ?_; obtain ⟨i0, hi, hz0, hz1, hz2⟩ := info_parts Tryz.infoField; refine callsIn_of_wp_marks Tryz.func29 rfl trivial ?_ rfl; simp only [Tryz.ntmps29, List.size_toArray, List.length_cons, List.length_nil, Nat.reduceAdd, Nat.reduceSub, Array.replicate_succ, Array.replicate_zero, List.push_toArray, List.append_toArray, List.nil_append, List.cons_append]
 gi_wp2_with (first | (refine ⟨trivial, ?_⟩; gi_at_call 60; refine (each_in _ _ _ _ _).mono ?_; rintro e w' ⟨rfl, rfl⟩) | (gi_at_call 60; refine (each_in _ _ _ _ _).mono ?_; rintro e w' ⟨rfl, rfl⟩))
 have bB := ((((Boxed.new w 31 (.slice a L.length c)).alloc (.cells #[.slice none 0 0] 68)).alloc (.cells #[.int .i64 0] 3)).alloc (.cells #[.slice a L.length c] 31)); have bO := (((Boxed.new (w.alloc (.cells #[.slice a L.length c] 31)) 68 (.slice none 0 0)).alloc (.cells #[.int .i64 0] 3)).alloc (.cells #[.slice a L.length c] 31)); have bE := ((Boxed.new ((w.alloc (.cells #[.slice a L.length c] 31)).alloc (.cells #[.slice none 0 0] 68)) 3 (.int .i64 0)).alloc (.cells #[.slice a L.length c] 31)); have bN := Boxed.new (((w.alloc (.cells #[.slice a L.length c] 31)).alloc (.cells #[.slice none 0 0] 68)).alloc (.cells #[.int .i64 0] 3)) 31 (.slice a L.length c); simp only [World.size_alloc] at bO bE bN; have hB0 : Below w.heap.size w ((((w.alloc (.cells #[.slice a L.length c] 31)).alloc (.cells #[.slice none 0 0] 68)).alloc (.cells #[.int .i64 0] 3)).alloc (.cells #[.slice a L.length c] 31)) :=
  ((((Below.refl _ w).alloc (Nat.le_refl _) _).alloc (by simp) _).alloc (by simp; omega) _).alloc (by simp; omega) _
 have hsz : ((((w.alloc (.cells #[.slice a L.length c] 31)).alloc (.cells #[.slice none 0 0] 68)).alloc (.cells #[.int .i64 0] 3)).alloc (.cells #[.slice a L.length c] 31)).heap.size = w.heap.size + 4 := by simp
 obtain ⟨W0, hW0⟩ : ∃ W0, ((((w.alloc (.cells #[.slice a L.length c] 31)).alloc (.cells #[.slice none 0 0] 68)).alloc (.cells #[.int .i64 0] 3)).alloc (.cells #[.slice a L.length c] 31)) = W0 := ⟨_, rfl⟩; rw [hW0] at bB bO bE bN hB0 hsz ⊢; clear hW0; refine wpIn_rangeFunc_ahead rfl (by decide) (gf := 86) (lb := #[.pointer (some ⟨w.heap.size + 1 + 1 + 1, 0, none⟩)]) rfl trivial (enters_of Tryz.func86 (by kernel_rfl) rfl)
  (each_ahead (5 - 1) (w.heap.size + 1 + 1 + 1) a c L hb hlen hlc hcm w hr W0 hB0 (0, 0) bN) (fun h k => ⟨h.1.trans k.1, h.2.trans k.2⟩)
  (fun W l o o' hl h1 h2 => ⟨(Below.refl _ W).grown (grownBy_putObj' W l o') (by have := (Array.getElem?_eq_some_iff.1 h1).1; omega) (fun k e => by cases e; omega), KeepT.putObj W l o o' h1 h2⟩) (Below.refl _ _) (fun _ => rfl)
  (fun (pre : List (Nat × FC)) W => ((∃ v, Boxed W (w.heap.size + 1) 68 v ∧ W.ownsRow w.heap.size 72 4 v (pre.map (·.2)).length (flat (pre.map (·.2))) ∧ True) ∧ Boxed W (w.heap.size + 1 + 1) 3 (.int .i64 (behind L pre)) ∧ Boxed W w.heap.size 31 (.slice a L.length c)) ∧ Below w.heap.size w W)
  (OwnFrom.and (OwnFrom.and (Own.from (holdsRow_own w.heap.size (w.heap.size + 1) 68 72 4 (fun (pre : List (Nat × FC)) => (pre.map (·.2)).length) (fun (pre : List (Nat × FC)) => flat (pre.map (·.2))) (fun _ _ => True)) _) (OwnFrom.and (Own.from (boxed_own _ _ _) _) (Own.from (boxed_own _ _ _) _))) (ownFrom_below (Nat.le_refl _) (by omega)))
  (fun xs X Y row hs hg hrow => ⟨hs.1, fun x hx => (hs.2 x hx).grown hg (fun r e => (hrow r e).2)⟩)
  ⟨⟨⟨_, bO, World.ownsRow_nil _ _ _ _, trivial⟩, bE, bB⟩, hB0⟩
  (fun (pre : List (Nat × FC)) (x : Nat × FC) a' W => (((∃ v, Boxed W (w.heap.size + 1) 68 v ∧ W.ownsRow w.heap.size 72 4 v (pre.map (·.2)).length (flat (pre.map (·.2))) ∧ True) ∧ Boxed W (w.heap.size + 1 + 1) 3 (.int .i64 (behind L pre)) ∧ Boxed W w.heap.size 31 (.slice a L.length c)) ∧ Below w.heap.size w W) ∧ AtYield L pre x W ∧
   ∃ Bx, w.heap.size + 1 + 1 < Bx ∧ Blk W Bx x.2.cells ∧ a' = { tmps := #[.slice a L.length c, .pointer (some ⟨w.heap.size, 0, none⟩), .slice none 0 0, .int .i64 0, .int .i64 0, .pointer (some ⟨w.heap.size + 1, 0, none⟩), .pointer (some ⟨w.heap.size + 1 + 1, 0, none⟩), .int .i64 (x.1 : Int), .pointer (some ⟨Bx, 0, none⟩), undef, undef, undef, undef, .slice a L.length c, .func (.func 86) #[] #[.pointer (some ⟨w.heap.size + 1 + 1 + 1, 0, none⟩)], .int .i64 (x.1 : Int), x.2.val, undef, undef, undef, undef, undef, undef, undef, undef, undef, undef, undef, undef, undef, undef, undef, undef, undef, undef, undef, undef, undef, undef, undef, undef, undef, undef, undef, undef], defers := [] })
  ?hM ?assign ?body ?done
 case hM =>
  rintro pre x a' _ X Y row ⟨⟨⟨hO, hE, hBx⟩, hbw⟩, ⟨y1, y2, y3, y4, y5⟩, Bx, hlt, bX, rfl⟩ hg hrow; have hr' : ∀ r, row = some r → ∃ o : Obj, X.heap[r]? = some o ∧ o.isCells = false := fun r e => (hrow r e).2; refine ⟨⟨⟨holdsRow_own w.heap.size (w.heap.size + 1) 68 72 4 (fun (pre : List (Nat × FC)) => (pre.map (·.2)).length) (fun (pre : List (Nat × FC)) => flat (pre.map (·.2))) (fun _ _ => True) pre X Y row hO hg hr', boxed_own _ _ (fun (_ : Unit) => _) () X Y row hE hg hr', boxed_own _ _ (fun (_ : Unit) => _) () X Y row hBx hg hr'⟩, hbw.grown hg (by have := hbw.size; omega) (fun k e => by have := (hrow k e).1; omega)⟩, ⟨y1, y2, y3, y4, y5.grown hg hr'⟩, Bx, hlt, bX.grown hg (fun e => ?_), rfl⟩; obtain ⟨o, ho, hc⟩ := hr' Bx e.symm; obtain ⟨T, hT⟩ := bX; rw [hT] at ho
  cases ho
  cases hc
 case assign =>
  rintro l pre ⟨p, ⟨fl, ao, co⟩⟩ W hI hA; dsimp only [FC.val]; obtain ⟨⟨⟨v, bO1, hrow, -⟩, bE1, bB1⟩, hB1⟩ := hI; obtain ⟨y1, y2, y3, y4, y5⟩ := hA; have hbl : Below W.heap.size W (W.alloc (.cells #[.int .i64 fl.num, .int .i64 fl.kind, .int .u64 fl.n, .slice ao fl.bs.length co] 72)) := Below.new _ _; have hsW : w.heap.size + 1 + 1 < W.heap.size := bE1.lt
  gi_wp2
  refine ⟨KeepsOthers.alloc _ _, ⟨hbl.mono (by omega), KeepT.of_below hbl⟩, ⟨⟨⟨v, bO1.alloc _, ?_⟩, bE1.alloc _, bB1.alloc _⟩, hB1.alloc (by omega) _⟩, ⟨y1, y2, y3, y4, y5.kept (KeepT.of_below hbl)⟩, ?_⟩
  ·simpa using hrow.below hbl
  ·exact Blk.new _ _ _
 case body =>
  rintro l pre ⟨p, ⟨fl, ao, co⟩⟩ a' W ⟨⟨⟨⟨v, bO1, hrow, -⟩, bE1, bB1⟩, hB1⟩, ⟨y1, y2, y3, y4, y5⟩, Bx, hBx, bX, rfl⟩; dsimp only at y1 y2 y3 y4; obtain ⟨b0, off0, rfl, -, -⟩ := hr.at (i := p) (v := .int .u8 L[p]) (by simp [y2]); have hD : ∀ x ∈ L.drop p, 0 ≤ x ∧ x ≤ 255 := fun x hx => hb x (List.mem_of_mem_drop hx); have hDl : (L.drop p).length = L.length - p := by simp
  have hrw := (hr.keep hB1).drop p; rw [← List.map_drop] at hrw; have hcl := pskip_any _ (c - p) (L.drop p) hD (by omega) (by omega) (by omega) W hrw; obtain ⟨m, hm, n1, n2, -, -, -, -, -, -⟩ := prd_ok _ hD y3; rw [hDl] at hcl n2; rw [hm, y3] at hcl; have HCL := Lib.hid hcl; have hcp : ¬ c = p := by omega
  have hsn := behind_snoc L pre (p, ⟨fl, ao, co⟩); dsimp only at hsn; rw [hm] at hsn; have HSN := Lib.hid hsn; have cB := bB1.cell; have hln : ¬ L.length < p := by omega
  have Y4 := Lib.hid y4; clear hcl hrw hm y3 hD hDl hsn y4
  gi_wp2_with fail
  refine ⟨trivial, (CallsIn.inRound l (callsIn_wide.2 HCL.out)).mono ?_⟩; rintro e w1 ⟨rfl, hb2⟩; have bO2 : Boxed w1 _ _ _ := (hb2.block _ bO1.lt).trans bO1; have bE2 : Boxed w1 _ _ _ := (hb2.block _ bE1.lt).trans bE1; have bB2 : Boxed w1 _ _ _ := (hb2.block _ bB1.lt).trans bB1; have bX2 := bX.keep hb2; have hrow2 := hrow.below hb2; have cO := bO2.cell; have cE := bE2.cell; have fE := bE2.frozen; have x0 := bX2.cell 0 rfl; have x1 := bX2.cell 1 rfl; have x2 := bX2.cell 2 rfl; have x3 := bX2.cell 3 rfl; have hB2 := Lib.hid hb2; have Y5 := Lib.hid y5; have hneX : ¬ w.heap.size + 1 + 1 = Bx := by omega
  clear cB bO1 bE1 bB1 bX hrow HCL hb2 y5; have bO3 : Boxed (w1.setCell ⟨w.heap.size + 1 + 1, 0, none⟩ (.int .i64 ((p : Int) + m))) (w.heap.size + 1) 68 v := bO2.other (by omega) _; have bB3 : Boxed (w1.setCell ⟨w.heap.size + 1 + 1, 0, none⟩ (.int .i64 ((p : Int) + m))) w.heap.size 31 _ := bB2.other (by omega) _; have bE3 : Boxed (w1.setCell ⟨w.heap.size + 1 + 1, 0, none⟩ (.int .i64 ((p : Int) + m))) (w.heap.size + 1 + 1) 3 _ := bE2.set _; have hrow3 : (w1.setCell ⟨w.heap.size + 1 + 1, 0, none⟩ (.int .i64 ((p : Int) + m))).ownsRow _ _ _ _ _ _ := hrow2.set_ne (p := ⟨w.heap.size + 1 + 1, 0, none⟩) (bE2.not_row (by decide) hrow2).symm _; have hkT : KeepT 5 31 w1 (w1.setCell ⟨w.heap.size + 1 + 1, 0, none⟩ (.int .i64 ((p : Int) + m))) := KeepT.store bE2 (by decide) (by decide) _; have HKT := Lib.hid hkT; have hsz3 : w.heap.size ≤ (w1.setCell ⟨w.heap.size + 1 + 1, 0, none⟩ (.int .i64 ((p : Int) + m))).heap.size := by
   rw [size_setCell]; have := bE2.lt; omega
  have hsz4 : w.heap.size ≤ w1.heap.size := by have := bE2.lt; omega
  have hpl : (pre.map (·.2)).length = pre.length := by simp
  have HPL := Lib.hid hpl; rw [hpl] at hrow3; clear hkT hpl hrow2 bE2 bB2 bO2
  gi_wp2_with (gi_at_builtin; go_must (refine wpListIn_append_own _ rfl (.tmp 27) (.tmp 29) 68 rfl w.heap.size 72 i0 (.agg #[.int .i64 0, .int .i64 0, .int .u64 0, .slice none 0 0]) 4 48 Tryz.underlying68 hi hz0 hz1 hz2 rfl (by decide) v pre.length (flat (pre.map (·.2))) rfl (hrow3.below (Below.new _ _)) ⟨w1.heap.size, 0, none⟩ 1 1 (FC.cells ⟨fl, ao, co⟩) rfl rfl (Rd.lit _ _ _ _ (by simp [World.setCell])).add (FC.cells_one _) (by unfold maxLen; omega) (by omega) (by simp; omega) ?_); intro v' w3 hown' hgrow _; obtain ⟨g', cap', rfl⟩ := ownsRow_succ hown'; obtain ⟨hv1, hv2, hr2, hk2, hb3⟩ := bO3.appended (by decide) hrow3 hsz3 (by omega) hown' hgrow; have hc1 := hv1.cell; have hf1 := hv1.frozen)
  have hsW : w.heap.size ≤ W.heap.size := hB1.size; have hrow4 := hrow3.below (Below.new _ (.cells (FC.cells ⟨fl, ao, co⟩).toArray 72)); have hgT := (KeepT.of_below (T := 5) (U := 31) (Below.new _ (.cells (FC.cells ⟨fl, ao, co⟩).toArray 72))).trans (KeepT.of_row hrow4 (by decide) (by decide) hgrow); have hgS : KeepT 5 31 _ _ := KeepT.store hv1 (by decide) (by decide) (.slice (some ⟨g', 0, none⟩) (pre.length + 1) cap'); have hE4 : Boxed w3 (w.heap.size + 1 + 1) _ _ := (bE3.alloc _).kept hgrow ((bE3.alloc _).not_row (by decide) hrow4); have hB4 : Boxed w3 w.heap.size _ _ := (bB3.alloc _).kept hgrow ((bB3.alloc _).not_row (by decide) hrow4); have hbW := (hB2.out.mono hsW).trans (((Below.refl w.heap.size w1).set_at (by omega) _).trans hb3); refine ⟨(KeepsOthers.of_below hB2.out).trans ((KeepsOthers.setCell _ _ _).trans hk2), ⟨hbW, (KeepT.of_below hB2.out).trans (HKT.out.trans (hgT.trans hgS))⟩, ⟨⟨_, hv2, ?_, trivial⟩, ?_, hB4.other (by omega) _⟩, hB1.trans hbW⟩
  ·rw [List.map_append, flat_append]
   simpa [flat] using hr2
  ·rw [HSN.out]; exact hE4.other (by omega) _
 case done =>
  rintro D xs W hD ⟨⟨p, g, y1, y2, y3, y4, y5⟩, hL⟩ ⟨⟨⟨v, bO1, hrow, -⟩, bE1, bB1⟩, hB1⟩ hK; rw [y1] at bE1; have cB := bB1.cell; have cE := bE1.cell; have cO := bO1.cell; have Y1 := Lib.hid y1; have Y4 := Lib.hid y4; have HL := Lib.hid hL; clear y1 y4 hL
  by_cases hlt : p < L.length
  ·have he : (prd (L.drop p)).2.2 ≠ 0 := by
    rcases y5 with h | h
    ·omega
    ·exact h
   obtain ⟨b0, off0, rfl, -, -⟩ := hr.at (i := p) (v := .int .u8 L[p]) (by simp [hlt]); have hD : ∀ x ∈ L.drop p, 0 ≤ x ∧ x ≤ 255 := fun x hx => hb x (List.mem_of_mem_drop hx); have hDl : (L.drop p).length = L.length - p := by simp
   have hrw := (hr.keep hB1).drop p; rw [← List.map_drop] at hrw; have hcl := pskip_any _ (c - p) (L.drop p) hD (by omega) (by omega) (by omega) W hrw; rw [hDl] at hcl; have HCL := Lib.hid hcl; have hcp : ¬ c = p := by omega
   have hln : ¬ L.length < p := by omega
   have HE := Lib.hid (Y4.out.trans (pallF_err g L p _ hlt he)); clear hcl hrw he y5 hD hDl; generalize prd (L.drop p) = r at *; obtain ⟨fl, n, er⟩ := r
   gi_wp2_with fail
   refine ⟨trivial, (callsIn_wide.2 HCL.out).mono ?_⟩; rintro e w1 ⟨rfl, hb2⟩; have cE2 : w1.cell? ⟨w.heap.size + 1 + 1, 0, none⟩ = some (.int .i64 p) := (hb2.cell (p := ⟨w.heap.size + 1 + 1, 0, none⟩) bE1.lt).trans cE; have hK2 : w1.heap[D]? = some (.deferred (some [])) := (hb2.block D (Array.getElem?_eq_some_iff.1 hK).1).trans hK; have hBW := Lib.hid (hB1.trans (hb2.mono hB1.size)); clear hb2 cE cO cB bO1 bE1 bB1 hrow HCL bN bB bE bO hK
   gi_wp2
   gi_region
   gi_wp2
   refine ⟨by simp, .inl ⟨_, _, rfl, run_takeDeferred hK2, ?_⟩⟩; refine ⟨.tuple #[.slice none 0 0, .int .i64 p, .int .i64 er], by simp [results, Tryz.results29, go_sem], .slice none 0 0, by rw [HE.out], [], by rw [HE.out]; simp, World.ownsRow_nil _ _ _ _, by simp, ?_⟩; exact hBW.out.drew.trans (belowK_b (w := w) (Nat.le_refl _) w1.drew D _ _ (by omega) hK2 rfl rfl)
  ·have HE := Lib.hid (Y4.out.trans (pallF_end g L p _ hlt))
   gi_wp2
   refine ⟨by simp, .inl ⟨_, _, rfl, run_takeDeferred hK, ?_⟩⟩; refine ⟨.tuple #[v, .int .i64 0, .int .i64 0], by simp [results, Tryz.results29, go_sem], v, by rw [HE.out], xs.map (·.2), by rw [HE.out]; simp, ownsRow_putObj hrow _ hK rfl, ?_, ?_⟩
   ·intro x hx; obtain ⟨y, hy, rfl⟩ := List.mem_map.1 hx; exact ((HL.out y hy).kept (KeepT.putObj W D _ _ hK rfl))
   ·exact hB1.trans (belowK_b (w := w) (Nat.le_refl _) W D _ _ (by omega) hK rfl rfl)
theorem protoAll_any (a : Option Addr) (c : Nat) (L : List Int) (hb : ∀ x ∈ L, 0 ≤ x ∧ x ≤ 255) (hlen : L.length ≤ 10000000) (hlc : L.length ≤ c) (hcm : c ≤ maxLen) (w : World) (hr : Rd w a (L.map (Value.int .u8))) :
  Calls Tryz.prog 29 #[.slice a L.length c] w fun e w' => ∃ v, e = .returned (.tuple #[v, .int .i64 (pall L).2.1, .int .i64 (pall L).2.2]) ∧ ∃ xs : List FC, xs.map (·.f) = (pall L).1 ∧
   w'.ownsRow w.heap.size 72 4 v xs.length (flat xs) ∧ (∀ x ∈ xs, x.Ok w') ∧ Below w.heap.size w w' := by
 refine (protoAll_lies a c L hb hlen hlc hcm w hr).mono ?_; rintro e w' ⟨v, h1, xs, h2, h3, h4, h5⟩; exact ⟨v, h1, xs, h2, h3, fun x hx => (h4 x hx).1, h5⟩
end Go.Proofs.YtjggoajfilnfjaaGreat
set_option linter.unusedVariables false
set_option linter.unusedSimpArgs false
set_option maxRecDepth 100000
namespace Go
open Go.RowKit Go.Proto Go.Vint
def vrdF : VV → List Fld → VV × Int
 | cur, [] => if cur.1 = 0 then (vZ, 7) else if vcF cur.1 cur.2.1 cur.2.2 ≠ 0 then (vZ, vcF cur.1 cur.2.1 cur.2.2) else (cur, 0)
 | cur, f :: l => if (knF f).2 ≠ 0 then (vZ, (knF f).2) else if (knF f).1.1 ≠ 0 then (if cur.1 ≠ 0 then (vZ, 8) else vrdF (knF f).1 l) else vrdF cur l
def vrd (L : List Int) : VV × Int := if (pall L).2.2 ≠ 0 then (vZ, (pall L).2.2) else vrdF vZ (pall L).1
theorem vrdF_get (cur : VV) (l : List Fld) (k : Nat) (h : k < l.length) : vrdF cur (l.drop k) = if (knF l[k]).2 ≠ 0 then (vZ, (knF l[k]).2) else if (knF l[k]).1.1 ≠ 0 then (if cur.1 ≠ 0 then (vZ, 8) else vrdF (knF l[k]).1 (l.drop (k + 1))) else vrdF cur (l.drop (k + 1)) := by
 rw [List.drop_eq_getElem_cons h, vrdF]
theorem knF_size (f : Fld) (m : Nat) (h : f.bs.length ≤ m) : (knF f).1.2.1.size ≤ m := by
 unfold knF
 (repeat' split) <;> simp only [strOfNums_size] <;> first | exact h | exact Nat.zero_le _
theorem flat_cells (xs : List FC) (W : World) (a : Option Addr) (hr : Rd W a (flat xs)) (k : Nat) (hk : k < xs.length) :
  ∃ b off, a = some ⟨b, off, none⟩ ∧ ∀ j v, j < 4 → (xs[k]).cells[j]? = some v → W.cell? ⟨b, off + k * 4 + j, none⟩ = some v := by
 have h0 := fun j hj => flat_get xs k j hk hj
 rcases hr with h | ⟨b, off, rfl, hc⟩
 ·have := flat_len xs; rw [h] at this; simp at this; omega
 ·refine ⟨b, off, rfl, fun j v hj hv => ?_⟩; have := hc (k * 4 + j) v (by rw [h0 j hj, hv])
  rwa [← Nat.add_assoc] at this
end Go
namespace Go.Proofs.YtjggoajfilnfjaaGreat
open Go.RowKit Go.Vint Go.Proto

set_option maxHeartbeats 4000000 in
theorem valread_any (a : Option Addr) (c : Nat) (L : List Int) (hb : ∀ x ∈ L, 0 ≤ x ∧ x ≤ 255) (hlen : L.length ≤ 1000000) (hlc : L.length ≤ c) (hcm : c ≤ maxLen) (w : World) (hr : Rd w a (L.map (Value.int .u8))) :
  Calls Tryz.prog 88 #[.slice a L.length c] w fun e w' => e = .returned (.tuple #[vVal (vrd L).1, .int .i64 (vrd L).2]) ∧ Below w.heap.size w w' := by
 have HP := Lib.hid (fun h => pall_ok L hb h); obtain ⟨V, hVV⟩ : ∃ V, vrd L = V := ⟨_, rfl⟩; rw [hVV]; have HVV := Lib.hid hVV; clear hVV; obtain ⟨B, hB⟩ : ∃ B, w.heap.size = B := ⟨_, rfl⟩; have HBE := Lib.hid hB; have hbw := Below.new w (.cells #[.int .i64 0, .string ⟨#[]⟩, .int .i64 0] 101); have k0 := Blk.lit w B (vCells vZ) 101 hB; have hr0 := hr.keep hbw; have HAL := Lib.hid (protoAll_any a c L hb (by omega) hlc hcm _ hr0); clear hr hr0 hb
 go_enter Tryz.func88, Tryz.ntmps88
 go_wp2_with fail
 refine HAL.out.mono ?_; rintro e w1 ⟨v, rfl, xs, hxs, hown, hok, hb1⟩; obtain ⟨pa, pc, rfl, -, -, -, hrx, -⟩ := hown.form; have k1 := k0.keep hb1; have hbw1 := hbw.trans (hb1.mono (by simp)); clear HAL hown k0 hb1 hbw; obtain ⟨E, hE⟩ : ∃ E, (pall L).2.2 = E := ⟨_, rfl⟩; have HV : Hid (V = if E ≠ 0 then (vZ, E) else vrdF vZ (xs.map (·.f))) := by
  refine Lib.hid ?_; rw [← HVV.out, ← hE, hxs]; rfl
 replace HP := Lib.hid (fun h => HP.out (hE.trans h)); have HX := Lib.hid hxs; rw [hE]; clear hE hxs
 -- walk
 have hBb : w.heap.size ≤ B := by omega
 by_cases hE : E = 0
 ·obtain rfl := hE; have hV := HV.out; rw [if_neg (by omega)] at hV; replace HV := Lib.hid hV; obtain ⟨-, HFI, -, HLL⟩ := HP.out rfl; rw [← HX.out] at HFI HLL; have HFF := Lib.hid HFI; have hxl : xs.length ≤ 1000000 := by rw [List.length_map] at HLL; omega
  clear hV HP HFI HLL; have hbO := Below.new w1 (.cells (vCells vZ).toArray 101); have kO := Blk.lit w1 w1.heap.size (vCells vZ) 101 rfl; have kB := k1.keep hbO; have hltB : B < w1.heap.size := k1.lt; obtain ⟨C, hC⟩ : ∃ C, w1.heap.size = C := ⟨_, rfl⟩; have HCE := Lib.hid hC; have hWO : ∀ W, Below w1.heap.size w1 W → Below w.heap.size w W := fun W h => hbw1.trans (h.mono hbw1.size); have HWO := Lib.hid hWO; dsimp only [vCells, vZ] at kO kB hbO; rw [hC] at kO hltB; go_wp2; have hvz : (vZ : VV).2.1.size ≤ maxLen := Nat.zero_le _; have HVZ := Lib.hid hvz
  go_loopw [26] (fun i wr => ∃ (k : Nat) (cur : VV), k ≤ xs.length ∧ i = .int .i64 k ∧ Hid (vrdF vZ (xs.map (·.f)) = vrdF cur ((xs.map (·.f)).drop k)) ∧ Hid (cur.2.1.size ≤ maxLen) ∧ Blk wr C (vCells cur) ∧ Blk wr B (vCells vZ) ∧ Hid (Below w1.heap.size w1 wr)) (fun i _ => xs.length - (intOf i).toNat)
  case atStart => exact ⟨0, vZ, Nat.zero_le _, rfl, Lib.hid rfl, HVZ, kO, kB, Lib.hid hbO⟩
  case round =>
   obtain ⟨k, ⟨ck, ct, cn⟩, hk, rfl, HR, HS, kO, kB, HBL⟩ := hrel; have hCl := kO.lt
   by_cases hlt : k < xs.length
   ·obtain ⟨x, hxk⟩ : ∃ x, xs[k] = x := ⟨_, rfl⟩; have hmk : (xs.map (·.f))[k]'(by simpa using hlt) = x.f := by rw [List.getElem_map, hxk]
    have hxm : x ∈ xs := by rw [← hxk]; exact List.getElem_mem _
    have hG := vrdF_get (ck, ct, cn) (xs.map (·.f)) k (by simpa using hlt); rw [hmk] at hG; have hF := HFF.out x.f (List.mem_map_of_mem hxm); obtain ⟨b1, off1, rfl, hc1⟩ := flat_cells xs wr _ (hrx.keep HBL.out) k hlt; rw [hxk] at hc1; have hxo := (hok x hxm).keep (HBL.out.trans ((Below.new wr (.cells x.cells.toArray 72)).mono HBL.out.size)); have hkn := known_any x _ hxo ⟨hF.2.1, hF.2.2.1⟩; have hksz := knF_size x.f maxLen (by have := hxo.2.1; have := hxo.2.2.1; omega); have c0 := hc1 0 _ (by omega) rfl; have c1 := hc1 1 _ (by omega) rfl; have c2 := hc1 2 _ (by omega) rfl; have c3 := hc1 3 _ (by omega) rfl; rw [Nat.add_zero] at c0; obtain ⟨⟨⟨kk, kt, kv⟩, ke⟩, hq⟩ : ∃ q, knF x.f = q := ⟨_, rfl⟩; rw [hq] at hG hkn hksz; dsimp only [vVal] at hkn hksz hG; have HG := Lib.hid hG; have HKN := Lib.hid hkn; have HKZ := Lib.hid hksz; have hbx := Below.new wr (.cells x.cells.toArray 72); have HBX := Lib.hid hbx; have kO1 := kO.keep hbx; have kB1 := kB.keep hbx; clear hmk hxk hxm hG hF hc1 hxo hkn hksz hq hbx kO kB; obtain ⟨⟨num, kind, n, bs⟩, p, cx⟩ := x; dsimp only [FC.val, FC.cells] at HKN c0 c1 c2 c3 HBX kO1 kB1
    go_wp2_with fail
    refine HKN.out.mono ?_; rintro e w2 ⟨rfl, hb2⟩; have hbn := Below.new w2 (.cells #[.int .i64 kk, .string kt, .int .i64 kv] 101); have kO2 := (kO1.keep hb2).keep hbn; have kB2 := (kB1.keep hb2).keep hbn; have HB2 : Hid (Below w1.heap.size w1 (w2.alloc (.cells #[.int .i64 kk, .string kt, .int .i64 kv] 101))) := by
     have hba := HBL.out.trans ((HBX.out.trans (hb2.mono HBX.out.size)).mono HBL.out.size); exact Lib.hid (hba.trans (hbn.mono hba.size))
    clear HKN hb2 hbn kO1 kB1 HBX HBL c0 c1 c2 c3; dsimp only [vCells, vZ] at kO2 kB2
    by_cases hke : ke = 0
    ·subst hke
     by_cases hkk : kk = 0
     ·subst hkk; have hG := HG.out; rw [if_neg (by omega), if_neg (by omega)] at hG; have HG2 := Lib.hid hG; clear hG HG; go_wp2; go_roundw
      case rel => exact ⟨k + 1, (ck, ct, cn), by omega, by go_num, Lib.hid (HR.out.trans HG2.out), HS, kO2, kB2, HB2⟩
      case measure => simp [intOf]; omega
     ·have hkk' : (kk != 0) = true := by simpa using hkk
      by_cases hck : ck = 0
      ·subst hck; have hG := HG.out; rw [if_neg (by omega), if_pos hkk, if_neg (by omega)] at hG; have HG2 := Lib.hid hG; clear hG HG; have o0 := kO2.cell 0 rfl; have hneC : B ≠ C := by omega
       have hCC : w1.heap.size ≤ C := by omega
       have sc0 := kO2.cell 0 rfl; have sf0 := kO2.free 0; have sk0 := kO2.set 0 (.int .i64 kk); have sc1 := sk0.cell 1 rfl; have sf1 := sk0.free 1; have sk1 := sk0.set 1 (.string kt); have sc2 := sk1.cell 2 rfl; have sf2 := sk1.free 2; have kO3 := sk1.set 2 (.int .i64 kv); go_wp2; go_roundw
       case rel => 
        refine ⟨k + 1, (kk, kt, kv), by omega, by go_num, Lib.hid (HR.out.trans HG2.out), HKZ, kO3, ((kB2.set_at hneC _).set_at hneC _).set_at hneC _, Lib.hid (((HB2.out.set_at hCC _).set_at hCC _).set_at hCC _)⟩
       case measure => simp [intOf]; omega
      ·have hck' : (ck != 0) = true := by simpa using hck
       have hG := HG.out; rw [if_neg (by omega), if_pos hkk, if_pos hck] at hG; have HG2 := Lib.hid (HV.out.trans (HR.out.trans hG)); clear hG HG; have o0 := kO2.cell 0 rfl; have sc0 := kB2.cell 0 rfl; have sf0 := kB2.free 0; have sk0 := kB2.set 0 (.int .i64 0); have sc1 := sk0.cell 1 rfl; have sf1 := sk0.free 1; have sk1 := sk0.set 1 (.string ⟨#[]⟩); have sc2 := sk1.cell 2 rfl; have sf2 := sk1.free 2; have kF := sk1.set 2 (.int .i64 0); have hbz := HWO.out _ HB2.out; go_wp2; refine bodyPost_ret (v := .tuple #[vVal (vZ), .int .i64 (8)]) ?_ rfl ⟨by rw [HG2.out], by first | exact ((hbz.set_at (b := B) (o := 0) hBb _).set_at (b := B) (o := 1) hBb _).set_at (b := B) (o := 2) hBb _ | (rw [← HBE.out]; exact ((hbz.set_at (b := w.heap.size) (o := 0) (Nat.le_refl _) _).set_at (b := w.heap.size) (o := 1) (Nat.le_refl _) _).set_at (b := w.heap.size) (o := 2) (Nat.le_refl _) _)⟩; have q0 := kF.cell 0 rfl; have q1 := kF.cell 1 rfl; have q2 := kF.cell 2 rfl; simp [results, Tryz.results88, go_sem, vVal, vZ, q0, q1, q2]
    ·have hke' : (ke != 0) = true := by simpa using hke
     have hG := HG.out; rw [if_pos hke] at hG; have HG2 := Lib.hid (HV.out.trans (HR.out.trans hG)); clear hG HG; have sc0 := kB2.cell 0 rfl; have sf0 := kB2.free 0; have sk0 := kB2.set 0 (.int .i64 0); have sc1 := sk0.cell 1 rfl; have sf1 := sk0.free 1; have sk1 := sk0.set 1 (.string ⟨#[]⟩); have sc2 := sk1.cell 2 rfl; have sf2 := sk1.free 2; have kF := sk1.set 2 (.int .i64 0); have hbz := HWO.out _ HB2.out; go_wp2; refine bodyPost_ret (v := .tuple #[vVal (vZ), .int .i64 (ke)]) ?_ rfl ⟨by rw [HG2.out], by first | exact ((hbz.set_at (b := B) (o := 0) hBb _).set_at (b := B) (o := 1) hBb _).set_at (b := B) (o := 2) hBb _ | (rw [← HBE.out]; exact ((hbz.set_at (b := w.heap.size) (o := 0) (Nat.le_refl _) _).set_at (b := w.heap.size) (o := 1) (Nat.le_refl _) _).set_at (b := w.heap.size) (o := 2) (Nat.le_refl _) _)⟩; have q0 := kF.cell 0 rfl; have q1 := kF.cell 1 rfl; have q2 := kF.cell 2 rfl; simp [results, Tryz.results88, go_sem, vVal, vZ, q0, q1, q2]
   ·obtain rfl : k = xs.length := by omega
    have hR := HR.out; rw [List.drop_of_length_le (by simp), vrdF] at hR; dsimp only at hR; have HR2 := Lib.hid (HV.out.trans hR); clear hR HR HV; have o0 := kO.cell 0 rfl; have o1 := kO.cell 1 rfl; have o2 := kO.cell 2 rfl; dsimp only [vZ, vCells] at kB
    by_cases hck : ck = 0
    ·subst hck; have hR := HR2.out; rw [if_pos rfl] at hR; have HG2 := Lib.hid hR; clear hR HR2; have sc0 := kB.cell 0 rfl; have sf0 := kB.free 0; have sk0 := kB.set 0 (.int .i64 0); have sc1 := sk0.cell 1 rfl; have sf1 := sk0.free 1; have sk1 := sk0.set 1 (.string ⟨#[]⟩); have sc2 := sk1.cell 2 rfl; have sf2 := sk1.free 2; have kF := sk1.set 2 (.int .i64 0); have hbz := HWO.out _ HBL.out; go_wp2; refine bodyPost_ret (v := .tuple #[vVal (vZ), .int .i64 (7)]) ?_ rfl ⟨by rw [HG2.out], by first | exact ((hbz.set_at (b := B) (o := 0) hBb _).set_at (b := B) (o := 1) hBb _).set_at (b := B) (o := 2) hBb _ | (rw [← HBE.out]; exact ((hbz.set_at (b := w.heap.size) (o := 0) (Nat.le_refl _) _).set_at (b := w.heap.size) (o := 1) (Nat.le_refl _) _).set_at (b := w.heap.size) (o := 2) (Nat.le_refl _) _)⟩; have q0 := kF.cell 0 rfl; have q1 := kF.cell 1 rfl; have q2 := kF.cell 2 rfl; simp [results, Tryz.results88, go_sem, vVal, vZ, q0, q1, q2]
    ·have hck' : (ck == 0) = false := by simpa using hck
     have hR := HR2.out; rw [if_neg hck] at hR; have HR3 := Lib.hid hR; clear hR HR2; have hvc := vchk_any ck cn ct HS.out wr; obtain ⟨ve, hve⟩ : ∃ ve, vcF ck ct cn = ve := ⟨_, rfl⟩; rw [hve] at hvc; have HVC := Lib.hid hvc; have HVE := Lib.hid hve; clear hvc hve
     go_wp2_with fail
     refine HVC.out.mono ?_; rintro e w3 ⟨rfl, hb3⟩; have hbz := HWO.out _ (HBL.out.trans (hb3.mono HBL.out.size)); have kB3 := kB.keep hb3; have kO3 := kO.keep hb3; have p0 := kO3.cell 0 rfl; have p1 := kO3.cell 1 rfl; have p2 := kO3.cell 2 rfl; clear HVC kB kO o0 o1 o2 hb3
     by_cases hz : ve = 0
     ·subst hz; have hR := HR3.out; rw [HVE.out, if_neg (by omega)] at hR; have HG2 := Lib.hid hR; clear hR HR3; have sc0 := kB3.cell 0 rfl; have sf0 := kB3.free 0; have sk0 := kB3.set 0 (.int .i64 ck); have sc1 := sk0.cell 1 rfl; have sf1 := sk0.free 1; have sk1 := sk0.set 1 (.string ct); have sc2 := sk1.cell 2 rfl; have sf2 := sk1.free 2; have kF := sk1.set 2 (.int .i64 cn); go_wp2; refine bodyPost_ret (v := .tuple #[vVal ((ck, ct, cn)), .int .i64 (0)]) ?_ rfl ⟨by rw [HG2.out], by first | exact ((hbz.set_at (b := B) (o := 0) hBb _).set_at (b := B) (o := 1) hBb _).set_at (b := B) (o := 2) hBb _ | (rw [← HBE.out]; exact ((hbz.set_at (b := w.heap.size) (o := 0) (Nat.le_refl _) _).set_at (b := w.heap.size) (o := 1) (Nat.le_refl _) _).set_at (b := w.heap.size) (o := 2) (Nat.le_refl _) _)⟩; have q0 := kF.cell 0 rfl; have q1 := kF.cell 1 rfl; have q2 := kF.cell 2 rfl; simp [results, Tryz.results88, go_sem, vVal, vZ, q0, q1, q2]
     ·have hz' : (ve != 0) = true := by simpa using hz
      have hR := HR3.out; rw [HVE.out, if_pos hz] at hR; have HG2 := Lib.hid hR; clear hR HR3; have sc0 := kB3.cell 0 rfl; have sf0 := kB3.free 0; have sk0 := kB3.set 0 (.int .i64 0); have sc1 := sk0.cell 1 rfl; have sf1 := sk0.free 1; have sk1 := sk0.set 1 (.string ⟨#[]⟩); have sc2 := sk1.cell 2 rfl; have sf2 := sk1.free 2; have kF := sk1.set 2 (.int .i64 0); go_wp2; refine bodyPost_ret (v := .tuple #[vVal (vZ), .int .i64 (ve)]) ?_ rfl ⟨by rw [HG2.out], by first | exact ((hbz.set_at (b := B) (o := 0) hBb _).set_at (b := B) (o := 1) hBb _).set_at (b := B) (o := 2) hBb _ | (rw [← HBE.out]; exact ((hbz.set_at (b := w.heap.size) (o := 0) (Nat.le_refl _) _).set_at (b := w.heap.size) (o := 1) (Nat.le_refl _) _).set_at (b := w.heap.size) (o := 2) (Nat.le_refl _) _)⟩; have q0 := kF.cell 0 rfl; have q1 := kF.cell 1 rfl; have q2 := kF.cell 2 rfl; simp [results, Tryz.results88, go_sem, vVal, vZ, q0, q1, q2]
 ·have hE' : (E != 0) = true := by simpa using hE
  have hV := HV.out; rw [if_pos hE] at hV; have HG2 := Lib.hid hV; clear hV HV HP HX; dsimp only [vCells, vZ] at k1; have sc0 := k1.cell 0 rfl; have sf0 := k1.free 0; have sk0 := k1.set 0 (.int .i64 0); have sc1 := sk0.cell 1 rfl; have sf1 := sk0.free 1; have sk1 := sk0.set 1 (.string ⟨#[]⟩); have sc2 := sk1.cell 2 rfl; have sf2 := sk1.free 2; have kF := sk1.set 2 (.int .i64 0); go_wp2; refine bodyPost_ret (v := .tuple #[vVal (vZ), .int .i64 (E)]) ?_ rfl ⟨by rw [HG2.out], by first | exact ((hbw1.set_at (b := B) (o := 0) hBb _).set_at (b := B) (o := 1) hBb _).set_at (b := B) (o := 2) hBb _ | (rw [← HBE.out]; exact ((hbw1.set_at (b := w.heap.size) (o := 0) (Nat.le_refl _) _).set_at (b := w.heap.size) (o := 1) (Nat.le_refl _) _).set_at (b := w.heap.size) (o := 2) (Nat.le_refl _) _)⟩; have q0 := kF.cell 0 rfl; have q1 := kF.cell 1 rfl; have q2 := kF.cell 2 rfl; simp [results, Tryz.results88, go_sem, vVal, vZ, q0, q1, q2]
end Go.Proofs.YtjggoajfilnfjaaGreat
namespace Go
open Go.RowKit
def bnums (t : ByteArray) : List Int := t.data.toList.map fun b => (b.toNat : Int)
theorem bnums_len (t : ByteArray) : (bnums t).length = t.size := by
 rw [bnums, List.length_map, Array.length_toList]; rfl
theorem bnums_bd (t : ByteArray) : ∀ x ∈ bnums t, 0 ≤ x ∧ x ≤ 255 := by
 intro x hx; obtain ⟨b, -, rfl⟩ := List.mem_map.1 hx; have : b.toNat < 256 := b.toBitVec.isLt; omega
theorem strOfNums_bnums (t : ByteArray) : strOfNums (bnums t) = t := by
 apply ByteArray.ext; apply Array.ext'; rw [strOfNums_data, bnums, List.map_map]; have : t.data.toList.map ((fun n : Int => UInt8.ofNat n.toNat) ∘ fun c : UInt8 => (c.toNat : Int)) = t.data.toList.map id := List.map_congr_left (fun c _ => by simp); rw [this, List.map_id]
theorem conv_sb {P : Program} (w : World) (src dst e : TypeId) (hs : P.underlying src = some .string) (hd : P.underlying dst = some (.slice e)) (he : P.underlying e = some (.int .u8)) (t : ByteArray) :
  ∃ c w', (convert src dst (.string t)).run P w = .ok (.slice (some ⟨w.heap.size, 0, none⟩) t.size c) w' ∧ Rd w' (some ⟨w.heap.size, 0, none⟩) ((bnums t).map (Value.int .u8)) ∧ Below w.heap.size w w' ∧ t.size ≤ c ∧ (t.size ≤ maxLen → c ≤ maxLen) := by
 refine ⟨grownCap w t.size 0 e, Lib.bytesWorld w e t, ?_, ?_, ?_, grownCap_ge _ _ _ _, grownCap_le_maxLen _ _ _ _⟩
 ·rw [Lib.run_convert_string_bytes w src dst e _ hs hd he]
 ·refine .inr ⟨_, _, rfl, fun i v hv => ?_⟩; have hi : i < t.size := by
   have := (List.getElem?_eq_some_iff.1 hv).1
   rwa [List.length_map, bnums_len] at this
  have hi2 : i < t.data.size := hi; rw [Nat.zero_add, Lib.bytesWorld_cell w e _ i hi, ← hv]; simp [List.getD, bnums]; rw [Array.getElem?_eq_getElem hi2]
  rfl
 ·refine ⟨rfl, rfl, rfl, by rw [Lib.bytesWorld_size]; omega, fun k hk => Lib.bytesWorld_at_old w e _ k hk⟩
end Go
namespace Go.Proto
open Go.Vint
instance : DecidableEq Fld := fun a b => decidable_of_iff (a.num = b.num ∧ a.kind = b.kind ∧ a.n = b.n ∧ a.bs = b.bs) (by cases a; cases b; simp)
end Go.Proto
namespace Go.Proofs.YtjggoajfilnfjaaGreat
open Go.RowKit Go.Vint Go.Proto
def Byt (f : Fld) : Prop := ∀ x ∈ f.bs, 0 ≤ x ∧ x ≤ 255

set_option maxHeartbeats 4000000 in
theorem pcheck_any (x : FC) (w : World) (hn : 0 ≤ x.f.n ∧ x.f.n ≤ 18446744073709551615) :
  Calls Tryz.prog 54 #[x.val] w fun e w' => e = .returned (.int .i64 (chk x.f)) ∧ Below w.heap.size w w' := by
 obtain ⟨⟨num, kind, n, bs⟩, p, c⟩ := x; dsimp only [FC.val] at *; obtain ⟨l, hl⟩ : ∃ l, bs.length = l := ⟨_, rfl⟩; obtain ⟨ck, hck⟩ : ∃ ck, chk ⟨num, kind, n, bs⟩ = ck := ⟨_, rfl⟩; have hC : Hid (ck = if num < 1 ∨ 536870911 < num then 5 else if kind ≠ 0 ∧ kind ≠ 1 ∧ kind ≠ 2 ∧ kind ≠ 5 then 14 else if kind = 2 ∧ 0 < n ∨ kind ≠ 2 ∧ 0 < l then 3 else if kind = 5 ∧ 4294967295 < n then 5 else 0) := by
  refine Lib.hid ?_; rw [← hl, ← hck]; unfold chk; have e : bs ≠ [] ↔ 0 < bs.length := List.length_pos_iff.symm; simp only [e]
 rw [hl, hck]; clear hl hck
 go_enter Tryz.func54, Tryz.ntmps54
 go_wp2
 all_goals (go_ret; refine ⟨ret_int ?_, Below.new _ _⟩; rw [hC.out]; clear hC; (repeat' split) <;> first | rfl | omega | (exfalso; simp only [bne_iff_ne, bne_eq_false_iff_eq, ne_eq] at *; omega))
end Go.Proofs.YtjggoajfilnfjaaGreat
namespace Go
open Go.RowKit
def BlkT (w : World) (b : Nat) (T : TypeId) (vs : List Value) : Prop := w.heap[b]? = some (.cells vs.toArray T (0, 0))
section
variable {w w' : World} {b : Nat} {T : TypeId} {vs : List Value}
theorem BlkT.blk (h : BlkT w b T vs) : Blk w b vs := ⟨T, h⟩
theorem BlkT.set (h : BlkT w b T vs) (i : Nat) (u : Value) : BlkT (w.setCell ⟨b, i, none⟩ u) b T (vs.set i u) := by
 have h' : w.heap[b]? = _ := h; show (w.setCell ⟨b, i, none⟩ u).heap[b]? = _; simp [World.setCell, Array.getElem?_modify, h']
theorem BlkT.of_owns {base : Nat} {n : Nat} (h : w.ownsRow base T 1 (.slice (some ⟨b, 0, none⟩) n n) n vs) : BlkT w b T vs := h.block
theorem BlkT.owns {base : Nat} {n : Nat} (h : BlkT w b T vs) (hb : base ≤ b) (hn : vs.length = n) (hm : n ≤ maxLen) : w.ownsRow base T 1 (.slice (some ⟨b, 0, none⟩) n n) n vs := by
 subst hn; exact ⟨by simp, .inr ⟨b, vs.length, vs.toArray, rfl, hb, h, Nat.le_refl _, hm, by simp, by simp⟩⟩
theorem BlkT.lt (h : BlkT w b T vs) : b < w.heap.size := (Array.getElem?_eq_some_iff.1 (show w.heap[b]? = _ from h)).1
theorem BlkT.cell (h : BlkT w b T vs) (i : Nat) {v : Value} (hi : vs[i]? = some v) : w.cell? ⟨b, i, none⟩ = some v := h.blk.cell i hi
theorem BlkT.of_block (h : BlkT w b T vs) (hb : w'.heap[b]? = w.heap[b]?) : BlkT w' b T vs := hb.trans h
theorem BlkT.grown {r : Option Nat} (h : BlkT w b T vs) (hg : w.grownBy w' r) (hne : some b ≠ r) : BlkT w' b T vs := h.of_block (hg.block b h.lt hne)
theorem BlkT.keep (h : BlkT w b T vs) (hb : Below w.heap.size w w') : BlkT w' b T vs := h.of_block (hb.block b h.lt)
theorem BlkT.below {B : Nat} (h : BlkT w b T vs) (hb : Below B w w') (hB : b < B) : BlkT w' b T vs := h.of_block (hb.block b hB)
theorem BlkT.new (w : World) (vs : List Value) (T : TypeId) : BlkT (w.alloc (.cells vs.toArray T)) w.heap.size T vs := heap_alloc_new w _
theorem BlkT.not_row (h : BlkT w b T vs) {e : TypeId} (hte : T ≠ e) {base size k : Nat} {v : Value} {xs : List Value} (hr : w.ownsRow base e size v k xs) : some b ≠ v.ownBlock := by
 rcases hr.2 with ⟨rfl, _⟩ | ⟨g, cap, cur, rfl, _, hgb, _⟩
 ·simp [Value.ownBlock]
 ·intro e'; obtain rfl : b = g := by simpa [Value.ownBlock] using e'
  have := (show w.heap[b]? = _ from h).symm.trans hgb; simp at this; exact hte this.2
end
theorem take_set_snoc {α : Type} (l : List α) (k : Nat) (u : α) (h : k < l.length) : (l.set k u).take (k + 1) = l.take k ++ [u] := by
 rw [List.take_succ_eq_append_getElem (by simpa using h)]; simp [List.take_set]; exact List.set_eq_of_length_le (by simp; omega)
end Go
namespace Go.Proto
theorem low_snoc (n : Int) (k : Nat) : low n (k + 1) = low n k ++ [n / 256 ^ k % 256] := by
 induction k generalizing n with
 | zero => simp [low]
 | succ k ih =>
  rw [low, ih, low, List.cons_append]; rw [Int.ediv_ediv_of_nonneg (by omega), Int.pow_succ', ← Int.pow_succ']
end Go.Proto
namespace Go.Proofs.YtjggoajfilnfjaaGreat
open Go.RowKit Go.Vint Go.Proto

set_option maxHeartbeats 2000000 in
theorem plow_any (n : Int) (s : Nat) (hs : s ≤ 8) (hn : 0 ≤ n ∧ n ≤ 18446744073709551615) (w : World) :
  Calls Tryz.prog 56 #[.int .u64 n, .int .i64 s] w fun e w' => ∃ v, e = .returned v ∧ w'.ownsRow w.heap.size 5 1 v s ((low n s).map (Value.int .u8)) ∧ Below w.heap.size w w' := by
 go_enter Tryz.func56, Tryz.ntmps56
 obtain ⟨iu, hi, hz0, hz1, hz2⟩ := info_parts Tryz.infoU8
 go_wp2_with (at_make; go_must (refine wpList_make_full _ rfl (.tmp 7) (.tmp 7) 31 rfl w.heap.size 5 iu (.int .u8 0) 1 Tryz.underlying31 hi hz0 hz1 .i64 .i64 (s : Int) (s : Int) s rfl rfl rfl rfl (by rw [hz2]; omega) (by unfold maxLen; omega) (Nat.le_refl _) ?_); intro w2 hown2 hgrow2; have hB2 : Below w.heap.size w w2 := (Below.refl _ _).grown hgrow2 (Nat.le_refl _) (fun k e => by cases e); have hblk := BlkT.of_owns hown2; have hZl : (madeCells (Value.int IntKind.u8 0).cells (s * 1)).toList.length = s := by simpa using hown2.1)
 clear hgrow2 hown2 hi hz0 hz1 hz2; generalize (madeCells (Value.int IntKind.u8 0).cells (s * 1)).toList = Z0 at *
 go_loopw [11] (fun i wr => ∃ (k : Nat) (Z : List Value), k ≤ s ∧ i = .int .i64 k ∧ Z.length = s ∧ BlkT wr w.heap.size 5 Z ∧ Z.take k = (low n k).map (Value.int .u8) ∧ Below w.heap.size w wr) (fun i _ => s - (intOf i).toNat)
 case atStart => exact ⟨0, Z0, Nat.zero_le _, rfl, hZl, hblk, rfl, hB2⟩
 case round =>
  obtain ⟨k, Z, hk, rfl, hZ, hB, hT, hbl⟩ := hrel; have HT := Lib.hid hT; clear hT hblk hZl hB2
  by_cases hlt : k < s
  ·obtain ⟨z, hz⟩ : ∃ z, Z[k]? = some z := ⟨Z[k]'(by omega), List.getElem?_eq_getElem (by omega)⟩; have hc := hB.blk.cell k hz; have hf := hB.blk.free k; go_wp2; go_roundw
   case rel =>
    refine ⟨k + 1, Z.set k (.int .u8 (n / 2 ^ (8 * k) % 256)), by omega, by go_num, by simp [hZ], hB.set _ _, ?_, hbl.set_at (Nat.le_refl _) _⟩; rw [low_snoc, List.map_append, ← HT.out, take_set_snoc _ _ _ (by omega), show (256 : Int) ^ k = 2 ^ (8 * k) by rw [Int.pow_mul]; rfl]
    rfl
   case measure => simp [intOf]; omega
  ·obtain rfl : k = s := by omega
   rw [List.take_of_length_le (by omega)] at HT; go_wp2; go_ret; refine ⟨_, rfl, ?_, hbl⟩; rw [← HT.out]; exact hB.owns (Nat.le_refl _) hZ (by unfold maxLen; omega)
end Go.Proofs.YtjggoajfilnfjaaGreat
