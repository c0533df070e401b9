/-
  proto.each and proto.All: the contracts.
-/
import Derived.Test.YtoicahfpnnhgpaaPeach
import Derived.Test.YtoicahfpnnhgpaaPskip
import Derived.Maps.AppendAt
import Derived.Deep.QuietTactic
import Derived.BigRegionIn
namespace Go
open Go.RowKit

theorem KeepT.refl {T U : TypeId} (A : World) : KeepT T U A A := ⟨Nat.le_refl _, fun _ _ _ _ _ _ => rfl⟩

theorem KeepT.of_grownBy {T U : TypeId} {A B : World} {row : Option Nat} (hg : A.grownBy B row) (hr : ∀ r, row = some r → ∀ cs V fr, A.heap[r]? = some (Obj.cells cs V fr) → V ≠ T ∧ V ≠ U) : KeepT T U A B := by
  refine ⟨hg.size, fun k cs V fr hk hv => hg.block k (Array.getElem?_eq_some_iff.1 hk).1 fun e => ?_⟩
  have := hr k e.symm cs V fr hk
  rcases hv with rfl | rfl
  · exact this.1 rfl
  · exact this.2 rfl

theorem KeepT.of_row {T U : TypeId} {A B : World} {n₀ : Nat} {e : TypeId} {size : Nat} {v : Value} {k : Nat} {xs : List Value} (hrow : A.ownsRow n₀ e size v k xs) (hT : e ≠ T) (hU : e ≠ U) (hg : A.grownBy B v.ownBlock) : KeepT T U A B :=
  KeepT.of_grownBy hg fun r he cs V fr hk => by
    rcases hrow.2 with ⟨rfl, _⟩ | ⟨g, cap, cur, rfl, _, hgb, _⟩
    · cases he
    · obtain rfl : g = r := by simpa [Value.ownBlock] using he
      rw [hgb] at hk
      cases hk
      exact ⟨hT, hU⟩

theorem KeepT.store {T U : TypeId} {A : World} {B : Nat} {t : TypeId} {v : Value} (h : Boxed A B t v) (hT : t ≠ T) (hU : t ≠ U) (u : Value) : KeepT T U A (A.setCell ⟨B, 0, none⟩ u) :=
  KeepT.of_grownBy (grownBy_setCell' A B u) fun r he cs V fr hk => by
    cases he
    rw [show A.heap[B]? = _ from h] at hk
    cases hk
    exact ⟨hT, hU⟩

theorem KeepsOthers.of_below {A B : World} (h : Below A.heap.size A B) : KeepsOthers A B :=
  KeepsOthers.of_grownBy (row := none) ⟨h.os, h.tape, h.output, h.size, fun k hk _ => h.block k hk⟩ fun _ _ e => by cases e
end Go
namespace Go.Proofs.Ytoicahfpnnhgpaa
open Go.RowKit Go.Vint Go.Proto
attribute [local go_sem] Oper.semAt_some

theorem flat_append (xs ys : List FC) : flat (xs ++ ys) = flat xs ++ flat ys := by simp [flat]

theorem Lies.grown {A B : World} {row : Option Nat} {x : FC} (h : Lies A x) (hg : A.grownBy B row) (hr : ∀ r, row = some r → ∃ o : Obj, A.heap[r]? = some o ∧ o.isCells = false) : Lies B x :=
  h.kept (KeepT.of_grownBy hg fun r e cs V fr hk => by
    obtain ⟨o, ho, hc⟩ := hr r e
    rw [ho] at hk
    cases hk
    cases hc)

set_option maxHeartbeats 1000000 in
theorem each_in (n : Nat) (a : Option Addr) (m c : Nat) (w : World) :
    CallsIn Fence.wide n Try.prog 24 #[.slice a m c] w fun e w' => e = .returned (.func (.func 32) #[] #[.pointer (some ⟨w.heap.size, 0, none⟩)]) ∧ w' = w.alloc (.cells #[.slice a m c] 22) := by
  refine callsIn_of_wp Try.func24 rfl trivial ?_ rfl
  simp only [Try.ntmps24, List.size_toArray, List.length_cons, List.length_nil, Nat.reduceAdd, Nat.reduceSub, Array.replicate_succ, Array.replicate_zero, List.push_toArray, List.append_toArray, List.nil_append, List.cons_append]
  gi_wp2
  go_ret
  exact ⟨rfl, rfl⟩

theorem each_ahead (n : Nat) (Bn : Nat) (a : Option Addr) (c : Nat) (L : List Int) (hb : ∀ x ∈ L, 0 ≤ x ∧ x ≤ 255) (hlen : L.length ≤ 1000000) (hlc : L.length ≤ c) (hcm : c ≤ maxLen) (w : World) (hr : Rd w a (L.map (Value.int .u8)))
    (W0 : World) (hB0 : Below w.heap.size w W0) (fr : Nat × Nat) (hBn : W0.heap[Bn]? = some (.cells #[.slice a L.length c] 22 fr)) :
    SeqAhead Fence.wide n Try.prog 32 #[.pointer (some ⟨Bn, 0, none⟩)] (fun x : Nat × FC => #[.int .i64 (x.1 : Int), x.2.val]) (AtYield L) (KpE w.heap.size) (AtEnd L) W0 := by
  intro l J W hb0 hJ hY h0
  exact each1_in n l Bn a c L hb hlen hlc hcm w hr J W (hB0.trans (hb0.mono hB0.size)) hJ fr ((hb0.block Bn (Array.getElem?_eq_some_iff.1 hBn).1).trans hBn) hY h0

set_option maxRecDepth 100000 in
set_option maxHeartbeats 4000000 in
theorem protoAll_any (a : Option Addr) (c : Nat) (L : List Int) (hb : ∀ x ∈ L, 0 ≤ x ∧ x ≤ 255) (hlen : L.length ≤ 1000000) (hlc : L.length ≤ c) (hcm : c ≤ maxLen) (w : World) (hr : Rd w a (L.map (Value.int .u8))) :
    Calls Try.prog 11 #[.slice a L.length c] w fun e w' => ∃ v, e = .returned (.tuple #[v, .int .i64 (pall L).2.1, .int .i64 (pall L).2.2]) ∧ ∃ xs : List FC, xs.map (·.f) = (pall L).1 ∧
      w'.ownsRow w.heap.size 25 4 v xs.length (flat xs) ∧ (∀ x ∈ xs, x.Ok w') ∧ Below w.heap.size w w' := by
  refine (callsIn_wide (n := 5)).1 ?_
  obtain ⟨i0, hi, hz0, hz1, hz2⟩ := info_parts Try.infoField
  refine callsIn_of_wp_marks Try.func11 rfl trivial ?_ rfl
  simp only [Try.ntmps11, List.size_toArray, List.length_cons, List.length_nil, Nat.reduceAdd, Nat.reduceSub, Array.replicate_succ, Array.replicate_zero, List.push_toArray, List.append_toArray, List.nil_append, List.cons_append]
  gi_wp2_with (first | (refine ⟨trivial, ?_⟩; gi_at_call 24; refine (each_in _ _ _ _ _).mono ?_; rintro e w' ⟨rfl, rfl⟩) | (gi_at_call 24; refine (each_in _ _ _ _ _).mono ?_; rintro e w' ⟨rfl, rfl⟩))
  have bB := ((((Boxed.new w 22 (.slice a L.length c)).alloc (.cells #[.slice none 0 0] 36)).alloc (.cells #[.int .i64 0] 3)).alloc (.cells #[.slice a L.length c] 22))
  have bO := (((Boxed.new (w.alloc (.cells #[.slice a L.length c] 22)) 36 (.slice none 0 0)).alloc (.cells #[.int .i64 0] 3)).alloc (.cells #[.slice a L.length c] 22))
  have bE := ((Boxed.new ((w.alloc (.cells #[.slice a L.length c] 22)).alloc (.cells #[.slice none 0 0] 36)) 3 (.int .i64 0)).alloc (.cells #[.slice a L.length c] 22))
  have bN := Boxed.new (((w.alloc (.cells #[.slice a L.length c] 22)).alloc (.cells #[.slice none 0 0] 36)).alloc (.cells #[.int .i64 0] 3)) 22 (.slice a L.length c)
  simp only [World.size_alloc] at bO bE bN
  have hB0 : Below w.heap.size w ((((w.alloc (.cells #[.slice a L.length c] 22)).alloc (.cells #[.slice none 0 0] 36)).alloc (.cells #[.int .i64 0] 3)).alloc (.cells #[.slice a L.length c] 22)) :=
    ((((Below.refl _ w).alloc (Nat.le_refl _) _).alloc (by simp) _).alloc (by simp; omega) _).alloc (by simp; omega) _
  have hsz : ((((w.alloc (.cells #[.slice a L.length c] 22)).alloc (.cells #[.slice none 0 0] 36)).alloc (.cells #[.int .i64 0] 3)).alloc (.cells #[.slice a L.length c] 22)).heap.size = w.heap.size + 4 := by simp
  obtain ⟨W0, hW0⟩ : ∃ W0, ((((w.alloc (.cells #[.slice a L.length c] 22)).alloc (.cells #[.slice none 0 0] 36)).alloc (.cells #[.int .i64 0] 3)).alloc (.cells #[.slice a L.length c] 22)) = W0 := ⟨_, rfl⟩
  rw [hW0] at bB bO bE bN hB0 hsz ⊢
  clear hW0
  refine wpIn_rangeFunc_ahead rfl (by decide) (gf := 32) (lb := #[.pointer (some ⟨w.heap.size + 1 + 1 + 1, 0, none⟩)]) rfl trivial (enters_of Try.func32 (by kernel_rfl) rfl)
    (each_ahead (5 - 1) (w.heap.size + 1 + 1 + 1) a c L hb hlen hlc hcm w hr W0 hB0 (0, 0) bN) (fun h k => ⟨h.1.trans k.1, h.2.trans k.2⟩)
    (fun W l o o' hl h1 h2 => ⟨(Below.refl _ W).grown (grownBy_putObj' W l o') (by have := (Array.getElem?_eq_some_iff.1 h1).1; omega) (fun k e => by cases e; omega), KeepT.putObj W l o o' h1 h2⟩) (Below.refl _ _) (fun _ => rfl)
    (fun (pre : List (Nat × FC)) W => ((∃ v, Boxed W (w.heap.size + 1) 36 v ∧ W.ownsRow w.heap.size 25 4 v (pre.map (·.2)).length (flat (pre.map (·.2))) ∧ True) ∧ Boxed W (w.heap.size + 1 + 1) 3 (.int .i64 (behind L pre)) ∧ Boxed W w.heap.size 22 (.slice a L.length c)) ∧ Below w.heap.size w W)
    (OwnFrom.and (OwnFrom.and (Own.from (holdsRow_own w.heap.size (w.heap.size + 1) 36 25 4 (fun (pre : List (Nat × FC)) => (pre.map (·.2)).length) (fun (pre : List (Nat × FC)) => flat (pre.map (·.2))) (fun _ _ => True)) _) (OwnFrom.and (Own.from (boxed_own _ _ _) _) (Own.from (boxed_own _ _ _) _))) (ownFrom_below (Nat.le_refl _) (by omega)))
    (fun xs X Y row hs hg hrow => ⟨hs.1, fun x hx => (hs.2 x hx).grown hg (fun r e => (hrow r e).2)⟩)
    ⟨⟨⟨_, bO, World.ownsRow_nil _ _ _ _, trivial⟩, bE, bB⟩, hB0⟩
    (fun (pre : List (Nat × FC)) (x : Nat × FC) a' W => (((∃ v, Boxed W (w.heap.size + 1) 36 v ∧ W.ownsRow w.heap.size 25 4 v (pre.map (·.2)).length (flat (pre.map (·.2))) ∧ True) ∧ Boxed W (w.heap.size + 1 + 1) 3 (.int .i64 (behind L pre)) ∧ Boxed W w.heap.size 22 (.slice a L.length c)) ∧ Below w.heap.size w W) ∧ AtYield L pre x W ∧
      ∃ Bx, w.heap.size + 1 + 1 < Bx ∧ Blk W Bx x.2.cells ∧ a' = { tmps := #[.slice a L.length c, .pointer (some ⟨w.heap.size, 0, none⟩), .slice none 0 0, .int .i64 0, .int .i64 0, .pointer (some ⟨w.heap.size + 1, 0, none⟩), .pointer (some ⟨w.heap.size + 1 + 1, 0, none⟩), .int .i64 (x.1 : Int), .pointer (some ⟨Bx, 0, none⟩), undef, undef, undef, undef, .slice a L.length c, .func (.func 32) #[] #[.pointer (some ⟨w.heap.size + 1 + 1 + 1, 0, none⟩)], .int .i64 (x.1 : Int), x.2.val, undef, undef, undef, undef, undef, undef, undef, undef, undef, undef, undef, undef, undef, undef, undef, undef, undef, undef, undef, undef, undef, undef, undef, undef, undef, undef, undef, undef], defers := [] })
    ?hM ?assign ?body ?done
  case hM =>
    rintro pre x a' _ X Y row ⟨⟨⟨hO, hE, hBx⟩, hbw⟩, ⟨y1, y2, y3, y4, y5⟩, Bx, hlt, bX, rfl⟩ hg hrow
    have hr' : ∀ r, row = some r → ∃ o : Obj, X.heap[r]? = some o ∧ o.isCells = false := fun r e => (hrow r e).2
    refine ⟨⟨⟨holdsRow_own w.heap.size (w.heap.size + 1) 36 25 4 (fun (pre : List (Nat × FC)) => (pre.map (·.2)).length) (fun (pre : List (Nat × FC)) => flat (pre.map (·.2))) (fun _ _ => True) pre X Y row hO hg hr', boxed_own _ _ (fun (_ : Unit) => _) () X Y row hE hg hr', boxed_own _ _ (fun (_ : Unit) => _) () X Y row hBx hg hr'⟩, hbw.grown hg (by have := hbw.size; omega) (fun k e => by have := (hrow k e).1; omega)⟩, ⟨y1, y2, y3, y4, y5.grown hg hr'⟩, Bx, hlt, bX.grown hg (fun e => ?_), rfl⟩
    obtain ⟨o, ho, hc⟩ := hr' Bx e.symm
    obtain ⟨T, hT⟩ := bX
    rw [hT] at ho
    cases ho
    cases hc
  case assign =>
    rintro l pre ⟨p, ⟨fl, ao, co⟩⟩ W hI hA
    dsimp only [FC.val]
    obtain ⟨⟨⟨v, bO1, hrow, -⟩, bE1, bB1⟩, hB1⟩ := hI
    obtain ⟨y1, y2, y3, y4, y5⟩ := hA
    have hbl : Below W.heap.size W (W.alloc (.cells #[.int .i64 fl.num, .int .i64 fl.kind, .int .u64 fl.n, .slice ao fl.bs.length co] 25)) := Below.new _ _
    have hsW : w.heap.size + 1 + 1 < W.heap.size := bE1.lt
    gi_wp2
    refine ⟨KeepsOthers.alloc _ _, ⟨hbl.mono (by omega), KeepT.of_below hbl⟩, ⟨⟨⟨v, bO1.alloc _, ?_⟩, bE1.alloc _, bB1.alloc _⟩, hB1.alloc (by omega) _⟩, ⟨y1, y2, y3, y4, y5.kept (KeepT.of_below hbl)⟩, ?_⟩
    · simpa using hrow.below hbl
    · exact Blk.new _ _ _
  case body =>
    rintro l pre ⟨p, ⟨fl, ao, co⟩⟩ a' W ⟨⟨⟨⟨v, bO1, hrow, -⟩, bE1, bB1⟩, hB1⟩, ⟨y1, y2, y3, y4, y5⟩, Bx, hBx, bX, rfl⟩
    dsimp only at y1 y2 y3 y4
    obtain ⟨b0, off0, rfl, -, -⟩ := hr.at (i := p) (v := .int .u8 L[p]) (by simp [y2])
    have hD : ∀ x ∈ L.drop p, 0 ≤ x ∧ x ≤ 255 := fun x hx => hb x (List.mem_of_mem_drop hx)
    have hDl : (L.drop p).length = L.length - p := by simp
    have hrw := (hr.keep hB1).drop p
    rw [← List.map_drop] at hrw
    have hcl := pskip_any _ (c - p) (L.drop p) hD (by omega) (by omega) (by omega) W hrw
    obtain ⟨m, hm, n1, n2, -, -, -, -, -, -⟩ := prd_ok _ hD y3
    rw [hDl] at hcl n2
    rw [hm, y3] at hcl
    have HCL := Lib.hid hcl
    have hcp : ¬ c = p := by omega
    have hsn := behind_snoc L pre (p, ⟨fl, ao, co⟩)
    dsimp only at hsn
    rw [hm] at hsn
    have HSN := Lib.hid hsn
    have cB := bB1.cell
    have hln : ¬ L.length < p := by omega
    have Y4 := Lib.hid y4
    clear hcl hrw hm y3 hD hDl hsn y4
    gi_wp2_with fail
    refine ⟨trivial, (CallsIn.inRound l (callsIn_wide.2 HCL.out)).mono ?_⟩
    rintro e w1 ⟨rfl, hb2⟩
    have bO2 : Boxed w1 _ _ _ := (hb2.block _ bO1.lt).trans bO1
    have bE2 : Boxed w1 _ _ _ := (hb2.block _ bE1.lt).trans bE1
    have bB2 : Boxed w1 _ _ _ := (hb2.block _ bB1.lt).trans bB1
    have bX2 := bX.keep hb2
    have hrow2 := hrow.below hb2
    have cO := bO2.cell
    have cE := bE2.cell
    have fE := bE2.frozen
    have x0 := bX2.cell 0 rfl
    have x1 := bX2.cell 1 rfl
    have x2 := bX2.cell 2 rfl
    have x3 := bX2.cell 3 rfl
    have hB2 := Lib.hid hb2
    have Y5 := Lib.hid y5
    have hneX : ¬ w.heap.size + 1 + 1 = Bx := by omega
    clear cB bO1 bE1 bB1 bX hrow HCL hb2 y5
    have bO3 : Boxed (w1.setCell ⟨w.heap.size + 1 + 1, 0, none⟩ (.int .i64 ((p : Int) + m))) (w.heap.size + 1) 36 v := bO2.other (by omega) _
    have bB3 : Boxed (w1.setCell ⟨w.heap.size + 1 + 1, 0, none⟩ (.int .i64 ((p : Int) + m))) w.heap.size 22 _ := bB2.other (by omega) _
    have bE3 : Boxed (w1.setCell ⟨w.heap.size + 1 + 1, 0, none⟩ (.int .i64 ((p : Int) + m))) (w.heap.size + 1 + 1) 3 _ := bE2.set _
    have hrow3 : (w1.setCell ⟨w.heap.size + 1 + 1, 0, none⟩ (.int .i64 ((p : Int) + m))).ownsRow _ _ _ _ _ _ := hrow2.set_ne (p := ⟨w.heap.size + 1 + 1, 0, none⟩) (bE2.not_row (by decide) hrow2).symm _
    have hkT : KeepT 5 22 w1 (w1.setCell ⟨w.heap.size + 1 + 1, 0, none⟩ (.int .i64 ((p : Int) + m))) := KeepT.store bE2 (by decide) (by decide) _
    have HKT := Lib.hid hkT
    have hsz3 : w.heap.size ≤ (w1.setCell ⟨w.heap.size + 1 + 1, 0, none⟩ (.int .i64 ((p : Int) + m))).heap.size := by
      rw [size_setCell]; have := bE2.lt; omega
    have hsz4 : w.heap.size ≤ w1.heap.size := by have := bE2.lt; omega
    have hpl : (pre.map (·.2)).length = pre.length := by simp
    have HPL := Lib.hid hpl
    rw [hpl] at hrow3
    clear hkT hpl hrow2 bE2 bB2 bO2
    gi_wp2_with (gi_at_builtin; go_must (refine wpListIn_append_own _ rfl (.tmp 27) (.tmp 29) 36 rfl w.heap.size 25 i0 (.agg #[.int .i64 0, .int .i64 0, .int .u64 0, .slice none 0 0]) 4 48 Try.underlying36 hi hz0 hz1 hz2 rfl (by decide) v pre.length (flat (pre.map (·.2))) rfl (hrow3.below (Below.new _ _)) ⟨w1.heap.size, 0, none⟩ 1 1 (FC.cells ⟨fl, ao, co⟩) rfl rfl (Rd.lit _ _ _ _ (by simp [World.setCell])).add (FC.cells_one _) (by unfold maxLen; omega) (by omega) (by simp; omega) ?_); intro v' w3 hown' hgrow _; obtain ⟨g', cap', rfl⟩ := ownsRow_succ hown'; obtain ⟨hv1, hv2, hr2, hk2, hb3⟩ := bO3.appended (by decide) hrow3 hsz3 (by omega) hown' hgrow; have hc1 := hv1.cell; have hf1 := hv1.frozen)
    have hsW : w.heap.size ≤ W.heap.size := hB1.size
    have hrow4 := hrow3.below (Below.new _ (.cells (FC.cells ⟨fl, ao, co⟩).toArray 25))
    have hgT := (KeepT.of_below (T := 5) (U := 22) (Below.new _ (.cells (FC.cells ⟨fl, ao, co⟩).toArray 25))).trans (KeepT.of_row hrow4 (by decide) (by decide) hgrow)
    have hgS : KeepT 5 22 _ _ := KeepT.store hv1 (by decide) (by decide) (.slice (some ⟨g', 0, none⟩) (pre.length + 1) cap')
    have hE4 : Boxed w3 (w.heap.size + 1 + 1) _ _ := (bE3.alloc _).kept hgrow ((bE3.alloc _).not_row (by decide) hrow4)
    have hB4 : Boxed w3 w.heap.size _ _ := (bB3.alloc _).kept hgrow ((bB3.alloc _).not_row (by decide) hrow4)
    have hbW := (hB2.out.mono hsW).trans (((Below.refl w.heap.size w1).set_at (by omega) _).trans hb3)
    refine ⟨(KeepsOthers.of_below hB2.out).trans ((KeepsOthers.setCell _ _ _).trans hk2), ⟨hbW, (KeepT.of_below hB2.out).trans (HKT.out.trans (hgT.trans hgS))⟩, ⟨⟨_, hv2, ?_, trivial⟩, ?_, hB4.other (by omega) _⟩, hB1.trans hbW⟩
    · rw [List.map_append, flat_append]
      simpa [flat] using hr2
    · rw [HSN.out]
      exact hE4.other (by omega) _
  case done =>
    rintro D xs W hD ⟨⟨p, g, y1, y2, y3, y4, y5⟩, hL⟩ ⟨⟨⟨v, bO1, hrow, -⟩, bE1, bB1⟩, hB1⟩ hK
    rw [y1] at bE1
    have cB := bB1.cell
    have cE := bE1.cell
    have cO := bO1.cell
    have Y1 := Lib.hid y1
    have Y4 := Lib.hid y4
    have HL := Lib.hid hL
    clear y1 y4 hL
    by_cases hlt : p < L.length
    · have he : (prd (L.drop p)).2.2 ≠ 0 := by
        rcases y5 with h | h
        · omega
        · exact h
      obtain ⟨b0, off0, rfl, -, -⟩ := hr.at (i := p) (v := .int .u8 L[p]) (by simp [hlt])
      have hD : ∀ x ∈ L.drop p, 0 ≤ x ∧ x ≤ 255 := fun x hx => hb x (List.mem_of_mem_drop hx)
      have hDl : (L.drop p).length = L.length - p := by simp
      have hrw := (hr.keep hB1).drop p
      rw [← List.map_drop] at hrw
      have hcl := pskip_any _ (c - p) (L.drop p) hD (by omega) (by omega) (by omega) W hrw
      rw [hDl] at hcl
      have HCL := Lib.hid hcl
      have hcp : ¬ c = p := by omega
      have hln : ¬ L.length < p := by omega
      have HE := Lib.hid (Y4.out.trans (pallF_err g L p _ hlt he))
      clear hcl hrw he y5 hD hDl
      generalize prd (L.drop p) = r at *
      obtain ⟨fl, n, er⟩ := r
      gi_wp2_with fail
      refine ⟨trivial, (callsIn_wide.2 HCL.out).mono ?_⟩
      rintro e w1 ⟨rfl, hb2⟩
      have cE2 : w1.cell? ⟨w.heap.size + 1 + 1, 0, none⟩ = some (.int .i64 p) := (hb2.cell (p := ⟨w.heap.size + 1 + 1, 0, none⟩) bE1.lt).trans cE
      have hK2 : w1.heap[D]? = some (.deferred (some [])) := (hb2.block D (Array.getElem?_eq_some_iff.1 hK).1).trans hK
      have hBW := Lib.hid (hB1.trans (hb2.mono hB1.size))
      clear hb2 cE cO cB bO1 bE1 bB1 hrow HCL bN bB bE bO hK
      gi_wp2
      gi_region
      gi_wp2
      refine ⟨by simp, .inl ⟨_, _, rfl, run_takeDeferred hK2, ?_⟩⟩
      refine ⟨.tuple #[.slice none 0 0, .int .i64 p, .int .i64 er], by simp [results, Try.results11, go_sem], .slice none 0 0, by rw [HE.out], [], by rw [HE.out]; simp, World.ownsRow_nil _ _ _ _, by simp, ?_⟩
      exact hBW.out.drew.trans (belowK_b (w := w) (Nat.le_refl _) w1.drew D _ _ (by omega) hK2 rfl rfl)
    · have HE := Lib.hid (Y4.out.trans (pallF_end g L p _ hlt))
      gi_wp2
      refine ⟨by simp, .inl ⟨_, _, rfl, run_takeDeferred hK, ?_⟩⟩
      refine ⟨.tuple #[v, .int .i64 0, .int .i64 0], by simp [results, Try.results11, go_sem], v, by rw [HE.out], xs.map (·.2), by rw [HE.out]; simp, ownsRow_putObj hrow _ hK rfl, ?_, ?_⟩
      · intro x hx
        obtain ⟨y, hy, rfl⟩ := List.mem_map.1 hx
        exact ((HL.out y hy).kept (KeepT.putObj W D _ _ hK rfl)).1
      · exact hB1.trans (belowK_b (w := w) (Nat.le_refl _) W D _ _ (by omega) hK rfl rfl)
end Go.Proofs.Ytoicahfpnnhgpaa
