/-
  ring.Winding. face.Winding.
-/
import Derived.Test.YtccamjnomjcchaaPk27
import Derived.Test.YtccamjnomjcchaaPk6
/- ring.Winding. -/
set_option linter.unusedVariables false
set_option linter.unusedSimpArgs false
set_option maxRecDepth 100000
namespace Go.Proofs.Ytccamjnomjcchaa
open Go.RowKit
attribute [local go_sem] Oper.semAt_some

set_option maxHeartbeats 6400000 in
theorem wind_any (a : Option Addr) (c : Nat) (L : List Pt) (hlen : L.length ≤ 1000) (p : Pt) (w : World) (hr : Rd w a (pts L)) :
    Calls Try.prog 50 #[.slice a L.length c, p.val] w fun e w' => e = .returned (.tuple #[.int .i64 (windF L p), .bool (windOk L p)]) ∧ Below w.heap.size w w' := by
  refine (callsIn_wide (n := 5)).1 ?_; refine callsIn_of_wp_marks Try.func50 rfl trivial ?_ rfl; simp only [Try.ntmps50, List.size_toArray, List.length_cons, List.length_nil, Nat.reduceAdd, Nat.reduceSub, Array.replicate_succ, Array.replicate_zero, List.push_toArray, List.append_toArray, List.nil_append, List.cons_append]; refine wpIn_wide.2 ?_; have HRP := Lib.hid (fun W h => xright_any (some ⟨w.heap.size + 1 + 1 + 1, 0, none⟩) 1 [p] (by simp [maxLen]) W h); have HRA := Lib.hid (fun W h => xright_any a c L (by unfold maxLen; omega) W h); have HWO : Hid (windOk L p = (okPt p && (L.all okPt && (edges L).all (offB p)))) := Lib.hid rfl; have HWF : Hid (windF L p = if windOk L p then windS p (edges L) else 0) := Lib.hid rfl; have HEO := Lib.hid (fun h => edges_okX L h); have HTX := Lib.hid (fun a b ha hb hp w => xturn_any a b p ha hb hp w); have HOX := Lib.hid (fun a b ha hb hp w => xon_any a b p ha hb hp w); have hsx : ([p].all okPt) = okPt p := by simp
  rw [hsx] at HRP; obtain ⟨WO, hWO⟩ : ∃ B, windOk L p = B := ⟨_, rfl⟩; rw [hWO] at HWO HWF ⊢; obtain ⟨WF, hWF⟩ : ∃ z, windF L p = z := ⟨_, rfl⟩; rw [hWF] at HWF ⊢; clear hsx hWO hWF; obtain ⟨px, py⟩ := p; dsimp only [Pt.val] at *; have kp : Blk (((w.alloc (.cells #[.int .i64 px, .int .i64 py] 46)).alloc (.cells #[.int .i64 0] 3)).alloc (.cells #[.bool false] 4)) w.heap.size [.int .i64 px, .int .i64 py] := ((Blk.new w [.int .i64 px, .int .i64 py] 46).alloc _).alloc _; have k4 := (Boxed.new (w.alloc (.cells #[.int .i64 px, .int .i64 py] 46)) 3 (.int .i64 0)).alloc (.cells #[.bool false] 4); have k5 := Boxed.new ((w.alloc (.cells #[.int .i64 px, .int .i64 py] 46)).alloc (.cells #[.int .i64 0] 3)) 4 (.bool false); have hb0 : Below w.heap.size w (((w.alloc (.cells #[.int .i64 px, .int .i64 py] 46)).alloc (.cells #[.int .i64 0] 3)).alloc (.cells #[.bool false] 4)) := ((Below.new w _).alloc (by simp) _).alloc (by simp; omega) _; simp only [World.size_alloc] at k4 k5; have hrp : Rd ((((w.alloc (.cells #[.int .i64 px, .int .i64 py] 46)).alloc (.cells #[.int .i64 0] 3)).alloc (.cells #[.bool false] 4)).alloc (.cells #[.int .i64 px, .int .i64 py] 46)) (some ⟨w.heap.size + 1 + 1 + 1, 0, none⟩) (pts [⟨px, py⟩]) := Rd.lit _ _ [.int .i64 px, .int .i64 py] 46 (by simp)
  go_wp2_with fail
  refine (HRP.out _ hrp).mono ?_; rintro e w1 ⟨rfl, hb1⟩; have hbA := (Below.new (((w.alloc (.cells #[.int .i64 px, .int .i64 py] 46)).alloc (.cells #[.int .i64 0] 3)).alloc (.cells #[.bool false] 4)) (.cells #[.int .i64 px, .int .i64 py] 46)).trans (hb1.mono (by simp)); generalize ((w.alloc (.cells #[.int .i64 px, .int .i64 py] 46)).alloc (.cells #[.int .i64 0] 3)).alloc (.cells #[.bool false] 4) = wA at *; replace kp := kp.keep hbA; replace k4 : Boxed w1 _ _ _ := (hbA.block _ k4.lt).trans k4; replace k5 : Boxed w1 _ _ _ := (hbA.block _ k5.lt).trans k5; have hb2 := hb0.trans (hbA.mono hb0.size); clear hb1 hbA hb0 HRP hrp
  cases hok : okPt ⟨px, py⟩ with
  | false =>
    have c4 := k4.cell; have c5 := k5.cell; have f4 := k4.frozen; have f5 := k5.frozen; have k4F := (k4.set (.int .i64 0)).other (B' := w.heap.size + 1 + 1) (by omega) (.bool false); have k5F := (k5.other (B' := w.heap.size + 1) (by omega) (.int .i64 0)).set (.bool false); have hbF := (hb2.set_at (b := w.heap.size + 1) (o := 0) (by omega) (.int .i64 0)).set_at (b := w.heap.size + 1 + 1) (o := 0) (by omega) (.bool false); clear k4 k5 kp; go_wp2; clear c4 c5 f4 f5; generalize (w1.setCell ⟨w.heap.size + 1, 0, none⟩ (.int .i64 0)).setCell ⟨w.heap.size + 1 + 1, 0, none⟩ (.bool false) = wF at *; have c4 := k4F.cell; have c5 := k5F.cell; refine ⟨.tuple #[.int .i64 0, .bool false], by simp [results, Try.results50, go_sem, c4, c5], ?_, hbF⟩; have hW : WO = false := by rw [HWO.out, hok]; rfl
    rw [HWF.out, hW]; rfl
  | true =>
    have hra := hr.keep hb2; have c4 := k4.cell; have c5 := k5.cell; have f4 := k4.frozen; have f5 := k5.frozen
    go_wp2_with fail
    refine (HRA.out _ hra).mono ?_; rintro e w2 ⟨rfl, hx2⟩; replace k4 : Boxed w2 _ _ _ := (hx2.block _ k4.lt).trans k4; replace k5 : Boxed w2 _ _ _ := (hx2.block _ k5.lt).trans k5; replace kp := kp.keep hx2; replace hra := hra.keep hx2; have hb3 := hb2.trans (hx2.mono hb2.size); clear hb2 hx2 HRA c4 c5 f4 f5
    cases hal : L.all okPt with
    | false =>
      have c4 := k4.cell; have c5 := k5.cell; have f4 := k4.frozen; have f5 := k5.frozen; have k4F := (k4.set (.int .i64 0)).other (B' := w.heap.size + 1 + 1) (by omega) (.bool false); have k5F := (k5.other (B' := w.heap.size + 1) (by omega) (.int .i64 0)).set (.bool false); have hbF := (hb3.set_at (b := w.heap.size + 1) (o := 0) (by omega) (.int .i64 0)).set_at (b := w.heap.size + 1 + 1) (o := 0) (by omega) (.bool false); clear k4 k5 kp; go_wp2; clear c4 c5 f4 f5; generalize (w2.setCell ⟨w.heap.size + 1, 0, none⟩ (.int .i64 0)).setCell ⟨w.heap.size + 1 + 1, 0, none⟩ (.bool false) = wF at *; have c4 := k4F.cell; have c5 := k5F.cell; refine ⟨.tuple #[.int .i64 0, .bool false], by simp [results, Try.results50, go_sem, c4, c5], ?_, hbF⟩; have hW : WO = false := by rw [HWO.out, hok, hal]; rfl
      rw [HWF.out, hW]; rfl
    | true =>
      have HEK := Lib.hid (HEO.out hal); have HTN := Lib.hid (fun a b ha hb w => HTX.out a b ha hb hok w); have HON := Lib.hid (fun a b ha hb w => HOX.out a b ha hb hok w); have HWO2 : Hid (WO = (edges L).all (offB ⟨px, py⟩)) := Lib.hid (by rw [HWO.out, hok, hal]; rfl); clear HEO HTX HOX HWO
      go_wp2_with fail
      refine (callsIn_wide.1 (edges_inL 5 a L.length c _)).mono ?_; rintro e w4 ⟨rfl, rfl⟩
      go_wp2_with fail
      have hs2 := hb3.size; have hsz4 : w.heap.size + 1 + 1 < w2.heap.size := k5.lt; have k6 := (Boxed.new w2 3 (.int .i64 0)).alloc (.cells #[.slice a L.length c] 39); have kN := Boxed.new (w2.alloc (.cells #[.int .i64 0] 3)) 39 (.slice a L.length c); replace k4 := (k4.alloc (.cells #[.int .i64 0] 3)).alloc (.cells #[.slice a L.length c] 39); replace k5 := (k5.alloc (.cells #[.int .i64 0] 3)).alloc (.cells #[.slice a L.length c] 39); replace kp := (kp.alloc (.cells #[.int .i64 0] 3)).alloc (.cells #[.slice a L.length c] 39); replace hra := (hra.alloc (.cells #[.int .i64 0] 3)).alloc (.cells #[.slice a L.length c] 39); have hB0 := (hb3.alloc hs2 (.cells #[.int .i64 0] 3)).alloc (by simp; omega) (.cells #[.slice a L.length c] 39); have hszW : ((w2.alloc (.cells #[.int .i64 0] 3)).alloc (.cells #[.slice a L.length c] 39)).heap.size = w2.heap.size + 2 := by simp
      simp only [World.size_alloc] at kN; obtain ⟨W0, hW0⟩ : ∃ W, (w2.alloc (.cells #[.int .i64 0] 3)).alloc (.cells #[.slice a L.length c] 39) = W := ⟨_, rfl⟩; rw [hW0] at k4 k5 k6 kp kN hra hB0 hszW ⊢; clear hW0; refine (wpIn_wide (n := 5)).1 ?_; refine wpIn_rangeFunc_leave rfl (by decide) (gf := 103) (lb := #[.pointer (some ⟨w2.heap.size + 1, 0, none⟩)]) rfl trivial (enters_of Try.func103 (by kernel_rfl) rfl)
        (edges_leave (5 - 1) (w2.heap.size + 1) a c L (by omega) W0 hra (0, 0) kN) KpR.trans (fun W l o o' hl h1 h2 => KpR.putObj (w := W0) (by omega) W l o o' hl h1 h2) (Below.refl _ _) (fun _ => rfl)
        (fun (pre : List (Pt × Pt)) W => (((Boxed W w2.heap.size 3 (.int .i64 (windS (⟨px, py⟩ : Pt) pre)) ∧ pre = (edges L).take pre.length) ∧ OffAll (⟨px, py⟩ : Pt) pre) ∧ W0.grownBy W (some w2.heap.size)))
        (fun (cc : Code) (pre : List (Pt × Pt)) W => (((cc = Code.ret ∧ WO = false) ∧ (Boxed W (w.heap.size + 1) 3 (.int .i64 0) ∧ Boxed W (w.heap.size + 1 + 1) 4 (.bool false))) ∧ Below w.heap.size w W))
        (OwnFrom.and (OwnFrom.and (OwnFrom.and (Own.from (boxed_own _ _ (fun (pre : List (Pt × Pt)) => Value.int .i64 (windS (⟨px, py⟩ : Pt) pre))) _) (ownFrom_pure _ _)) (ownFrom_pure _ _)) (ownFrom_grown _))
        (fun cc => OwnFrom.and (OwnFrom.and (ownFrom_pure _ (fun _ => cc = Code.ret ∧ WO = false)) (OwnFrom.and (Own.from (boxed_own _ _ (fun _ => Value.int .i64 0)) _) (Own.from (boxed_own _ _ (fun _ => Value.bool false)) _))) (ownFrom_below (Nat.le_refl _) (by omega)))
        (ownFrom_pure _ _)
        ⟨⟨⟨k6, rfl⟩, rfl⟩, World.grownBy.refl _ _⟩
        (fun (pre : List (Pt × Pt)) (x : Pt × Pt) a' W => (((Boxed W w2.heap.size 3 (.int .i64 (windS (⟨px, py⟩ : Pt) pre)) ∧ pre = (edges L).take pre.length) ∧ OffAll (⟨px, py⟩ : Pt) pre) ∧ W0.grownBy W (some w2.heap.size)) ∧ (pre.length < L.length ∧ x = (L[pre.length]!, L[(pre.length + 1) % L.length]!)) ∧
          ∃ Ba Bb, W0.heap.size ≤ Ba ∧ W0.heap.size ≤ Bb ∧ Blk W Ba x.1.cells ∧ Blk W Bb x.2.cells ∧ a' = { tmps := List.toArray ((Value.slice a L.length c) :: (Value.agg #[Value.int .i64 px, Value.int .i64 py]) :: undef :: (Value.pointer (some ⟨w.heap.size, 0, none⟩)) :: (Value.pointer (some ⟨w.heap.size + 1, 0, none⟩)) :: (Value.pointer (some ⟨w.heap.size + 1 + 1, 0, none⟩)) :: (Value.pointer (some ⟨w2.heap.size, 0, none⟩)) :: (Value.pointer (some ⟨Ba, 0, none⟩)) :: (Value.pointer (some ⟨Bb, 0, none⟩)) :: undef :: (Value.agg #[Value.int .i64 px, Value.int .i64 py]) :: (Value.slice (some ⟨w.heap.size + 1 + 1 + 1, 0, none⟩) 1 1) :: (Value.bool true) :: (Value.bool false) :: (Value.bool false) :: (Value.slice a L.length c) :: (Value.bool true) :: (Value.bool false) :: (Value.bool false) :: (Value.slice a L.length c) :: (Value.func (.func 103) #[] #[Value.pointer (some ⟨w2.heap.size + 1, 0, none⟩)]) :: x.1.val :: x.2.val :: undef :: undef :: undef :: undef :: undef :: undef :: undef :: undef :: undef :: undef :: undef :: undef :: undef :: undef :: undef :: undef :: undef :: undef :: undef :: undef :: undef :: undef :: undef :: undef :: undef :: undef :: undef :: undef :: undef :: undef :: undef :: undef :: undef :: undef :: undef :: undef :: undef :: undef :: undef :: undef :: undef :: undef :: undef :: undef :: undef :: undef :: undef :: undef :: []), defers := [] })
        ?hM ?assign ?body ?done ?stop
      case hM =>
        rintro pre x a' _ X Y row ⟨⟨⟨⟨hE, hpre⟩, hpo⟩, hgx⟩, hx, Ba, Bb, ha, hb, bA, bB, rfl⟩ hg hrow; have hr' : ∀ r, row = some r → ∃ o : Obj, X.heap[r]? = some o ∧ o.isCells = false := fun r e => (hrow r e).2; have hne : ∀ (B : Nat) vs, Blk X B vs → some B ≠ row := by
          intro B vs ⟨U, hU⟩ e; obtain ⟨o, ho, hc⟩ := hr' B e.symm; rw [hU] at ho
          cases ho
          cases hc
        exact ⟨⟨⟨⟨boxed_own _ _ (fun (_ : Unit) => _) () X Y row hE hg hr', hpre⟩, hpo⟩, grown_step hgx hg (fun k e => .inl (hrow k e).1)⟩, hx, Ba, Bb, ha, hb, bA.grown hg (hne _ _ bA), bB.grown hg (hne _ _ bB), rfl⟩
      case assign =>
        rintro l' pre ⟨⟨x1, y1⟩, ⟨x2, y2⟩⟩ W hI hx; dsimp only [Pt.val]; have HI := Lib.hid hI; have hgx := hI.2.size; clear hI
        gi_wp2
        have hb2 : Below W.heap.size W ((W.alloc (.cells #[.int .i64 x1, .int .i64 y1] 46)).alloc (.cells #[.int .i64 x2, .int .i64 y2] 46)) := (Below.new W _).alloc (by simp) _; have hg2 := grownBy_of_below hb2 none; refine ⟨(KeepsOthers.alloc _ _).trans (KeepsOthers.alloc _ _), ⟨fun h => h.keep hb2, hb2.block _ (by omega)⟩, ⟨⟨⟨?_, HI.out.1.1.2⟩, HI.out.1.2⟩, ?_⟩, hx, W.heap.size, W.heap.size + 1, hgx, by omega,
          (Blk.new W [.int .i64 x1, .int .i64 y1] 46).alloc _, Blk.lit (W.alloc (.cells #[.int .i64 x1, .int .i64 y1] 46)) (W.heap.size + 1) [.int .i64 x2, .int .i64 y2] 46 (by simp), rfl⟩
        · exact (HI.out.1.1.1.alloc _).alloc _
        · exact grown_step HI.out.2 hg2 (fun k e => by cases e)
      case body =>
        rintro l' pre ⟨⟨x1, y1⟩, ⟨x2, y2⟩⟩ a' W ⟨⟨⟨⟨b6, hpre⟩, hpo⟩, hgx⟩, ⟨hpl, hxe⟩, Ba, Bb, ha, hb', bA, bB, rfl⟩; have hszX : W0.heap.size ≤ W.heap.size := hgx.size; have HBN := Lib.hid (hgx.block (w2.heap.size + 1) (by omega) (fun e => by have := Option.some.inj e; omega)); have bp := kp.grown hgx (fun e => by have := Option.some.inj e; omega); have b4 := k4.kept hgx (fun e => by have := Option.some.inj e; omega); have b5 := k5.kept hgx (fun e => by have := Option.some.inj e; omega); have hek : (edges L)[pre.length]? = some (⟨x1, y1⟩, ⟨x2, y2⟩) := by
          unfold edges; rw [List.getElem?_map, List.getElem?_range hpl, hxe]
          rfl
        obtain ⟨ok1, ok2⟩ := HEK.out _ (List.mem_of_getElem? hek); have HNP : Hid ((edges L).take (pre.length + 1) = pre ++ [((⟨x1, y1⟩ : Pt), (⟨x2, y2⟩ : Pt))]) := Lib.hid (by
          rw [List.take_add_one, hek, ← hpre]; rfl)
        have HPO : Hid ((pre ++ [((⟨x1, y1⟩ : Pt), (⟨x2, y2⟩ : Pt))]).all (offB (⟨px, py⟩ : Pt)) = offB (⟨px, py⟩ : Pt) ((⟨x1, y1⟩ : Pt), (⟨x2, y2⟩ : Pt))) := Lib.hid (by
          rw [List.all_append, show pre.all (offB (⟨px, py⟩ : Pt)) = true from hpo]; simp)
        have HMEM := Lib.hid (List.mem_of_getElem? hek); have HSN := Lib.hid (windS_snoc (⟨px, py⟩ : Pt) pre ((⟨x1, y1⟩ : Pt), (⟨x2, y2⟩ : Pt))); have hbd := windS_bd (⟨px, py⟩ : Pt) pre; have HWE : Hid (windE (⟨px, py⟩ : Pt) ((⟨x1, y1⟩ : Pt), (⟨x2, y2⟩ : Pt)) = if y1 ≤ py ∧ py < y2 ∧ 0 < sg (crs ⟨x1, y1⟩ ⟨x2, y2⟩ ⟨px, py⟩) then 1 else if y2 ≤ py ∧ py < y1 ∧ sg (crs ⟨x1, y1⟩ ⟨x2, y2⟩ ⟨px, py⟩) < 0 then -1 else 0) := Lib.hid rfl; have HOF : Hid (offB (⟨px, py⟩ : Pt) ((⟨x1, y1⟩ : Pt), (⟨x2, y2⟩ : Pt)) = !onX ⟨x1, y1⟩ ⟨x2, y2⟩ ⟨px, py⟩) := Lib.hid rfl; have HT := Lib.hid (fun W => HTN.out ⟨x1, y1⟩ ⟨x2, y2⟩ ok1 ok2 W); have HO := Lib.hid (fun W => HON.out ⟨x1, y1⟩ ⟨x2, y2⟩ ok1 ok2 W); generalize sg (crs ⟨x1, y1⟩ ⟨x2, y2⟩ ⟨px, py⟩) = SG at *; generalize onX ⟨x1, y1⟩ ⟨x2, y2⟩ ⟨px, py⟩ = ON at *; obtain ⟨SM, hSM⟩ : ∃ z, windS (⟨px, py⟩ : Pt) pre = z := ⟨_, rfl⟩; rw [hSM] at HSN hbd b6; have hp1000 : (pre.length : Int) ≤ 1000 := by omega
        dsimp only [Pt.cells, Pt.val] at bA bB HT HO ⊢; clear hek ok1 ok2 hpre hpo hxe hSM HTN HON HEK; have a0 := bA.cell 0 rfl; have a1 := bA.cell 1 rfl; have b0 := bB.cell 0 rfl; have b1 := bB.cell 1 rfl; have p0 := bp.cell 0 rfl; have p1 := bp.cell 1 rfl
        gi_wp2_with fail
        refine ⟨trivial, (CallsIn.inRound l' (callsIn_wide.2 (HT.out _))).mono ?_⟩; rintro e W1 ⟨rfl, hx1⟩; replace b6 : Boxed W1 _ _ _ := (hx1.block _ b6.lt).trans b6; replace b4 : Boxed W1 _ _ _ := (hx1.block _ b4.lt).trans b4; replace b5 : Boxed W1 _ _ _ := (hx1.block _ b5.lt).trans b5; replace bA := bA.keep hx1; replace bB := bB.keep hx1; replace bp := bp.keep hx1; clear a0 a1 b0 b1 p0 p1 HT; have a0 := bA.cell 0 rfl; have a1 := bA.cell 1 rfl; have b0 := bB.cell 0 rfl; have b1 := bB.cell 1 rfl; have p0 := bp.cell 0 rfl; have p1 := bp.cell 1 rfl
        gi_wp2_with fail
        refine ⟨trivial, (CallsIn.inRound l' (callsIn_wide.2 (HO.out _))).mono ?_⟩; rintro e W2 ⟨rfl, hx2⟩; replace b6 : Boxed W2 _ _ _ := (hx2.block _ b6.lt).trans b6; replace b4 : Boxed W2 _ _ _ := (hx2.block _ b4.lt).trans b4; replace b5 : Boxed W2 _ _ _ := (hx2.block _ b5.lt).trans b5; replace bA := bA.keep hx2; replace bB := bB.keep hx2; replace bp := bp.keep hx2; have hx := hx1.trans (hx2.mono hx1.size); have hg2 := grown_step hgx (grownBy_of_below hx none) (fun k e => by cases e); have hko := KeepsOthers.of_below hx; clear a0 a1 b0 b1 p0 p1 HO hx1 hx2 hgx
        cases ON with
        | true =>
          have c4 := b4.cell; have c5 := b5.cell; have f4 := b4.frozen; have f5 := b5.frozen; have hbW := hB0.grown hg2 (by omega) (fun k e => by have := Option.some.inj e; omega); have k4F := (b4.set (.int .i64 0)).other (B' := w.heap.size + 1 + 1) (by omega) (.bool false); have k5F := (b5.other (B' := w.heap.size + 1) (by omega) (.int .i64 0)).set (.bool false); have hbF := (hbW.set_at (b := w.heap.size + 1) (o := 0) (by omega) (.int .i64 0)).set_at (b := w.heap.size + 1 + 1) (o := 0) (by omega) (.bool false)
          gi_wp2
          refine ⟨hko.trans ((KeepsOthers.setCell _ _ _).trans (KeepsOthers.setCell _ _ _)), ⟨⟨rfl, ?_⟩, k4F, k5F⟩, hbF⟩; rw [HWO2.out, List.all_eq_false]; exact ⟨_, HMEM.out, by rw [HOF.out]; simp⟩
        | false =>
          have HPO2 : Hid ((pre ++ [((⟨x1, y1⟩ : Pt), (⟨x2, y2⟩ : Pt))]).all (offB (⟨px, py⟩ : Pt)) = true) := Lib.hid (by rw [HPO.out, HOF.out]; rfl); have a1 := bA.cell 1 rfl; have b1 := bB.cell 1 rfl; have p1 := bp.cell 1 rfl; have c6 := b6.cell; have f6 := b6.frozen; have a0 := bA.cell 0 rfl; have hKeep : ∀ V, Boxed V w2.heap.size 3 (.int .i64 (SM + windE (⟨px, py⟩ : Pt) ((⟨x1, y1⟩ : Pt), (⟨x2, y2⟩ : Pt)))) → W0.grownBy V (some w2.heap.size) → KeepsOthers W V → postLeave (KpR a L (w2.heap.size + 1)) (fun (pre : List (Pt × Pt)) W => (((Boxed W w2.heap.size 3 (.int .i64 (windS (⟨px, py⟩ : Pt) pre)) ∧ pre = (edges L).take pre.length) ∧ OffAll (⟨px, py⟩ : Pt) pre) ∧ W0.grownBy W (some w2.heap.size))) (fun (cc : Code) (pre : List (Pt × Pt)) W => (((cc = Code.ret ∧ WO = false) ∧ (Boxed W (w.heap.size + 1) 3 (.int .i64 0) ∧ Boxed W (w.heap.size + 1 + 1) 4 (.bool false))) ∧ Below w.heap.size w W)) (pre ++ [((⟨x1, y1⟩ : Pt), (⟨x2, y2⟩ : Pt))]) W .normal { tmps := #[], defers := [] } V := by
            intro V hV hgV hkV; have hbV := hB0.grown hgV (by omega) (fun k e => by have := Option.some.inj e; omega); refine ⟨hkV, ⟨fun _ => hr.keep hbV, (hgV.block _ (by omega) (fun e => by have := Option.some.inj e; omega)).trans ?_⟩, ⟨⟨⟨by rw [HSN.out]; exact hV, ?_⟩, HPO2.out⟩, hgV⟩⟩
            · exact HBN.out.symm
            · rw [List.length_append]; exact HNP.out.symm
          replace HWE := HWE.out; have hinc : windE (⟨px, py⟩ : Pt) ((⟨x1, y1⟩ : Pt), (⟨x2, y2⟩ : Pt)) = 1 → Hid (postLeave (KpR a L (w2.heap.size + 1)) (fun (pre : List (Pt × Pt)) W => (((Boxed W w2.heap.size 3 (.int .i64 (windS (⟨px, py⟩ : Pt) pre)) ∧ pre = (edges L).take pre.length) ∧ OffAll (⟨px, py⟩ : Pt) pre) ∧ W0.grownBy W (some w2.heap.size))) (fun (cc : Code) (pre : List (Pt × Pt)) W => (((cc = Code.ret ∧ WO = false) ∧ (Boxed W (w.heap.size + 1) 3 (.int .i64 0) ∧ Boxed W (w.heap.size + 1 + 1) 4 (.bool false))) ∧ Below w.heap.size w W)) (pre ++ [((⟨x1, y1⟩ : Pt), (⟨x2, y2⟩ : Pt))]) W .normal { tmps := #[], defers := [] } (W2.setCell ⟨w2.heap.size, 0, none⟩ (.int .i64 (SM + 1)))) := fun he =>
            Lib.hid (hKeep _ (by rw [he]; exact b6.set _) (grown_step hg2 (grownBy_setCell' W2 w2.heap.size _) (fun k e => .inr (Option.some.inj e).symm)) (hko.trans (KeepsOthers.setCell _ _ _)))
          have hdec : windE (⟨px, py⟩ : Pt) ((⟨x1, y1⟩ : Pt), (⟨x2, y2⟩ : Pt)) = -1 → Hid (postLeave (KpR a L (w2.heap.size + 1)) (fun (pre : List (Pt × Pt)) W => (((Boxed W w2.heap.size 3 (.int .i64 (windS (⟨px, py⟩ : Pt) pre)) ∧ pre = (edges L).take pre.length) ∧ OffAll (⟨px, py⟩ : Pt) pre) ∧ W0.grownBy W (some w2.heap.size))) (fun (cc : Code) (pre : List (Pt × Pt)) W => (((cc = Code.ret ∧ WO = false) ∧ (Boxed W (w.heap.size + 1) 3 (.int .i64 0) ∧ Boxed W (w.heap.size + 1 + 1) 4 (.bool false))) ∧ Below w.heap.size w W)) (pre ++ [((⟨x1, y1⟩ : Pt), (⟨x2, y2⟩ : Pt))]) W .normal { tmps := #[], defers := [] } (W2.setCell ⟨w2.heap.size, 0, none⟩ (.int .i64 (SM - 1)))) := fun he =>
            Lib.hid (hKeep _ (by rw [he]; exact b6.set _) (grown_step hg2 (grownBy_setCell' W2 w2.heap.size _) (fun k e => .inr (Option.some.inj e).symm)) (hko.trans (KeepsOthers.setCell _ _ _)))
          have hnon : windE (⟨px, py⟩ : Pt) ((⟨x1, y1⟩ : Pt), (⟨x2, y2⟩ : Pt)) = 0 → Hid (postLeave (KpR a L (w2.heap.size + 1)) (fun (pre : List (Pt × Pt)) W => (((Boxed W w2.heap.size 3 (.int .i64 (windS (⟨px, py⟩ : Pt) pre)) ∧ pre = (edges L).take pre.length) ∧ OffAll (⟨px, py⟩ : Pt) pre) ∧ W0.grownBy W (some w2.heap.size))) (fun (cc : Code) (pre : List (Pt × Pt)) W => (((cc = Code.ret ∧ WO = false) ∧ (Boxed W (w.heap.size + 1) 3 (.int .i64 0) ∧ Boxed W (w.heap.size + 1 + 1) 4 (.bool false))) ∧ Below w.heap.size w W)) (pre ++ [((⟨x1, y1⟩ : Pt), (⟨x2, y2⟩ : Pt))]) W .normal { tmps := #[], defers := [] } W2) := fun he =>
            Lib.hid (hKeep _ (by rw [he, Int.add_zero]; exact b6) hg2 hko)
          have HINC := Lib.hid hinc; have HDEC := Lib.hid hdec; have HNON := Lib.hid hnon; have HWEX := Lib.hid HWE; clear hinc hdec hnon hKeep HWE bA bB bp b4 b5 hg2 hko; have hw1 : IntKind.i64.wrap (SM + 1) = SM + 1 := IntWalk.i64_in _ (by omega); have hw2 : IntKind.i64.wrap (SM - 1) = SM - 1 := IntWalk.i64_in _ (by omega)
          by_cases q1 : y1 ≤ py
          · by_cases q2 : py < y2
            · by_cases q3 : 0 < SG
              · have HF := HINC.out (by rw [HWEX.out, if_pos ⟨q1, q2, q3⟩])
                gi_wp2
                exact HF.out
              · have q4 : ¬ y2 ≤ py := by omega
                have HF := HNON.out (by rw [HWEX.out, if_neg (fun h => q3 h.2.2), if_neg (fun h => q4 h.1)])
                gi_wp2
                exact HF.out
            · have q4 : y2 ≤ py := by omega
              have q5 : ¬ py < y1 := by omega
              have HF := HNON.out (by rw [HWEX.out, if_neg (fun h => q2 h.2.1), if_neg (fun h => q5 h.2.1)])
              gi_wp2
              exact HF.out
          · by_cases q4 : y2 ≤ py
            · have q5 : py < y1 := by omega
              by_cases q6 : SG < 0
              · have HF := HDEC.out (by rw [HWEX.out, if_neg (fun h => q1 h.1), if_pos ⟨q4, q5, q6⟩])
                gi_wp2
                exact HF.out
              · have HF := HNON.out (by rw [HWEX.out, if_neg (fun h => q1 h.1), if_neg (fun h => q6 h.2.2)])
                gi_wp2
                exact HF.out
            · have HF := HNON.out (by rw [HWEX.out, if_neg (fun h => q1 h.1), if_neg (fun h => q4 h.1)])
              gi_wp2
              exact HF.out
      case done =>
        rintro D xs W hD rfl ⟨⟨⟨b6, -⟩, hpo⟩, hgx⟩ hK; have b4 := k4.kept hgx (fun e => by have := Option.some.inj e; omega); have b5 := k5.kept hgx (fun e => by have := Option.some.inj e; omega); have hbW := hB0.grown hgx (by omega) (fun k e => by have := Option.some.inj e; omega); have hWO : WO = true := by rw [HWO2.out]; exact hpo
        have HV : Hid (WF = windS (⟨px, py⟩ : Pt) (edges L)) := Lib.hid (by rw [HWF.out, hWO]; rfl); have HWO3 := Lib.hid hWO; obtain ⟨SM, hSM⟩ : ∃ z, windS (⟨px, py⟩ : Pt) (edges L) = z := ⟨_, rfl⟩; rw [hSM] at b6 HV; have k4F := (b4.set (.int .i64 SM)).other (B' := w.heap.size + 1 + 1) (by omega) (.bool true); have k5F := (b5.other (B' := w.heap.size + 1) (by omega) (.int .i64 SM)).set (.bool true); have hbF := (hbW.set_at (b := w.heap.size + 1) (o := 0) (by omega) (.int .i64 SM)).set_at (b := w.heap.size + 1 + 1) (o := 0) (by omega) (.bool true); have hKF : ((W.setCell ⟨w.heap.size + 1, 0, none⟩ (.int .i64 SM)).setCell ⟨w.heap.size + 1 + 1, 0, none⟩ (.bool true)).heap[D]? = some (.deferred (some [])) := ((Below.heap_setCell _ _ _ _ (by simp; omega)).trans (Below.heap_setCell _ _ _ _ (by simp; omega))).trans hK; have c4 := b4.cell; have c5 := b5.cell; have c6 := b6.cell; have f4 := b4.frozen; have f5 := b5.frozen; clear hpo hWO hSM b4 b5 b6 k4 k5 hK HWO2 HWF hgx hbW; go_wp2; generalize (W.setCell ⟨w.heap.size + 1, 0, none⟩ (.int .i64 SM)).setCell ⟨w.heap.size + 1 + 1, 0, none⟩ (.bool true) = wF at *; refine ⟨by simp, .inl ⟨_, _, rfl, run_takeDeferred hKF, ?_⟩⟩; have g4 := (k4F.kept (grownBy_putObj' wF D (.deferred none)) (fun e => by have := Option.some.inj e; omega)).cell; have g5 := (k5F.kept (grownBy_putObj' wF D (.deferred none)) (fun e => by have := Option.some.inj e; omega)).cell; refine ⟨.tuple #[.int .i64 SM, .bool true], by simp [results, Try.results50, go_sem, g4, g5], ?_, hbF.trans (belowK_b (w := w) (Nat.le_refl _) wF D _ _ (by omega) hKF rfl rfl)⟩
        rw [HV.out, HWO3.out]
      case stop =>
        rintro D cc pre W hD ⟨⟨⟨rfl, hWO⟩, b4, b5⟩, hbW⟩ hK; have HWO3 := Lib.hid hWO; have HV : Hid (WF = 0) := Lib.hid (by rw [HWF.out, hWO]; rfl); clear hWO HWO2 HWF
        gi_wp2
        refine ⟨by simp, .inl ⟨_, _, rfl, run_takeDeferred hK, ?_⟩⟩; have g4 := (b4.kept (grownBy_putObj' W D (.deferred none)) (fun e => by have := Option.some.inj e; omega)).cell; have g5 := (b5.kept (grownBy_putObj' W D (.deferred none)) (fun e => by have := Option.some.inj e; omega)).cell; refine ⟨.tuple #[.int .i64 0, .bool false], by simp [results, Try.results50, go_sem, g4, g5], ?_, hbW.trans (belowK_b (w := w) (Nat.le_refl _) W D _ _ (by omega) hK rfl rfl)⟩; rw [HV.out, HWO3.out]

end Go.Proofs.Ytccamjnomjcchaa
/- face.Winding. -/
set_option linter.unusedVariables false
set_option linter.unusedSimpArgs false
set_option maxRecDepth 100000
namespace Go
open Go.RowKit
def fwS (p : Pt) : List (List Pt) → Int
  | [] => 0
  | r :: l => windF r p + fwS p l
def fwOk (p : Pt) (l : List (List Pt)) : Bool := l.all (windOk · p)
def fwF (p : Pt) (l : List (List Pt)) : Int := if fwOk p l then fwS p l else 0
theorem fwS_append (p : Pt) (l r : List (List Pt)) : fwS p (l ++ r) = fwS p l + fwS p r := by
  induction l with
  | nil => simp [fwS]
  | cons e l ih => simp only [List.cons_append, fwS, ih]; omega
theorem fwS_snoc (p : Pt) (l : List (List Pt)) (r : List Pt) : fwS p (l ++ [r]) = fwS p l + windF r p := by
  rw [fwS_append]; simp [fwS]
theorem edges_len (l : List Pt) : (edges l).length ≤ l.length := by
  simp [edges]
theorem windF_bd (l : List Pt) (p : Pt) : -(l.length : Int) ≤ windF l p ∧ windF l p ≤ l.length := by
  unfold windF; have h1 := windS_bd p (edges l); have h2 := edges_len l
  split <;> omega
theorem fwS_bd (p : Pt) (l : List (List Pt)) (h : ∀ r ∈ l, r.length ≤ 1000) : -((l.length : Int) * 1000) ≤ fwS p l ∧ fwS p l ≤ (l.length : Int) * 1000 := by
  induction l with
  | nil => simp [fwS]
  | cons r l ih =>
    have h1 := ih (fun r hr => h r (by simp [hr])); have h2 := windF_bd r p; have h3 := h r (by simp); simp only [fwS, List.length_cons]; omega
end Go
namespace Go.Proofs.Ytccamjnomjcchaa
open Go.RowKit

set_option maxHeartbeats 3200000 in
theorem fwind_any (f : Fc) (hn : f.rs.length ≤ 1000) (hl : ∀ r ∈ f.rs, r.l.length ≤ 1000) (p : Pt) (w : World) (hok : f.Ok w) :
    Calls Try.prog 23 #[f.val, p.val] w fun e w' => e = .returned (.tuple #[.int .i64 (fwF p f.rings), .bool (fwOk p f.rings)]) ∧ Below w.heap.size w w' := by
  have HW := Lib.hid (fun (r : PC) (hr : r ∈ f.rs) (W : World) (h : r.Ok W) => wind_any r.p r.c r.l (hl r hr) p W h.1); have HOK := Lib.hid hok; have HLL := Lib.hid hl; have HR : Hid (f.rings = f.rs.map PC.l) := Lib.hid rfl; generalize f.rings = RS at *; obtain ⟨rs, ra, rc, ls, aa, ac⟩ := f; obtain ⟨px, py⟩ := p; have hrc := hok.1.2; dsimp only [Fc.val, Fc.rval, Fc.aval, Pt.val] at HW HLL HR hn hrc ⊢; obtain ⟨N, hN⟩ : ∃ N, rs.length = N := ⟨_, rfl⟩; have HN := Lib.hid hN; rw [hN] at hn hrc ⊢; clear hN hl hok
  go_enter Try.func23, Try.ntmps23
  go_wp2; have hS0 : Below w.heap.size w ((w.alloc (.cells #[.slice ra N rc, .slice aa ls.length ac] 38)).alloc (.cells #[.int .i64 px, .int .i64 py] 46)) := ((Below.refl _ _).alloc (Nat.le_refl _) _).alloc (by simp) _; have hSz : ((w.alloc (.cells #[.slice ra N rc, .slice aa ls.length ac] 38)).alloc (.cells #[.int .i64 px, .int .i64 py] 46)).heap.size = w.heap.size + 2 := by simp
  have kP : ((w.alloc (.cells #[.slice ra N rc, .slice aa ls.length ac] 38)).alloc (.cells #[.int .i64 px, .int .i64 py] 46)).heap[w.heap.size + 1]? = some (.cells #[.int .i64 px, .int .i64 py] 46 (0, 0)) := by
    have := heap_alloc_new (w.alloc (.cells #[.slice ra N rc, .slice aa ls.length ac] 38)) (.cells #[.int .i64 px, .int .i64 py] 46)
    simpa using this
  have HKP := Lib.hid kP; clear kP; generalize (w.alloc (.cells #[.slice ra N rc, .slice aa ls.length ac] 38)).alloc (.cells #[.int .i64 px, .int .i64 py] 46) = wS at *
  go_loopw [6, 14] (fun n i wr => ∃ (k : Nat) (z : Int), k ≤ N ∧ i = .int .i64 k ∧ n = .int .i64 z ∧ Hid (fwS ⟨px, py⟩ ((rs.take k).map PC.l) = z) ∧ -((k : Int) * 1000) ≤ z ∧ z ≤ (k : Int) * 1000 ∧ Hid (fwOk ⟨px, py⟩ ((rs.take k).map PC.l) = true) ∧ Below wS.heap.size wS wr) (fun _ i _ => N - (intOf i).toNat)
  case atStart => exact ⟨0, 0, by omega, rfl, rfl, Lib.hid rfl, by omega, by omega, Lib.hid rfl, Below.refl _ _⟩
  case round =>
    obtain ⟨k, z, hk, rfl, rfl, HZ, hz1, hz2, HO, hbl⟩ := hrel; have hbw := hS0.trans (hbl.mono (by omega))
    by_cases h1 : k < N
    · have h1' : (k : Int) < (N : Int) := by omega
      have hkl : k < rs.length := by rw [HN.out]; exact h1
      obtain ⟨b2, o2, rfl, hb2, d0⟩ := (HOK.out.1.1.keep hbw).rc k hkl; have HRO := Lib.hid ((HOK.out.2.1 _ (List.getElem_mem hkl)).keep hbw); have HWC := Lib.hid (HW.out rs[k] (List.getElem_mem hkl)); have HL := HLL.out rs[k] (List.getElem_mem hkl); have HTA : Hid ((rs.take (k + 1)).map PC.l = (rs.take k).map PC.l ++ [rs[k].l]) := Lib.hid (by
        rw [List.take_succ_eq_append_getElem hkl, List.map_append, List.map_singleton])
      have HIN : Hid (rs[k].l ∈ rs.map PC.l) := Lib.hid (List.mem_map_of_mem (List.getElem_mem hkl)); generalize rs[k] = R at *; obtain ⟨L, Rp, Rc⟩ := R; have HBD := windF_bd L ⟨px, py⟩; dsimp only [PC.val] at d0 HL HWC; have e0 : wr.cell? ⟨w.heap.size + 1, 0, none⟩ = some (.int .i64 px) := by
        rw [hbl.cell (p := ⟨w.heap.size + 1, 0, none⟩) (by simp; omega)]; simp [World.cell?, HKP.out]
      have e1 : wr.cell? ⟨w.heap.size + 1, 0 + 1, none⟩ = some (.int .i64 py) := by
        rw [hbl.cell (p := ⟨w.heap.size + 1, 0 + 1, none⟩) (by simp; omega)]; simp [World.cell?, HKP.out]
      go_wp2_with fail
      refine (HWC.out _ HRO.out).mono ?_; rintro e w2 ⟨rfl, hb2⟩; have hbl2 := hbl.trans (hb2.mono hbl.size)
      cases hok : windOk L ⟨px, py⟩ with
      | false =>
        have HFA : Hid (fwOk ⟨px, py⟩ RS = false) := Lib.hid (by
          rw [HR.out]; unfold fwOk; rw [List.all_eq_false]; exact ⟨L, HIN.out, by rw [hok]; simp⟩)
        go_wp2; refine bodyPost_ret (v := .tuple #[.int .i64 0, .bool false]) ?_ rfl ⟨?_, ?_⟩
        · simp [results, Try.results23, go_sem]
        · simp [fwF, HFA.out]
        · exact hS0.trans (hbl2.mono (by omega))
      | true =>
        obtain ⟨y, hy⟩ : ∃ y, windF L ⟨px, py⟩ = y := ⟨_, rfl⟩; rw [hy] at HBD ⊢; have HY := Lib.hid hy; clear hy; have HO2 : Hid (fwOk ⟨px, py⟩ ((rs.take (k + 1)).map PC.l) = true) := Lib.hid (by
          have := HO.out; rw [HTA.out]; unfold fwOk at *; rw [List.all_append, this]; simp [hok])
        clear hok; go_wp2; exact ⟨⟨k + 1, z + y, by omega, by go_num, by go_num, Lib.hid (by rw [HTA.out, fwS_snoc, HZ.out, HY.out]), by omega, by omega, HO2, hbl2⟩, by simp [intOf]; omega⟩
    · have h1' : ¬ (k : Int) < (N : Int) := by omega
      have HTA : Hid ((rs.take k).map PC.l = RS) := Lib.hid (by rw [HR.out, List.take_of_length_le (by rw [HN.out]; omega)]); go_wp2; refine bodyPost_ret (v := .tuple #[.int .i64 z, .bool true]) ?_ rfl ⟨?_, ?_⟩
      · simp [results, Try.results23, go_sem]
      · have e1 := HO.out; have e2 := HZ.out; rw [HTA.out] at e1 e2; simp [fwF, e1, e2]
      · exact hbw
end Go.Proofs.Ytccamjnomjcchaa
