/-
  snap.Ring. Cuts lie between both ends: in plain terms.
-/
import Derived.Test.YtediblljgakoeaaPk4
import Derived.Test.YtediblljgakoeaaPk5
import Derived.Test.YtediblljgakoeaaPk12
import Derived.Test.YtediblljgakoeaaPk2
/- snap.Ring. -/
set_option linter.unusedVariables false
set_option linter.unusedSimpArgs false
set_option maxRecDepth 100000
namespace Go
open Go.RowKit Go.Srt
def ringOk (z b : Int) (l : List Pt) : Bool := linesB z b && l.all worldB
/-- An edge's first point, then its cuts. -/
def edgeF (L : List Int) (e : Pt × Pt) : List Pt := e.1 :: cutsF e.1 e.2 L L
def ringL (z b : Int) (l : List Pt) : List Pt := (edges (thinR (l.map (snapP · z)))).flatMap (edgeF (linesF z b))
theorem stripN_len : ∀ (f : Nat) (l : List Pt), (stripN f l).length ≤ l.length
  | 0, l => Nat.le_refl _
  | f + 1, l => by
    unfold stripN
    split
    · have := stripN_len f l.dropLast; simp at this; omega
    · exact Nat.le_refl _
theorem thinR_len (l : List Pt) : (thinR l).length ≤ l.length := Nat.le_trans (stripN_len _ _) (Lib.compact_length_le l)
theorem linesF_len (z b : Int) : (linesF z b).length ≤ 32 := by
  unfold linesF
  split
  · rename_i h
    have h1 : levelB z = true := by unfold linesB at h; rw [Bool.and_eq_true] at h; exact h.1
    refine Nat.le_trans (Lib.compact_length_le _) (Nat.le_trans (rawL_len b _) ?_)
    rcases level_cases h1 with rfl | rfl | rfl | rfl | rfl <;> decide
  · simp
theorem edgeF_flat (L : List Int) (hL : L.length ≤ 32) : ∀ pre : List (Pt × Pt), (pre.flatMap (edgeF L)).length ≤ pre.length * 65
  | [] => by simp
  | e :: r => by
    have h1 := edgeF_flat L hL r
    have h2 := cutsF_len e.1 e.2 L L
    rw [List.flatMap_cons, List.length_append]
    have h3 : (edgeF L e).length = 1 + (cutsF e.1 e.2 L L).length := by simp [edgeF]; omega
    rw [h3, List.length_cons]
    omega
theorem pts_ints (l : List Pt) : ∀ v ∈ pts l, ∃ k z, v = Value.int k z := by
  intro v hv
  unfold pts at hv
  obtain ⟨p, -, hp⟩ := List.mem_flatMap.1 hv
  simp [Pt.cells] at hp
  rcases hp with rfl | rfl <;> exact ⟨_, _, rfl⟩
def ringF (z b : Int) (l : List Pt) : List Pt := if ringOk z b l then ringL z b l else []
end Go
namespace Go.Proofs.Ytediblljgakoeaa
open Go.RowKit Go.Srt
attribute [local go_sem] Oper.semAt_some

set_option maxHeartbeats 6400000 in
theorem ring_any (a : Option Addr) (c : Nat) (l : List Pt) (z b : Int) (hz : -9223372036854775808 ≤ z ∧ z ≤ 9223372036854775807) (hn : l.length ≤ 1000) (w : World) (hr : Rd w a (pts l)) :
    Calls Try.prog 12 #[.slice a l.length c, .int .i64 z, .int .i64 b] w fun e w' => ∃ v, e = .returned (.tuple #[v, .int .i64 (if ringOk z b l then 0 else 5)]) ∧ w'.ownsRow w.heap.size 32 2 v (ringF z b l).length (pts (ringF z b l)) ∧ Below w.heap.size w w' := by
  have HLI := Lib.hid (lines_any z b)
  have HPT := Lib.hid (fun p w => point_any p z hz w)
  refine (callsIn_wide (n := 5)).1 ?_
  refine callsIn_of_wp_marks Try.func12 rfl trivial ?_ rfl
  simp only [Try.ntmps12, List.size_toArray, List.length_cons, List.length_nil, Nat.reduceAdd, Nat.reduceSub, Array.replicate_succ, Array.replicate_zero, List.push_toArray, List.append_toArray, List.nil_append, List.cons_append]
  refine wpIn_wide.2 ?_
  go_wp2
  refine wp_goto_fwd 0 rfl ?_
  intro J HB
  go_wp2_with fail
  refine (HLI.out _).mono ?_
  rintro e w1 ⟨v, rfl, hol, hbl⟩
  obtain ⟨la, lc, rfl, hlc, -, hln, hlr, hlb⟩ := hol.form
  replace hlb := fun b hb => (hlb b hb).2
  have hbo := Blk.lit w w.heap.size [.slice none 0 0] 42 rfl
  have hb1 := hbo.keep hbl
  by_cases hL : linesB z b = true
  · rw [hL]
    have hlv : levelB z = true := by unfold linesB at hL; rw [Bool.and_eq_true] at hL; exact hL.1
    obtain ⟨n, hnl⟩ : ∃ n, l.length = n := ⟨_, rfl⟩
    have HN := Lib.hid hnl
    rw [hnl] at hn
    have HR := Lib.hid hr
    have hs1 := hbl.size
    simp only [World.size_alloc] at hs1
    have hbl0 : Below w.heap.size w w1 := (Below.new w _).trans (hbl.mono (by simp))
    have hbx := hb1.alloc (.cells #[.slice la (linesF z b).length lc] 43)
    have hby := Blk.lit w1 w1.heap.size [.slice la (linesF z b).length lc] 43 rfl
    have hblA : Below w.heap.size w (w1.alloc (.cells #[.slice la (linesF z b).length lc] 43)) := hbl0.alloc (by omega) _
    have hlrA : Rd (w1.alloc (.cells #[.slice la (linesF z b).length lc] 43)) la (ins (linesF z b)) := hlr.alloc _
    have hbxB : Boxed (w1.alloc (.cells #[.slice la (linesF z b).length lc] 43)) w.heap.size 42 (.slice none 0 0) := Boxed.alloc ((hbl.block _ (by simp)).trans (Boxed.new w _ _)) _
    have hbyB := Boxed.new w1 43 (.slice la (linesF z b).length lc)
    rw [hnl]
    clear hr hbl hb1 hbo hol hnl
    go_wp2
    have hsA : (w1.alloc (.cells #[.slice la (linesF z b).length lc] 43)).heap.size = w1.heap.size + 1 := by simp
    obtain ⟨wA, hwA⟩ : ∃ W, w1.alloc (.cells #[.slice la (linesF z b).length lc] 43) = W := ⟨_, rfl⟩
    rw [hwA] at hbx hby hblA hlrA hsA hbxB hbyB ⊢
    clear hwA
    go_loopw [8, 28] (fun o i wr => ∃ (k : Nat), k ≤ n ∧ i = .int .i64 k ∧ Hid ((l.take k).all worldB = true) ∧ wr.ownsRow wA.heap.size 32 2 o k (pts ((l.take k).map (snapP · z))) ∧ Below wA.heap.size wA wr) (fun _ i _ => n - (intOf i).toNat)
    case atStart => exact ⟨0, by omega, rfl, Lib.hid rfl, World.ownsRow_nil _ _ _ _, Below.refl _ _⟩
    case round =>
      obtain ⟨k, hk, rfl, HW, ho, hbA⟩ := hrel
      have hb2 := hblA.trans (hbA.mono hblA.size)
      by_cases hlt : k < n
      · have hlt2 : (k : Int) < (n : Int) := by omega
        have hkl : k < l.length := by rw [HN.out]; exact hlt
        obtain ⟨b1, off1, rfl, hbb, c0, c1⟩ := (HR.out.keep hb2).pt k hkl
        have hp := fun w => HPT.out (l[k]'hkl) w
        simp only [hlv, Bool.true_and] at hp
        obtain ⟨p, hpp⟩ : ∃ p, l[k]'hkl = p := ⟨_, rfl⟩
        rw [hpp] at hp c0 c1
        obtain ⟨px, py⟩ := p
        have HP := Lib.hid hp
        clear hp
        dsimp only [Pt.val] at HP c0 c1
        go_wp2_with fail
        refine (HP.out _).mono ?_
        rintro e w2 ⟨rfl, hb3⟩
        have hsr := hbA.size
        have hbP : Below wr.heap.size wr w2 := (Below.new wr _).trans (hb3.mono (by simp))
        have ho2 := ho.below hbP
        have hb4 := hbA.trans (hbP.mono hsr)
        have hs2 := hbP.size
        clear ho hbP hb3 HP
        by_cases hW : worldB ⟨px, py⟩ = true
        · have HW2 : Hid ((l.take (k + 1)).all worldB = true) := Lib.hid (by
            rw [List.take_succ_eq_append_getElem hkl, List.all_append, HW.out, hpp]; simp [hW])
          have HM : Hid ((l.take (k + 1)).map (snapP · z) = (l.take k).map (snapP · z) ++ [snapP ⟨px, py⟩ z]) := Lib.hid (by
            rw [List.take_succ_eq_append_getElem hkl, List.map_append, hpp]; rfl)
          rw [hW]
          simp only [if_true]
          generalize snapP ⟨px, py⟩ z = sp at *
          obtain ⟨sx, sy⟩ := sp
          dsimp only [Pt.val]
          clear hpp hW
          obtain ⟨ti, hti, hz0, hz1, hz2⟩ := info_parts Try.infoTP
          go_wp2_with (at_builtin; go_must (refine wpList_append_own_at ((w2.alloc (.cells #[.int .i64 sx, .int .i64 sy] 32)).alloc (.cells #[.int .i64 sx, .int .i64 sy] 32)) rfl (.tmp 40) (.tmp 42) 42 rfl wA.heap.size 32 ti (.agg #[.int .i64 0, .int .i64 0]) 2 16 Try.underlying42 hti hz0 hz1 hz2 rfl (by decide) u8 k (pts ((l.take k).map (snapP · z))) rfl ((ho2.below (Below.new _ _)).below (Below.new _ _)) ⟨w2.heap.size + 1, 0, none⟩ 1 1 [.int .i64 sx, .int .i64 sy] rfl rfl (Rd.lit _ (w2.heap.size + 1) [.int .i64 sx, .int .i64 sy] 32 (by simp)).add (by simp [Value.oneCell']) (by unfold maxLen; omega) (by omega) (by simp; omega) ?_); intro v3 w3 ho3 hg3 _ _)
          have hob : ∀ g, u8.ownBlock = some g → wA.heap.size ≤ g := fun g e => (ho2.lt g e).1
          go_roundw
          case rel =>
            refine ⟨k + 1, by omega, by go_num, HW2, ?_, ((hb4.alloc (by omega) _).alloc (by simp; omega) _).grown hg3 (by simp; omega) (fun x e => by have := hob _ e; omega)⟩
            rw [HM.out, pts_snoc]; exact ho3
          case measure => simp [intOf]; omega
        · have hW2 : worldB ⟨px, py⟩ = false := by simpa using hW
          rw [hW2]
          have hO : ringOk z b l = false := by
            unfold ringOk
            rw [hL, Bool.true_and]
            refine Bool.eq_false_iff.2 fun h => hW ?_
            rw [← hpp]
            exact List.all_eq_true.1 h _ (List.getElem_mem hkl)
          have hF : ringF z b l = [] := by unfold ringF; rw [hO]; rfl
          simp only [Bool.false_eq_true, if_false, Pt.val]
          go_wp2
          go_step3
          show (0 : Nat) = 0 ∧ J _ _
          refine ⟨rfl, HB.out _ _ ?_⟩
          go_wp2
          try rw [Exit.jump_ret]
          refine ⟨.tuple #[.slice none 0 0, .int .i64 5], by simp [results, Try.results12, go_sem], .slice none 0 0, by rw [hO]; rfl, by rw [hF]; exact World.ownsRow_nil _ _ _ _, ?_⟩
          exact (hblA.trans (hb4.mono hblA.size)).alloc (by have := hblA.size; omega) _
      · have hk3 : k = n := by omega
        subst hk3
        have hO : ringOk z b l = true := by
          unfold ringOk
          rw [hL, Bool.true_and]
          have := HW.out
          rwa [List.take_of_length_le (by rw [HN.out]; omega)] at this
        have hF : ringF z b l = ringL z b l := by unfold ringF; rw [hO]; rfl
        rw [List.take_of_length_le (by rw [HN.out]; omega)] at ho
        have hml : (l.map (snapP · z)).length = k := by simp [HN.out]
        obtain ⟨M, hM⟩ : ∃ M, l.map (snapP · z) = M := ⟨_, rfl⟩
        have hRL : ringL z b l = (edges (thinR M)).flatMap (edgeF (linesF z b)) := by unfold ringL; rw [hM]
        rw [hM] at ho hml
        have HRL := Lib.hid (hF.trans hRL)
        clear hF hRL
        obtain ⟨oa, oc, rfl, hoc, hom, hon, hor, -⟩ := ho.form
        have HTH := Lib.hid (fun W h => thinR_any oa oc M (by omega) W h hon)
        rw [hml] at HTH
        have HLE := thinR_len M
        rw [hml] at HLE
        go_wp2_with fail
        refine (HTH.out _ hor).mono ?_
        rintro e w4 ⟨ra, rfl, hrT, hbT⟩
        generalize thinR M = T at *
        go_wp2_with fail
        refine (callsIn_wide.1 (edges_in 5 ra T.length T.length w4)).mono ?_
        rintro e w5 ⟨rfl, rfl⟩
        go_wp2_with fail
        -- THE RANGE
        have hLL : (linesF z b).length ≤ 32 := linesF_len z b
        have bO0 : Boxed (w4.alloc (.cells #[.slice ra T.length T.length] 42)) w.heap.size 42 (.slice none 0 0) := by
          have h1 := (hbA.block _ (by omega)).trans hbxB
          have h2 := (hbT.block _ (by have := hbA.size; omega)).trans h1
          exact Boxed.alloc h2 _
        have bL0 : Boxed (w4.alloc (.cells #[.slice ra T.length T.length] 42)) w1.heap.size 43 (.slice la (linesF z b).length lc) := by
          have h1 := (hbA.block _ (by omega)).trans hbyB
          have h2 := (hbT.block _ (by have := hbA.size; omega)).trans h1
          exact Boxed.alloc h2 _
        have bN : Boxed (w4.alloc (.cells #[.slice ra T.length T.length] 42)) w4.heap.size 42 (.slice ra T.length T.length) := Boxed.new w4 _ _
        have hrT0 : Rd (w4.alloc (.cells #[.slice ra T.length T.length] 42)) ra (pts T) := hrT.alloc _
        have hlr0 : Rd (w4.alloc (.cells #[.slice ra T.length T.length] 42)) la (ins (linesF z b)) := ((hlrA.keep hbA).keep hbT).alloc _
        have hb4 : Below w.heap.size w w4 := hb2.trans (hbT.mono (hb2.size))
        have hsz4 : wr.heap.size ≤ w4.heap.size := hbT.size
        have hszr : wA.heap.size ≤ wr.heap.size := hbA.size
        have hB0 : Below w.heap.size w (w4.alloc (.cells #[.slice ra T.length T.length] 42)) := hb4.alloc (by omega) _
        have hsz : (w4.alloc (.cells #[.slice ra T.length T.length] 42)).heap.size = w4.heap.size + 1 := by simp
        obtain ⟨W0, hW0⟩ : ∃ W0, w4.alloc (.cells #[.slice ra T.length T.length] 42) = W0 := ⟨_, rfl⟩
        rw [hW0] at bO0 bL0 bN hrT0 hlr0 hB0 hsz ⊢
        clear hW0
        refine (wpIn_wide (n := 5)).1 ?_
        refine wpIn_rangeFunc_ahead rfl (by decide) (gf := 36) (lb := #[.pointer (some ⟨w4.heap.size, 0, none⟩)]) rfl trivial (enters_of Try.func36 (by kernel_rfl) rfl)
          (edges_ahead (5 - 1) w4.heap.size ra T.length T (by omega) W0 hrT0 (0, 0) bN) KpR.trans (fun W l o o' hl h1 h2 => KpR.putObj (w := W0) (by omega) W l o o' hl h1 h2) (Below.refl _ _) (fun _ => rfl)
          (fun (pre : List (Pt × Pt)) W => (((∃ v, Boxed W w.heap.size 42 v ∧ W.ownsRow W0.heap.size 32 2 v (pre.flatMap (edgeF (linesF z b))).length (pts (pre.flatMap (edgeF (linesF z b)))) ∧ True) ∧ pre = (edges T).take pre.length) ∧ W0.grownBy W (some w.heap.size)))
          (OwnFrom.and (OwnFrom.and (Own.from (holdsRow_own W0.heap.size w.heap.size 42 32 2 (fun (pre : List (Pt × Pt)) => (pre.flatMap (edgeF (linesF z b))).length) (fun (pre : List (Pt × Pt)) => pts (pre.flatMap (edgeF (linesF z b)))) (fun _ _ => True)) _) (ownFrom_pure _ _)) (ownFrom_grown _))
          (ownFrom_pure _ _)
          ⟨⟨⟨_, bO0, World.ownsRow_nil _ _ _ _, trivial⟩, rfl⟩, World.grownBy.refl _ _⟩
          (fun (pre : List (Pt × Pt)) (x : Pt × Pt) a' W => (pre.length < T.length ∧ x = (T[pre.length]!, T[(pre.length + 1) % T.length]!)) ∧
            ∃ Ba Bb, (((∃ v, Boxed W w.heap.size 42 v ∧ W.ownsRow W0.heap.size 32 2 v (pre.flatMap (edgeF (linesF z b))).length (pts (pre.flatMap (edgeF (linesF z b)))) ∧ (v.ownBlock ≠ some Ba ∧ v.ownBlock ≠ some Bb)) ∧ pre = (edges T).take pre.length) ∧ W0.grownBy W (some w.heap.size)) ∧ W0.heap.size ≤ Ba ∧ W0.heap.size ≤ Bb ∧ Blk W Ba x.1.cells ∧ Blk W Bb x.2.cells ∧ a' = { tmps := #[Value.slice a k c, Value.int .i64 z, Value.int .i64 b, undef, undef, undef, Value.slice none 0 0, Value.int .i64 0, Value.slice oa k oc, Value.pointer (some ⟨w.heap.size, 0, none⟩), Value.pointer (some ⟨w1.heap.size, 0, none⟩), Value.bool true, undef, u13, u14, u15, Value.pointer (some ⟨Ba, 0, none⟩), Value.pointer (some ⟨Bb, 0, none⟩), Value.tuple #[Value.slice la (linesF z b).length lc, Value.bool true], Value.int .i64 z, Value.int .i64 b, Value.tuple #[Value.slice la (linesF z b).length lc, Value.bool true], Value.slice la (linesF z b).length lc, Value.bool true, Value.bool true, Value.bool false, Value.slice a k c, Value.int .i64 (k : Int), Value.int .i64 (k : Int), Value.bool false, u30, u31, u32, u33, u34, u35, u36, u37, u38, u39, u40, u41, u42, u43, u44, Value.slice oa k oc, Value.slice ra T.length T.length, Value.func (.func 36) #[] #[Value.pointer (some ⟨w4.heap.size, 0, none⟩)], x.1.val, x.2.val, undef, undef, undef, undef, undef, undef, undef, undef, undef, undef, undef], defers := [] })
          ?hM ?assign ?body ?done
        case hM =>
          rintro pre x a' _ X Y row ⟨hx, Ba, Bb, ⟨⟨hE, hpre⟩, hgx⟩, ha, hb, bA, bB, rfl⟩ hg hrow
          have hr' : ∀ r, row = some r → ∃ o : Obj, X.heap[r]? = some o ∧ o.isCells = false := fun r e => (hrow r e).2
          have hne : ∀ (B : Nat) vs, Blk X B vs → some B ≠ row := by
            intro B vs ⟨U, hU⟩ e
            obtain ⟨o, ho, hc⟩ := hr' B e.symm
            rw [hU] at ho
            cases ho
            cases hc
          exact ⟨hx, Ba, Bb, ⟨⟨holdsRow_own W0.heap.size w.heap.size 42 32 2 (fun (pre : List (Pt × Pt)) => (pre.flatMap (edgeF (linesF z b))).length) (fun (pre : List (Pt × Pt)) => pts (pre.flatMap (edgeF (linesF z b)))) (fun _ v => v.ownBlock ≠ some Ba ∧ v.ownBlock ≠ some Bb) pre X Y row hE hg hr', hpre⟩, grown_step hgx hg (fun k e => .inl (hrow k e).1)⟩, ha, hb, bA.grown hg (hne _ _ bA), bB.grown hg (hne _ _ bB), rfl⟩
        case assign =>
          rintro l' pre ⟨⟨x1, y1⟩, ⟨x2, y2⟩⟩ W hI hx
          dsimp only [Pt.val]
          have HI := Lib.hid hI
          have hgx := hI.2.size
          clear hI
          gi_wp2
          have hb2 : Below W.heap.size W ((W.alloc (.cells #[.int .i64 x1, .int .i64 y1] 32)).alloc (.cells #[.int .i64 x2, .int .i64 y2] 32)) := (Below.new W _).alloc (by simp) _
          have hg2 := grownBy_of_below hb2 none
          refine ⟨(KeepsOthers.alloc _ _).trans (KeepsOthers.alloc _ _), ⟨fun h => h.keep hb2, hb2.block _ (by omega)⟩, hx, W.heap.size, W.heap.size + 1, ⟨?_, ?_⟩, hgx, by omega,
            (Blk.new W [.int .i64 x1, .int .i64 y1] 32).alloc _, Blk.lit (W.alloc (.cells #[.int .i64 x1, .int .i64 y1] 32)) (W.heap.size + 1) [.int .i64 x2, .int .i64 y2] 32 (by simp), rfl⟩
          · obtain ⟨⟨⟨v, hv, hr, -⟩, hp⟩, -⟩ := HI.out
            exact ⟨⟨v, (hv.alloc _).alloc _, hr.below hb2, fun e => by have := (hr.lt _ e).2; omega, fun e => by have := (hr.lt _ e).2; omega⟩, hp⟩
          · exact grown_step HI.out.2 hg2 (fun k e => by cases e)
        case body =>
          rintro l' pre ⟨⟨x1, y1⟩, ⟨x2, y2⟩⟩ a' W ⟨⟨hpl, hxe⟩, Ba, Bb, ⟨⟨⟨v, bO1, hrow, hnBa, hnBb⟩, hpre⟩, hgx⟩, ha, hb', bA, bB, rfl⟩
          have bL1 : Boxed W w1.heap.size 43 (.slice la (linesF z b).length lc) := bL0.kept hgx (fun e => by have := Option.some.inj e; omega)
          have hlr1 : Rd W la (ins (linesF z b)) := hlr0.box bO0 hgx (fun v hv => by obtain ⟨x, -, rfl⟩ := List.mem_map.1 hv; exact ⟨_, _, rfl⟩)
          have hrT1 : Rd W ra (pts T) := hrT0.box bO0 hgx (pts_ints T)
          have hszW : W0.heap.size ≤ W.heap.size := hgx.size
          obtain ⟨FP, hFP⟩ : ∃ F, pre.flatMap (edgeF (linesF z b)) = F := ⟨_, rfl⟩
          have hFL : FP.length ≤ pre.length * 65 := by rw [← hFP]; exact edgeF_flat (linesF z b) hLL pre
          have HSN : Hid ((pre ++ [((⟨x1, y1⟩ : Pt), (⟨x2, y2⟩ : Pt))]).flatMap (edgeF (linesF z b)) = FP ++ [(⟨x1, y1⟩ : Pt)] ++ cutsF (⟨x1, y1⟩ : Pt) (⟨x2, y2⟩ : Pt) (linesF z b) (linesF z b)) := Lib.hid (by
            rw [List.flatMap_append, hFP]; simp [edgeF])
          have HNP : Hid ((edges T).take (pre.length + 1) = pre ++ [((⟨x1, y1⟩ : Pt), (⟨x2, y2⟩ : Pt))]) := Lib.hid (by
            have hek : (edges T)[pre.length]? = some (⟨x1, y1⟩, ⟨x2, y2⟩) := by
              unfold edges
              rw [List.getElem?_map, List.getElem?_range hpl, hxe]
              rfl
            rw [List.take_add_one, hek, ← hpre]; rfl)
          rw [hFP] at hrow
          have hcl := cutsF_len ⟨x1, y1⟩ ⟨x2, y2⟩ (linesF z b) (linesF z b)
          have HCU := Lib.hid (fun W hx => cuts_any ⟨x1, y1⟩ ⟨x2, y2⟩ la la lc lc (linesF z b) (linesF z b) (by unfold sortMax; omega) W hx hx)
          generalize cutsF ⟨x1, y1⟩ ⟨x2, y2⟩ (linesF z b) (linesF z b) = CU at *
          obtain ⟨va, vc, rfl, -, -, -, -, hvo⟩ := hrow.form
          obtain ⟨n, hn2⟩ : ∃ n, FP.length = n := ⟨_, rfl⟩
          have HLN := Lib.hid hn2
          rw [hn2] at bO1 hrow hFL hnBa hnBb
          have hpm : pre.length < 1000 := by omega
          have hvb : ∀ g, (Value.slice va n vc).ownBlock = some g → W0.heap.size ≤ g := fun g e => (hrow.lt g e).1
          clear hn2 hpre hxe hFP HLI HPT HTH
          dsimp only [Pt.cells, Pt.val] at bA bB HCU ⊢
          gi_wp2
          refine wpIn_region_lit_txtZ (some 10) [0, 1, 4, 5, 6, 7] (fun W' => Boxed W' w.heap.size 42 (.slice va n vc) ∧ Blk W' Ba [.int .i64 x1, .int .i64 y1] ∧ Blk W' Bb [.int .i64 x2, .int .i64 y2] ∧ Boxed W' w1.heap.size 43 (.slice la (linesF z b).length lc)) (by kernel_rfl) (by kernel_rfl) (by kernel_rfl) (by kernel_rfl) (by kernel_rfl) ⟨bO1, bA, bB, bL1⟩ ?_
          refine txt_light (.slice va n vc) rfl rfl ?_ ?_
          · intro w' hS
            have c0 := hS.1.cell
            go_simp
          try simp only [Act.put, List.setIfInBounds_toArray, List.set_cons_zero, List.set_cons_succ]
          refine txt_light (.agg #[.int .i64 x1, .int .i64 y1]) rfl rfl ?_ ?_
          · intro w' hS
            have c0 := hS.2.1.cell 0 rfl
            have c1 := hS.2.1.cell 1 rfl
            go_simp
          try simp only [Act.put, List.setIfInBounds_toArray, List.set_cons_zero, List.set_cons_succ]
          have bO_0 : Boxed W.drew w.heap.size 42 (.slice va n vc) := bO1
          have bA_0 : Blk W.drew Ba [.int .i64 x1, .int .i64 y1] := bA
          have bB_0 : Blk W.drew Bb [.int .i64 x2, .int .i64 y2] := bB
          have bL_0 : Boxed W.drew w1.heap.size 43 (.slice la (linesF z b).length lc) := bL1
          have lr_0 : Rd W.drew la (ins (linesF z b)) := hlr1
          have ow_0 : W.drew.ownsRow W0.heap.size 32 2 (.slice va n vc) n (pts FP) := hrow
          have gx_0 : W0.grownBy W.drew (some w.heap.size) := grown_step hgx (grownBy_of_below (Below.refl _ W).drew none) (fun k e => by cases e)
          have ko_0 : KeepsOthers W W.drew := KeepsOthers.drew W
          have sz_0 : W.heap.size ≤ W.drew.heap.size := Nat.le_refl _
          clear bO1 bA bB bL1 hlr1 hrow
          generalize W.drew = X0 at *
          refine txt_heavy rfl rfl (fun K hK => ?_)
          go_step
          have hb_1 := Below.new X0 (.cells #[.int .i64 x1, .int .i64 y1] 32)
          have bO_1 := bO_0.alloc (.cells #[.int .i64 x1, .int .i64 y1] 32)
          have bA_1 := bA_0.alloc (.cells #[.int .i64 x1, .int .i64 y1] 32)
          have bB_1 := bB_0.alloc (.cells #[.int .i64 x1, .int .i64 y1] 32)
          have bL_1 := bL_0.alloc (.cells #[.int .i64 x1, .int .i64 y1] 32)
          have lr_1 := lr_0.alloc (.cells #[.int .i64 x1, .int .i64 y1] 32)
          have ow_1 := ow_0.below hb_1
          have rd_1 := Rd.lit X0 X0.heap.size [.int .i64 x1, .int .i64 y1] 32 rfl
          have gx_1 := grown_step gx_0 (grownBy_of_below hb_1 none) (fun k e => by cases e)
          have ko_1 := ko_0.trans (KeepsOthers.alloc X0 (.cells #[.int .i64 x1, .int .i64 y1] 32))
          have sz_1 := Nat.le_trans sz_0 hb_1.size
          refine hK.out _ _ ⟨bO_1, bA_1, bB_1, bL_1⟩ ?_
          clear hK K hb_1 bO_0 bA_0 bB_0 bL_0 lr_0 ow_0 gx_0 ko_0
          generalize X0.alloc (.cells #[.int .i64 x1, .int .i64 y1] 32) = X1 at *
          try simp only [Act.put, List.setIfInBounds_toArray, List.set_cons_zero, List.set_cons_succ]
          refine txt_heavy rfl rfl (fun K hK => ?_)
          refine wp_app_at (.tmp 50) (.tmp 52) 42 rfl W0.heap.size 32 (.agg #[.int .i64 0, .int .i64 0]) 2 16 Try.underlying42 Try.infoTP rfl (by decide) (.slice va n vc) n (pts FP) rfl ow_1 ⟨X0.heap.size, 0, none⟩ 1 1 [.int .i64 x1, .int .i64 y1] rfl rd_1 rfl (by simp [Value.oneCell']) (by omega) (by decide) (by omega) ?_
          intro v2 X2 ow_2 hg hloc
          have nO := bO_1.not_row (by decide) ow_1
          have nL := bL_1.not_row (by decide) ow_1
          have bO_2 := bO_1.kept hg nO
          have bL_2 := bL_1.kept hg nL
          have nA : some Ba ≠ (Value.slice va n vc).ownBlock := fun e => hnBa e.symm
          have nB : some Bb ≠ (Value.slice va n vc).ownBlock := fun e => hnBb e.symm
          have bA_2 := bA_1.grown hg nA
          have bB_2 := bB_1.grown hg nB
          have lr_2 := lr_1.grown hg (fun b hb e => by have := hlb b hb; have := hvb b e.symm; omega)
          have gx_2 := grown_step gx_1 hg (fun k e => .inl (hvb k e))
          have ko_2 := ko_1.trans (KeepsOthers.of_row ow_1 hg)
          have sz_2 := Nat.le_trans sz_1 hg.size
          have hnA2 : v2.ownBlock ≠ some Ba := by
            rcases hloc with e | e <;> rw [e]
            · exact hnBa
            · intro h; have := Option.some.inj h; have := bA_1.lt; omega
          have hnB2 : v2.ownBlock ≠ some Bb := by
            rcases hloc with e | e <;> rw [e]
            · exact hnBb
            · intro h; have := Option.some.inj h; have := bB_1.lt; omega
          have hv2 : ∀ g, v2.ownBlock = some g → W0.heap.size ≤ g := fun g e => (ow_2.lt g e).1
          refine hK.out _ _ ⟨bO_2, bA_2, bB_2, bL_2⟩ ?_
          clear hK K hg hloc bO_1 bA_1 bB_1 bL_1 lr_1 ow_1 gx_1 ko_1 rd_1 nO nL nA nB
          try simp only [Act.put, List.setIfInBounds_toArray, List.set_cons_zero, List.set_cons_succ]
          refine txt_light (.agg #[.int .i64 x1, .int .i64 y1]) rfl rfl ?_ ?_
          · intro w' hS
            have c0 := hS.2.1.cell 0 rfl
            have c1 := hS.2.1.cell 1 rfl
            go_simp
          try simp only [Act.put, List.setIfInBounds_toArray, List.set_cons_zero, List.set_cons_succ]
          refine txt_light (.agg #[.int .i64 x2, .int .i64 y2]) rfl rfl ?_ ?_
          · intro w' hS
            have c0 := hS.2.2.1.cell 0 rfl
            have c1 := hS.2.2.1.cell 1 rfl
            go_simp
          try simp only [Act.put, List.setIfInBounds_toArray, List.set_cons_zero, List.set_cons_succ]
          refine txt_light (.slice la (linesF z b).length lc) rfl rfl ?_ ?_
          · intro w' hS
            have c0 := hS.2.2.2.cell
            go_simp
          try simp only [Act.put, List.setIfInBounds_toArray, List.set_cons_zero, List.set_cons_succ]
          refine txt_light (.slice la (linesF z b).length lc) rfl rfl ?_ ?_
          · intro w' hS
            have c0 := hS.2.2.2.cell
            go_simp
          try simp only [Act.put, List.setIfInBounds_toArray, List.set_cons_zero, List.set_cons_succ]
          refine txt_call [.agg #[.int .i64 x1, .int .i64 y1], .agg #[.int .i64 x2, .int .i64 y2], .slice la (linesF z b).length lc, .slice la (linesF z b).length lc] Try.f26 rfl rfl Try.func26 (by kernel_rfl) (by kernel_rfl) rfl ((HCU.out _ lr_2).mono ?_)
          rintro e X3 ⟨vcu, rfl, oc_3, hb3⟩
          have bO_3 : Boxed X3 w.heap.size 42 (.slice va n vc) := (hb3.block _ bO_2.lt).trans bO_2
          have bL_3 : Boxed X3 w1.heap.size 43 (.slice la (linesF z b).length lc) := (hb3.block _ bL_2.lt).trans bL_2
          have bA_3 := bA_2.keep hb3
          have bB_3 := bB_2.keep hb3
          have ow_3 := ow_2.below hb3
          have gx_3 := grown_step gx_2 (grownBy_of_below hb3 none) (fun k e => by cases e)
          have ko_3 := ko_2.trans (KeepsOthers.of_below hb3)
          have sz_3 := Nat.le_trans sz_2 hb3.size
          obtain ⟨ca, cc, rfl, -, -, hcn, hcr, -⟩ := oc_3.form
          refine ⟨_, rfl, ⟨bO_3, bA_3, bB_3, bL_3⟩, ?_⟩
          clear bO_2 bL_2 bA_2 bB_2 lr_2 ow_2 gx_2 ko_2 oc_3 hb3
          try simp only [Act.put, List.setIfInBounds_toArray, List.set_cons_zero, List.set_cons_succ]
          refine txt_heavy rfl rfl (fun K hK => ?_)
          refine wp_app (.tmp 53) (.tmp 58) 42 rfl W0.heap.size 32 (.agg #[.int .i64 0, .int .i64 0]) 2 16 Try.underlying42 Try.infoTP rfl (by decide) v2 (n + 1) (pts FP ++ [.int .i64 x1, .int .i64 y1]) rfl ow_3 ca CU.length cc (pts CU) rfl hcn hcr (pts_len CU) (pts_one CU) (by omega) (by decide) (by omega) ?_
          intro v3 X4 ow_4 hg
          have bO_4 := bO_3.kept hg (bO_3.not_row (by decide) ow_3)
          have bL_4 := bL_3.kept hg (bL_3.not_row (by decide) ow_3)
          have bA_4 := bA_3.grown hg (fun e => hnA2 e.symm)
          have bB_4 := bB_3.grown hg (fun e => hnB2 e.symm)
          have gx_4 := grown_step gx_3 hg (fun k e => .inl (hv2 k e))
          have ko_4 := ko_3.trans (KeepsOthers.of_row ow_3 hg)
          obtain ⟨va2, vc2, rfl, -, -, -, -, -⟩ := ow_4.form
          refine hK.out _ _ ⟨bO_4, bA_4, bB_4, bL_4⟩ ?_
          clear hK K hg bO_3 bA_3 bB_3 bL_3 ow_3 gx_3 ko_3 hcr
          try simp only [Act.put, List.setIfInBounds_toArray, List.set_cons_zero, List.set_cons_succ]
          have cO := bO_4.cell
          have fO := bO_4.frozen
          refine txt_last rfl rfl rfl (fun K hK => ?_)
          go_step
          refine hK.out _ _ ?_
          clear hK K
          try simp only [Act.put, List.setIfInBounds_toArray, List.set_cons_zero, List.set_cons_succ]
          refine txt_nil ?_
          gi_wp2
          have gx_5 := grown_step gx_4 (grownBy_setCell' X4 w.heap.size (.slice va2 (n + 1 + CU.length) vc2)) (fun k e => .inr (Option.some.inj e).symm)
          refine ⟨ko_4.trans (KeepsOthers.setCell _ _ _), ⟨fun _ => hrT0.box bO0 gx_5 (pts_ints T), (gx_5.block _ (by omega) (fun e => by have := Option.some.inj e; omega)).trans (hgx.block _ (by omega) (fun e => by have := Option.some.inj e; omega)).symm⟩, ⟨⟨⟨_, bO_4.set _, ?_, trivial⟩, ?_⟩, gx_5⟩⟩
          · rw [HSN.out]
            have hl : (FP ++ [(⟨x1, y1⟩ : Pt)] ++ CU).length = n + 1 + CU.length := by simp [HLN.out]; omega
            have hp : pts (FP ++ [(⟨x1, y1⟩ : Pt)] ++ CU) = pts FP ++ [.int .i64 x1, .int .i64 y1] ++ pts CU := by simp [pts, Pt.cells]
            rw [hl, hp]
            exact ow_4.set_ne (p := ⟨w.heap.size, 0, none⟩) (bO_4.not_row (by decide) ow_4).symm _
          · rw [List.length_append]; exact HNP.out.symm
        case done =>
          rintro D xs W hD rfl ⟨⟨⟨v, bO1, hrow, -⟩, -⟩, hgx⟩ hK
          have cO := bO1.cell
          obtain ⟨va, vc, rfl, -, -, -, -, -⟩ := hrow.form
          have hBW : Below w.heap.size w W := hB0.grown hgx (by omega) (fun k e => by have := Option.some.inj e; omega)
          clear HLI HPT HTH
          obtain ⟨FP, hFP⟩ : ∃ F, (edges T).flatMap (edgeF (linesF z b)) = F := ⟨_, rfl⟩
          have HFR := Lib.hid (HRL.out.trans hFP)
          rw [hFP] at hrow cO bO1
          clear hFP HRL
          go_wp2
          try rw [Exit.jump_ret]
          refine ⟨by simp, .inl ⟨_, _, rfl, run_takeDeferred hK, ?_⟩⟩
          refine ⟨.tuple #[.slice va FP.length vc, .int .i64 0], by simp [results, Try.results12, go_sem], .slice va FP.length vc, by rw [hO]; rfl, ?_, ?_⟩
          · rw [HFR.out]
            exact ownsRow_putObj (hrow.mono (by omega)) _ hK rfl
          · exact hBW.trans (belowK_b (w := w) (Nat.le_refl _) W D _ _ (by omega) hK rfl rfl)
  · have hL2 : linesB z b = false := by simpa using hL
    rw [hL2]
    have hO : ringOk z b l = false := by unfold ringOk; rw [hL2]; rfl
    have hF : ringF z b l = [] := by unfold ringF; rw [hO]; rfl
    go_wp2
    go_step3
    show (0 : Nat) = 0 ∧ J _ _
    refine ⟨rfl, HB.out _ _ ?_⟩
    go_wp2
    try rw [Exit.jump_ret]
    refine ⟨.tuple #[.slice none 0 0, .int .i64 5], by simp [results, Try.results12, go_sem], .slice none 0 0, by rw [hO]; rfl, by rw [hF]; exact World.ownsRow_nil _ _ _ _, ?_⟩
    exact ((Below.new w _).trans (hbl.mono (by simp))).alloc (by have := hbl.size; simp at this; omega) _
end Go.Proofs.Ytediblljgakoeaa
/- Cuts lie between both ends: in plain terms. -/
set_option linter.unusedVariables false
set_option linter.unusedSimpArgs false
namespace Go
open Go.RowKit Go.Srt
def InBox (a b p : Pt) : Prop := (min a.x b.x ≤ p.x ∧ p.x ≤ max a.x b.x) ∧ min a.y b.y ≤ p.y ∧ p.y ≤ max a.y b.y
theorem round_between {n d lo hi : Int} (hd : 0 < d) (h1 : lo * d ≤ n) (h2 : n ≤ hi * d) : lo ≤ roundF n d ∧ roundF n d ≤ hi := by
  have e1 := Int.mul_ediv_add_emod n d
  have e2 := Int.emod_nonneg n (by omega : d ≠ 0)
  have e3 := Int.emod_lt_of_pos n hd
  have q1 : lo ≤ n / d := (Int.le_ediv_iff_mul_le hd).2 h1
  have q2 : n / d ≤ hi := by
    have := Int.ediv_le_ediv hd h2
    rwa [Int.mul_ediv_cancel _ (by omega)] at this
  have e4 : n - n / d * d = n % d := by rw [Int.mul_comm]; omega
  unfold roundF
  rw [e4]
  split
  · refine ⟨by omega, ?_⟩
    by_cases h : n / d = hi
    · exfalso
      rw [h] at e1
      rw [Int.mul_comm] at e1
      omega
    · omega
  · exact ⟨q1, q2⟩
theorem seg_between {y1 y2 t D : Int} (ht : 0 ≤ t) (htD : t ≤ D) : min y1 y2 * D ≤ y1 * D + (y2 - y1) * t ∧ y1 * D + (y2 - y1) * t ≤ max y1 y2 * D := by
  rcases Int.le_total y1 y2 with h | h
  · rw [Int.min_eq_left h, Int.max_eq_right h]
    have h1 : 0 ≤ (y2 - y1) * t := Int.mul_nonneg (by omega) ht
    have h2 : (y2 - y1) * t ≤ (y2 - y1) * D := Int.mul_le_mul_of_nonneg_left htD (by omega)
    have h3 : y1 * D + (y2 - y1) * D = y2 * D := by grind
    omega
  · rw [Int.min_eq_right h, Int.max_eq_left h]
    have h1 : 0 ≤ (y1 - y2) * t := Int.mul_nonneg (by omega) ht
    have h2 : (y1 - y2) * t ≤ (y1 - y2) * D := Int.mul_le_mul_of_nonneg_left htD (by omega)
    have h3 : y1 * D - (y1 - y2) * D = y2 * D := by grind
    have h4 : (y2 - y1) * t = - ((y1 - y2) * t) := by grind
    omega
theorem at_box {a b : Pt} {c : Int} (h : (atF a b c).2 = true) : (min a.x b.x < c ∧ c < max a.x b.x) ∧ min a.y b.y ≤ (atF a b c).1 ∧ (atF a b c).1 ≤ max a.y b.y := by
  obtain ⟨-, ⟨h1, h2, e⟩ | ⟨h1, h2, e⟩⟩ := at_in h
  · refine ⟨by omega, ?_⟩
    rw [e]
    obtain ⟨g1, g2⟩ := seg_between (y1 := a.y) (y2 := b.y) (t := c - a.x) (D := b.x - a.x) (by omega) (by omega)
    exact round_between (by omega) g1 g2
  · refine ⟨by omega, ?_⟩
    rw [e]
    obtain ⟨g1, g2⟩ := seg_between (y1 := b.y) (y2 := a.y) (t := c - b.x) (D := a.x - b.x) (by omega) (by omega)
    rw [Int.min_comm, Int.max_comm]
    exact round_between (by omega) g1 g2
theorem cutRow_box {a b : Pt} {xs ys : List Int} {k : Cu} (h : k ∈ cutRow a b xs ys) : InBox a b k.at := by
  rcases cutRow_mem h with ⟨c, h⟩ | ⟨c, h⟩
  · obtain ⟨h2, rfl⟩ := cutX_some h
    have := at_box h2
    unfold InBox Cu.at
    dsimp only
    omega
  · obtain ⟨h2, rfl⟩ := cutY_some h
    have := at_box h2
    unfold InBox Cu.at
    dsimp only at *
    omega
theorem cutPts_mem {a b p : Pt} {xs ys : List Int} (h : p ∈ cutPts a b xs ys) : ∃ k ∈ cutRow a b xs ys, p = k.at := by
  obtain ⟨k, hk, rfl⟩ := List.mem_map.1 h
  exact ⟨k, (cutSeq_ok a b xs ys).1.mem_iff.1 hk, rfl⟩
theorem cutPts_box {a b p : Pt} {xs ys : List Int} (h : p ∈ cutPts a b xs ys) : InBox a b p := by
  obtain ⟨k, hk, rfl⟩ := cutPts_mem h
  exact cutRow_box hk
theorem ded_mem {l : List Pt} {p : Pt} (h : p ∈ ded l) : p ∈ l := by
  induction l with
  | nil => exact h
  | cons q l ih =>
    cases l with
    | nil => exact h
    | cons r l =>
      rw [ded] at h
      split at h
      · exact List.mem_cons_of_mem _ (ih h)
      · rcases List.mem_cons.1 h with h | h
        · rw [h]; exact List.mem_cons_self ..
        · exact List.mem_cons_of_mem _ (ih h)
theorem cutsF_box {a b p : Pt} {xs ys : List Int} (h : p ∈ cutsF a b xs ys) : InBox a b p := by
  unfold cutsF at h
  rw [thinP_ded] at h
  have h1 := ded_mem (List.mem_of_mem_drop ((List.dropLast_sublist _).subset h))
  rcases List.mem_append.1 h1 with h2 | h2
  · rcases List.mem_cons.1 h2 with rfl | h2
    · unfold InBox; omega
    · exact cutPts_box h2
  · obtain rfl := List.mem_singleton.1 h2
    unfold InBox; omega
end Go
