/-
  rows.Of, Right, great, Meet: boxes. A range over a function whose iterator promises something of the world at each call of yield, and of the world behind all rounds; the body never leaves. A range over a function, as in XAhead; but a round may write maps that lie below the range's own blocks. A map that the call makes, told by what stands at each key, as raw values, and by how many keys there are: keys are whatever 'key' turns into values.
-/
import Derived.Test.YtccamjnomjcchaaPk3
import Derived.RangeFuncNested
import Derived.RangeFuncBound
import Derived.RangeFuncCalls
import Derived.RangeFuncLeaves
import Derived.WalkKit
import Derived.Test.YtccamjnomjcchaaPk1
import Derived.Maps.OwnSet
import Derived.WideKeyEntry
/- rows.Of, Right, great, Meet: boxes. -/
set_option linter.unusedVariables false
set_option linter.unusedSimpArgs false
set_option maxRecDepth 100000
namespace Go
open Go.RowKit
structure Bx where
  lo : Pt
  hi : Pt
instance : Inhabited Bx := ⟨⟨default, default⟩⟩
def Bx.cells (b : Bx) : List Value := [.int .i64 b.lo.x, .int .i64 b.lo.y, .int .i64 b.hi.x, .int .i64 b.hi.y]
def Bx.val (b : Bx) : Value := .agg #[.int .i64 b.lo.x, .int .i64 b.lo.y, .int .i64 b.hi.x, .int .i64 b.hi.y]
def Bx.Ok (b : Bx) : Prop := okPt b.lo = true ∧ okPt b.hi = true ∧ b.lo.x ≤ b.hi.x ∧ b.lo.y ≤ b.hi.y
def boxOf (p q : Pt) : Bx := ⟨⟨min p.x q.x, min p.y q.y⟩, ⟨max p.x q.x, max p.y q.y⟩⟩
theorem boxOf_ok (p q : Pt) (hp : okPt p = true) (hq : okPt q = true) : (boxOf p q).Ok := by
  rw [okPt_iff] at hp hq; refine ⟨?_, ?_, ?_, ?_⟩
  · rw [okPt_iff]; simp only [boxOf]; omega
  · rw [okPt_iff]; simp only [boxOf]; omega
  · simp only [boxOf]; omega
  · simp only [boxOf]; omega
def greatF (b : Bx) : Bool := decide (64 < (b.hi.x / 256 - b.lo.x / 256 + 1) * (b.hi.y / 256 - b.lo.y / 256 + 1))
def meetF (a b : Bx) : Bool := decide (a.lo.x ≤ b.hi.x) && decide (b.lo.x ≤ a.hi.x) && decide (a.lo.y ≤ b.hi.y) && decide (b.lo.y ≤ a.hi.y)
end Go
namespace Go.Proofs.Ytccamjnomjcchaa
open Go.RowKit
set_option maxHeartbeats 3200000 in
theorem rof_any (a : Option Addr) (c : Nat) (p q : Pt) (hp : okPt p = true) (hq : okPt q = true) (w : World) (hr : Rd w a (pts [p, q])) :
    Calls Try.prog 57 #[.slice a 2 c] w fun e w' => e = .returned (.tuple #[(boxOf p q).val, .bool true]) ∧ Below w.heap.size w w' := by
  have hbx := Lib.hid (fun W h => box_any a c p [q] (by simp) (by simp [hp, hq]) W h); have e1 : [p, q].foldl lowP p = (boxOf p q).lo := by
    obtain ⟨x, y⟩ := p; obtain ⟨z, u⟩ := q; simp only [List.foldl_cons, List.foldl_nil, lowP, boxOf, Pt.mk.injEq]; omega
  have e2 : [p, q].foldl highP p = (boxOf p q).hi := by
    obtain ⟨x, y⟩ := p; obtain ⟨z, u⟩ := q; simp only [List.foldl_cons, List.foldl_nil, highP, boxOf, Pt.mk.injEq]; omega
  rw [e1, e2] at hbx; generalize boxOf p q = B at *; obtain ⟨⟨lx, ly⟩, ⟨hx, hy⟩⟩ := B; dsimp only [Bx.val, Pt.val] at hbx ⊢; have HR := Lib.hid hr; have HX : Hid (∀ W, Rd W a (pts [p, q]) → Calls Try.prog 83 #[.slice a 2 c] W fun e w' => e = .returned (.tuple #[.agg #[.int .i64 lx, .int .i64 ly], .agg #[.int .i64 hx, .int .i64 hy], .bool true]) ∧ Below W.heap.size W w') := hbx; clear hr hbx e1 e2 hp hq; have hb0 := Below.new w (.cells #[.int .i64 0, .int .i64 0, .int .i64 0, .int .i64 0] 104); have k0 := Blk.new w [.int .i64 0, .int .i64 0, .int .i64 0, .int .i64 0] 104
  go_enter Try.func57, Try.ntmps57
  go_wp2_with fail
  generalize w.alloc (.cells #[.int .i64 0, .int .i64 0, .int .i64 0, .int .i64 0] 104) = w0 at *; refine (HX.out w0 (HR.out.keep hb0)).mono ?_; rintro e w1 ⟨rfl, hb1⟩; have k1 := k0.keep hb1; have hb2 := hb0.trans (hb1.mono hb0.size); have q0 := k1.free 0; have q1 := k1.free 1; have q2 := k1.free 2; have q3 := k1.free 3; have q4 := k1.cell 0 rfl; have q5 := k1.cell 1 rfl; have q6 := k1.cell 2 rfl; have q7 := k1.cell 3 rfl; have hlt := k1.lt; have hb2' := (((hb2.setCell (p := ⟨w.heap.size, 0, none⟩) (Nat.le_refl _) (.int .i64 lx)).setCell (p := ⟨w.heap.size, 1, none⟩) (Nat.le_refl _) (.int .i64 ly)).setCell (p := ⟨w.heap.size, 2, none⟩) (Nat.le_refl _) (.int .i64 hx)).setCell (p := ⟨w.heap.size, 3, none⟩) (Nat.le_refl _) (.int .i64 hy); have hb3 := (hb2'.alloc hb2'.size (.cells #[.int .i64 lx, .int .i64 ly] 46)).alloc (by have := hb2'.size; simp only [World.size_alloc]; omega) (.cells #[.int .i64 hx, .int .i64 hy] 46); have kz := (((((k1.set 0 (.int .i64 lx)).set 1 (.int .i64 ly)).set 2 (.int .i64 hx)).set 3 (.int .i64 hy)).alloc (.cells #[.int .i64 lx, .int .i64 ly] 46)).alloc (.cells #[.int .i64 hx, .int .i64 hy] 46); have z0 := kz.cell 0 (v := .int .i64 lx) rfl; have z1 := kz.cell 1 (v := .int .i64 ly) rfl; have z2 := kz.cell 2 (v := .int .i64 hx) rfl; have z3 := kz.cell 3 (v := .int .i64 hy) rfl; go_wp2; refine bodyPost_ret (v := .tuple #[.agg #[.int .i64 lx, .int .i64 ly, .int .i64 hx, .int .i64 hy], .bool true]) ?_ rfl ⟨rfl, hb3⟩; simp [results, Try.results57, go_sem, z0, z1, z2, z3]

set_option maxHeartbeats 3200000 in
theorem rright_any (b : Bx) (hb : b.Ok) (w : World) :
    Calls Try.prog 84 #[b.val] w fun e w' => e = .returned (.bool true) ∧ Below w.heap.size w w' := by
  obtain ⟨⟨lx, ly⟩, ⟨hx, hy⟩⟩ := b; obtain ⟨h1, h2, h3, h4⟩ := hb; dsimp only [Bx.val] at *; have HXR := Lib.hid (fun W a c (h : Rd W a (pts [⟨lx, ly⟩, ⟨hx, hy⟩])) => xright_any a c [⟨lx, ly⟩, ⟨hx, hy⟩] (by simp [maxLen]) W h); have e1 : ([⟨lx, ly⟩, ⟨hx, hy⟩] : List Pt).all okPt = true := by simp [h1, h2]
  rw [e1] at HXR; have HXR2 : Hid (∀ W a c, Rd W a [.int .i64 lx, .int .i64 ly, .int .i64 hx, .int .i64 hy] → Calls Try.prog 51 #[.slice a 2 c] W fun e w' => e = .returned (.bool true) ∧ Below W.heap.size W w') := HXR; clear HXR h1 h2 e1; have k0 := (Blk.new w [.int .i64 lx, .int .i64 ly, .int .i64 hx, .int .i64 hy] 104).alloc (.cells #[.int .i64 lx, .int .i64 ly, .int .i64 hx, .int .i64 hy] 46); have hb0 := (Below.new w (.cells #[.int .i64 lx, .int .i64 ly, .int .i64 hx, .int .i64 hy] 104)).alloc (by simp) (.cells #[.int .i64 lx, .int .i64 ly, .int .i64 hx, .int .i64 hy] 46); have rd := Rd.lit (w.alloc (.cells #[.int .i64 lx, .int .i64 ly, .int .i64 hx, .int .i64 hy] 104)) (w.heap.size + 1) [.int .i64 lx, .int .i64 ly, .int .i64 hx, .int .i64 hy] 46 (by simp)
  go_enter Try.func84, Try.ntmps84
  go_wp2_with fail
  generalize (w.alloc (.cells #[.int .i64 lx, .int .i64 ly, .int .i64 hx, .int .i64 hy] 104)).alloc (.cells #[.int .i64 lx, .int .i64 ly, .int .i64 hx, .int .i64 hy] 46) = w0 at *; refine (HXR2.out w0 _ _ rd).mono ?_; rintro e w1 ⟨rfl, hb1⟩; have k1 := k0.keep hb1; have hb2 := hb0.trans (hb1.mono hb0.size); have q0 := k1.cell 0 rfl; have q1 := k1.cell 1 rfl; have q2 := k1.cell 2 rfl; have q3 := k1.cell 3 rfl; go_wp2; go_ret; exact ⟨rfl, hb2⟩

set_option maxHeartbeats 3200000 in
theorem great_any (b : Bx) (hb : b.Ok) (w : World) :
    Calls Try.prog 85 #[b.val] w fun e w' => e = .returned (.bool (greatF b)) ∧ Below w.heap.size w w' := by
  obtain ⟨⟨lx, ly⟩, ⟨hx, hy⟩⟩ := b; obtain ⟨h1, h2, h3, h4⟩ := hb; rw [okPt_iff] at h1 h2; dsimp only [Bx.val] at *; obtain ⟨A, hA⟩ : ∃ z, lx / 256 = z := ⟨_, rfl⟩; obtain ⟨B, hB⟩ : ∃ z, hx / 256 = z := ⟨_, rfl⟩; obtain ⟨C, hC⟩ : ∃ z, ly / 256 = z := ⟨_, rfl⟩; obtain ⟨D, hD⟩ : ∃ z, hy / 256 = z := ⟨_, rfl⟩; have HG : Hid (greatF ⟨⟨lx, ly⟩, ⟨hx, hy⟩⟩ = decide (64 < (B - A + 1) * (D - C + 1))) := Lib.hid (by simp only [greatF]; rw [hA, hB, hC, hD]); generalize greatF ⟨⟨lx, ly⟩, ⟨hx, hy⟩⟩ = G at *; have b1 : 0 ≤ B - A + 1 ∧ B - A + 1 ≤ 1000000 := by omega
  have b2 : 0 ≤ D - C + 1 ∧ D - C + 1 ≤ 1000000 := by omega
  have b3 := mul_bd (B - A + 1) (D - C + 1) 1000000 1000000 (by omega) (by omega) (by omega) (by omega); have w1 : IntKind.i64.wrap (B - A) = B - A := IntWalk.i64_in _ (by omega); have w2 : IntKind.i64.wrap (D - C) = D - C := IntWalk.i64_in _ (by omega); have w3 : IntKind.i64.wrap (B - A + 1) = B - A + 1 := IntWalk.i64_in _ (by omega); have w4 : IntKind.i64.wrap (D - C + 1) = D - C + 1 := IntWalk.i64_in _ (by omega); obtain ⟨E, hE⟩ : ∃ z, B - A + 1 = z := ⟨_, rfl⟩; obtain ⟨F, hF⟩ : ∃ z, D - C + 1 = z := ⟨_, rfl⟩; rw [hE] at b3 w3 HG; rw [hF] at b3 w4 HG; have w5 : IntKind.i64.wrap (E * F) = E * F := IntWalk.i64_in _ (by omega); obtain ⟨M, hM⟩ : ∃ z, E * F = z := ⟨_, rfl⟩; rw [hM] at w5 HG b3; clear h1 h2 h3 h4 b1 b2
  go_enter Try.func85, Try.ntmps85
  by_cases h : 64 < M
  · have HG2 : Hid (G = true) := Lib.hid (by rw [HG.out, decide_eq_true h]); clear HG; go_wp2; go_ret; exact ⟨ret_bool HG2.out.symm, Below.new _ _⟩
  · have HG2 : Hid (G = false) := Lib.hid (by rw [HG.out, decide_eq_false h]); clear HG; go_wp2; go_ret; exact ⟨ret_bool HG2.out.symm, Below.new _ _⟩
end Go.Proofs.Ytccamjnomjcchaa
/- A range over a function whose iterator promises something of the world at each call of yield, and of the world behind all rounds; the body never leaves. -/
namespace Go
open Go.RowKit

variable {F : Fence} {n : Nat} {P : Program}

def SeqAhead {α : Type} (F : Fence) (n : Nat) (P : Program) (g : Nat) (lb : Array Value) (encs : α → Array Value) (Ahead : List α → α → World → Prop) (Kp : World → World → Prop) (S : List α → World → Prop) (w : World) : Prop :=
  ∀ (l : Nat) (J : List α → World → Prop) (W : World), Below w.heap.size w W → AbidesFrom W.heap.size J →
    (∀ pre x W1, J pre W1 → Ahead pre x W1 → YieldAt F (n - 1) P l (encs x) W1 fun e W' => e = .returned (.bool true) ∧ J (pre ++ [x]) W' ∧ Kp W1 W') →
    J [] W → CallsIn F n P g (#[.func (.yield l) #[] #[]] ++ lb) W fun e W' => (∃ v, e = .returned v) ∧ ∃ xs, S xs W' ∧ J xs W'

def postAhead {α : Type} (Kp : World → World → Prop) (I : List α → World → Prop) (xs : List α) (W : World) : Exit → Act → World → Prop
  | .normal, _, W' => KeepsOthers W W' ∧ Kp W W' ∧ I xs W'
  | _, _, _ => False

theorem wpIn_rangeFunc_ahead {α : Type} {g : Operand} {ps : Array Tmp} {assign body : Code} {Q : Exit → Act → World → Prop} {a : Act} {w : World}
    (hro : F.round = none) (h1 : 1 ≤ n) {gf : Nat} {lb : Array Value} (hg : a.eval g = .func (.func gf) #[] lb) (hFg : F.fn gf) (eg : ∀ args w, (callFunc gf args).run P w = .ok (.enter gf args) w)
    {encs : α → Array Value} {Ahead : List α → α → World → Prop} {Kp : World → World → Prop} {S : List α → World → Prop} {w0 : World} (hseq : SeqAhead F (n - 1) P gf lb encs Ahead Kp S w0)
    (hKt : ∀ {A B C : World}, Kp A B → Kp B C → Kp A C) (hKb : ∀ (W : World) (l : Nat) (o o' : Obj), w.heap.size ≤ l → W.heap[l]? = some o → o.isCells = false → Kp W (W.putObj l o'))
    (hb0 : Below w0.heap.size w0 w) (hps : ∀ x, (encs x).size = ps.size)
    (I : List α → World → Prop) (hI : OwnFrom w.heap.size I) (hS : OwnFrom w.heap.size S) (h0 : I [] w)
    (Mid : List α → α → Act → World → Prop) (hM : ∀ pre x a', OwnFrom w.heap.size (fun (_ : Unit) W => Mid pre x a' W))
    (hassign : ∀ (l : Nat) (pre : List α) (x : α) (W : World), I pre W → Ahead pre x W →
      assign.wpIn (F.inRound l) (n - 1 - 1) P (Exit.then (fun a' W' => KeepsOthers W W' ∧ Kp W W' ∧ Mid pre x a' W') (fun _ _ _ => False)) { tmps := (ps.zip (encs x)).foldl (fun t (p, v) => t.setIfInBounds p v) a.tmps, defers := [] } W)
    (hbody : ∀ (l : Nat) (pre : List α) (x : α) (a' : Act) (W : World), Mid pre x a' W → body.wpIn (F.inRound l) (n - 1 - 1) P (postAhead Kp I (pre ++ [x]) W) a' W)
    (hdone : ∀ (D : Nat) (xs : List α) (W : World), w.heap.size ≤ D → S xs W → I xs W → W.heap[D]? = some (.deferred (some [])) → Q .normal { a with defers := { target := .collected D, args := #[] } :: a.defers } W) :
    (Code.rangeFunc g ps assign body).wpIn F n P Q a w := by
  refine wpIn_rangeFunc fun fn hfn => ?_; rw [hro]
  -- the loop's record, block H + 1; the block for the rounds' deferred calls, block H
  obtain ⟨rec, hrec⟩ : ∃ rec : LoopState → Loop, rec = fun st => { state := st, pending := none, fn, tmps := a.tmps, params := ps, assign, body, defers := w.heap.size } := ⟨_, rfl⟩; obtain ⟨W1, hW1⟩ : ∃ W1, (w.alloc (.deferred (some []))).alloc (.loop (rec .ready)) = W1 := ⟨_, rfl⟩; have hs1 : W1.heap.size = w.heap.size + 2 := by rw [← hW1]; simp
  have hk1 : KeepsOthers w W1 := by rw [← hW1]; exact (KeepsOthers.alloc _ _).trans (KeepsOthers.alloc _ _)
  have hL1 : W1.heap[w.heap.size + 1]? = some (.loop (rec .ready)) := by
    rw [← hW1]; have := World.alloc_heap_new (w.alloc (.deferred (some []))) (.loop (rec .ready)); rwa [World.size_alloc] at this
  have hD1 : W1.heap[w.heap.size]? = some (.deferred (some [])) := by
    rw [← hW1]; exact (Below.heap_alloc _ _ _ (by simp)).trans (World.alloc_heap_new w _)
  have hI1 : I [] W1 := by rw [← hW1]; exact hI.alloc _ (hI.alloc _ h0)
  have hb1 : Below w0.heap.size w0 W1 := by
    rw [← hW1]; exact hb0.trans ((((Below.refl _ w).alloc (Nat.le_refl _) _).alloc (by simp) _).mono hb0.size)
  refine ⟨w.heap.size + 1, [{ target := .collected w.heap.size, args := #[] }], W1, { target := .fn (.func gf) lb, args := #[.func (.yield (w.heap.size + 1)) #[] #[]] }, W1, gf,
    #[.func (.yield (w.heap.size + 1)) #[] #[]] ++ lb, W1, ?_, ?_, ?_, ?_, fun _ => h1, ?_⟩
  · rw [← hW1, hrec]; exact run_enterLoop_outer _ _ _ _ _
  · simp only [resolve, hg]; simp [go_sem]
  · intro f' hf'; simp [Target.leads] at hf'; subst hf'; exact hFg
  · simp [invoke, go_sem, eg]
  · refine (hseq (w.heap.size + 1) (fun pre W => I pre W ∧ W.heap[w.heap.size + 1]? = some (.loop (rec .ready)) ∧ W.heap[w.heap.size]? = some (.deferred (some []))) W1 hb1 ?_ ?_ ⟨hI1, hL1, hD1⟩).mono ?_
    · rintro pre A B row ⟨hi, hl, hd⟩ hgr hr; refine ⟨hI pre A B row hi hgr fun r e => ?_, ?_, ?_⟩
      · obtain ⟨hB, o, ho, hw⟩ := hr r e; exact ⟨by omega, o, ho, Obj.not_cells_of_walk hw⟩
      · exact (grownBy_keeps hgr (fun r e => (hr r e).2) hl rfl).trans hl
      · exact (grownBy_keeps hgr (fun r e => (hr r e).2) hd rfl).trans hd
    · rintro pre x W ⟨hi, hl, hd⟩ hah; have hy := run_yield (P := P) (args := encs x) hl (by rw [hrec]; exact hps x); rw [hrec] at hy; refine ⟨fn, _, assign, body, hy, roundIn_of_wpIn hfn (wpIn_mono (hassign _ pre x W hi hah) ?_)⟩; rintro e a' Wa hp
      cases e with
      | normal =>
        obtain ⟨hka, hkpa, hm⟩ := hp; have hla := hka.same _ _ hl rfl; have hda := hka.same _ _ hd rfl; have hlt : w.heap.size + 1 < Wa.heap.size := (Array.getElem?_eq_some_iff.1 hla).1; refine ⟨_, run_beginRound hla (by rw [hrec]), ?_⟩; refine wpIn_mono (hbody _ pre x a' _ ((hM pre x a').putObj (s := ()) _ hm (by omega) hla rfl)) ?_; have hl2 : (Wa.putObj (w.heap.size + 1) (.loop { rec .ready with state := .busy })).heap[w.heap.size + 1]? = some (.loop { rec .ready with state := .busy }) := World.putObj_heap_same hlt; have hd2 : (Wa.putObj (w.heap.size + 1) (.loop { rec .ready with state := .busy })).heap[w.heap.size]? = some (.deferred (some [])) := (World.putObj_heap_other (by omega)).trans hda; have hw2 : Kp Wa (Wa.putObj (w.heap.size + 1) (.loop { rec .ready with state := .busy })) := hKb _ _ _ _ (by omega) hla rfl; rintro e a3 W3 hp3
        cases e with
        | normal =>
          obtain ⟨hk3, hkp3, hi3⟩ := hp3; have hl3 := hk3.same _ _ hl2 rfl; have hd3 := hk3.same _ _ hd2 rfl; have her := run_endRound (P := P) none hl3; refine ⟨_, _, her, rfl, ⟨hI.putObj _ hi3 (by omega) hl3 rfl, ?_, ?_⟩, hKt hkpa (hKt hw2 (hKt hkp3 (hKb _ _ _ _ (by omega) hl3 rfl)))⟩
          · rw [World.putObj_heap_same (Array.getElem?_eq_some_iff.1 hl3).1, hrec]; rfl
          · exact (World.putObj_heap_other (by omega)).trans hd3
        | ret => exact hp3.elim
        | exit id => exact hp3.elim
        | goto t => exact hp3.elim
        | panic ch => exact hp3.elim
        | outgrown => exact hp3.elim
      | ret => exact hp.elim
      | exit id => exact hp.elim
      | goto t => exact hp.elim
      | panic ch => exact hp.elim
      | outgrown => exact hp.elim
    · rintro e W2 ⟨⟨v, rfl⟩, xs, hSx, hi, hl, hd⟩; have hel := run_endLoop (P := P) hl (by rw [hrec]; simp); rw [hrec] at hel; refine ⟨none, _, hel, hdone _ xs _ (Nat.le_refl _) (hS.putObj _ hSx (by omega) hl rfl) (hI.putObj _ hi (by omega) hl rfl) ((World.putObj_heap_other (by omega)).trans hd)⟩
end Go
/- A range over a function, as in XAhead; but a round may write maps that lie below the range's own blocks. -/
namespace Go
open Go.RowKit

variable {F : Fence} {n : Nat} {P : Program}
structure KeepsHi (n₀ : Nat) (A B : World) : Prop where
  size : A.heap.size ≤ B.heap.size
  same : ∀ (k : Nat) (o : Obj), n₀ ≤ k → A.heap[k]? = some o → o.isCells = false → B.heap[k]? = some o
theorem KeepsHi.refl (n₀ : Nat) (A : World) : KeepsHi n₀ A A := ⟨Nat.le_refl _, fun _ _ _ h _ => h⟩
theorem KeepsHi.trans {n₀ : Nat} {A B C : World} (h : KeepsHi n₀ A B) (k : KeepsHi n₀ B C) : KeepsHi n₀ A C :=
  ⟨Nat.le_trans h.size k.size, fun i o hn hi ho => k.same i o hn (h.same i o hn hi ho) ho⟩
theorem KeepsHi.of_others {n₀ : Nat} {A B : World} (h : KeepsOthers A B) : KeepsHi n₀ A B := ⟨h.size, fun k o _ hk ho => h.same k o hk ho⟩
theorem KeepsHi.of_grown {n₀ : Nat} {A B : World} {row : Option Nat} (h : A.grownBy B row) (hr : ∀ r, row = some r → r < n₀ ∨ ∃ o, A.heap[r]? = some o ∧ o.isCells = true) : KeepsHi n₀ A B :=
  ⟨h.size, fun k o hn hk ho => (h.block k (Array.getElem?_eq_some_iff.1 hk).1 (fun e => by
    rcases hr k e.symm with h1 | ⟨o', h1, h2⟩
    · omega
    · rw [hk] at h1; cases h1; rw [ho] at h2; cases h2)).trans hk⟩

def postAheadM {α : Type} (n₀ : Nat) (Kp : World → World → Prop) (I : List α → World → Prop) (xs : List α) (W : World) : Exit → Act → World → Prop
  | .normal, _, W' => KeepsHi n₀ W W' ∧ Kp W W' ∧ I xs W'
  | _, _, _ => False

theorem wpIn_rangeFunc_aheadM {α : Type} {g : Operand} {ps : Array Tmp} {assign body : Code} {Q : Exit → Act → World → Prop} {a : Act} {w : World}
    (hro : F.round = none) (h1 : 1 ≤ n) {gf : Nat} {lb : Array Value} (hg : a.eval g = .func (.func gf) #[] lb) (hFg : F.fn gf) (eg : ∀ args w, (callFunc gf args).run P w = .ok (.enter gf args) w)
    {encs : α → Array Value} {Ahead : List α → α → World → Prop} {Kp : World → World → Prop} {S : List α → World → Prop} {w0 : World} (hseq : SeqAhead F (n - 1) P gf lb encs Ahead Kp S w0)
    (hKt : ∀ {A B C : World}, Kp A B → Kp B C → Kp A C) (hKb : ∀ (W : World) (l : Nat) (o o' : Obj), w.heap.size ≤ l → W.heap[l]? = some o → o.isCells = false → Kp W (W.putObj l o'))
    (hb0 : Below w0.heap.size w0 w) (hps : ∀ x, (encs x).size = ps.size)
    (I : List α → World → Prop) (hI : OwnFrom w.heap.size I) (hS : OwnFrom w.heap.size S) (h0 : I [] w)
    (Mid : List α → α → Act → World → Prop) (hM : ∀ pre x a', OwnFrom w.heap.size (fun (_ : Unit) W => Mid pre x a' W))
    (hassign : ∀ (l : Nat) (pre : List α) (x : α) (W : World), I pre W → Ahead pre x W →
      assign.wpIn (F.inRound l) (n - 1 - 1) P (Exit.then (fun a' W' => KeepsHi w.heap.size W W' ∧ Kp W W' ∧ Mid pre x a' W') (fun _ _ _ => False)) { tmps := (ps.zip (encs x)).foldl (fun t (p, v) => t.setIfInBounds p v) a.tmps, defers := [] } W)
    (hbody : ∀ (l : Nat) (pre : List α) (x : α) (a' : Act) (W : World), Mid pre x a' W → body.wpIn (F.inRound l) (n - 1 - 1) P (postAheadM w.heap.size Kp I (pre ++ [x]) W) a' W)
    (hdone : ∀ (D : Nat) (xs : List α) (W : World), w.heap.size ≤ D → S xs W → I xs W → W.heap[D]? = some (.deferred (some [])) → Q .normal { a with defers := { target := .collected D, args := #[] } :: a.defers } W) :
    (Code.rangeFunc g ps assign body).wpIn F n P Q a w := by
  refine wpIn_rangeFunc fun fn hfn => ?_; rw [hro]
  -- the loop's record, block H + 1; the block for the rounds' deferred calls, block H
  obtain ⟨rec, hrec⟩ : ∃ rec : LoopState → Loop, rec = fun st => { state := st, pending := none, fn, tmps := a.tmps, params := ps, assign, body, defers := w.heap.size } := ⟨_, rfl⟩; obtain ⟨W1, hW1⟩ : ∃ W1, (w.alloc (.deferred (some []))).alloc (.loop (rec .ready)) = W1 := ⟨_, rfl⟩; have hs1 : W1.heap.size = w.heap.size + 2 := by rw [← hW1]; simp
  have hk1 : KeepsOthers w W1 := by rw [← hW1]; exact (KeepsOthers.alloc _ _).trans (KeepsOthers.alloc _ _)
  have hL1 : W1.heap[w.heap.size + 1]? = some (.loop (rec .ready)) := by
    rw [← hW1]; have := World.alloc_heap_new (w.alloc (.deferred (some []))) (.loop (rec .ready)); rwa [World.size_alloc] at this
  have hD1 : W1.heap[w.heap.size]? = some (.deferred (some [])) := by
    rw [← hW1]; exact (Below.heap_alloc _ _ _ (by simp)).trans (World.alloc_heap_new w _)
  have hI1 : I [] W1 := by rw [← hW1]; exact hI.alloc _ (hI.alloc _ h0)
  have hb1 : Below w0.heap.size w0 W1 := by
    rw [← hW1]; exact hb0.trans ((((Below.refl _ w).alloc (Nat.le_refl _) _).alloc (by simp) _).mono hb0.size)
  refine ⟨w.heap.size + 1, [{ target := .collected w.heap.size, args := #[] }], W1, { target := .fn (.func gf) lb, args := #[.func (.yield (w.heap.size + 1)) #[] #[]] }, W1, gf,
    #[.func (.yield (w.heap.size + 1)) #[] #[]] ++ lb, W1, ?_, ?_, ?_, ?_, fun _ => h1, ?_⟩
  · rw [← hW1, hrec]; exact run_enterLoop_outer _ _ _ _ _
  · simp only [resolve, hg]; simp [go_sem]
  · intro f' hf'; simp [Target.leads] at hf'; subst hf'; exact hFg
  · simp [invoke, go_sem, eg]
  · refine (hseq (w.heap.size + 1) (fun pre W => I pre W ∧ W.heap[w.heap.size + 1]? = some (.loop (rec .ready)) ∧ W.heap[w.heap.size]? = some (.deferred (some []))) W1 hb1 ?_ ?_ ⟨hI1, hL1, hD1⟩).mono ?_
    · rintro pre A B row ⟨hi, hl, hd⟩ hgr hr; refine ⟨hI pre A B row hi hgr fun r e => ?_, ?_, ?_⟩
      · obtain ⟨hB, o, ho, hw⟩ := hr r e; exact ⟨by omega, o, ho, Obj.not_cells_of_walk hw⟩
      · exact (grownBy_keeps hgr (fun r e => (hr r e).2) hl rfl).trans hl
      · exact (grownBy_keeps hgr (fun r e => (hr r e).2) hd rfl).trans hd
    · rintro pre x W ⟨hi, hl, hd⟩ hah; have hy := run_yield (P := P) (args := encs x) hl (by rw [hrec]; exact hps x); rw [hrec] at hy; refine ⟨fn, _, assign, body, hy, roundIn_of_wpIn hfn (wpIn_mono (hassign _ pre x W hi hah) ?_)⟩; rintro e a' Wa hp
      cases e with
      | normal =>
        obtain ⟨hka, hkpa, hm⟩ := hp; have hla := hka.same _ _ (by omega) hl rfl; have hda := hka.same _ _ (Nat.le_refl _) hd rfl; have hlt : w.heap.size + 1 < Wa.heap.size := (Array.getElem?_eq_some_iff.1 hla).1; refine ⟨_, run_beginRound hla (by rw [hrec]), ?_⟩; refine wpIn_mono (hbody _ pre x a' _ ((hM pre x a').putObj (s := ()) _ hm (by omega) hla rfl)) ?_; have hl2 : (Wa.putObj (w.heap.size + 1) (.loop { rec .ready with state := .busy })).heap[w.heap.size + 1]? = some (.loop { rec .ready with state := .busy }) := World.putObj_heap_same hlt; have hd2 : (Wa.putObj (w.heap.size + 1) (.loop { rec .ready with state := .busy })).heap[w.heap.size]? = some (.deferred (some [])) := (World.putObj_heap_other (by omega)).trans hda; have hw2 : Kp Wa (Wa.putObj (w.heap.size + 1) (.loop { rec .ready with state := .busy })) := hKb _ _ _ _ (by omega) hla rfl; rintro e a3 W3 hp3
        cases e with
        | normal =>
          obtain ⟨hk3, hkp3, hi3⟩ := hp3; have hl3 := hk3.same _ _ (by omega) hl2 rfl; have hd3 := hk3.same _ _ (Nat.le_refl _) hd2 rfl; have her := run_endRound (P := P) none hl3; refine ⟨_, _, her, rfl, ⟨hI.putObj _ hi3 (by omega) hl3 rfl, ?_, ?_⟩, hKt hkpa (hKt hw2 (hKt hkp3 (hKb _ _ _ _ (by omega) hl3 rfl)))⟩
          · rw [World.putObj_heap_same (Array.getElem?_eq_some_iff.1 hl3).1, hrec]; rfl
          · exact (World.putObj_heap_other (by omega)).trans hd3
        | ret => exact hp3.elim
        | exit id => exact hp3.elim
        | goto t => exact hp3.elim
        | panic ch => exact hp3.elim
        | outgrown => exact hp3.elim
      | ret => exact hp.elim
      | exit id => exact hp.elim
      | goto t => exact hp.elim
      | panic ch => exact hp.elim
      | outgrown => exact hp.elim
    · rintro e W2 ⟨⟨v, rfl⟩, xs, hSx, hi, hl, hd⟩; have hel := run_endLoop (P := P) hl (by rw [hrec]; simp); rw [hrec] at hel; refine ⟨none, _, hel, hdone _ xs _ (Nat.le_refl _) (hS.putObj _ hSx (by omega) hl rfl) (hI.putObj _ hi (by omega) hl rfl) ((World.putObj_heap_other (by omega)).trans hd)⟩
end Go
/- A map that the call makes, told by what stands at each key, as raw values, and by how many keys there are: keys are whatever 'key' turns into values. -/
set_option linter.unusedVariables false
set_option linter.unusedSimpArgs false
namespace Go
open Go.RowKit Go.ChangeMaps Go.MapKept Go.WideShapes
open Go.WideElems (Fit rd rg pl rd_val elemAt findIdx_born findIdx_arr modify_last set_self)
open Go.Maps (Keyed IsMap Tidy)

def rawElem (v : Value) : Option (DataW Value × List MemPlace) := some (.held v, [])

def VMap {α : Type} (P : Program) (K : TypeId) (key : α → Value) (w : World) (b : Nat) (f : α → Option Value) (m n : Nat) : Prop :=
  ∃ D : DataW Value, w.ownsMap P K rawElem b n D ∧ Maps.size D = m ∧ ∀ a l, keyOf P K (key a) = some l → Maps.has D l = (f a).isSome ∧ ∀ z, D.atKey l z = match f a with | some v => .held v | none => z

section
variable {α : Type} {P : Program} {K E T : TypeId} {key : α → Value} {w w' : World} {b m n : Nat} {f : α → Option Value}

theorem VMap.made (P : Program) (K : TypeId) (key : α → Value) (w : World) : VMap P K key (w.alloc (.map #[] 0)) w.heap.size (fun _ => none) 0 0 :=
  ⟨.map [], World.ownsMap_made w P K _, rfl, fun a l _ => ⟨rfl, fun z => rfl⟩⟩

theorem VMap.madeB (P : Program) (K : TypeId) (key : α → Value) (w : World) (B : Nat) (hB : w.heap.size = B) : VMap P K key (w.alloc (.map #[] 0)) B (fun _ => none) 0 0 := by
  subst hB; exact VMap.made P K key w

theorem VMap.lt (h : VMap P K key w b f m n) : b < w.heap.size := by
  obtain ⟨D, hD, _⟩ := h; exact hD.lt

theorem VMap.same (h : VMap P K key w b f m n) (hb : w'.heap[b]? = w.heap[b]?) : VMap P K key w' b f m n := by
  obtain ⟨D, ⟨es, clock, he, r⟩, hs, hk⟩ := h; exact ⟨D, ⟨es, clock, hb.trans he, r⟩, hs, hk⟩

theorem VMap.below {B : Nat} (h : VMap P K key w b f m n) (hb : Below B w w') (hB : b < B) : VMap P K key w' b f m n := h.same (hb.block b hB)
theorem VMap.keep (h : VMap P K key w b f m n) (hb : Below w.heap.size w w') : VMap P K key w' b f m n := h.below hb h.lt
theorem VMap.kept {row : Option Nat} (h : VMap P K key w b f m n) (hg : w.grownBy w' row) (hne : some b ≠ row) : VMap P K key w' b f m n := h.same (hg.block b h.lt hne)
theorem VMap.alloc (h : VMap P K key w b f m n) (o : Obj) : VMap P K key (w.alloc o) b f m n := h.kept (World.grownBy_alloc w o none) (by simp)
theorem VMap.mono (h : VMap P K key w b f m n) {n' : Nat} (hn : n ≤ n') : VMap P K key w b f m n' := by
  obtain ⟨D, hD, r⟩ := h; exact ⟨D, hD.mono hn, r⟩
theorem VMap.le (h : VMap P K key w b f m n) : m ≤ n := by
  obtain ⟨D, hD, rfl, _⟩ := h; exact hD.size_le
theorem VMap.congr (h : VMap P K key w b f m n) {f' : α → Option Value} (hf : ∀ a, f' a = f a) : VMap P K key w b f' m n := by
  have : f' = f := funext hf; rw [this]; exact h

theorem VMap.look (h : VMap P K key w b f m n) (KK : Keyed P K) (ht : P.underlying T = some (.map K E)) {z : Value} (hz : (zeroValue E).run P w = .ok z w) {a : α} (hk : ∃ l, keyOf P K (key a) = some l) :
    (Instr.lookup T (.map (some b)) (key a) false).run P w = .ok ((f a).getD z) w := by
  obtain ⟨D, hD, _, hf⟩ := h; obtain ⟨l, hl⟩ := hk; obtain ⟨v, ps, hrun, hv⟩ := hD.lookup KK ht hz (zd := .held z) (zp := []) rfl hl; rw [hrun]; rw [(hf a l hl).2] at hv; simp only [rawElem, Option.some.injEq, Prod.mk.injEq] at hv
  cases hfa : f a with
  | none => rw [hfa] at hv; simp at hv; simp [hv.1]
  | some u => rw [hfa] at hv; simp at hv; simp [hv.1]

theorem VMap.look_ok (h : VMap P K key w b f m n) (KK : Keyed P K) (ht : P.underlying T = some (.map K E)) {z : Value} (hz : (zeroValue E).run P w = .ok z w) {a : α} (hk : ∃ l, keyOf P K (key a) = some l) :
    (Instr.lookup T (.map (some b)) (key a) true).run P w = .ok (.tuple #[(f a).getD z, .bool (f a).isSome]) w := by
  obtain ⟨D, hD, _, hf⟩ := h; obtain ⟨l, hl⟩ := hk; obtain ⟨v, ps, hrun, hv⟩ := hD.look_ok KK ht hz (zd := .held z) (zp := []) rfl hl; rw [hrun]; rw [(hf a l hl).2] at hv; rw [(hf a l hl).1]; simp only [rawElem, Option.some.injEq, Prod.mk.injEq] at hv
  cases hfa : f a with
  | none => rw [hfa] at hv; simp at hv; simp [hv.1]
  | some u => rw [hfa] at hv; simp at hv; simp [hv.1]

open Classical in
noncomputable def fput (f : α → Option Value) (a : α) (v : Value) : α → Option Value := fun x => if x = a then some v else f x
open Classical in
noncomputable def fdel (f : α → Option Value) (a : α) : α → Option Value := fun x => if x = a then none else f x
@[simp] theorem fput_same (f : α → Option Value) (a : α) (v : Value) : fput f a v a = some v := by simp [fput]
theorem fput_other (f : α → Option Value) {a x : α} (v : Value) (h : x ≠ a) : fput f a v x = f x := by simp [fput, h]
@[simp] theorem fdel_same (f : α → Option Value) (a : α) : fdel f a a = none := by simp [fdel]
theorem fdel_other (f : α → Option Value) {a x : α} (h : x ≠ a) : fdel f a x = f x := by simp [fdel, h]

theorem VMap.of_put {D : DataW Value} (KK : Keyed P K) (inj : ∀ x y, key x = key y → x = y) (hD : w.ownsMap P K rawElem b n D) (hs : Maps.size D = m) (hf : ∀ a l, keyOf P K (key a) = some l → Maps.has D l = (f a).isSome ∧ ∀ z, D.atKey l z = match f a with | some v => .held v | none => z)
    {a : α} {l : Lit} (hl : keyOf P K (key a) = some l) (v : Value) (ho : w'.ownsMap P K rawElem b (n + 1) (D.put l (.held v))) :
    VMap P K key w' b (fput f a v) (if (f a).isSome then m else m + 1) (n + 1) := by
  have ti := hD.tidy KK; refine ⟨_, ho, ?_, fun x lx hx => ?_⟩
  · rw [Maps.size_put ti, (hf a l hl).1, hs]
  · by_cases e : x = a
    · subst e; rw [hl] at hx; cases hx; rw [fput_same]; exact ⟨Maps.has_put_same ti.isMap (KK.key hl) _, fun z => Maps.atKey_put_same ti.isMap (KK.key hl) _ _⟩
    · have hne : lx ≠ l := fun e2 => e (inj _ _ (KK.inj hx (e2 ▸ hl))); rw [fput_other f v e]; refine ⟨?_, fun z => ?_⟩
      · rw [Maps.has_put_other hne]; exact (hf x lx hx).1
      · rw [Maps.atKey_put_other hne]; exact (hf x lx hx).2 z

theorem VMap.put (h : VMap P K key w b f m n) (KK : Keyed P K) (inj : ∀ x y, key x = key y → x = y) (ht : P.underlying T = some (.map K E)) (hn : n < maxLen) {a : α} (hk : ∃ l, keyOf P K (key a) = some l) (v : Value) :
    ∃ w', (Instr.mapUpdate T (.map (some b)) (key a) v).run P w = .ok () w' ∧ VMap P K key w' b (fput f a v) (if (f a).isSome then m else m + 1) (n + 1) ∧ w.grownBy w' (some b) := by
  obtain ⟨D, hD, hs, hf⟩ := h; obtain ⟨l, hl⟩ := hk; obtain ⟨w', hrun, ho, hg⟩ := hD.update KK ht hn (d := .held v) (ps := []) hl rfl; exact ⟨w', hrun, VMap.of_put KK inj hD hs hf hl v ho, hg⟩

theorem VMap.drop (h : VMap P K key w b f m n) (KK : Keyed P K) (inj : ∀ x y, key x = key y → x = y) (ht : P.underlying T = some (.map K E)) {a : α} (hk : ∃ l, keyOf P K (key a) = some l) (ty : TypeId) :
    ∃ w', (Builtin.delete_ #[T, K] ty #[.map (some b), key a]).run P w = .ok (.tuple #[]) w' ∧ VMap P K key w' b (fdel f a) (if (f a).isSome then m - 1 else m) n ∧ w.grownBy w' (some b) := by
  obtain ⟨D, hD, hs, hf⟩ := h; obtain ⟨l, hl⟩ := hk; obtain ⟨w', hrun, ho, hg⟩ := hD.drop KK ht hl ty; have ti := hD.tidy KK; refine ⟨w', hrun, ⟨_, ho, ?_, fun x lx hx => ?_⟩, hg.grown⟩
  · have := Maps.size_del (k := l) ti; rw [(hf a l hl).1, hs] at this
    split at this <;> simp_all <;> omega
  · by_cases e : x = a
    · subst e; rw [hl] at hx; cases hx; rw [fdel_same]; exact ⟨Maps.has_del_same, fun z => Maps.atKey_del_same z⟩
    · have hne : lx ≠ l := fun e2 => e (inj _ _ (KK.inj hx (e2 ▸ hl))); rw [fdel_other f e]; refine ⟨?_, fun z => ?_⟩
      · rw [Maps.has_del_other hne]; exact (hf x lx hx).1
      · rw [Maps.atKey_del_other hne]; exact (hf x lx hx).2 z

theorem entry_then_store' {R : Value → Option (DataW Value × List MemPlace)} {es : Array MapEntry} {clock : Nat} (KK : Keyed P K) (ht : P.underlying T = some (.map K E)) {z : Value} (hz : ∀ u : World, (zeroValue E).run P u = .ok z u) (hb : w.heap[b]? = some (.map es clock)) (F : Fit P K R es clock)
    {k : Value} {kl : Lit} (hkey : keyOf P K k = some kl) :
    ∃ (v0 : Value) (st : Nat) (es1 : Array MapEntry) (clock1 : Nat), (Instr.mapEntry T (.map (some b)) k).run P w = .ok (.tuple #[v0, .int .i64 st]) (setBlock w b (.map es1 clock1)) ∧
      (Instr.lookup T (.map (some b)) k false).run P w = .ok v0 w ∧
      ∀ (w2 : World) (val : Value), w2.heap[b]? = some (.map es1 clock1) → ∃ es' clock', (Instr.entryStore T (.map (some b)) (.int .i64 st) val).run P w2 = .ok () (setBlock w2 b (.map es' clock')) ∧
        (Instr.mapUpdate T (.map (some b)) k val).run P w = .ok () (setBlock w b (.map es' clock')) := by
  obtain ⟨s1, s2, _⟩ := F.stamped
  rcases KK.find w hkey es.toList F.keys with ⟨h1, h2⟩ | ⟨j, e0, h1, h2, h3⟩
  · refine ⟨z, clock, es.push ⟨k, z, clock⟩, clock + 1, ?_, ?_, fun w2 val hw2 => ⟨es.push ⟨k, val, clock⟩, clock + 1, ?_, ?_⟩⟩
    · simp [Instr.mapEntry, run_underlying ht, MapKept.run_getObj_map hb, KK.check w false hkey, h1, hz, MapKept.run_setObj_map _ hb, Result.andThen, setBlock, goInt]
    · simp [Instr.lookup, run_underlying ht, MapKept.run_getObj_map hb, KK.check w _ hkey, h1, hz, Result.andThen]
    · have hidx : (es.push ⟨k, z, clock⟩).findIdx? (fun e => ((e.born : Nat) : Int) == ((clock : Nat) : Int)) = some es.size := by
        rw [findIdx_arr]; have := findIdx_born (l := (es.push ⟨k, z, clock⟩).toList) (j := es.size) (e0 := ⟨k, z, clock⟩) (by
          simp only [Array.toList_push, List.map_append, List.map_cons, List.map_nil]; refine List.nodup_append.2 ⟨s2, by simp, fun a ha c hc e1 => ?_⟩; simp only [List.mem_singleton] at hc; obtain ⟨x, hx, rfl⟩ := List.mem_map.1 ha; have := s1 x hx; omega) (by simp)
        exact this
      have hmod : (es.push ⟨k, z, clock⟩).modify es.size (fun e => { e with val := val }) = es.push ⟨k, val, clock⟩ := by
        apply Array.ext'; rw [Array.toList_modify, Array.toList_push, Array.toList_push, ← Array.length_toList, modify_last]
      simp [Instr.entryStore, MapKept.run_getObj_map hw2, asInt, asIntOf, goInt, hidx, hmod, MapKept.run_setObj_map _ hw2, Result.andThen, setBlock]
    · simp [Instr.mapUpdate, run_underlying ht, MapKept.run_getObj_map hb, KK.check w false hkey, h1, MapKept.run_setObj_map _ hb, Result.andThen, setBlock]
  · have hj : es[j]? = some e0 := by simpa using h2
    have hsame : es.modify j (fun e => { e with key := k }) = es := by
      apply Array.ext'; rw [Array.toList_modify, modify_eq_set _ _ _ _ h2]; have : ({ e0 with key := k } : MapEntry) = e0 := by rw [← h3]
      rw [this]; exact set_self _ _ _ h2
    refine ⟨e0.val, e0.born, es, clock, ?_, ?_, fun w2 val hw2 => ⟨es.modify j (fun e' => { e' with key := k, val := val }), clock, ?_, ?_⟩⟩
    · simp [Instr.mapEntry, run_underlying ht, MapKept.run_getObj_map hb, KK.check w false hkey, h1, hj, h3, KK.stays w hkey, hsame, MapKept.run_setObj_map _ hb, Result.andThen, setBlock, goInt]
    · simp [Instr.lookup, run_underlying ht, MapKept.run_getObj_map hb, KK.check w _ hkey, h1, Result.andThen]
    · have hidx : es.findIdx? (fun e => ((e.born : Nat) : Int) == ((e0.born : Nat) : Int)) = some j := by
        rw [findIdx_arr]; exact findIdx_born s2 h2
      have hmod : es.modify j (fun e => { e with val := val }) = es.modify j (fun e' => { e' with key := k, val := val }) := by
        apply Array.ext'; rw [Array.toList_modify, Array.toList_modify, modify_eq_set _ _ _ _ h2, modify_eq_set _ _ _ _ h2, ← h3]
      simp [Instr.entryStore, MapKept.run_getObj_map hw2, asInt, asIntOf, goInt, hidx, hmod, MapKept.run_setObj_map _ hw2, Result.andThen, setBlock]
    · simp [Instr.mapUpdate, run_underlying ht, MapKept.run_getObj_map hb, KK.check w false hkey, h1, hj, h3, KK.stays w hkey, MapKept.run_setObj_map _ hb, Result.andThen, setBlock]

theorem grownBy_setBlock {es : Array MapEntry} {clock : Nat} {o' : Obj} (hb : w.heap[b]? = some (.map es clock)) : w.grownBy (setBlock w b o') (some b) :=
  ⟨rfl, rfl, rfl, by simp [setBlock], fun i _ hi => heap_setBlock_other hb _ (fun e => hi (by rw [e]))⟩

theorem VMap.entry (h : VMap P K key w b f m n) (KK : Keyed P K) (inj : ∀ x y, key x = key y → x = y) (ht : P.underlying T = some (.map K E)) (hn : n < maxLen) {z : Value} (hz : ∀ u : World, (zeroValue E).run P u = .ok z u) {a : α} (hk : ∃ l, keyOf P K (key a) = some l) :
    ∃ (st : Nat) (o : Obj), (Instr.mapEntry T (.map (some b)) (key a)).run P w = .ok (.tuple #[(f a).getD z, .int .i64 st]) (setBlock w b o) ∧ (setBlock w b o).heap[b]? = some o ∧ w.grownBy (setBlock w b o) (some b) ∧
      ∀ (w2 : World) (v : Value), w2.heap[b]? = some o → ∃ w3, (Instr.entryStore T (.map (some b)) (.int .i64 st) v).run P w2 = .ok () w3 ∧ VMap P K key w3 b (fput f a v) (if (f a).isSome then m else m + 1) (n + 1) ∧ w2.grownBy w3 (some b) := by
  have hlook := h.look KK ht (hz w) hk; obtain ⟨D, hD, hs, hf⟩ := h; obtain ⟨l, hl⟩ := hk; have hup := fun v => hD.update (t := T) KK ht hn (d := .held v) (ps := []) hl rfl; obtain ⟨es, clock, hb, F, hsz, hDe⟩ := id hD; obtain ⟨v0, st, es1, clock1, h1, h2, h3⟩ := entry_then_store' KK ht hz hb F hl; rw [hlook] at h2
  cases h2
  refine ⟨st, _, h1, heap_setBlock_same hb _, grownBy_setBlock hb, fun w2 v hw2 => ?_⟩; obtain ⟨es', clock', g1, g2⟩ := h3 w2 v hw2; obtain ⟨w', k1, k2, k3⟩ := hup v; rw [g2] at k1
  cases k1
  refine ⟨_, g1, VMap.of_put (w' := setBlock w2 b (.map es' clock')) KK inj hD hs hf hl v ?_, grownBy_setBlock hw2⟩; obtain ⟨es2, clock2, e1, r⟩ := k2; rw [heap_setBlock_same hb _] at e1
  cases e1
  exact ⟨es', clock', heap_setBlock_same hw2 _, r⟩

theorem VMap.len (h : VMap P K key w b f m n) (ht : P.underlying T = some (.map K E)) (ty : TypeId) : (Builtin.len_ #[T] ty #[.map (some b)]).run P w = .ok (.int .i64 m) w := by
  obtain ⟨D, hD, rfl, hf⟩ := h; exact hD.len ht ty
end

section
variable {α : Type} {P : Program} {K E T : TypeId} {key : α → Value} {b m n : Nat} {f : α → Option Value} (w : World) {ops : Array Oper} {rest : List Oper} {o : Oper} {a : Act} {Q : Exit → Act → World → Prop}

theorem wpList_vmap_put (hg : o.guard = none) (mm x v : Operand) (hop : o.op = Op.mapUpdate T mm x v) (KK : Keyed P K) (inj : ∀ x y, key x = key y → x = y) (ht : P.underlying T = some (.map K E))
    (hm : a.eval mm = .map (some b)) (h : VMap P K key w b f m n) (hn : n < maxLen) (k : α) (hx : a.eval x = key k) (hk : ∃ l, keyOf P K (key k) = some l) (val : Value) (hv : a.eval v = val)
    (hK : ∀ w', VMap P K key w' b (fput f k val) (if (f k).isSome then m else m + 1) (n + 1) → w.grownBy w' (some b) → wpList P ops Q rest (a.put o.dst undef) w') :
    wpList P ops Q (o :: rest) a w := by
  refine wpList_plain hg fun K' hK' => ?_; obtain ⟨w', hrun, r1, r2⟩ := h.put KK inj ht hn hk val; unfold Oper.wp; simp [execOp, hop, hm, hx, hv, hrun, Result.andThen]; exact hK' _ _ (hK w' r1 r2)

theorem wpList_vmap_look (hg : o.guard = none) (mm x : Operand) (hop : o.op = Op.lookup T mm x false) (KK : Keyed P K) (ht : P.underlying T = some (.map K E)) {z : Value} (hz : (zeroValue E).run P w = .ok z w)
    (hm : a.eval mm = .map (some b)) (h : VMap P K key w b f m n) (k : α) (hx : a.eval x = key k) (hk : ∃ l, keyOf P K (key k) = some l) (r : Value) (hr : (f k).getD z = r)
    (hK : wpList P ops Q rest (a.put o.dst r) w) :
    wpList P ops Q (o :: rest) a w := by
  refine wpList_plain hg fun K' hK' => ?_; have hrun := h.look KK ht hz hk; unfold Oper.wp; simp [execOp, hop, hm, hx, hrun, Result.andThen]; exact hK' _ _ (hr ▸ hK)

theorem wpList_vmap_del (hg : o.guard = none) (mm x : Operand) (hop : o.op = Op.call { callee := Callee.builtin Builtin.delete, args := #[mm, x], argTypes := #[T, K] }) (KK : Keyed P K) (inj : ∀ x y, key x = key y → x = y) (ht : P.underlying T = some (.map K E))
    (hm : a.eval mm = .map (some b)) (h : VMap P K key w b f m n) (k : α) (hx : a.eval x = key k) (hk : ∃ l, keyOf P K (key k) = some l)
    (hK : ∀ w', VMap P K key w' b (fdel f k) (if (f k).isSome then m - 1 else m) n → w.grownBy w' (some b) → wpList P ops Q rest (a.put o.dst (.tuple #[])) w') :
    wpList P ops Q (o :: rest) a w := by
  refine wpList_plain hg fun K' hK' => ?_; obtain ⟨w', hrun, r1, r2⟩ := h.drop KK inj ht hk o.type; unfold Oper.wp; simp [execOp, hop, resolve, invoke, builtin, hm, hx, hrun, Result.andThen]; exact hK' _ _ (hK w' r1 r2)

theorem wpList_vmap_len (mm : Operand) (hop : o.op = Op.call { callee := Callee.builtin Builtin.len, args := #[mm], argTypes := #[T] }) (hg : o.guard = none) (ht : P.underlying T = some (.map K E))
    (hm : a.eval mm = .map (some b)) (h : VMap P K key w b f m n) (hK : wpList P ops Q rest (a.put o.dst (.int .i64 m)) w) :
    wpList P ops Q (o :: rest) a w := by
  refine wpList_plain hg fun K' hK' => ?_; unfold Oper.wp; simp [execOp, hop, resolve, invoke, builtin, hm, h.len ht o.type, Result.andThen]; exact hK' _ _ hK
end
end Go
