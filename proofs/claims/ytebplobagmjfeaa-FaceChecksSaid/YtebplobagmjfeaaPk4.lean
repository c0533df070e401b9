/-
  A range over a function whose iterator promises something of the world at each call of yield, and of the world behind all rounds; the body never leaves. ring.edges: the iterator. A region that draws its order, inside a round of a range over a function: walked once, in the text's order, by the laws outside rounds.
-/
import Derived.RangeFuncNested
import Derived.RangeFuncBound
import Derived.RangeFuncCalls
import Derived.RangeFuncLeaves
import Derived.WalkKit
import Derived.Test.YtebplobagmjfeaaPk3
import Derived.Test.YtebplobagmjfeaaPk1
import Derived.Shelf.Abstract
import Derived.Shelf.RegionOpen
import Derived.OwnWalkIn
import Derived.TacticsInMore
import Derived.LoopNIn
import Derived.LoopIn
import Derived.BigRegionIn
import Derived.Stop.RegionWithIn
import Derived.OrdersIn
import Derived.CallsIn
/- A range over a function whose iterator promises something of the world at each call of yield, and of the world behind all rounds; the body never leaves. -/
namespace Go
open Go.RowKit

variable {F : Fence} {n : Nat} {P : Program}

/-- The iterator's contract: 'Ahead pre x W': what is promised where yield is called; 'Kp': what a round keeps; 'S xs W': what is promised behind. -/
def SeqAhead {α : Type} (F : Fence) (n : Nat) (P : Program) (g : Nat) (lb : Array Value) (encs : α → Array Value) (Ahead : List α → α → World → Prop) (Kp : World → World → Prop) (S : List α → World → Prop) (w : World) : Prop :=
  ∀ (l : Nat) (J : List α → World → Prop) (W : World), Below w.heap.size w W → AbidesFrom W.heap.size J →
    (∀ pre x W1, J pre W1 → Ahead pre x W1 → YieldAt F (n - 1) P l (encs x) W1 fun e W' => e = .returned (.bool true) ∧ J (pre ++ [x]) W' ∧ Kp W1 W') →
    J [] W → CallsIn F n P g (#[.func (.yield l) #[] #[]] ++ lb) W fun e W' => (∃ v, e = .returned v) ∧ ∃ xs, S xs W' ∧ J xs W'

/-- How the body is left. -/
def postAhead {α : Type} (Kp : World → World → Prop) (I : List α → World → Prop) (xs : List α) (W : World) : Exit → Act → World → Prop
  | .normal, _, W' => KeepsOthers W W' ∧ Kp W W' ∧ I xs W'
  | _, _, _ => False

theorem wpIn_rangeFunc_ahead {α : Type} {g : Operand} {ps : Array Tmp} {assign body : Code} {Q : Exit → Act → World → Prop} {a : Act} {w : World}
    (hro : F.round = none) (h1 : 1 ≤ n) {gf : Nat} {lb : Array Value} (hg : a.eval g = .func (.func gf) #[] lb) (hFg : F.fn gf) (eg : ∀ args w, (callFunc gf args).run P w = .ok (.enter gf args) w)
    {encs : α → Array Value} {Ahead : List α → α → World → Prop} {Kp : World → World → Prop} {S : List α → World → Prop} {w0 : World} (hseq : SeqAhead F (n - 1) P gf lb encs Ahead Kp S w0)
    (hKt : ∀ {A B C : World}, Kp A B → Kp B C → Kp A C) (hKb : ∀ (W : World) (l : Nat) (o o' : Obj), w.heap.size ≤ l → W.heap[l]? = some o → o.isCells = false → Kp W (W.putObj l o'))
    (hb0 : Below w0.heap.size w0 w) (hps : ∀ x, (encs x).size = ps.size)
    (I : List α → World → Prop) (hI : OwnFrom w.heap.size I) (hS : OwnFrom w.heap.size S) (h0 : I [] w)
    (Mid : List α → α → Act → World → Prop) (hM : ∀ pre x a', OwnFrom w.heap.size (fun (_ : Unit) W => Mid pre x a' W))
    (hassign : ∀ (l : Nat) (pre : List α) (x : α) (W : World), I pre W → Ahead pre x W →
      assign.wpIn (F.inRound l) (n - 1 - 1) P (Exit.then (fun a' W' => KeepsOthers W W' ∧ Kp W W' ∧ Mid pre x a' W') (fun _ _ _ => False)) { tmps := (ps.zip (encs x)).foldl (fun t (p, v) => t.setIfInBounds p v) a.tmps, defers := [] } W)
    (hbody : ∀ (l : Nat) (pre : List α) (x : α) (a' : Act) (W : World), Mid pre x a' W → body.wpIn (F.inRound l) (n - 1 - 1) P (postAhead Kp I (pre ++ [x]) W) a' W)
    (hdone : ∀ (D : Nat) (xs : List α) (W : World), w.heap.size ≤ D → S xs W → I xs W → W.heap[D]? = some (.deferred (some [])) → Q .normal { a with defers := { target := .collected D, args := #[] } :: a.defers } W) :
    (Code.rangeFunc g ps assign body).wpIn F n P Q a w := by
  refine wpIn_rangeFunc fun fn hfn => ?_
  rw [hro]
  -- the loop's record, block H + 1; the block for the rounds' deferred calls, block H
  obtain ⟨rec, hrec⟩ : ∃ rec : LoopState → Loop, rec = fun st => { state := st, pending := none, fn, tmps := a.tmps, params := ps, assign, body, defers := w.heap.size } := ⟨_, rfl⟩
  obtain ⟨W1, hW1⟩ : ∃ W1, (w.alloc (.deferred (some []))).alloc (.loop (rec .ready)) = W1 := ⟨_, rfl⟩
  have hs1 : W1.heap.size = w.heap.size + 2 := by rw [← hW1]; simp
  have hk1 : KeepsOthers w W1 := by rw [← hW1]; exact (KeepsOthers.alloc _ _).trans (KeepsOthers.alloc _ _)
  have hL1 : W1.heap[w.heap.size + 1]? = some (.loop (rec .ready)) := by
    rw [← hW1]; have := World.alloc_heap_new (w.alloc (.deferred (some []))) (.loop (rec .ready)); rwa [World.size_alloc] at this
  have hD1 : W1.heap[w.heap.size]? = some (.deferred (some [])) := by
    rw [← hW1]; exact (Below.heap_alloc _ _ _ (by simp)).trans (World.alloc_heap_new w _)
  have hI1 : I [] W1 := by rw [← hW1]; exact hI.alloc _ (hI.alloc _ h0)
  have hb1 : Below w0.heap.size w0 W1 := by
    rw [← hW1]; exact hb0.trans ((((Below.refl _ w).alloc (Nat.le_refl _) _).alloc (by simp) _).mono hb0.size)
  refine ⟨w.heap.size + 1, [{ target := .collected w.heap.size, args := #[] }], W1, { target := .fn (.func gf) lb, args := #[.func (.yield (w.heap.size + 1)) #[] #[]] }, W1, gf,
    #[.func (.yield (w.heap.size + 1)) #[] #[]] ++ lb, W1, ?_, ?_, ?_, ?_, fun _ => h1, ?_⟩
  · rw [← hW1, hrec]; exact run_enterLoop_outer _ _ _ _ _
  · simp only [resolve, hg]
    simp [go_sem]
  · intro f' hf'; simp [Target.leads] at hf'; subst hf'; exact hFg
  · simp [invoke, go_sem, eg]
  · refine (hseq (w.heap.size + 1) (fun pre W => I pre W ∧ W.heap[w.heap.size + 1]? = some (.loop (rec .ready)) ∧ W.heap[w.heap.size]? = some (.deferred (some []))) W1 hb1 ?_ ?_ ⟨hI1, hL1, hD1⟩).mono ?_
    · rintro pre A B row ⟨hi, hl, hd⟩ hgr hr
      refine ⟨hI pre A B row hi hgr fun r e => ?_, ?_, ?_⟩
      · obtain ⟨hB, o, ho, hw⟩ := hr r e
        exact ⟨by omega, o, ho, Obj.not_cells_of_walk hw⟩
      · exact (grownBy_keeps hgr (fun r e => (hr r e).2) hl rfl).trans hl
      · exact (grownBy_keeps hgr (fun r e => (hr r e).2) hd rfl).trans hd
    · rintro pre x W ⟨hi, hl, hd⟩ hah
      have hy := run_yield (P := P) (args := encs x) hl (by rw [hrec]; exact hps x)
      rw [hrec] at hy
      refine ⟨fn, _, assign, body, hy, roundIn_of_wpIn hfn (wpIn_mono (hassign _ pre x W hi hah) ?_)⟩
      rintro e a' Wa hp
      cases e with
      | normal =>
        obtain ⟨hka, hkpa, hm⟩ := hp
        have hla := hka.same _ _ hl rfl
        have hda := hka.same _ _ hd rfl
        have hlt : w.heap.size + 1 < Wa.heap.size := (Array.getElem?_eq_some_iff.1 hla).1
        refine ⟨_, run_beginRound hla (by rw [hrec]), ?_⟩
        refine wpIn_mono (hbody _ pre x a' _ ((hM pre x a').putObj (s := ()) _ hm (by omega) hla rfl)) ?_
        have hl2 : (Wa.putObj (w.heap.size + 1) (.loop { rec .ready with state := .busy })).heap[w.heap.size + 1]? = some (.loop { rec .ready with state := .busy }) := World.putObj_heap_same hlt
        have hd2 : (Wa.putObj (w.heap.size + 1) (.loop { rec .ready with state := .busy })).heap[w.heap.size]? = some (.deferred (some [])) := (World.putObj_heap_other (by omega)).trans hda
        have hw2 : Kp Wa (Wa.putObj (w.heap.size + 1) (.loop { rec .ready with state := .busy })) := hKb _ _ _ _ (by omega) hla rfl
        rintro e a3 W3 hp3
        cases e with
        | normal =>
          obtain ⟨hk3, hkp3, hi3⟩ := hp3
          have hl3 := hk3.same _ _ hl2 rfl
          have hd3 := hk3.same _ _ hd2 rfl
          have her := run_endRound (P := P) none hl3
          refine ⟨_, _, her, rfl, ⟨hI.putObj _ hi3 (by omega) hl3 rfl, ?_, ?_⟩, hKt hkpa (hKt hw2 (hKt hkp3 (hKb _ _ _ _ (by omega) hl3 rfl)))⟩
          · rw [World.putObj_heap_same (Array.getElem?_eq_some_iff.1 hl3).1, hrec]; rfl
          · exact (World.putObj_heap_other (by omega)).trans hd3
        | ret => exact hp3.elim
        | exit id => exact hp3.elim
        | goto t => exact hp3.elim
        | panic ch => exact hp3.elim
        | outgrown => exact hp3.elim
      | ret => exact hp.elim
      | exit id => exact hp.elim
      | goto t => exact hp.elim
      | panic ch => exact hp.elim
      | outgrown => exact hp.elim
    · rintro e W2 ⟨⟨v, rfl⟩, xs, hSx, hi, hl, hd⟩
      have hel := run_endLoop (P := P) hl (by rw [hrec]; simp)
      rw [hrec] at hel
      refine ⟨none, _, hel, hdone _ xs _ (Nat.le_refl _) (hS.putObj _ hSx (by omega) hl rfl) (hI.putObj _ hi (by omega) hl rfl) ((World.putObj_heap_other (by omega)).trans hd)⟩
end Go
/- ring.edges: the iterator. -/
set_option linter.unusedVariables false
set_option linter.unusedSimpArgs false
namespace Go
/-- A ring's edges. -/
def edges (l : List Pt) : List (Pt × Pt) := (List.range l.length).map fun i => (l[i]!, l[(i + 1) % l.length]!)
end Go
namespace Go.Proofs.Ytebplobagmjfeaa
open Go.RowKit
attribute [local go_sem] Oper.semAt_some

def KpP (n₀ : Nat) (A B : World) : Prop := Below n₀ A B ∧ KeepT 65 65 A B

set_option maxRecDepth 100000 in
set_option maxHeartbeats 1000000 in
theorem edges1_in (n : Nat) (l Bn : Nat) (a : Option Addr) (c : Nat) (L : List Pt) (hlen : L.length ≤ 1000000) (w0 : World) (hr0 : Rd w0 a (pts L))
    (J : List (Pt × Pt) → World → Prop) (W : World) (hbl : Below w0.heap.size w0 W) (hJ : AbidesFrom W.heap.size J) (fr : Nat × Nat) (hBn : W.heap[Bn]? = some (.cells #[.slice a L.length c] 65 fr))
    (hY : ∀ pre x W1, J pre W1 → (pre.length < L.length ∧ x = (L[pre.length]!, L[(pre.length + 1) % L.length]!)) → YieldAt Fence.wide (n - 1) Try.prog l #[x.1.val, x.2.val] W1 fun e W' => e = .returned (.bool true) ∧ J (pre ++ [x]) W' ∧ KpP w0.heap.size W1 W')
    (h0 : J [] W) :
    CallsIn Fence.wide n Try.prog 67 #[.func (.yield l) #[] #[], .pointer (some ⟨Bn, 0, none⟩)] W fun e W' => (∃ v, e = .returned v) ∧ ∃ xs, xs = edges L ∧ J xs W' := by
  refine callsIn_of_wp Try.func67 rfl trivial ?_ rfl
  simp only [Try.ntmps67, List.size_toArray, List.length_cons, List.length_nil, Nat.reduceAdd, Nat.reduceSub, Array.replicate_succ, Array.replicate_zero, List.push_toArray, List.append_toArray, List.nil_append, List.cons_append]
  have hbc : W.cell? ⟨Bn, 0, none⟩ = some (.slice a L.length c) := by simp [World.cell?, hBn]
  gi_wp2
  gi_loopw [7] (fun i wr => ∃ k : Nat, i = .int .i64 k ∧ k ≤ L.length ∧ J ((edges L).take k) wr ∧ Below w0.heap.size w0 wr ∧ wr.heap[Bn]? = some (.cells #[.slice a L.length c] 65 fr)) (fun i _ => L.length - (intOf i).toNat)
  case atStart => exact ⟨0, rfl, Nat.zero_le _, h0, hbl, hBn⟩
  case round =>
    obtain ⟨k, rfl, hk, hj, hb1, hBx⟩ := hrel
    have hbc' : wr.cell? ⟨Bn, 0, none⟩ = some (.slice a L.length c) := by simp [World.cell?, hBx]
    have HY := Lib.hid hY
    have HJ := Lib.hid hJ
    clear hY hBn hbc hJ
    by_cases hlt : k < L.length
    · obtain ⟨q, hq⟩ : ∃ q, (k + 1) % L.length = q := ⟨_, rfl⟩
      have hql : q < L.length := by rw [← hq]; exact Nat.mod_lt _ (by omega)
      obtain ⟨b, off, rfl, hb, c0, c1⟩ := (hr0.keep hb1).pt k hlt
      obtain ⟨b', off', e, hb', d0, d1⟩ := (hr0.keep hb1).pt q hql
      cases e
      have hek : (edges L)[k]? = some (L[k], L[q]) := by
        unfold edges
        rw [List.getElem?_map, List.getElem?_range hlt]
        simp only [Option.map_some, hq]
        rw [getElem!_pos L k hlt, getElem!_pos L q hql]
      have hel : (edges L).length = L.length := by simp [edges]
      have htk : ((edges L).take k).length = k := by rw [List.length_take, hel]; omega
      have hsn : (edges L).take (k + 1) = (edges L).take k ++ [(L[k], L[q])] := by
        rw [List.take_add_one, hek]; rfl
      have hxe : (L[((edges L).take k).length]!, L[(((edges L).take k).length + 1) % L.length]!) = (L[k], L[q]) := by
        rw [htk, hq, getElem!_pos L k hlt, getElem!_pos L q hql]
      have hyy := fun W1 hj1 => HY.out ((edges L).take k) (L[k], L[q]) W1 hj1 ⟨by rw [htk]; exact hlt, hxe.symm⟩
      have hrem : ((k : Int) + 1) % (L.length : Int) = (q : Int) := by rw [← hq]; simp
      obtain ⟨⟨x1, y1⟩, hp1⟩ : ∃ p, L[k] = p := ⟨_, rfl⟩
      obtain ⟨⟨x2, y2⟩, hp2⟩ : ∃ p, L[q] = p := ⟨_, rfl⟩
      rw [hp1] at c0 c1
      rw [hp2] at d0 d1
      rw [hp1, hp2] at hsn hyy
      dsimp only [Pt.val] at c0 c1 d0 d1 hyy
      have HSN := Lib.hid hsn
      have hbA := Below.new wr (.cells #[.int .i64 x1, .int .i64 y1] 37)
      have hjA := HJ.out _ _ _ none hj (grownBy_of_below hbA none) (fun r h => by cases h)
      have hjB : J ((edges L).take k) (wr.alloc (.cells #[.int .i64 x1, .int .i64 y1] 37)).drew := HJ.out _ _ _ none hjA ⟨rfl, rfl, rfl, Nat.le_refl _, fun _ _ _ => rfl⟩ (fun r h => by cases h)
      obtain ⟨fn, tmps, assign, body, hy, hR⟩ := hyy _ hjB
      have HR := Lib.hid hR
      have hlz : (L.length : Int) ≠ 0 := by omega
      clear hyy hq hek hel htk hxe hp1 hp2 hR hjA hjB hsn
      have hrem2 : (IntKind.i64.wrap ((k : Int) + 1)).tmod (L.length : Int) = (q : Int) := by
        rw [IntWalk.i64_in _ (by omega), Int.tmod_eq_emod_of_nonneg (by omega)]
        exact hrem
      have hq0 : (0 : Int) ≤ (q : Int) ∧ (q : Int) < (L.length : Int) := by omega
      have hnb : b ≠ wr.heap.size := by omega
      have hBl : Bn < wr.heap.size := (Array.getElem?_eq_some_iff.1 hBx).1
      have hnB : Bn ≠ wr.heap.size := by omega
      have hnil : ¬ L = [] := by intro h; rw [h] at hlt; simp at hlt
      have hln : ¬ L.length = 0 := by omega
      gi_wp2
      gi_region_with (refine ⟨(fun h => by cases h), HR.out.mono ?_⟩; rintro e W3 ⟨rfl, hJ3, hk3⟩)
      all_goals
        gi_wp2
        go_roundw
        case rel =>
          refine ⟨k + 1, by go_num, by omega, ?_, ?_, ?_⟩
          · rw [HSN.out]; exact hJ3
          · exact (hb1.trans ((hbA.drew).mono hb1.size)).trans hk3.1
          · exact (hk3.2.2 Bn _ _ _ ((Below.heap_alloc wr _ _ hBl).trans hBx) (.inl rfl)).trans ((Below.heap_alloc wr _ _ hBl).trans hBx)
        case measure => simp [intOf]; omega
    · obtain rfl : k = L.length := by omega
      have hall : (edges L).take L.length = edges L := List.take_of_length_le (by simp [edges])
      rw [hall] at hj
      gi_wp2
      go_end0
      exact ⟨⟨_, rfl⟩, edges L, rfl, hj⟩
end Go.Proofs.Ytebplobagmjfeaa
/- A region that draws its order, inside a round of a range over a function: walked once, in the text's order, by the laws outside rounds. -/
set_option linter.unusedVariables false
set_option linter.unusedSimpArgs false
namespace Go
open Go.RowKit

/-- Nothing is a defer statement. -/
def noDefer (ops : Array Oper) : Bool := ops.all fun o => match o.op with | .defer _ => false | _ => true

section
variable {P : Program} {ops : Array Oper} {lt : Nat → Bool} {Q : Exit → Act → World → Prop} {S : World → Prop} {l n : Nat}

theorem oper_wpIn_round {o : Oper} {a : Act} {w : World} {K : Act → World → Prop} (hd : ∀ c, o.op ≠ .defer c) (h : o.wp P a w K Q) : o.wpIn (Fence.wide.inRound l) n P a w K Q := by
  refine ⟨fun _ _ => trivial, ?_⟩
  rw [Oper.semAt_eq _ _ _ hd]
  unfold Oper.wp at h
  cases hr : (execOp a.eval o).run P w with
  | ok nx w' =>
    rw [hr] at h
    cases nx with
    | value v => exact h
    | skip => exact h
    | defer d => exact h
    | enter f args =>
      refine ⟨fun hh => (by cases hh), ?_⟩
      exact CallsIn.inRound l (callsIn_wide.2 h)
    | row row args =>
      refine ⟨fun hh => (by cases hh), ?_⟩
      intro c cs _
      obtain ⟨v, w'', hR, hs⟩ := h c cs
      exact ⟨v, w'', hR, stepsIn_wide.2 hs⟩
    | _ => exact (h : False).elim
  | halt hh w' =>
    rw [hr] at h
    cases hh with
    | panic v => exact h
    | _ => exact (h : False).elim

theorem wpAnyIn_of_any (hd : noDefer ops = true) (hQ : ¬ LetsOut Q) (md : Region.Mode) : ∀ (fuel : Nat) (listed : Array Bool) (a : Act) (w : World), wpAny P md ops Q fuel listed a w → wpAnyIn (Fence.wide.inRound l) n P md ops Q fuel listed a w := by
  intro fuel
  induction fuel with
  | zero => intro listed a w h; exact h
  | succ fuel ih =>
    intro listed a w h
    refine ⟨h.1, fun i hi => ?_⟩
    have := h.2 i hi
    unfold wpOp at this
    unfold wpOpIn
    cases ho : ops[i]? with
    | none => rw [ho] at this; exact ih _ _ _ this
    | some o =>
      rw [ho] at this
      simp only at this ⊢
      have hdo : ∀ c, o.op ≠ .defer c := by
        intro c hc
        unfold noDefer at hd
        rw [Array.all_eq_true] at hd
        obtain ⟨hlt, he⟩ := Array.getElem?_eq_some_iff.1 ho
        have := hd i hlt
        rw [he, hc] at this
        simp at this
      split
      · rename_i hw
        rw [if_pos hw] at this
        rcases this with h1 | ⟨_, h2⟩
        · exact oper_wpIn_round hdo (Oper.wp_mono (fun a w h => ih _ _ _ h) h1)
        · exact absurd h2 hQ
      · rename_i hw
        rw [if_neg hw] at this
        exact ⟨fun _ _ => trivial, ih _ _ _ this⟩

theorem onlyQ_letsOut : ¬ LetsOut (OnlyQ Q) := fun ⟨_, _, h⟩ => h

/-- THE LAW, inside a round. -/
theorem wpIn_region_txt {id : Nat} {a : Act} {w : World} (lts : List Nat) (S : World → Prop) (hm : P.follows .mixedOrders = true) (hs : Region.noSelect ops = true) (hd : noDefer ops = true)
    (hc : okText .any ops (lts.contains ·) ops.size (List.range ops.size) (Array.replicate ops.size false) = true) (hS : S w.drew)
    (h : wpTxt P ops (lts.contains ·) Q S none (List.range ops.size) a w.drew) : (Code.region id ops true).wpIn (Fence.wide.inRound l) n P Q a w := by
  refine wpIn_mono ?_ OnlyQ.imp
  refine wpIn_region_any hm ?_
  refine wpAnyIn_of_any hd onlyQ_letsOut .any _ _ _ _ ?_
  refine wpAny_of_held (S := S) _ _ _ _ ?_
  refine okText_sound (Q := OnlyQ Q) .any hs (fun c a w h => h) (fun e a w h => h.elim) ops.size _ _ _ _ hc hS ?_
  exact wpTxt_only _ _ _ h

theorem wpIn_region_lit_txt {id : Nat} {a : Act} {w : World} {L : List Oper} (lts : List Nat) (S : World → Prop) (hm : P.follows .mixedOrders = true) (hs : Region.noSelect L.toArray = true) (hd : noDefer L.toArray = true)
    (hc : okText .any L.toArray (lts.contains ·) L.length (List.range L.length) (Array.replicate L.length false) = true) (hS : S w.drew)
    (h : wpTxtL P L.toArray (lts.contains ·) Q S none 0 L a w.drew) : (Code.region id L.toArray true).wpIn (Fence.wide.inRound l) n P Q a w := by
  refine wpIn_region_txt lts S hm hs hd (by simpa using hc) hS ?_
  have := wpTxtL_eq (P := P) (ops := L.toArray) (lt := (lts.contains ·)) (Q := Q) (S := S) L 0 (fun j => by simp) _ _ h
  rw [← List.range_eq_range'] at this
  simpa using this

theorem oper_noQ {o : Oper} {a : Act} {w : World} {K : Act → World → Prop} (h : o.wp P a w K NoQ) : o.wp P a w K Q := by
  unfold Oper.wp at h ⊢
  generalize (execOp a.eval o).run P w = r at *
  cases r with
  | ok n w' =>
    cases n <;> simp only [Oper.upon] at h ⊢ <;> first
      | exact h
      | exact Calls.mono h (fun e w'' he => by
          cases e with
          | returned v => exact he
          | panicked c => exact (he : False).elim
          | outgrown => obtain ⟨_, _, h⟩ := he; exact (h : False).elim)
  | halt x w' => cases x <;> simp only [Oper.upon, NoQ] at h

/-- A call of a named Go function. -/
theorem wp_callgo {a : Act} {w : World} {K : Act → World → Prop} {dst : Option Tmp} {ty : TypeId} {pos : String} {after : Array Edge} {guard : Option (Nat × Bool)} {f : FuncId} {args : Array Operand} {ats : Array TypeId} (vs : List Value) (fn : Func)
    (hfn : P.funcs[f]? = some fn) (hn : (fn.name == "runtime.NumGoroutine") = false) (hb : fn.body.isNone = false) (hvs : args.toList.map a.eval = vs)
    (h : Calls P f vs.toArray w fun e w' => ∃ v, e = .returned v ∧ K (a.put dst v) w') :
    Oper.wp P { dst := dst, op := .call { callee := .value (.func f), args := args, argTypes := ats }, type := ty, pos := pos, after := after, guard := guard } a w K NoQ := by
  unfold Oper.wp
  have e : #[] ++ args.map a.eval ++ #[] = vs.toArray := by
    rw [← hvs]; simp only [Array.empty_append, Array.append_empty]; apply Array.ext'; simp
  rw [execOp_call_go, run_callFunc _ _ hfn hn hb, e]
  rw [Oper.upon_enter]
  refine Calls.mono h ?_
  rintro e w' ⟨v, rfl, hK⟩
  exact hK

/-! Two operations that may come up in either order (`s += f(v)`: the load of s and the call), the light ones of a prefix taken first. -/
def okPre (md : Region.Mode) (ops : Array Oper) : List Nat → Array Bool → Bool
  | [], _ => true
  | i :: r, listed => Region.free md ops listed i && (Region.ready md ops listed).contains i && okPre md ops r (listed.setIfInBounds i true)

def wpPre (P : Program) (ops : Array Oper) (S : World → Prop) : List Nat → Act → (Act → Prop) → Prop
  | [], a, K => K a
  | i :: r, a, K => ∃ o v, ops[i]? = some o ∧ Region.wanted o (yielded ops a.tmps) = true ∧ (∀ w', S w' → (execOp a.eval o).run P w' = .ok (.value v) w') ∧ wpPre P ops S r (a.put o.dst v) K

theorem wpPre_nil {a : Act} {K : Act → Prop} (h : K a) : wpPre P ops S [] a K := h
theorem wpPre_cons {i : Nat} {r : List Nat} {a : Act} {K : Act → Prop} {o : Oper} (v : Value) (ho : ops[i]? = some o) (hw : Region.wanted o (yielded ops a.tmps) = true)
    (hv : ∀ w', S w' → (execOp a.eval o).run P w' = .ok (.value v) w') (h : wpPre P ops S r (a.put o.dst v) K) : wpPre P ops S (i :: r) a K := ⟨o, v, ho, hw, hv, h⟩

theorem wpAnyH_pre {md : Region.Mode} (hs : Region.noSelect ops = true) (hQ : ∀ c a w, ¬ Q (.panic c) a w) : ∀ (pre : List Nat) (fuel : Nat) (listed : Array Bool) (a : Act) (w : World), okPre md ops pre listed = true → S w →
    wpPre P ops S pre a (fun a' => wpAnyH P md ops Q S fuel (pre.foldl (fun l i => l.setIfInBounds i true) listed) a' w) → wpAnyH P md ops Q S (fuel + pre.length) listed a w := by
  intro pre
  induction pre with
  | nil => intro fuel listed a w _ _ h; exact h
  | cons i r ih =>
    intro fuel listed a w hc hS h
    obtain ⟨o, v, ho, hw, hv, h⟩ := h
    simp only [okPre, Bool.and_eq_true] at hc
    rw [List.length_cons, ← Nat.add_assoc]
    exact wpAnyH_take ho hs hc.1.1 hc.1.2 (fun c a w h => absurd h (hQ c _ w)) (.inl ⟨hw, hv⟩) hS (ih _ _ _ _ hc.2 hS h)

/-- THE LAW, inside a round: a prefix of light operations; then x and y may come up, in either order; behind each a text. -/
theorem wpIn_region_two {id : Nat} {a : Act} {w : World} (lts pre : List Nat) (x y : Nat) (A B : List Nat) (f : Nat) (S : World → Prop) (ox oy : Oper) (hm : P.follows .mixedOrders = true) (hs : Region.noSelect ops = true) (hd : noDefer ops = true)
    (hsz : ops.size = f + 1 + pre.length) (hp : okPre .any ops pre (Array.replicate ops.size false) = true) (hx : ops[x]? = some ox) (hy : ops[y]? = some oy)
    (hr : Region.ready .any ops (pre.foldl (fun l i => l.setIfInBounds i true) (Array.replicate ops.size false)) = [x, y])
    (hA : okText .any ops (lts.contains ·) f A ((pre.foldl (fun l i => l.setIfInBounds i true) (Array.replicate ops.size false)).setIfInBounds x true) = true)
    (hB : okText .any ops (lts.contains ·) f B ((pre.foldl (fun l i => l.setIfInBounds i true) (Array.replicate ops.size false)).setIfInBounds y true) = true)
    (hS : S w.drew)
    (h : wpPre P ops S pre a (fun a' => (Region.wanted ox (yielded ops a'.tmps) = true ∧ ∀ K : Act → World → Prop, Hid (∀ a'' w'', S w'' → wpTxt P ops (lts.contains ·) Q S none A a'' w'' → K a'' w'') → ox.wp P a' w.drew K NoQ) ∧
      (Region.wanted oy (yielded ops a'.tmps) = true ∧ ∀ K : Act → World → Prop, Hid (∀ a'' w'', S w'' → wpTxt P ops (lts.contains ·) Q S none B a'' w'' → K a'' w'') → oy.wp P a' w.drew K NoQ))) :
    (Code.region id ops true).wpIn (Fence.wide.inRound l) n P Q a w := by
  refine wpIn_mono ?_ OnlyQ.imp
  refine wpIn_region_any hm ?_
  refine wpAnyIn_of_any hd onlyQ_letsOut .any _ _ _ _ ?_
  refine wpAny_of_held (S := S) _ _ _ _ ?_
  rw [hsz]
  refine wpAnyH_pre (w := w.drew) hs (fun c a w h => h) pre (f + 1) _ a (by rw [← hsz]; exact hp) hS ?_
  rw [← hsz]
  have key : ∀ (pre : List Nat) (a : Act) (K K' : Act → Prop), (∀ a, K a → K' a) → wpPre P ops S pre a K → wpPre P ops S pre a K' := by
    intro pre
    induction pre with
    | nil => intro a K K' hk h; exact hk a h
    | cons i r ih =>
      intro a K K' hk h
      obtain ⟨o, v, h1, h2, h3, h4⟩ := h
      exact ⟨o, v, h1, h2, h3, ih _ _ _ hk h4⟩
  refine key pre a _ _ (fun a' h => ?_) h
  obtain ⟨⟨wx, kx0⟩, wy, ky0⟩ := h
  have kx := kx0 (fun a'' w'' => S w'' ∧ wpTxt P ops (lts.contains ·) Q S none A a'' w'') (Lib.hid fun a w h1 h2 => ⟨h1, h2⟩)
  have ky := ky0 (fun a'' w'' => S w'' ∧ wpTxt P ops (lts.contains ·) Q S none B a'' w'') (Lib.hid fun a w h1 h2 => ⟨h1, h2⟩)
  refine wpAnyH_all hr (by simp) ?_
  intro i hi
  simp only [List.mem_cons, List.not_mem_nil, or_false] at hi
  have hno : ∀ e a w, NoQ e a w → OnlyQ Q e a w := fun e a w h => h.elim
  rcases hi with rfl | rfl
  · unfold wpOp
    rw [hx]
    simp only
    rw [if_pos wx]
    left
    refine oper_noQ ?_
    exact Oper.wp_mono (fun a w h => ⟨h.1, okText_sound (Q := OnlyQ Q) .any hs (fun c a w h => h) hno f A _ _ _ hA h.1 (wpTxt_only _ _ _ h.2)⟩) kx
  · unfold wpOp
    rw [hy]
    simp only
    rw [if_pos wy]
    left
    refine oper_noQ ?_
    exact Oper.wp_mono (fun a w h => ⟨h.1, okText_sound (Q := OnlyQ Q) .any hs (fun c a w h => h) hno f B _ _ _ hB h.1 (wpTxt_only _ _ _ h.2)⟩) ky
end
end Go
