/-
  A range over a function whose body may leave, as in XLeave; but a round may write maps that lie below the range's own blocks. World facts for a range over a function whose body appends to a boxed row, and calls. mvt.only: the iterator over the fields of a number, whose caller may leave. mvt.count, mvt.first. A range over mvt.only whose body appends to a slice that lies in a block.
-/
import Derived.Test.YtjggoajfilnfjaaGreatPk17
import Derived.Test.YtjggoajfilnfjaaGreatPk6
import Derived.Test.YtjggoajfilnfjaaGreatPk9
import Derived.Shelf.Abstract
import Derived.Shelf.RegionOpen
import Derived.OwnWalkIn
import Derived.TacticsInMore
import Derived.LoopNIn
import Derived.LoopIn
import Derived.BigRegionIn
import Derived.Stop.RegionWithIn
import Derived.RangeFuncBox
namespace Go
open Go.RowKit

variable {F : Fence} {n : Nat} {P : Program}

def postLeaveM {α : Type} (n₀ : Nat) (Kp : World → World → Prop) (I : List α → World → Prop) (Ix : Code → List α → World → Prop) (xs : List α) (W : World) : Exit → Act → World → Prop
 | .normal, _, W' => KeepsHi n₀ W W' ∧ Kp W W' ∧ I xs W'
 | .ret, _, W' => KeepsHi n₀ W W' ∧ Ix .ret xs W'
 | .exit id, _, W' => KeepsHi n₀ W W' ∧ Ix (.exit id) xs W'
 | .goto t, _, W' => KeepsHi n₀ W W' ∧ Ix (.goto t) xs W'
 | _, _, _ => False

theorem wpIn_rangeFunc_leaveM {α : Type} {g : Operand} {ps : Array Tmp} {assign body : Code} {Q : Exit → Act → World → Prop} {a : Act} {w : World}
  (hro : F.round = none) (h1 : 1 ≤ n) {gf : Nat} {lb : Array Value} (hg : a.eval g = .func (.func gf) #[] lb) (hFg : F.fn gf) (eg : ∀ args w, (callFunc gf args).run P w = .ok (.enter gf args) w)
  {encs : α → Array Value} {Ahead : List α → α → World → Prop} {Kp : World → World → Prop} {S : List α → World → Prop} {w0 : World} (hseq : SeqLeave F (n - 1) P gf lb encs Ahead Kp S w0)
  (hKt : ∀ {A B C : World}, Kp A B → Kp B C → Kp A C) (hKb : ∀ (W : World) (l : Nat) (o o' : Obj), w.heap.size ≤ l → W.heap[l]? = some o → o.isCells = false → Kp W (W.putObj l o'))
  (hb0 : Below w0.heap.size w0 w) (hps : ∀ x, (encs x).size = ps.size)
  (I : List α → World → Prop) (Ix : Code → List α → World → Prop) (hI : OwnFrom w.heap.size I) (hIx : ∀ c, OwnFrom w.heap.size (Ix c)) (hS : OwnFrom w.heap.size S) (h0 : I [] w)
  (Mid : List α → α → Act → World → Prop) (hM : ∀ pre x a', OwnFrom w.heap.size (fun (_ : Unit) W => Mid pre x a' W))
  (hassign : ∀ (l : Nat) (pre : List α) (x : α) (W : World), I pre W → Ahead pre x W →
   assign.wpIn (F.inRound l) (n - 1 - 1) P (Exit.then (fun a' W' => KeepsHi w.heap.size W W' ∧ Kp W W' ∧ Mid pre x a' W') (fun _ _ _ => False)) { tmps := (ps.zip (encs x)).foldl (fun t (p, v) => t.setIfInBounds p v) a.tmps, defers := [] } W)
  (hbody : ∀ (l : Nat) (pre : List α) (x : α) (a' : Act) (W : World), Mid pre x a' W → body.wpIn (F.inRound l) (n - 1 - 1) P (postLeaveM w.heap.size Kp I Ix (pre ++ [x]) W) a' W)
  (hdone : ∀ (D : Nat) (xs : List α) (W : World), w.heap.size ≤ D → S xs W → I xs W → W.heap[D]? = some (.deferred (some [])) → Q .normal { a with defers := { target := .collected D, args := #[] } :: a.defers } W)
  (hstop : ∀ (D : Nat) (c : Code) (pre : List α) (W : World), w.heap.size ≤ D → Ix c pre W → W.heap[D]? = some (.deferred (some [])) → c.wpIn F n P Q { a with defers := { target := .collected D, args := #[] } :: a.defers } W) :
  (Code.rangeFunc g ps assign body).wpIn F n P Q a w := by
 refine wpIn_rangeFunc fun fn hfn => ?_; rw [hro]
 -- the loop's record, block H + 1; the block for the rounds' deferred calls, block H
 obtain ⟨rec, hrec⟩ : ∃ rec : LoopState → Option Code → Loop, rec = fun st pe => { state := st, pending := pe, fn, tmps := a.tmps, params := ps, assign, body, defers := w.heap.size } := ⟨_, rfl⟩; obtain ⟨W1, hW1⟩ : ∃ W1, (w.alloc (.deferred (some []))).alloc (.loop (rec .ready none)) = W1 := ⟨_, rfl⟩; have hs1 : W1.heap.size = w.heap.size + 2 := by rw [← hW1]; simp
 have hL1 : W1.heap[w.heap.size + 1]? = some (.loop (rec .ready none)) := by
  rw [← hW1]; have := World.alloc_heap_new (w.alloc (.deferred (some []))) (.loop (rec .ready none)); rwa [World.size_alloc] at this
 have hD1 : W1.heap[w.heap.size]? = some (.deferred (some [])) := by
  rw [← hW1]; exact (Below.heap_alloc _ _ _ (by simp)).trans (World.alloc_heap_new w _)
 have hI1 : I [] W1 := by rw [← hW1]; exact hI.alloc _ (hI.alloc _ h0)
 have hb1 : Below w0.heap.size w0 W1 := by
  rw [← hW1]; exact hb0.trans ((((Below.refl _ w).alloc (Nat.le_refl _) _).alloc (by simp) _).mono hb0.size)
 refine ⟨w.heap.size + 1, [{ target := .collected w.heap.size, args := #[] }], W1, { target := .fn (.func gf) lb, args := #[.func (.yield (w.heap.size + 1)) #[] #[]] }, W1, gf,
  #[.func (.yield (w.heap.size + 1)) #[] #[]] ++ lb, W1, ?_, ?_, ?_, ?_, fun _ => h1, ?_⟩
 ·rw [← hW1, hrec]; exact run_enterLoop_outer _ _ _ _ _
 ·simp only [resolve, hg]; simp [go_sem]
 ·intro f' hf'; simp [Target.leads] at hf'; subst hf'; exact hFg
 ·simp [invoke, go_sem, eg]
 ·have hnw : ∀ {A B : World} {row : Option Nat}, (∀ r, row = some r → W1.heap.size ≤ r ∧ ∃ o : Obj, A.heap[r]? = some o ∧ o.isWalk = true) → (∀ r, row = some r → w.heap.size ≤ r ∧ ∃ o : Obj, A.heap[r]? = some o ∧ o.isCells = false) :=
   fun hr r e => by obtain ⟨hB, o, ho, hw⟩ := hr r e; exact ⟨by omega, o, ho, Obj.not_cells_of_walk hw⟩
  refine (hseq (w.heap.size + 1) (fun pre W => I pre W ∧ W.heap[w.heap.size + 1]? = some (.loop (rec .ready none)) ∧ W.heap[w.heap.size]? = some (.deferred (some [])))
   (fun pre W => ∃ c, Ix c pre W ∧ W.heap[w.heap.size + 1]? = some (.loop (rec .done (some c))) ∧ W.heap[w.heap.size]? = some (.deferred (some []))) W1 hb1
   (fun s A B row hs hg' hr => ⟨hI s A B row hs.1 hg' (hnw (B := B) hr), (grownBy_keeps hg' (fun r e => (hr r e).2) hs.2.1 rfl).trans hs.2.1, (grownBy_keeps hg' (fun r e => (hr r e).2) hs.2.2 rfl).trans hs.2.2⟩)
   (fun s A B row hs hg' hr => by
    obtain ⟨c, hc, hl, hk⟩ := hs; exact ⟨c, hIx c s A B row hc hg' (hnw (B := B) hr), (grownBy_keeps hg' (fun r e => (hr r e).2) hl rfl).trans hl, (grownBy_keeps hg' (fun r e => (hr r e).2) hk rfl).trans hk⟩)
   ?_ ⟨hI1, hL1, hD1⟩).mono ?_
  ·rintro pre x W ⟨hi, hl, hd⟩ hah; have hy := run_yield (P := P) (args := encs x) hl (by rw [hrec]; exact hps x); rw [hrec] at hy; refine ⟨fn, _, assign, body, hy, roundIn_of_wpIn hfn (wpIn_mono (hassign _ pre x W hi hah) ?_)⟩; rintro e a' Wa hp
   cases e with
   | normal =>
    obtain ⟨hka, hkpa, hm⟩ := hp; have hla := hka.same _ _ (by omega) hl rfl; have hda := hka.same _ _ (Nat.le_refl _) hd rfl; have hlt : w.heap.size + 1 < Wa.heap.size := (Array.getElem?_eq_some_iff.1 hla).1; refine ⟨_, run_beginRound hla (by rw [hrec]), ?_⟩; refine wpIn_mono (hbody _ pre x a' _ ((hM pre x a').putObj (s := ()) _ hm (by omega) hla rfl)) ?_; have hl2 : (Wa.putObj (w.heap.size + 1) (.loop { rec .ready none with state := .busy })).heap[w.heap.size + 1]? = some (.loop { rec .ready none with state := .busy }) := World.putObj_heap_same hlt; have hd2 : (Wa.putObj (w.heap.size + 1) (.loop { rec .ready none with state := .busy })).heap[w.heap.size]? = some (.deferred (some [])) := (World.putObj_heap_other (by omega)).trans hda; have hw2 : Kp Wa (Wa.putObj (w.heap.size + 1) (.loop { rec .ready none with state := .busy })) := hKb _ _ _ _ (by omega) hla rfl; have fin : ∀ (jump : Option Code) (W3 : World), KeepsHi w.heap.size (Wa.putObj (w.heap.size + 1) (.loop { rec .ready none with state := .busy })) W3 →
      (Instr.endRound (w.heap.size + 1) jump).run P W3 = .ok (.bool jump.isNone) (W3.putObj (w.heap.size + 1) (.loop (rec (if jump.isNone then .ready else .done) jump))) ∧
      W3.heap[w.heap.size + 1]? = some (.loop { rec .ready none with state := .busy }) ∧
      (W3.putObj (w.heap.size + 1) (.loop (rec (if jump.isNone then .ready else .done) jump))).heap[w.heap.size + 1]? = some (.loop (rec (if jump.isNone then .ready else .done) jump)) ∧
      (W3.putObj (w.heap.size + 1) (.loop (rec (if jump.isNone then .ready else .done) jump))).heap[w.heap.size]? = some (.deferred (some [])) := fun jump W3 hk3 => by
     have hl3 := hk3.same _ _ (by omega) hl2 rfl; have := run_endRound (P := P) jump hl3; rw [hrec] at this ⊢; exact ⟨this, by rw [hrec] at hl3; exact hl3, World.putObj_heap_same (Array.getElem?_eq_some_iff.1 hl3).1, (World.putObj_heap_other (by omega)).trans (hk3.same _ _ (Nat.le_refl _) hd2 rfl)⟩
    rintro e a3 W3 hp3
    cases e with
    | normal =>
     obtain ⟨hk3, hkp3, hi3⟩ := hp3; obtain ⟨hr, hl3, hl4, hk4⟩ := fin none W3 hk3; exact ⟨_, _, hr, .inl ⟨rfl, ⟨hI.putObj _ hi3 (by omega) hl3 rfl, hl4, hk4⟩, hKt hkpa (hKt hw2 (hKt hkp3 (hKb _ _ _ _ (by omega) hl3 rfl)))⟩⟩
    | ret =>
     obtain ⟨hk3, hi3⟩ := hp3; obtain ⟨hr, hl3, hl4, hk4⟩ := fin (some .ret) W3 hk3; exact ⟨_, _, hr, .inr ⟨rfl, .ret, (hIx _).putObj _ hi3 (by omega) hl3 rfl, hl4, hk4⟩⟩
    | exit id =>
     obtain ⟨hk3, hi3⟩ := hp3; obtain ⟨hr, hl3, hl4, hk4⟩ := fin (some (.exit id)) W3 hk3; exact ⟨_, _, hr, .inr ⟨rfl, .exit id, (hIx _).putObj _ hi3 (by omega) hl3 rfl, hl4, hk4⟩⟩
    | goto t =>
     obtain ⟨hk3, hi3⟩ := hp3; obtain ⟨hr, hl3, hl4, hk4⟩ := fin (some (.goto t)) W3 hk3; exact ⟨_, _, hr, .inr ⟨rfl, .goto t, (hIx _).putObj _ hi3 (by omega) hl3 rfl, hl4, hk4⟩⟩
    | panic ch => exact hp3.elim
    | outgrown => exact hp3.elim
   | ret => exact hp.elim
   | exit id => exact hp.elim
   | goto t => exact hp.elim
   | panic ch => exact hp.elim
   | outgrown => exact hp.elim
  ·rintro e W2 ⟨⟨v, rfl⟩, (⟨xs, hSx, hi, hl, hd⟩ | ⟨pre, c, hi, hl, hd⟩)⟩
   ·have hel := run_endLoop (P := P) hl (by rw [hrec]; simp); rw [hrec] at hel; refine ⟨none, _, hel, hdone _ xs _ (Nat.le_refl _) (hS.putObj _ hSx (by omega) hl rfl) (hI.putObj _ hi (by omega) hl rfl) ((World.putObj_heap_other (by omega)).trans hd)⟩
   ·have hel := run_endLoop (P := P) hl (by rw [hrec]; simp); rw [hrec] at hel; refine ⟨some c, _, hel, hstop _ c pre _ (Nat.le_refl _) ((hIx c).putObj _ hi (by omega) hl rfl) ((World.putObj_heap_other (by omega)).trans hd)⟩
end Go
set_option linter.unusedVariables false
set_option linter.unusedSimpArgs false
namespace Go
open Go.RowKit
theorem Rd.putObj {W : World} {a : Option Addr} {vs : List Value} (h : Rd W a vs) {l : Nat} {o : Obj} (o' : Obj) (h1 : W.heap[l]? = some o) (h2 : o.isCells = false) : Rd (W.putObj l o') a vs := by
 rcases h with h | ⟨b, off, rfl, hc⟩
 ·exact .inl h
 ·refine .inr ⟨b, off, rfl, fun i v hv => ?_⟩; have hx := hc i v hv; refine (grownBy_putObj' W l o').cell hx ?_; intro e
  cases e
  simp only [World.cell?, h1] at hx
  cases o <;> simp_all [Obj.isCells]
theorem Rd.box {W W' : World} {B : Nat} {t : TypeId} {x : Option Addr} {n c : Nat} {a : Option Addr} {vs : List Value} (h : Rd W a vs) (hb : Boxed W B t (.slice x n c)) (hg : W.grownBy W' (some B)) (hv : ∀ v ∈ vs, ∃ k z, v = .int k z) : Rd W' a vs := by
 rcases h with h | ⟨b, off, rfl, hc⟩
 ·exact .inl h
 ·refine .inr ⟨b, off, rfl, fun i v hi => ?_⟩; have hx := hc i v hi; refine hg.cell hx ?_; intro e
  cases e
  obtain ⟨k, z, rfl⟩ := hv v (List.mem_of_getElem? hi); unfold Boxed at hb; dsimp only at hb; simp only [World.cell?, hb] at hx
  cases ho : off + i with
  | zero => rw [ho] at hx; simp at hx
  | succ m => rw [ho] at hx; simp at hx
theorem grown_step {W0 A A' : World} {B : Nat} {r : Option Nat} (h : W0.grownBy A (some B)) (hg : A.grownBy A' r) (hr : ∀ k, r = some k → W0.heap.size ≤ k ∨ k = B) : W0.grownBy A' (some B) :=
 ⟨hg.os.trans h.os, hg.tape.trans h.tape, hg.output.trans h.output, Nat.le_trans h.size hg.size, fun k hk hne => (hg.block k (Nat.lt_of_lt_of_le hk h.size) (fun e => by
  rcases hr k e.symm with h1 | h1
  ·omega
  ·exact hne (by rw [h1]))).trans (h.block k hk hne)⟩
theorem ownFrom_grown {β : Type} {W0 : World} (B : Nat) : OwnFrom W0.heap.size (fun (_ : β) W => W0.grownBy W (some B)) :=
 fun _ _ _ _ hs hg hr => grown_step hs hg (fun k e => .inl (hr k e).1)
theorem KeepsOthers.of_row {A B : World} {n₀ : Nat} {e : TypeId} {size : Nat} {v : Value} {k : Nat} {xs : List Value} (hrow : A.ownsRow n₀ e size v k xs) (hg : A.grownBy B v.ownBlock) : KeepsOthers A B := by
 refine KeepsOthers.of_grownBy hg fun j o e ho => ?_
 rcases hrow.2 with ⟨rfl, _⟩ | ⟨g, cap, cur, rfl, _, hgb, _⟩
 ·cases e
 ·obtain rfl : g = j := by simpa [Value.ownBlock] using e
  rw [hgb] at ho
  cases ho
  rfl
end Go
namespace Go
open Go.RowKit
def flC (L : List FC) (k : Int) : List FC := L.filter (fun x => decide (x.f.num = k))
theorem flC_flt (L : List FC) (k : Int) : (flC L k).map (·.f) = flt (L.map (·.f)) k := by
 unfold flC flt; rw [List.filter_map]
 rfl
theorem flC_take (L : List FC) (k : Int) (i : Nat) (hi : i < L.length) : flC (L.take (i + 1)) k = if L[i].f.num = k then flC (L.take i) k ++ [L[i]] else flC (L.take i) k := by
 rw [List.take_succ_eq_append_getElem hi]; unfold flC; rw [List.filter_append]
 split
 ·rename_i h; simp [h]
 ·rename_i h; simp [h]
theorem flC_pre (L : List FC) (k : Int) (i : Nat) : flC (L.take i) k <+: flC L k := by
 unfold flC; exact List.IsPrefix.filter _ (List.take_prefix _ _)
theorem Rd.fld {w : World} {a : Option Addr} {l : List FC} (h : Rd w a (flat l)) (i : Nat) (hi : i < l.length) :
  ∃ b off, a = some ⟨b, off, none⟩ ∧ b < w.heap.size ∧ w.cell? ⟨b, off + i * 4, none⟩ = some (.int .i64 l[i].f.num) ∧ w.cell? ⟨b, off + i * 4 + 1, none⟩ = some (.int .i64 l[i].f.kind) ∧ w.cell? ⟨b, off + i * 4 + 2, none⟩ = some (.int .u64 l[i].f.n) ∧ w.cell? ⟨b, off + i * 4 + 3, none⟩ = some (.slice l[i].p l[i].f.bs.length l[i].c) := by
 have g : ∀ j, j < 4 → (flat l)[i * 4 + j]? = (l[i]).cells[j]? := fun j hj => flatMap_get FC.cells 4 (fun _ => rfl) l i j hi hj; obtain ⟨b, off, rfl, h0, hb⟩ := h.at (i := i * 4 + 0) (v := .int .i64 l[i].f.num) (by rw [g 0 (by omega)]; rfl); obtain ⟨b', off', e, h1, -⟩ := h.at (i := i * 4 + 1) (v := .int .i64 l[i].f.kind) (by rw [g 1 (by omega)]; rfl)
 cases e
 obtain ⟨b', off', e, h2, -⟩ := h.at (i := i * 4 + 2) (v := .int .u64 l[i].f.n) (by rw [g 2 (by omega)]; rfl)
 cases e
 obtain ⟨b', off', e, h3, -⟩ := h.at (i := i * 4 + 3) (v := .slice l[i].p l[i].f.bs.length l[i].c) (by rw [g 3 (by omega)]; rfl)
 cases e
 simp only [← Nat.add_assoc] at h0 h1 h2 h3; exact ⟨b, off, rfl, hb, h0, h1, h2, h3⟩
def KpF (a : Option Addr) (L : List FC) (Bn Bm : Nat) (A B : World) : Prop := (Rd A a (flat L) → Rd B a (flat L)) ∧ B.heap[Bn]? = A.heap[Bn]? ∧ B.heap[Bm]? = A.heap[Bm]?
theorem KpF.putObj {a : Option Addr} {L : List FC} {Bn Bm : Nat} {w : World} (hB : Bn < w.heap.size) (hM : Bm < w.heap.size) (W : World) (l : Nat) (o o' : Obj) (hl : w.heap.size ≤ l) (h1 : W.heap[l]? = some o) (h2 : o.isCells = false) : KpF a L Bn Bm W (W.putObj l o') :=
 ⟨fun h => h.putObj o' h1 h2, World.putObj_heap_other (fun e => by omega), World.putObj_heap_other (fun e => by omega)⟩
theorem KpF.trans {a : Option Addr} {L : List FC} {Bn Bm : Nat} {A B C : World} (h : KpF a L Bn Bm A B) (k : KpF a L Bn Bm B C) : KpF a L Bn Bm A C := ⟨fun x => k.1 (h.1 x), k.2.1.trans h.2.1, k.2.2.trans h.2.2⟩
theorem KpF.below {a : Option Addr} {L : List FC} {Bn Bm : Nat} {A B : World} (h : Below A.heap.size A B) (hn : Bn < A.heap.size) (hm : Bm < A.heap.size) : KpF a L Bn Bm A B := ⟨fun x => x.keep h, h.block _ hn, h.block _ hm⟩
end Go
namespace Go.Proofs.YtjggoajfilnfjaaGreat
open Go.RowKit
attribute [local go_sem] Oper.semAt_some
set_option maxRecDepth 100000 in
set_option maxHeartbeats 3200000 in
theorem only1_lv (n : Nat) (l Bn Bm : Nat) (a : Option Addr) (c : Nat) (L : List FC) (num : Int) (hlen : L.length ≤ 1000000)
  (J Jx : List FC → World → Prop) (W : World) (hr0 : Rd W a (flat L)) (hJ : AbidesFrom W.heap.size J) (hJx : AbidesFrom W.heap.size Jx) (fr fs : Nat × Nat) (hBn : W.heap[Bn]? = some (.cells #[.slice a L.length c] 68 fr)) (hBm : W.heap[Bm]? = some (.cells #[.int .i64 num] 3 fs))
  (hY : ∀ pre x W1, J pre W1 → (pre ++ [x] <+: flC L num) → YieldAt Fence.wide (n - 1) Tryz.prog l #[x.val] W1 fun e W' => (e = .returned (.bool true) ∧ J (pre ++ [x]) W' ∧ KpF a L Bn Bm W1 W') ∨ (e = .returned (.bool false) ∧ Jx (pre ++ [x]) W'))
  (h0 : J [] W) :
  CallsIn Fence.wide n Tryz.prog 62 #[.func (.yield l) #[] #[], .pointer (some ⟨Bn, 0, none⟩), .pointer (some ⟨Bm, 0, none⟩)] W fun e W' => (∃ v, e = .returned v) ∧ ((∃ xs, xs = flC L num ∧ J xs W') ∨ ∃ pre, Jx pre W') := by
 refine callsIn_of_wp Tryz.func62 rfl trivial ?_ rfl; simp only [Tryz.ntmps62, List.size_toArray, List.length_cons, List.length_nil, Nat.reduceAdd, Nat.reduceSub, Array.replicate_succ, Array.replicate_zero, List.push_toArray, List.append_toArray, List.nil_append, List.cons_append]; have hbc : W.cell? ⟨Bn, 0, none⟩ = some (.slice a L.length c) := by simp [World.cell?, hBn]
 have HY := Lib.hid hY; have HJ := Lib.hid hJ; have HJX := Lib.hid hJx; clear hY hJ hJx; obtain ⟨N, hN⟩ : ∃ N, L.length = N := ⟨_, rfl⟩; have HN := Lib.hid hN; rw [hN] at hlen hbc hBn; clear hN
 gi_wp2
 gi_loopw [8] (fun i wr => ∃ k : Nat, i = .int .i64 k ∧ k ≤ N ∧ J (flC (L.take k) num) wr ∧ Rd wr a (flat L) ∧ wr.heap[Bn]? = some (.cells #[.slice a N c] 68 fr) ∧ wr.heap[Bm]? = some (.cells #[.int .i64 num] 3 fs)) (fun i _ => N - (intOf i).toNat)
 case atStart => exact ⟨0, rfl, Nat.zero_le _, by simpa [flC] using h0, hr0, hBn, hBm⟩
 case round =>
  obtain ⟨k, rfl, hk, hj, hb1, hBx, hBy⟩ := hrel; have hNl := HN.out; clear hBn hBm hbc
  by_cases hlt : k < N
  ·have hlt' : (k : Int) < (N : Int) := by omega
   have hkl : k < L.length := by omega
   obtain ⟨b, off, rfl, hb, c0, c1, c2, c3⟩ := hb1.fld k hkl; have hft := flC_take L num k hkl; have hpr := flC_pre L num (k + 1); have hyy := fun (W1 : World) (hj1 : J (flC (L.take k) num) W1) (h2 : flC (L.take k) num ++ [L[k]] <+: flC L num) => HY.out (flC (L.take k) num) L[k] W1 hj1 h2; obtain ⟨PK, hPK⟩ : ∃ p, flC (L.take k) num = p := ⟨_, rfl⟩; obtain ⟨PN, hPN⟩ : ∃ p, flC (L.take (k + 1)) num = p := ⟨_, rfl⟩; rw [hPK] at hj hft hyy; rw [hPN] at hft hpr; have HPN := Lib.hid hPN; clear hPK hPN; obtain ⟨x, hx⟩ : ∃ x, L[k] = x := ⟨_, rfl⟩; rw [hx] at c0 c1 c2 c3 hft hyy; clear hx; obtain ⟨⟨fn, fk, fv, fb⟩, fp, fc⟩ := x; dsimp only [FC.val] at c0 c1 c2 c3 hft hyy; generalize fb.length = M at *; have hbA := Below.new wr (.cells #[.int .i64 fn, .int .i64 fk, .int .u64 fv, .slice fp M fc] 72); have hjA := HJ.out _ _ _ none hj (grownBy_of_below hbA none) (fun r h => by cases h); have hBl : Bn < wr.heap.size := (Array.getElem?_eq_some_iff.1 hBx).1; have hMl : Bm < wr.heap.size := (Array.getElem?_eq_some_iff.1 hBy).1; have hBx2 := (hbA.block Bn hBl).trans hBx; have hBy2 := (hbA.block Bm hMl).trans hBy; have hb2 := hb1.keep hbA; have kF := Blk.new wr [.int .i64 fn, .int .i64 fk, .int .u64 fv, .slice fp M fc] 72; have g0 := kF.cell 0 rfl; have g1 := kF.cell 1 rfl; have g2 := kF.cell 2 rfl; have g3 := kF.cell 3 rfl; have m0 : (wr.alloc (.cells #[.int .i64 fn, .int .i64 fk, .int .u64 fv, .slice fp M fc] 72)).cell? ⟨Bm, 0, none⟩ = some (.int .i64 num) := by simp only [World.cell?, hBy2]; rfl
   by_cases he : fn = num
   ·rw [if_pos he] at hft; rw [hft] at hpr; obtain ⟨fnn, tmps, assign, body, hy, hR⟩ := hyy _ hjA hpr; have HR := Lib.hid hR; have HFT := Lib.hid hft; clear hyy hR hft hpr hbA hBx hBy hb1 hj hjA; subst he
    gi_wp2
    refine ⟨(fun h => by cases h), HR.out.mono ?_⟩; rintro e W3 hW3; obtain ⟨bb, rfl, hcs⟩ := yield_bool hW3; replace hcs := Lib.hid hcs; clear hW3
    rcases hcs.out with ⟨rfl, hJ3, hk3⟩ | ⟨rfl, hJ3⟩
    ·gi_wp2
     exact ⟨⟨k + 1, by simp, by omega, by rw [HPN.out, HFT.out]; exact hJ3, hk3.1 hb2, hk3.2.1.trans hBx2, hk3.2.2.trans hBy2⟩, by simp [intOf]; omega⟩
    ·gi_wp2
     exact bodyPost_ret (v := .tuple #[]) (by simp [results, Tryz.results62, go_sem]) rfl ⟨⟨_, rfl⟩, .inr ⟨_, hJ3⟩⟩
   ·rw [if_neg he] at hft; have hef : (fn == num) = false := by simpa using he
    have HFT := Lib.hid hft; clear hyy hft hpr hbA hBx hBy hb1 hj
    gi_wp2
    refine ⟨(fun f h => by cases h), ?_⟩
    gi_wp2
    exact ⟨⟨k + 1, by simp, by omega, by rw [HPN.out, HFT.out]; exact hjA, hb2, hBx2, hBy2⟩, by simp [intOf]; omega⟩
  ·obtain rfl : k = N := by omega
   have hlt' : ¬ (k : Int) < (k : Int) := by omega
   rw [List.take_of_length_le (by omega)] at hj
   gi_wp2
   go_end0
   exact ⟨⟨_, rfl⟩, .inl hj⟩
theorem only_in (n : Nat) (a : Option Addr) (m c : Nat) (num : Int) (w : World) :
  CallsIn Fence.wide n Tryz.prog 30 #[.slice a m c, .int .i64 num] w fun e w' => e = .returned (.func (.func 62) #[] #[.pointer (some ⟨w.heap.size, 0, none⟩), .pointer (some ⟨w.heap.size + 1, 0, none⟩)]) ∧ w' = (w.alloc (.cells #[.slice a m c] 68)).alloc (.cells #[.int .i64 num] 3) := by
 refine callsIn_of_wp Tryz.func30 rfl trivial ?_ rfl; simp only [Tryz.ntmps30, List.size_toArray, List.length_cons, List.length_nil, Nat.reduceAdd, Nat.reduceSub, Array.replicate_succ, Array.replicate_zero, List.push_toArray, List.append_toArray, List.nil_append, List.cons_append]
 gi_wp2
 go_ret; exact ⟨rfl, rfl⟩
theorem only_leave (n : Nat) (Bn Bm : Nat) (a : Option Addr) (c : Nat) (L : List FC) (num : Int) (hlen : L.length ≤ 1000000)
  (W0 : World) (hr : Rd W0 a (flat L)) (fr fs : Nat × Nat) (hBn : W0.heap[Bn]? = some (.cells #[.slice a L.length c] 68 fr)) (hBm : W0.heap[Bm]? = some (.cells #[.int .i64 num] 3 fs)) :
  SeqLeave Fence.wide n Tryz.prog 62 #[.pointer (some ⟨Bn, 0, none⟩), .pointer (some ⟨Bm, 0, none⟩)] (fun x : FC => #[x.val]) (fun pre x _ => pre ++ [x] <+: flC L num) (KpF a L Bn Bm) (fun xs _ => xs = flC L num) W0 := by
 intro l J Jx W hb0 hJ hJx hY h0; exact only1_lv n l Bn Bm a c L num hlen J Jx W (hr.keep hb0) hJ hJx fr fs ((hb0.block Bn (Array.getElem?_eq_some_iff.1 hBn).1).trans hBn) ((hb0.block Bm (Array.getElem?_eq_some_iff.1 hBm).1).trans hBm) hY h0
end Go.Proofs.YtjggoajfilnfjaaGreat
set_option maxRecDepth 100000
namespace Go
open Go.RowKit
theorem putObj_belowM (N : Nat) (W : World) (l : Nat) (o' : Obj) (h : N ≤ l) : Below N W (W.putObj l o') :=
 ⟨rfl, rfl, rfl, by simp [World.putObj], fun k hk => World.putObj_heap_other (fun e => by omega)⟩
theorem blk_ownF {β : Type} (B Bv : Nat) (vs : β → List Value) : OwnFrom B (fun s W => Blk W Bv (vs s)) := by
 intro s X Y row hs hg hr; refine hs.grown hg (fun e => ?_); obtain ⟨o, ho, hc⟩ := (hr Bv e.symm).2; obtain ⟨U, hU⟩ := hs; rw [hU] at ho
 cases ho
 cases hc
def fstC (L : List FC) (k : Int) : FC := (flC L k).headD ⟨Proto.Fld.zero, none, 0⟩
theorem fstC_f (L : List FC) (k : Int) : (fstC L k).f = fstF (L.map (·.f)) k := by
 unfold fstC fstF; rw [← flC_flt]
 cases flC L k <;> rfl
theorem fstC_ok {W : World} {L : List FC} (h : ∀ x ∈ L, x.Ok W) (k : Int) : (fstC L k).Ok W := by
 unfold fstC
 cases hf : flC L k with
 | nil => exact ⟨Rd.nil _ _, Nat.le_refl _, (show (0 : Nat) ≤ maxLen by decide), fun _ => rfl⟩
 | cons x l =>
  have : x ∈ flC L k := by rw [hf]; simp
  exact h x (List.mem_filter.1 this).1
theorem KpF.grown {a : Option Addr} {L : List FC} {Bn Bm : Nat} {A B : World} {r : Option Nat} (hg : A.grownBy B r) (hr : Rd A a (flat L) → Rd B a (flat L)) (hn : Bn < A.heap.size) (hm : Bm < A.heap.size) (h1 : some Bn ≠ r) (h2 : some Bm ≠ r) : KpF a L Bn Bm A B := ⟨hr, hg.block _ hn h1, hg.block _ hm h2⟩
theorem Rd.set_new {w W : World} {a : Option Addr} {vs : List Value} {B o : Nat} {u : Value} (h0 : Rd w a vs) (h : Rd W a vs) (hB : w.heap.size ≤ B) : Rd (W.setCell ⟨B, o, none⟩ u) a vs := by
 rcases h0 with he | ⟨b, off, rfl, hc⟩
 ·exact .inl he
 ·cases hv : vs with
  | nil => exact .inl rfl
  | cons v l =>
   rw [hv] at h hc; have hl := hc 0 v rfl; have hb : b < w.heap.size := by
    unfold World.cell? at hl; dsimp only at hl
    rcases hx : w.heap[b]? with _ | o
    ·rw [hx] at hl; cases hl
    ·exact (Array.getElem?_eq_some_iff.1 hx).1
   refine h.set_off (fun b' hb' e => ?_); simp at hb'; omega
end Go
namespace Go.Proofs.YtjggoajfilnfjaaGreat
open Go.RowKit
attribute [local go_sem] Oper.semAt_some
set_option maxHeartbeats 3200000 in
theorem mcount_any (a : Option Addr) (c : Nat) (L : List FC) (num : Int) (hlen : L.length ≤ 1000000) (w : World) (hr : Rd w a (flat L)) :
  Calls Tryz.prog 31 #[.slice a L.length c, .int .i64 num] w fun e w' => e = .returned (.int .i64 (flC L num).length) ∧ Below w.heap.size w w' := by
 refine (callsIn_wide (n := 5)).1 ?_; refine callsIn_of_wp_marks Tryz.func31 rfl trivial ?_ rfl; simp only [Tryz.ntmps31, List.size_toArray, List.length_cons, List.length_nil, Nat.reduceAdd, Nat.reduceSub, Array.replicate_succ, Array.replicate_zero, List.push_toArray, List.append_toArray, List.nil_append, List.cons_append]; refine wpIn_wide.2 ?_; have kN := Boxed.new w 3 (.int .i64 0); have hb0 := Below.new w (.cells #[.int .i64 0] 3); have c0 := kN.cell; have f0 := kN.frozen; have hlc : (flC L num).length ≤ L.length := List.length_filter_le _ _
 go_wp2_with fail
 refine (callsIn_wide.1 (only_in 5 a L.length c num _)).mono ?_; rintro e w4 ⟨rfl, rfl⟩
 go_wp2_with fail
 have k0 := (kN.alloc (.cells #[.slice a L.length c] 68)).alloc (.cells #[.int .i64 num] 3); have k1 := (Boxed.new (w.alloc (.cells #[.int .i64 0] 3)) 68 (.slice a L.length c)).alloc (.cells #[.int .i64 num] 3); have k2 := Boxed.new ((w.alloc (.cells #[.int .i64 0] 3)).alloc (.cells #[.slice a L.length c] 68)) 3 (.int .i64 num); have hB0 := (hb0.alloc (by simp) (.cells #[.slice a L.length c] 68)).alloc (by simp; omega) (.cells #[.int .i64 num] 3); have hsz : (((w.alloc (.cells #[.int .i64 0] 3)).alloc (.cells #[.slice a L.length c] 68)).alloc (.cells #[.int .i64 num] 3)).heap.size = w.heap.size + 1 + 1 + 1 := by simp
 simp only [World.size_alloc] at k1 k2; obtain ⟨W0, hW0⟩ : ∃ W, ((w.alloc (.cells #[.int .i64 0] 3)).alloc (.cells #[.slice a L.length c] 68)).alloc (.cells #[.int .i64 num] 3) = W := ⟨_, rfl⟩; rw [hW0] at k0 k1 k2 hB0 hsz ⊢; clear hW0 kN c0 f0 hb0; have hra := hr.keep hB0; refine (wpIn_wide (n := 5)).1 ?_; refine wpIn_rangeFunc_leave rfl (by decide) (gf := 62) (lb := #[.pointer (some ⟨w.heap.size + 1, 0, none⟩), .pointer (some ⟨w.heap.size + 1 + 1, 0, none⟩)]) rfl trivial (enters_of Tryz.func62 (by kernel_rfl) rfl)
  (only_leave (5 - 1) (w.heap.size + 1) (w.heap.size + 1 + 1) a c L num hlen W0 hra (0, 0) (0, 0) k1 k2) KpF.trans (fun W l o o' hl h1 h2 => KpF.putObj (w := W0) (by omega) (by omega) W l o o' hl h1 h2) (Below.refl _ _) (fun _ => rfl)
  (fun (pre : List FC) W => Boxed W w.heap.size 3 (.int .i64 (pre.length : Int)) ∧ W0.grownBy W (some w.heap.size))
  (fun _ _ _ => False)
  (OwnFrom.and (Own.from (boxed_own _ _ (fun (pre : List FC) => Value.int .i64 (pre.length : Int))) _) (ownFrom_grown _))
  (fun _ => ownFrom_pure _ _) (ownFrom_pure _ _)
  ⟨k0, World.grownBy.refl _ _⟩
  (fun (pre : List FC) (x : FC) a' W => (Boxed W w.heap.size 3 (.int .i64 (pre.length : Int)) ∧ W0.grownBy W (some w.heap.size)) ∧ pre ++ [x] <+: flC L num ∧ a' = { tmps := #[.slice a L.length c, .int .i64 num, undef, undef, .int .i64 0, .pointer (some ⟨w.heap.size, 0, none⟩), .slice a L.length c, .int .i64 num, .func (.func 62) #[] #[.pointer (some ⟨w.heap.size + 1, 0, none⟩), .pointer (some ⟨w.heap.size + 1 + 1, 0, none⟩)], x.val, undef, undef, undef], defers := [] })
  ?hM ?assign ?body ?done ?stop
 case hM =>
  rintro pre x a' _ X Y row ⟨⟨hE, hgx⟩, hx, rfl⟩ hg hrow; exact ⟨⟨boxed_own _ _ (fun (_ : Unit) => _) () X Y row hE hg (fun r e => (hrow r e).2), grown_step hgx hg (fun k e => .inl (hrow k e).1)⟩, hx, rfl⟩
 case assign =>
  rintro l' pre x W hI hx
  gi_wp2
  exact ⟨KeepsOthers.refl _, ⟨fun h => h, rfl, rfl⟩, hI, hx, by simp⟩
 case body =>
  rintro l' pre x a' W ⟨⟨b0, hgx⟩, hpx, rfl⟩; have hpl : (pre.length : Int) + 1 ≤ 1000000 := by
   have h := hpx.length_le; rw [List.length_append, List.length_singleton] at h; omega
  have c0 := b0.cell; have f0 := b0.frozen; have hszW := hgx.size; have HB := Lib.hid (b0.set (.int .i64 ((pre.length : Int) + 1)))
  gi_wp2
  refine ⟨KeepsOthers.setCell _ _ _, ⟨fun h => hr.set_new h (Nat.le_refl _), Below.heap_setCell _ _ _ _ (by simp), Below.heap_setCell _ _ _ _ (by simp; omega)⟩, ?_, grown_step hgx (grownBy_setCell' W w.heap.size _) (fun k e => .inr (Option.some.inj e).symm)⟩; rw [List.length_append]; exact HB.out
 case done =>
  rintro D xs W hD rfl ⟨b0, hgx⟩ hK; have c0 := b0.cell; have hbW := hB0.grown hgx (by omega) (fun k e => by have := Option.some.inj e; omega); go_wp2; refine ⟨by simp, .inl ⟨_, _, rfl, run_takeDeferred hK, ?_⟩⟩; exact ⟨.int .i64 ((flC L num).length : Int), by simp [results, Tryz.results31, go_sem], rfl, hbW.trans (putObj_belowM _ W D _ (by omega))⟩
 case stop =>
  rintro D cc pre W hD hF hK; exact hF.elim
set_option maxHeartbeats 3200000 in
theorem mfirst_any (a : Option Addr) (c : Nat) (L : List FC) (num : Int) (hlen : L.length ≤ 1000000) (w : World) (hr : Rd w a (flat L)) :
  Calls Tryz.prog 66 #[.slice a L.length c, .int .i64 num] w fun e w' => e = .returned (fstC L num).val ∧ Below w.heap.size w w' := by
 refine (callsIn_wide (n := 5)).1 ?_; refine callsIn_of_wp_marks Tryz.func66 rfl trivial ?_ rfl; simp only [Tryz.ntmps66, List.size_toArray, List.length_cons, List.length_nil, Nat.reduceAdd, Nat.reduceSub, Array.replicate_succ, Array.replicate_zero, List.push_toArray, List.append_toArray, List.nil_append, List.cons_append]; refine wpIn_wide.2 ?_; have hz : (Tryz.prog.info? 72).map (fun i => i.zero) = some (some (.agg #[.int .i64 0, .int .i64 0, .int .u64 0, .slice none 0 0])) := by kernel_rfl
 have kR := Blk.new w [.int .i64 0, .int .i64 0, .int .u64 0, .slice none 0 0] 72; have hb0 := Below.new w (.cells #[.int .i64 0, .int .i64 0, .int .u64 0, .slice none 0 0] 72)
 go_wp2_with fail
 refine (callsIn_wide.1 (only_in 5 a L.length c num _)).mono ?_; rintro e w4 ⟨rfl, rfl⟩
 go_wp2_with fail
 have k0 := (kR.alloc (.cells #[.slice a L.length c] 68)).alloc (.cells #[.int .i64 num] 3); have k1 := (Boxed.new (w.alloc (.cells #[.int .i64 0, .int .i64 0, .int .u64 0, .slice none 0 0] 72)) 68 (.slice a L.length c)).alloc (.cells #[.int .i64 num] 3); have k2 := Boxed.new ((w.alloc (.cells #[.int .i64 0, .int .i64 0, .int .u64 0, .slice none 0 0] 72)).alloc (.cells #[.slice a L.length c] 68)) 3 (.int .i64 num); have hB0 := (hb0.alloc (by simp) (.cells #[.slice a L.length c] 68)).alloc (by simp; omega) (.cells #[.int .i64 num] 3); have hsz : (((w.alloc (.cells #[.int .i64 0, .int .i64 0, .int .u64 0, .slice none 0 0] 72)).alloc (.cells #[.slice a L.length c] 68)).alloc (.cells #[.int .i64 num] 3)).heap.size = w.heap.size + 1 + 1 + 1 := by simp
 simp only [World.size_alloc] at k1 k2; obtain ⟨W0, hW0⟩ : ∃ W, ((w.alloc (.cells #[.int .i64 0, .int .i64 0, .int .u64 0, .slice none 0 0] 72)).alloc (.cells #[.slice a L.length c] 68)).alloc (.cells #[.int .i64 num] 3) = W := ⟨_, rfl⟩; rw [hW0] at k0 k1 k2 hB0 hsz ⊢; clear hW0 kR hb0; have hra := hr.keep hB0; refine (wpIn_wide (n := 5)).1 ?_; refine wpIn_rangeFunc_leave rfl (by decide) (gf := 62) (lb := #[.pointer (some ⟨w.heap.size + 1, 0, none⟩), .pointer (some ⟨w.heap.size + 1 + 1, 0, none⟩)]) rfl trivial (enters_of Tryz.func62 (by kernel_rfl) rfl)
  (only_leave (5 - 1) (w.heap.size + 1) (w.heap.size + 1 + 1) a c L num hlen W0 hra (0, 0) (0, 0) k1 k2) KpF.trans (fun W l o o' hl h1 h2 => KpF.putObj (w := W0) (by omega) (by omega) W l o o' hl h1 h2) (Below.refl _ _) (fun _ => rfl)
  (fun (pre : List FC) W => pre = [] ∧ Below W0.heap.size W0 W)
  (fun cc (pre : List FC) W => (cc = Code.ret ∧ pre <+: flC L num ∧ pre.length = 1) ∧ Blk W w.heap.size (pre.headD ⟨Proto.Fld.zero, none, 0⟩).cells ∧ Below w.heap.size w W)
  (OwnFrom.and (ownFrom_pure _ _) (ownFrom_below (Nat.le_refl _) (Nat.le_refl _)))
  (fun cc => OwnFrom.and (ownFrom_pure _ (fun pre => cc = Code.ret ∧ pre <+: flC L num ∧ pre.length = 1)) (OwnFrom.and (blk_ownF _ _ (fun (pre : List FC) => (pre.headD ⟨Proto.Fld.zero, none, 0⟩).cells)) (ownFrom_below (Nat.le_refl _) (by omega)))) (ownFrom_pure _ _)
  ⟨rfl, Below.refl _ _⟩
  (fun (pre : List FC) (x : FC) a' W => (pre = [] ∧ Below W0.heap.size W0 W) ∧ pre ++ [x] <+: flC L num ∧ ∃ Bv, W0.heap.size ≤ Bv ∧ Blk W Bv x.cells ∧ a' = { tmps := #[.slice a L.length c, .int .i64 num, undef, undef, .pointer (some ⟨w.heap.size, 0, none⟩), .pointer (some ⟨Bv, 0, none⟩), .slice a L.length c, .int .i64 num, .func (.func 62) #[] #[.pointer (some ⟨w.heap.size + 1, 0, none⟩), .pointer (some ⟨w.heap.size + 1 + 1, 0, none⟩)], x.val, undef, undef], defers := [] })
  ?hM ?assign ?body ?done ?stop
 case hM =>
  rintro pre x a' _ X Y row ⟨⟨hp, hgx⟩, hx, Bv, hBv, bV, rfl⟩ hg hrow; exact ⟨⟨hp, ownFrom_below (β := Unit) (Nat.le_refl _) (Nat.le_refl _) () X Y row hgx hg hrow⟩, hx, Bv, hBv, blk_ownF (β := Unit) W0.heap.size Bv (fun _ => x.cells) () X Y row bV hg hrow, rfl⟩
 case assign =>
  rintro l' pre ⟨⟨fn, fk, fv, fb⟩, fp, fc⟩ W hI hx; dsimp only [FC.val]; have hs := hI.2.size; have HI := Lib.hid hI; clear hI
  gi_wp2
  exact ⟨KeepsOthers.alloc _ _, KpF.below (Below.new _ _) (by omega) (by omega), ⟨HI.out.1, HI.out.2.alloc hs _⟩, hx, W.heap.size, hs, Blk.new W [.int .i64 fn, .int .i64 fk, .int .u64 fv, .slice fp fb.length fc] 72, rfl⟩
 case body =>
  rintro l' pre ⟨⟨fn, fk, fv, fb⟩, fp, fc⟩ a' W ⟨⟨rfl, hgx⟩, hpx, Bv, hBv, bV, rfl⟩; have kR := k0.keep hgx; dsimp only [FC.cells, FC.val] at bV ⊢; have v0 := bV.cell 0 rfl; have v1 := bV.cell 1 rfl; have v2 := bV.cell 2 rfl; have v3 := bV.cell 3 rfl; have r0 := kR.cell 0 rfl; have r1 := kR.cell 1 rfl; have r2 := kR.cell 2 rfl; have r3 := kR.cell 3 rfl; have g0 := kR.free 0; have g1 := kR.free 1; have g2 := kR.free 2; have g3 := kR.free 3; have kS := ((((kR.set 0 (.int .i64 fn)).set 1 (.int .i64 fk)).set 2 (.int .u64 fv)).set 3 (.slice fp fb.length fc)); have hbS : Below w.heap.size w ((((W.setCell ⟨w.heap.size, 0, none⟩ (.int .i64 fn)).setCell ⟨w.heap.size, 1, none⟩ (.int .i64 fk)).setCell ⟨w.heap.size, 2, none⟩ (.int .u64 fv)).setCell ⟨w.heap.size, 3, none⟩ (.slice fp fb.length fc)) :=
   ((((hB0.trans (hgx.mono (by omega))).set_at (Nat.le_refl _) _).set_at (Nat.le_refl _) _).set_at (Nat.le_refl _) _).set_at (Nat.le_refl _) _
  gi_wp2
  exact ⟨(((KeepsOthers.setCell _ _ _).trans (KeepsOthers.setCell _ _ _)).trans (KeepsOthers.setCell _ _ _)).trans (KeepsOthers.setCell _ _ _), ⟨rfl, hpx, rfl⟩, kS, hbS⟩
 case done =>
  rintro D xs W hD rfl ⟨hp, hgx⟩ hK; have kR := k0.keep hgx; have r0 := kR.cell 0 rfl; have r1 := kR.cell 1 rfl; have r2 := kR.cell 2 rfl; have r3 := kR.cell 3 rfl; have g0 := kR.free 0; have g1 := kR.free 1; have g2 := kR.free 2; have g3 := kR.free 3; have hE : fstC L num = ⟨Proto.Fld.zero, none, 0⟩ := by unfold fstC; rw [hp]; rfl
  have HE := Lib.hid hE; have kS := ((((kR.set 0 (.int .i64 0)).set 1 (.int .i64 0)).set 2 (.int .u64 0)).set 3 (.slice none 0 0)); have hbS : Below w.heap.size w ((((W.setCell ⟨w.heap.size, 0, none⟩ (.int .i64 0)).setCell ⟨w.heap.size, 1, none⟩ (.int .i64 0)).setCell ⟨w.heap.size, 2, none⟩ (.int .u64 0)).setCell ⟨w.heap.size, 3, none⟩ (.slice none 0 0)) :=
   ((((hB0.trans (hgx.mono (by omega))).set_at (Nat.le_refl _) _).set_at (Nat.le_refl _) _).set_at (Nat.le_refl _) _).set_at (Nat.le_refl _) _
  have hKS : ((((W.setCell ⟨w.heap.size, 0, none⟩ (.int .i64 0)).setCell ⟨w.heap.size, 1, none⟩ (.int .i64 0)).setCell ⟨w.heap.size, 2, none⟩ (.int .u64 0)).setCell ⟨w.heap.size, 3, none⟩ (.slice none 0 0)).heap[D]? = some (.deferred (some [])) := by
   rw [Below.heap_setCell _ _ _ _ (by simp; omega), Below.heap_setCell _ _ _ _ (by simp; omega), Below.heap_setCell _ _ _ _ (by simp; omega), Below.heap_setCell _ _ _ _ (by simp; omega)]; exact hK
  clear hE hp; go_wp2; clear r0 r1 r2 r3 g0 g1 g2 g3; generalize (((W.setCell ⟨w.heap.size, 0, none⟩ (.int .i64 0)).setCell ⟨w.heap.size, 1, none⟩ (.int .i64 0)).setCell ⟨w.heap.size, 2, none⟩ (.int .u64 0)).setCell ⟨w.heap.size, 3, none⟩ (.slice none 0 0) = WF at *; refine ⟨by simp, .inl ⟨_, _, rfl, run_takeDeferred hKS, ?_⟩⟩; have kT := kS.grown (grownBy_putObj' WF D (.deferred none)) (fun e => by have := Option.some.inj e; omega); have r0 := kT.cell 0 rfl; have r1 := kT.cell 1 rfl; have r2 := kT.cell 2 rfl; have r3 := kT.cell 3 rfl; exact ⟨.agg #[.int .i64 0, .int .i64 0, .int .u64 0, .slice none 0 0], by simp [results, Tryz.results66, go_sem, r0, r1, r2, r3], by rw [HE.out]; rfl, hbS.trans (putObj_belowM _ WF D _ (by omega))⟩
 case stop =>
  rintro D cc pre W hD ⟨⟨rfl, h1, h2⟩, h3, h4⟩ hK; have hE : fstC L num = pre.headD ⟨Proto.Fld.zero, none, 0⟩ := by
   obtain ⟨t, ht⟩ := h1; unfold fstC; rw [← ht]
   cases pre with
   | nil => simp at h2
   | cons x l => rfl
  have HE := Lib.hid hE; generalize pre.headD ⟨Proto.Fld.zero, none, 0⟩ = x at *; obtain ⟨⟨fn, fk, fv, fb⟩, fp, fc⟩ := x; dsimp only [FC.cells, FC.val] at *; clear hE h1 h2
  gi_wp2
  refine ⟨by simp, .inl ⟨_, _, rfl, run_takeDeferred hK, ?_⟩⟩; have kT := h3.grown (grownBy_putObj' W D (.deferred none)) (fun e => by have := Option.some.inj e; omega); have r0 := kT.cell 0 rfl; have r1 := kT.cell 1 rfl; have r2 := kT.cell 2 rfl; have r3 := kT.cell 3 rfl; exact ⟨.agg #[.int .i64 fn, .int .i64 fk, .int .u64 fv, .slice fp fb.length fc], by simp [results, Tryz.results66, go_sem, r0, r1, r2, r3], by rw [HE.out]; rfl, h4.trans (putObj_belowM _ W D _ (by omega))⟩
end Go.Proofs.YtjggoajfilnfjaaGreat
namespace Go
open Go.RowKit
theorem prefix_at {α : Type} {l pre : List α} {x : α} (h : pre ++ [x] <+: l) : l[pre.length]? = some x := by
 obtain ⟨t, rfl⟩ := h; simp
def BxI (W0 : World) (T : Nat) (e : TypeId) (size : Nat) (mk : Value → List Value) (xs : List FC → List Value) (pre : List FC) (W : World) : Prop :=
 ∃ v, Blk W T (mk v) ∧ W.ownsRow W0.heap.size e size v pre.length (xs pre) ∧ W0.grownBy W (some T)
theorem BxI.own {W0 : World} {T : Nat} {e : TypeId} {size : Nat} {mk : Value → List Value} {xs : List FC → List Value} : OwnFrom W0.heap.size (BxI W0 T e size mk xs) := by
 intro pre X Y row hs hg hr; obtain ⟨v, h1, h2, h3⟩ := hs; refine ⟨v, blk_ownF (β := Unit) W0.heap.size T (fun _ => mk v) () X Y row h1 hg hr, h2.kept hg ?_, grown_step h3 hg (fun k e => .inl (hr k e).1)⟩
 rcases h2.2 with ⟨rfl, _⟩ | ⟨g, cap, cur, rfl, _, hgb, _⟩
 ·exact .inl rfl
 ·refine .inr fun e' => ?_; obtain ⟨o, ho, hc⟩ := (hr g (by simpa [Value.ownBlock] using e'.symm)).2; rw [hgb] at ho
  cases ho
  cases hc
theorem BxI.step {W0 W w3 : World} {T i : Nat} {e : TypeId} {size : Nat} {vs : List Value} {v v' : Value} {m k : Nat} {xs ys : List Value} {tmp : Obj}
  (hv : Blk W T vs) (hrow : W.ownsRow W0.heap.size e size v k xs) (hg0 : W0.grownBy W (some T)) (hT : T < W0.heap.size)
  (hown' : w3.ownsRow W0.heap.size e size v' m ys) (hgrow : (W.alloc tmp).grownBy w3 v.ownBlock) :
  Blk w3 T vs ∧ Blk (w3.setCell ⟨T, i, none⟩ v') T (vs.set i v') ∧ (w3.setCell ⟨T, i, none⟩ v').ownsRow W0.heap.size e size v' m ys ∧ KeepsOthers W (w3.setCell ⟨T, i, none⟩ v') ∧ W0.grownBy (w3.setCell ⟨T, i, none⟩ v') (some T) := by
 have h1 : Blk w3 T vs := (hv.alloc tmp).grown hgrow (hrow.ne hT); refine ⟨h1, h1.set i v', hown'.set_lt hT v', ?_, ?_⟩
 ·exact ((KeepsOthers.alloc W tmp).trans (KeepsOthers.of_row (hrow.alloc tmp) hgrow)).trans (KeepsOthers.setCell _ _ _)
 ·refine grown_step (grown_step (grown_step hg0 (World.grownBy_alloc W tmp none) (fun k h => by cases h)) hgrow (fun k h => .inl (hrow.lt k h).1)) (grown_set w3 T i v') (fun k h => by cases h; exact .inr rfl)
theorem KpF.of_grown {a : Option Addr} {L : List FC} {Bn Bm T : Nat} {W0 A B : World} (hA : W0.grownBy A (some T)) (hB : W0.grownBy B (some T)) (hr : Rd B a (flat L)) (hn : Bn < W0.heap.size) (hm : Bm < W0.heap.size) (h1 : Bn ≠ T) (h2 : Bm ≠ T) : KpF a L Bn Bm A B :=
 ⟨fun _ => hr, (hB.block Bn hn (fun e => h1 (Option.some.inj e))).trans (hA.block Bn hn (fun e => h1 (Option.some.inj e))).symm, (hB.block Bm hm (fun e => h2 (Option.some.inj e))).trans (hA.block Bm hm (fun e => h2 (Option.some.inj e))).symm⟩
end Go
