/-
  A map of keys to true, filled from a list: a set. The keys of this chapter's maps: points, two points, numbers, two numbers. A range over a function whose iterator promises something of the world at each call of yield, and of the world behind all rounds; the body may leave. rows.fields: the fields in which a box lies, as an iterator. append inside a region that draws its order: where the row lies behind it. The rows that a map's elements are: each of the call's own, no two of them in one block. The values of integers.
-/
import Derived.Test.YtccamjnomjcchaaPk4
import Derived.Test.YtccamjnomjcchaaProg
import Derived.Test.YtccamjnomjcchaaPk1
import Derived.DeepKeys4
import Derived.RangeFuncNested
import Derived.RangeFuncBound
import Derived.RangeFuncCalls
import Derived.RangeFuncLeaves
import Derived.WalkKit
import Derived.Shelf.Abstract
import Derived.Shelf.RegionOpen
import Derived.OwnWalkIn
import Derived.TacticsInMore
import Derived.LoopNIn
import Derived.LoopIn
import Derived.BigRegionIn
import Derived.Stop.RegionWithIn
import Derived.Test.YtccamjnomjcchaaPk2
import Derived.Maps.AppendAt
/- A map of keys to true, filled from a list: a set. -/
set_option linter.unusedVariables false
set_option linter.unusedSimpArgs false
namespace Go
open Go.RowKit
open Go.Maps (Keyed IsMap Tidy)

def setF {α : Type} [DecidableEq α] (l : List α) : α → Option Value := fun x => if x ∈ l then some (.bool true) else none

def VSet {α : Type} [DecidableEq α] (P : Program) (K : TypeId) (key : α → Value) (w : World) (b : Nat) (l : List α) : Prop :=
  ∃ m, VMap P K key w b (setF l) m l.length ∧ m ≤ l.length ∧ (m = l.length ↔ l.Nodup)

section
variable {α : Type} [DecidableEq α] {P : Program} {K E T : TypeId} {key : α → Value} {w w' : World} {b : Nat} {l : List α}
theorem setF_isSome (l : List α) (x : α) : (setF l x).isSome = decide (x ∈ l) := by unfold setF; split <;> simp_all
theorem setF_getD (l : List α) (x : α) : (setF l x).getD (.bool false) = .bool (decide (x ∈ l)) := by unfold setF; split <;> simp_all
theorem setF_nil : setF ([] : List α) = fun _ => none := by funext x; simp [setF]
theorem setF_put (l : List α) (a x : α) : setF (l ++ [a]) x = fput (setF l) a (.bool true) x := by
  unfold fput setF
  by_cases h : x = a
  · simp [h]
  · simp [h]
theorem VSet.made (P : Program) (K : TypeId) (key : α → Value) (w : World) (B : Nat) (hB : w.heap.size = B) : VSet P K key (w.alloc (.map #[] 0)) B ([] : List α) :=
  ⟨0, by rw [setF_nil]; exact VMap.madeB P K key w B hB, Nat.le_refl _, by simp⟩
theorem VSet.lt (h : VSet P K key w b l) : b < w.heap.size := by obtain ⟨m, h, _⟩ := h; exact h.lt
theorem VSet.keep (h : VSet P K key w b l) (hb : Below w.heap.size w w') : VSet P K key w' b l := by obtain ⟨m, h, r⟩ := h; exact ⟨m, h.keep hb, r⟩
theorem VSet.kept {row : Option Nat} (h : VSet P K key w b l) (hg : w.grownBy w' row) (hne : some b ≠ row) : VSet P K key w' b l := by obtain ⟨m, h, r⟩ := h; exact ⟨m, h.kept hg hne, r⟩
omit [DecidableEq α] in
theorem nodup_snoc (l : List α) (a : α) : (l ++ [a]).Nodup ↔ l.Nodup ∧ a ∉ l := by
  rw [List.nodup_append]; constructor
  · rintro ⟨h1, -, h3⟩; exact ⟨h1, fun h => h3 a h a (by simp) rfl⟩
  · rintro ⟨h1, h2⟩; exact ⟨h1, by simp, fun x hx y hy e => by simp at hy; subst hy; subst e; exact h2 hx⟩
end
section
variable {α : Type} [DecidableEq α] {P : Program} {K E T : TypeId} {key : α → Value} {b : Nat} {l : List α} (w : World) {ops : Array Oper} {rest : List Oper} {o : Oper} {a : Act} {Q : Exit → Act → World → Prop}
theorem wpList_vset_put (hg : o.guard = none) (mm x v : Operand) (hop : o.op = Op.mapUpdate T mm x v) (KK : Keyed P K) (inj : ∀ x y, key x = key y → x = y) (ht : P.underlying T = some (.map K E))
    (hm : a.eval mm = .map (some b)) (h : VSet P K key w b l) (hn : l.length < maxLen) (k : α) (hx : a.eval x = key k) (hk : ∃ l, keyOf P K (key k) = some l) (hv : a.eval v = .bool true)
    (hK : ∀ w', VSet P K key w' b (l ++ [k]) → w.grownBy w' (some b) → wpList P ops Q rest (a.put o.dst undef) w') :
    wpList P ops Q (o :: rest) a w := by
  obtain ⟨m, h, hle, hiff⟩ := h; refine wpList_vmap_put w hg mm x v hop KK inj ht hm h hn k hx hk _ hv fun w' h' hg' => hK w' ⟨if (setF l k).isSome then m else m + 1, ?_, ?_, ?_⟩ hg'
  · have := h'.congr (f' := setF (l ++ [k])) (setF_put l k); rw [List.length_append]; exact this
  · rw [List.length_append, List.length_singleton]; split <;> omega
  · rw [List.length_append, List.length_singleton, nodup_snoc, setF_isSome, ← hiff]
    by_cases hin : k ∈ l
    · simp only [hin, decide_true, if_true, not_true_eq_false, and_false, iff_false]; omega
    · simp only [hin, decide_false, Bool.false_eq_true, if_false, not_false_eq_true, and_true]; omega
theorem wpList_vset_look (hg : o.guard = none) (mm x : Operand) (hop : o.op = Op.lookup T mm x false) (KK : Keyed P K) (ht : P.underlying T = some (.map K E)) (hz : (zeroValue E).run P w = .ok (.bool false) w)
    (hm : a.eval mm = .map (some b)) (h : VSet P K key w b l) (k : α) (hx : a.eval x = key k) (hk : ∃ l, keyOf P K (key k) = some l) (r : Bool) (hr : decide (k ∈ l) = r)
    (hK : wpList P ops Q rest (a.put o.dst (.bool r)) w) :
    wpList P ops Q (o :: rest) a w := by
  obtain ⟨m, h, hle, hiff⟩ := h; exact wpList_vmap_look w hg mm x hop KK ht hz hm h k hx hk _ (by rw [setF_getD, hr]) hK
theorem wpList_vset_len (mm : Operand) (hop : o.op = Op.call { callee := Callee.builtin Builtin.len, args := #[mm], argTypes := #[T] }) (hg : o.guard = none) (ht : P.underlying T = some (.map K E))
    (hm : a.eval mm = .map (some b)) (h : VSet P K key w b l) (hK : ∀ m : Nat, m ≤ l.length → (m = l.length ↔ l.Nodup) → wpList P ops Q rest (a.put o.dst (.int .i64 m)) w) :
    wpList P ops Q (o :: rest) a w := by
  obtain ⟨m, h, hle, hiff⟩ := h; exact wpList_vmap_len w mm hop hg ht hm h (hK m hle hiff)
end
end Go
/- The keys of this chapter's maps: points, two points, numbers, two numbers. -/
set_option linter.unusedVariables false
set_option linter.unusedSimpArgs false
namespace Go
open Go.RowKit
def Pt.Wf (p : Pt) : Prop := (Lit.int .i64 p.x).wf = true ∧ (Lit.int .i64 p.y).wf = true
theorem Pt.inj (p q : Pt) (h : p.val = q.val) : p = q := by
  obtain ⟨a, b⟩ := p; obtain ⟨c, d⟩ := q; simp [Pt.val] at h; rw [h.1, h.2]
def Pt2.val (p : Pt × Pt) : Value := .agg #[.int .i64 p.1.x, .int .i64 p.1.y, .int .i64 p.2.x, .int .i64 p.2.y]
theorem Pt2.inj (p q : Pt × Pt) (h : Pt2.val p = Pt2.val q) : p = q := by
  obtain ⟨⟨a, b⟩, ⟨c, d⟩⟩ := p; obtain ⟨⟨e, f⟩, ⟨g, i⟩⟩ := q; simp [Pt2.val] at h; rw [h.1, h.2.1, h.2.2.1, h.2.2.2]
def In2.val (p : Int × Int) : Value := .agg #[.int .i64 p.1, .int .i64 p.2]
theorem In2.inj (p q : Int × Int) (h : In2.val p = In2.val q) : p = q := by
  obtain ⟨a, b⟩ := p; obtain ⟨c, d⟩ := q; simp [In2.val] at h; rw [h.1, h.2]
def In1.val (p : Int) : Value := .int .i64 p
theorem In1.inj (p q : Int) (h : In1.val p = In1.val q) : p = q := by simp [In1.val] at h; exact h
end Go
namespace Go.Proofs.Ytccamjnomjcchaa
open Go.RowKit
theorem k13.laidOut : laidOutB Try.prog = true := by kernel_rfl
theorem k13.pt : Maps.Keyed Try.prog 46 := Maps.Keyed.of_law (deep_law_laid k13.laidOut (m := 2) (by omega) (of_decide_eq_true (by kernel_rfl)) (by kernel_rfl) (by rw [Try.underlying46]))
theorem k13.pt2 : Maps.Keyed Try.prog 83 := Maps.Keyed.of_law (deep_law_laid k13.laidOut (m := 3) (by omega) (of_decide_eq_true (by kernel_rfl)) (by kernel_rfl) (by rw [Try.underlying83]))
theorem k13.in2 : Maps.Keyed Try.prog 110 := Maps.Keyed.of_law (deep_law_laid k13.laidOut (m := 2) (by omega) (of_decide_eq_true (by kernel_rfl)) (by kernel_rfl) (by rw [Try.underlying110]))
theorem k13.in1 : Maps.Keyed Try.prog 3 := Maps.int_keyed Try.underlying3
theorem k13.ptKey (p : Pt) (h : p.Wf) : ∃ l, keyOf Try.prog 46 p.val = some l := by
  have h1 : Try.prog.keyType 46 = true := by kernel_rfl
  have h2 : p.val.formed Try.prog 46 = true := by simp [Value.formed, Pt.val, Try.underlying46]; kernel_rfl
  unfold keyOf; rw [Try.underlying46]; simp only [h1, h2, Bool.and_self, if_true]; have h3 : ∃ n, Try.prog.types.size + 1 = n + 1 + 1 := ⟨Try.prog.types.size - 1, by kernel_rfl⟩; obtain ⟨n, hn⟩ := h3; have hc : Try.prog.cellsOf 46 = 2 := by kernel_rfl
  have hi : Try.prog.cellsOf 3 = 1 := by kernel_rfl
  rw [hn]; simp [Program.keyLits, Try.underlying46, Try.underlying3, hc, hi, Pt.val, Value.cells, h.1, h.2]
theorem k13.in1Key (p : Int) (h : (Lit.int .i64 p).wf = true) : ∃ l, keyOf Try.prog 3 (In1.val p) = some l := ⟨_, Maps.keyOf_int_mk Try.underlying3 h⟩
theorem k13.in2Key (p : Int × Int) (h1 : (Lit.int .i64 p.1).wf = true) (h2 : (Lit.int .i64 p.2).wf = true) : ∃ l, keyOf Try.prog 110 (In2.val p) = some l := by
  have k1 : Try.prog.keyType 110 = true := by kernel_rfl
  have k2 : (In2.val p).formed Try.prog 110 = true := by simp [Value.formed, In2.val, Try.underlying110]; kernel_rfl
  unfold keyOf; rw [Try.underlying110]; simp only [k1, k2, Bool.and_self, if_true]; have h3 : ∃ n, Try.prog.types.size + 1 = n + 1 + 1 := ⟨Try.prog.types.size - 1, by kernel_rfl⟩; obtain ⟨n, hn⟩ := h3; have hc : Try.prog.cellsOf 110 = 2 := by kernel_rfl
  have hi : Try.prog.cellsOf 3 = 1 := by kernel_rfl
  rw [hn]; simp [Program.keyLits, Try.underlying110, Try.underlying3, hc, hi, In2.val, Value.cells, h1, h2, List.range_succ]
theorem k13.pt2Key (p : Pt × Pt) (h1 : p.1.Wf) (h2 : p.2.Wf) : ∃ l, keyOf Try.prog 83 (Pt2.val p) = some l := by
  have k1 : Try.prog.keyType 83 = true := by kernel_rfl
  have k2 : (Pt2.val p).formed Try.prog 83 = true := by simp [Value.formed, Pt2.val, Try.underlying83]; kernel_rfl
  unfold keyOf; rw [Try.underlying83]; simp only [k1, k2, Bool.and_self, if_true]; have h3 : ∃ n, Try.prog.types.size + 1 = n + 1 + 1 + 1 := ⟨Try.prog.types.size - 2, by kernel_rfl⟩; obtain ⟨n, hn⟩ := h3; have hc : Try.prog.cellsOf 83 = 4 := by kernel_rfl
  have hp : Try.prog.cellsOf 46 = 2 := by kernel_rfl
  have hi : Try.prog.cellsOf 3 = 1 := by kernel_rfl
  rw [hn]; simp [Program.keyLits, Try.underlying83, Try.underlying46, Try.underlying3, hc, hp, hi, Pt2.val, Value.cells, h1.1, h1.2, h2.1, h2.2, List.range_succ]
end Go.Proofs.Ytccamjnomjcchaa
/- A range over a function whose iterator promises something of the world at each call of yield, and of the world behind all rounds; the body may leave. -/
namespace Go
open Go.RowKit

variable {F : Fence} {n : Nat} {P : Program}

def SeqLeave {α : Type} (F : Fence) (n : Nat) (P : Program) (g : Nat) (lb : Array Value) (encs : α → Array Value) (Ahead : List α → α → World → Prop) (Kp : World → World → Prop) (S : List α → World → Prop) (w : World) : Prop :=
  ∀ (l : Nat) (J Jx : List α → World → Prop) (W : World), Below w.heap.size w W → AbidesFrom W.heap.size J → AbidesFrom W.heap.size Jx →
    (∀ pre x W1, J pre W1 → Ahead pre x W1 → YieldAt F (n - 1) P l (encs x) W1 fun e W' => (e = .returned (.bool true) ∧ J (pre ++ [x]) W' ∧ Kp W1 W') ∨ (e = .returned (.bool false) ∧ Jx (pre ++ [x]) W')) →
    J [] W → CallsIn F n P g (#[.func (.yield l) #[] #[]] ++ lb) W fun e W' => (∃ v, e = .returned v) ∧ ((∃ xs, S xs W' ∧ J xs W') ∨ ∃ pre, Jx pre W')

def postLeave {α : Type} (Kp : World → World → Prop) (I : List α → World → Prop) (Ix : Code → List α → World → Prop) (xs : List α) (W : World) : Exit → Act → World → Prop
  | .normal, _, W' => KeepsOthers W W' ∧ Kp W W' ∧ I xs W'
  | .ret, _, W' => KeepsOthers W W' ∧ Ix .ret xs W'
  | .exit id, _, W' => KeepsOthers W W' ∧ Ix (.exit id) xs W'
  | .goto t, _, W' => KeepsOthers W W' ∧ Ix (.goto t) xs W'
  | _, _, _ => False

theorem wpIn_rangeFunc_leave {α : Type} {g : Operand} {ps : Array Tmp} {assign body : Code} {Q : Exit → Act → World → Prop} {a : Act} {w : World}
    (hro : F.round = none) (h1 : 1 ≤ n) {gf : Nat} {lb : Array Value} (hg : a.eval g = .func (.func gf) #[] lb) (hFg : F.fn gf) (eg : ∀ args w, (callFunc gf args).run P w = .ok (.enter gf args) w)
    {encs : α → Array Value} {Ahead : List α → α → World → Prop} {Kp : World → World → Prop} {S : List α → World → Prop} {w0 : World} (hseq : SeqLeave F (n - 1) P gf lb encs Ahead Kp S w0)
    (hKt : ∀ {A B C : World}, Kp A B → Kp B C → Kp A C) (hKb : ∀ (W : World) (l : Nat) (o o' : Obj), w.heap.size ≤ l → W.heap[l]? = some o → o.isCells = false → Kp W (W.putObj l o'))
    (hb0 : Below w0.heap.size w0 w) (hps : ∀ x, (encs x).size = ps.size)
    (I : List α → World → Prop) (Ix : Code → List α → World → Prop) (hI : OwnFrom w.heap.size I) (hIx : ∀ c, OwnFrom w.heap.size (Ix c)) (hS : OwnFrom w.heap.size S) (h0 : I [] w)
    (Mid : List α → α → Act → World → Prop) (hM : ∀ pre x a', OwnFrom w.heap.size (fun (_ : Unit) W => Mid pre x a' W))
    (hassign : ∀ (l : Nat) (pre : List α) (x : α) (W : World), I pre W → Ahead pre x W →
      assign.wpIn (F.inRound l) (n - 1 - 1) P (Exit.then (fun a' W' => KeepsOthers W W' ∧ Kp W W' ∧ Mid pre x a' W') (fun _ _ _ => False)) { tmps := (ps.zip (encs x)).foldl (fun t (p, v) => t.setIfInBounds p v) a.tmps, defers := [] } W)
    (hbody : ∀ (l : Nat) (pre : List α) (x : α) (a' : Act) (W : World), Mid pre x a' W → body.wpIn (F.inRound l) (n - 1 - 1) P (postLeave Kp I Ix (pre ++ [x]) W) a' W)
    (hdone : ∀ (D : Nat) (xs : List α) (W : World), w.heap.size ≤ D → S xs W → I xs W → W.heap[D]? = some (.deferred (some [])) → Q .normal { a with defers := { target := .collected D, args := #[] } :: a.defers } W)
    (hstop : ∀ (D : Nat) (c : Code) (pre : List α) (W : World), w.heap.size ≤ D → Ix c pre W → W.heap[D]? = some (.deferred (some [])) → c.wpIn F n P Q { a with defers := { target := .collected D, args := #[] } :: a.defers } W) :
    (Code.rangeFunc g ps assign body).wpIn F n P Q a w := by
  refine wpIn_rangeFunc fun fn hfn => ?_; rw [hro]
  -- the loop's record, block H + 1; the block for the rounds' deferred calls, block H
  obtain ⟨rec, hrec⟩ : ∃ rec : LoopState → Option Code → Loop, rec = fun st pe => { state := st, pending := pe, fn, tmps := a.tmps, params := ps, assign, body, defers := w.heap.size } := ⟨_, rfl⟩; obtain ⟨W1, hW1⟩ : ∃ W1, (w.alloc (.deferred (some []))).alloc (.loop (rec .ready none)) = W1 := ⟨_, rfl⟩; have hs1 : W1.heap.size = w.heap.size + 2 := by rw [← hW1]; simp
  have hL1 : W1.heap[w.heap.size + 1]? = some (.loop (rec .ready none)) := by
    rw [← hW1]; have := World.alloc_heap_new (w.alloc (.deferred (some []))) (.loop (rec .ready none)); rwa [World.size_alloc] at this
  have hD1 : W1.heap[w.heap.size]? = some (.deferred (some [])) := by
    rw [← hW1]; exact (Below.heap_alloc _ _ _ (by simp)).trans (World.alloc_heap_new w _)
  have hI1 : I [] W1 := by rw [← hW1]; exact hI.alloc _ (hI.alloc _ h0)
  have hb1 : Below w0.heap.size w0 W1 := by
    rw [← hW1]; exact hb0.trans ((((Below.refl _ w).alloc (Nat.le_refl _) _).alloc (by simp) _).mono hb0.size)
  refine ⟨w.heap.size + 1, [{ target := .collected w.heap.size, args := #[] }], W1, { target := .fn (.func gf) lb, args := #[.func (.yield (w.heap.size + 1)) #[] #[]] }, W1, gf,
    #[.func (.yield (w.heap.size + 1)) #[] #[]] ++ lb, W1, ?_, ?_, ?_, ?_, fun _ => h1, ?_⟩
  · rw [← hW1, hrec]; exact run_enterLoop_outer _ _ _ _ _
  · simp only [resolve, hg]; simp [go_sem]
  · intro f' hf'; simp [Target.leads] at hf'; subst hf'; exact hFg
  · simp [invoke, go_sem, eg]
  · have hnw : ∀ {A B : World} {row : Option Nat}, (∀ r, row = some r → W1.heap.size ≤ r ∧ ∃ o : Obj, A.heap[r]? = some o ∧ o.isWalk = true) → (∀ r, row = some r → w.heap.size ≤ r ∧ ∃ o : Obj, A.heap[r]? = some o ∧ o.isCells = false) :=
      fun hr r e => by obtain ⟨hB, o, ho, hw⟩ := hr r e; exact ⟨by omega, o, ho, Obj.not_cells_of_walk hw⟩
    refine (hseq (w.heap.size + 1) (fun pre W => I pre W ∧ W.heap[w.heap.size + 1]? = some (.loop (rec .ready none)) ∧ W.heap[w.heap.size]? = some (.deferred (some [])))
      (fun pre W => ∃ c, Ix c pre W ∧ W.heap[w.heap.size + 1]? = some (.loop (rec .done (some c))) ∧ W.heap[w.heap.size]? = some (.deferred (some []))) W1 hb1
      (fun s A B row hs hg' hr => ⟨hI s A B row hs.1 hg' (hnw (B := B) hr), (grownBy_keeps hg' (fun r e => (hr r e).2) hs.2.1 rfl).trans hs.2.1, (grownBy_keeps hg' (fun r e => (hr r e).2) hs.2.2 rfl).trans hs.2.2⟩)
      (fun s A B row hs hg' hr => by
        obtain ⟨c, hc, hl, hk⟩ := hs; exact ⟨c, hIx c s A B row hc hg' (hnw (B := B) hr), (grownBy_keeps hg' (fun r e => (hr r e).2) hl rfl).trans hl, (grownBy_keeps hg' (fun r e => (hr r e).2) hk rfl).trans hk⟩)
      ?_ ⟨hI1, hL1, hD1⟩).mono ?_
    · rintro pre x W ⟨hi, hl, hd⟩ hah; have hy := run_yield (P := P) (args := encs x) hl (by rw [hrec]; exact hps x); rw [hrec] at hy; refine ⟨fn, _, assign, body, hy, roundIn_of_wpIn hfn (wpIn_mono (hassign _ pre x W hi hah) ?_)⟩; rintro e a' Wa hp
      cases e with
      | normal =>
        obtain ⟨hka, hkpa, hm⟩ := hp; have hla := hka.same _ _ hl rfl; have hda := hka.same _ _ hd rfl; have hlt : w.heap.size + 1 < Wa.heap.size := (Array.getElem?_eq_some_iff.1 hla).1; refine ⟨_, run_beginRound hla (by rw [hrec]), ?_⟩; refine wpIn_mono (hbody _ pre x a' _ ((hM pre x a').putObj (s := ()) _ hm (by omega) hla rfl)) ?_; have hl2 : (Wa.putObj (w.heap.size + 1) (.loop { rec .ready none with state := .busy })).heap[w.heap.size + 1]? = some (.loop { rec .ready none with state := .busy }) := World.putObj_heap_same hlt; have hd2 : (Wa.putObj (w.heap.size + 1) (.loop { rec .ready none with state := .busy })).heap[w.heap.size]? = some (.deferred (some [])) := (World.putObj_heap_other (by omega)).trans hda; have hw2 : Kp Wa (Wa.putObj (w.heap.size + 1) (.loop { rec .ready none with state := .busy })) := hKb _ _ _ _ (by omega) hla rfl; have fin : ∀ (jump : Option Code) (W3 : World), KeepsOthers (Wa.putObj (w.heap.size + 1) (.loop { rec .ready none with state := .busy })) W3 →
            (Instr.endRound (w.heap.size + 1) jump).run P W3 = .ok (.bool jump.isNone) (W3.putObj (w.heap.size + 1) (.loop (rec (if jump.isNone then .ready else .done) jump))) ∧
            W3.heap[w.heap.size + 1]? = some (.loop { rec .ready none with state := .busy }) ∧
            (W3.putObj (w.heap.size + 1) (.loop (rec (if jump.isNone then .ready else .done) jump))).heap[w.heap.size + 1]? = some (.loop (rec (if jump.isNone then .ready else .done) jump)) ∧
            (W3.putObj (w.heap.size + 1) (.loop (rec (if jump.isNone then .ready else .done) jump))).heap[w.heap.size]? = some (.deferred (some [])) := fun jump W3 hk3 => by
          have hl3 := hk3.same _ _ hl2 rfl; have := run_endRound (P := P) jump hl3; rw [hrec] at this ⊢; exact ⟨this, by rw [hrec] at hl3; exact hl3, World.putObj_heap_same (Array.getElem?_eq_some_iff.1 hl3).1, (World.putObj_heap_other (by omega)).trans (hk3.same _ _ hd2 rfl)⟩
        rintro e a3 W3 hp3
        cases e with
        | normal =>
          obtain ⟨hk3, hkp3, hi3⟩ := hp3; obtain ⟨hr, hl3, hl4, hk4⟩ := fin none W3 hk3; exact ⟨_, _, hr, .inl ⟨rfl, ⟨hI.putObj _ hi3 (by omega) hl3 rfl, hl4, hk4⟩, hKt hkpa (hKt hw2 (hKt hkp3 (hKb _ _ _ _ (by omega) hl3 rfl)))⟩⟩
        | ret =>
          obtain ⟨hk3, hi3⟩ := hp3; obtain ⟨hr, hl3, hl4, hk4⟩ := fin (some .ret) W3 hk3; exact ⟨_, _, hr, .inr ⟨rfl, .ret, (hIx _).putObj _ hi3 (by omega) hl3 rfl, hl4, hk4⟩⟩
        | exit id =>
          obtain ⟨hk3, hi3⟩ := hp3; obtain ⟨hr, hl3, hl4, hk4⟩ := fin (some (.exit id)) W3 hk3; exact ⟨_, _, hr, .inr ⟨rfl, .exit id, (hIx _).putObj _ hi3 (by omega) hl3 rfl, hl4, hk4⟩⟩
        | goto t =>
          obtain ⟨hk3, hi3⟩ := hp3; obtain ⟨hr, hl3, hl4, hk4⟩ := fin (some (.goto t)) W3 hk3; exact ⟨_, _, hr, .inr ⟨rfl, .goto t, (hIx _).putObj _ hi3 (by omega) hl3 rfl, hl4, hk4⟩⟩
        | panic ch => exact hp3.elim
        | outgrown => exact hp3.elim
      | ret => exact hp.elim
      | exit id => exact hp.elim
      | goto t => exact hp.elim
      | panic ch => exact hp.elim
      | outgrown => exact hp.elim
    · rintro e W2 ⟨⟨v, rfl⟩, (⟨xs, hSx, hi, hl, hd⟩ | ⟨pre, c, hi, hl, hd⟩)⟩
      · have hel := run_endLoop (P := P) hl (by rw [hrec]; simp); rw [hrec] at hel; refine ⟨none, _, hel, hdone _ xs _ (Nat.le_refl _) (hS.putObj _ hSx (by omega) hl rfl) (hI.putObj _ hi (by omega) hl rfl) ((World.putObj_heap_other (by omega)).trans hd)⟩
      · have hel := run_endLoop (P := P) hl (by rw [hrec]; simp); rw [hrec] at hel; refine ⟨some c, _, hel, hstop _ c pre _ (Nat.le_refl _) ((hIx c).putObj _ hi (by omega) hl rfl) ((World.putObj_heap_other (by omega)).trans hd)⟩
end Go
/- rows.fields: the fields in which a box lies, as an iterator. -/
set_option linter.unusedVariables false
set_option linter.unusedSimpArgs false
set_option maxRecDepth 100000
namespace Go
open Go.RowKit
def colF (X C : Int) (n : Nat) : List (Int × Int) := (List.range n).map fun (j : Nat) => (X, C + (j : Int))
def colsF (A C : Int) (cy n : Nat) : List (Int × Int) := (List.range n).flatMap fun (i : Nat) => colF (A + (i : Int)) C cy
def Bx.cx (b : Bx) : Nat := (b.hi.x / 256 - b.lo.x / 256 + 1).toNat
def Bx.cy (b : Bx) : Nat := (b.hi.y / 256 - b.lo.y / 256 + 1).toNat
def fieldsL (b : Bx) : List (Int × Int) := colsF (b.lo.x / 256) (b.lo.y / 256) b.cy b.cx
theorem colF_succ (X C : Int) (n : Nat) : colF X C (n + 1) = colF X C n ++ [(X, C + (n : Int))] := by simp [colF, List.range_succ]
theorem colsF_succ (A C : Int) (cy n : Nat) : colsF A C cy (n + 1) = colsF A C cy n ++ colF (A + (n : Int)) C cy := by simp [colsF, List.range_succ, List.flatMap_append]
theorem colF_pre (X C : Int) {n m : Nat} (h : n ≤ m) : colF X C n <+: colF X C m := by
  induction m with
  | zero => obtain rfl : n = 0 := by omega
            exact List.prefix_refl _
  | succ m ih =>
    by_cases e : n = m + 1
    · rw [e]; exact List.prefix_refl _
    · rw [colF_succ]; exact (ih (by omega)).trans (List.prefix_append _ _)
theorem colsF_pre (A C : Int) (cy : Nat) {n m : Nat} (h : n ≤ m) : colsF A C cy n <+: colsF A C cy m := by
  induction m with
  | zero => obtain rfl : n = 0 := by omega
            exact List.prefix_refl _
  | succ m ih =>
    by_cases e : n = m + 1
    · rw [e]; exact List.prefix_refl _
    · rw [colsF_succ]; exact (ih (by omega)).trans (List.prefix_append _ _)
theorem fields_ahead' (A C : Int) (cx cy i j : Nat) (hi : i < cx) (hj : j < cy) :
    (colsF A C cy i ++ colF (A + (i : Int)) C j) ++ [(A + (i : Int), C + (j : Int))] = colsF A C cy i ++ colF (A + (i : Int)) C (j + 1) ∧
    (colsF A C cy i ++ colF (A + (i : Int)) C j) ++ [(A + (i : Int), C + (j : Int))] <+: colsF A C cy cx := by
  have e : (colsF A C cy i ++ colF (A + (i : Int)) C j) ++ [(A + (i : Int), C + (j : Int))] = colsF A C cy i ++ colF (A + (i : Int)) C (j + 1) := by rw [colF_succ]; simp
  refine ⟨e, ?_⟩; rw [e]; refine List.IsPrefix.trans ?_ (colsF_pre A C cy (show i + 1 ≤ cx by omega)); rw [colsF_succ]; exact (List.prefix_append_right_inj _).2 (colF_pre _ _ (by omega))
end Go
namespace Go.Proofs.Ytccamjnomjcchaa
open Go.RowKit
attribute [local go_sem] Oper.semAt_some

set_option maxHeartbeats 3200000 in
theorem fields1_in (n : Nat) (l Bn : Nat) (b : Bx) (hb : b.Ok) (J : List (Int × Int) → World → Prop) (W : World) (hJ : AbidesFrom W.heap.size J) (fr : Nat × Nat) (hBn : W.heap[Bn]? = some (.cells #[.int .i64 b.lo.x, .int .i64 b.lo.y, .int .i64 b.hi.x, .int .i64 b.hi.y] 104 fr))
    (hY : ∀ pre x W1, J pre W1 → pre ++ [x] <+: fieldsL b → YieldAt Fence.wide (n - 1) Try.prog l #[In2.val x] W1 fun e W' => e = .returned (.bool true) ∧ J (pre ++ [x]) W' ∧ W'.heap[Bn]? = W1.heap[Bn]?)
    (h0 : J [] W) :
    CallsIn Fence.wide n Try.prog 106 #[.func (.yield l) #[] #[], .pointer (some ⟨Bn, 0, none⟩)] W fun e W' => (∃ v, e = .returned v) ∧ ∃ xs, xs = fieldsL b ∧ J xs W' := by
  refine callsIn_of_wp Try.func106 rfl trivial ?_ rfl; simp only [Try.ntmps106, List.size_toArray, List.length_cons, List.length_nil, Nat.reduceAdd, Nat.reduceSub, Array.replicate_succ, Array.replicate_zero, List.push_toArray, List.append_toArray, List.nil_append, List.cons_append]; obtain ⟨⟨lx, ly⟩, ⟨hx, hy⟩⟩ := b; obtain ⟨g1, g2, g3, g4⟩ := hb; rw [okPt_iff] at g1 g2; dsimp only at *; obtain ⟨CX, hCX⟩ : ∃ c, Bx.cx ⟨⟨lx, ly⟩, ⟨hx, hy⟩⟩ = c := ⟨_, rfl⟩; obtain ⟨CY, hCY⟩ : ∃ c, Bx.cy ⟨⟨lx, ly⟩, ⟨hx, hy⟩⟩ = c := ⟨_, rfl⟩; obtain ⟨A, hA⟩ : ∃ z, lx / 256 = z := ⟨_, rfl⟩; obtain ⟨B, hB⟩ : ∃ z, hx / 256 = z := ⟨_, rfl⟩; obtain ⟨C, hC⟩ : ∃ z, ly / 256 = z := ⟨_, rfl⟩; obtain ⟨D, hD⟩ : ∃ z, hy / 256 = z := ⟨_, rfl⟩; have hFL : fieldsL ⟨⟨lx, ly⟩, ⟨hx, hy⟩⟩ = colsF A C CY CX := by unfold fieldsL; rw [hCX, hCY]; dsimp only; rw [hA, hC]
  have hcx : (CX : Int) = B - A + 1 := by rw [← hCX]; simp only [Bx.cx]; rw [hA, hB]; omega
  have hcy : (CY : Int) = D - C + 1 := by rw [← hCY]; simp only [Bx.cy]; rw [hC, hD]; omega
  have hbd : -65537 ≤ A ∧ A ≤ B ∧ B ≤ 65537 ∧ -65537 ≤ C ∧ C ≤ D ∧ D ≤ 65537 := by omega
  rw [hFL] at hY ⊢; have HY := Lib.hid hY; have HJ := Lib.hid hJ; have HAH := Lib.hid (fun i j => fields_ahead' A C CX CY i j); have HSU := Lib.hid (fun i => colsF_succ A C CY i); have c0 : W.cell? ⟨Bn, 0, none⟩ = some (.int .i64 lx) := by simp [World.cell?, hBn]
  have c1 : W.cell? ⟨Bn, 1, none⟩ = some (.int .i64 ly) := by simp [World.cell?, hBn]
  have c2 : W.cell? ⟨Bn, 2, none⟩ = some (.int .i64 hx) := by simp [World.cell?, hBn]
  have c3 : W.cell? ⟨Bn, 3, none⟩ = some (.int .i64 hy) := by simp [World.cell?, hBn]
  have HB := Lib.hid hBn; clear hY hJ hCX hCY hFL g1 g2 g3 g4
  gi_wp2
  clear c0 c1 c2 c3
  gi_loopw [3] (fun i wr => ∃ k : Nat, i = .int .i64 (A + (k : Int)) ∧ k ≤ CX ∧ J (colsF A C CY k) wr ∧ Hid (wr.heap[Bn]? = some (.cells #[.int .i64 lx, .int .i64 ly, .int .i64 hx, .int .i64 hy] 104 fr))) (fun i _ => (B + 1 - intOf i).toNat)
  case atStart => exact ⟨0, by simp, Nat.zero_le _, by simpa [colsF] using h0, HB⟩
  case round =>
    obtain ⟨i, rfl, hi, hj, hBn⟩ := hrel; have c0 : wr.cell? ⟨Bn, 0, none⟩ = some (.int .i64 lx) := by simp [World.cell?, hBn.out]
    have c1 : wr.cell? ⟨Bn, 1, none⟩ = some (.int .i64 ly) := by simp [World.cell?, hBn.out]
    have c2 : wr.cell? ⟨Bn, 2, none⟩ = some (.int .i64 hx) := by simp [World.cell?, hBn.out]
    have c3 : wr.cell? ⟨Bn, 3, none⟩ = some (.int .i64 hy) := by simp [World.cell?, hBn.out]
    by_cases hlt : i < CX
    · have hlt' : A + (i : Int) ≤ B := by omega
      gi_wp2
      clear c0 c1 c2 c3
      gi_loopw [4] (fun j wr => ∃ k : Nat, j = .int .i64 (C + (k : Int)) ∧ k ≤ CY ∧ J (colsF A C CY i ++ colF (A + (i : Int)) C k) wr ∧ Hid (wr.heap[Bn]? = some (.cells #[.int .i64 lx, .int .i64 ly, .int .i64 hx, .int .i64 hy] 104 fr))) (fun j _ => (D + 1 - intOf j).toNat)
      case atStart => exact ⟨0, by simp, Nat.zero_le _, by simpa [colF] using hj, hBn⟩
      case round =>
        obtain ⟨j, rfl, hjj, hj2, hBn2⟩ := hrel; have c0 : wr.cell? ⟨Bn, 0, none⟩ = some (.int .i64 lx) := by simp [World.cell?, hBn2.out]
        have c1 : wr.cell? ⟨Bn, 1, none⟩ = some (.int .i64 ly) := by simp [World.cell?, hBn2.out]
        have c2 : wr.cell? ⟨Bn, 2, none⟩ = some (.int .i64 hx) := by simp [World.cell?, hBn2.out]
        have c3 : wr.cell? ⟨Bn, 3, none⟩ = some (.int .i64 hy) := by simp [World.cell?, hBn2.out]
        by_cases hjt : j < CY
        · have hjt' : C + (j : Int) ≤ D := by omega
          obtain ⟨HSN, HPX⟩ := HAH.out i j hlt hjt; have hyy := HY.out _ (A + (i : Int), C + (j : Int)) wr hj2 HPX; rw [HSN] at hyy; dsimp only [In2.val] at hyy; obtain ⟨fn, tmps, assign, body, hy, hR⟩ := hyy; have HRR := Lib.hid hR; have hwi : IntKind.i64.wrap (C + (j : Int) + 1) = C + (j : Int) + 1 := IntWalk.i64_in _ (by omega); clear hR hj2 HSN HPX
          gi_wp2
          refine ⟨(fun h => by cases h), HRR.out.mono ?_⟩; rintro e W3 ⟨rfl, hJ3, hk3⟩; have hBn3 := Lib.hid (hk3.trans hBn2.out); clear c0 c1 c2 c3 hk3 HRR
          gi_wp2
          go_roundw
          case rel => exact ⟨j + 1, by congr 1; push_cast; omega, by omega, hJ3, hBn3⟩
          case measure => simp only [intOf]; omega
        · have hjt' : ¬ (C + (j : Int) ≤ D) := by omega
          obtain rfl : j = CY := by omega
          rw [← HSU.out] at hj2; have hwi : IntKind.i64.wrap (A + (i : Int) + 1) = A + (i : Int) + 1 := IntWalk.i64_in _ (by omega)
          gi_wp2
          go_roundw
          case rel => exact ⟨i + 1, by congr 1; push_cast; omega, by omega, hj2, hBn2⟩
          case measure => simp only [intOf]; omega
    · have hlt' : ¬ (A + (i : Int) ≤ B) := by omega
      obtain rfl : i = CX := by omega
      gi_wp2
      go_end0
      first
        | exact ⟨⟨_, rfl⟩, hj⟩
        | exact hj
        | exact ⟨⟨_, rfl⟩, _, rfl, hj⟩
theorem fields_in (n : Nat) (b : Bx) (w : World) :
    CallsIn Fence.wide n Try.prog 86 #[b.val] w fun e w' => e = .returned (.func (.func 106) #[] #[.pointer (some ⟨w.heap.size, 0, none⟩)]) ∧ w' = w.alloc (.cells #[.int .i64 b.lo.x, .int .i64 b.lo.y, .int .i64 b.hi.x, .int .i64 b.hi.y] 104) := by
  refine callsIn_of_wp Try.func86 rfl trivial ?_ rfl; simp only [Try.ntmps86, List.size_toArray, List.length_cons, List.length_nil, Nat.reduceAdd, Nat.reduceSub, Array.replicate_succ, Array.replicate_zero, List.push_toArray, List.append_toArray, List.nil_append, List.cons_append, Bx.val]
  gi_wp2
  go_ret; exact ⟨rfl, rfl⟩
theorem fields_ahead (n : Nat) (Bn : Nat) (b : Bx) (hb : b.Ok) (W0 : World) (fr : Nat × Nat) (hBn : W0.heap[Bn]? = some (.cells #[.int .i64 b.lo.x, .int .i64 b.lo.y, .int .i64 b.hi.x, .int .i64 b.hi.y] 104 fr)) :
    SeqAhead Fence.wide n Try.prog 106 #[.pointer (some ⟨Bn, 0, none⟩)] (fun x : Int × Int => #[In2.val x]) (fun pre x _ => pre ++ [x] <+: fieldsL b) (fun A B => B.heap[Bn]? = A.heap[Bn]?) (fun xs _ => xs = fieldsL b) W0 := by
  intro l J W hb0 hJ hY h0; exact fields1_in n l Bn b hb J W hJ fr ((hb0.block Bn (Array.getElem?_eq_some_iff.1 hBn).1).trans hBn) hY h0
end Go.Proofs.Ytccamjnomjcchaa
/- append inside a region that draws its order: where the row lies behind it. -/
/- append inside a region that draws its order. -/
namespace Go
open Go.RowKit

theorem wp_app {P : Program} {w : World} {o : Oper} {a : Act} {K : Act → World → Prop} {Q : Exit → Act → World → Prop} (s x : Operand) (t : TypeId)
    (ho : o.op = .call { callee := .builtin .append, args := #[s, x], argTypes := #[t, t] })
    (base : Nat) (e : TypeId) (z : Value) (size bytes : Nat) (ht : P.underlying t = some (.slice e)) (hinfo : (P.info? e).map (fun i => (i.zero, i.size, i.bytes)) = some (some z, size, bytes))
    (hzs : z.cells.size = size) (hsz : 0 < size)
    (v : Value) (n : Nat) (xs : List Value) (hs : a.eval s = v) (hown : w.ownsRow base e size v n xs)
    (ax : Option Addr) (m c : Nat) (vs : List Value) (hx : a.eval x = .slice ax m c) (hc0 : ax = none → c = 0) (hvs : Rd w ax vs) (hl : vs.length = m * size) (h1 : ∀ u ∈ vs, u.oneCell' = true)
    (hbytes : (n + m) * bytes ≤ 140737488355328) (hb1 : 0 < bytes) (hbase : base ≤ w.heap.size)
    (h : ∀ v' w', w'.ownsRow base e size v' (n + m) (xs ++ vs) → w.grownBy w' v.ownBlock → K (a.put o.dst v') w') : o.wp P a w K Q := by
  obtain ⟨i, hi, hz, hsize, hby⟩ := info_parts hinfo; have h63 : n + m ≤ maxLen := by
    have : (n + m) * 1 ≤ (n + m) * bytes := Nat.mul_le_mul_left _ hb1; unfold maxLen; omega
  cases ax with
  | none =>
    have hv0 : vs = [] := by
      rcases hvs with h | ⟨_, _, h, _⟩
      · exact h
      · cases h
    subst hv0; have hm : m = 0 := by
      have : m * size = 0 := by simpa using hl.symm
      rcases Nat.mul_eq_zero.1 this with h | h <;> omega
    subst hm; obtain rfl := hc0 rfl; have hrun := run_append_owned_none (P := P) (w := w) base t o.type e i size ht hi v n xs hown; unfold Oper.wp; simp [execOp, ho, resolve, invoke, builtin, hs, hx, hrun, Result.andThen]; exact h v w (by simpa using hown) (World.grownBy.refl _ _)
  | some ad =>
    refine wp_append_own w s x t ho base e i z size bytes ht hi hz hsize hby hzs hsz v n xs hs hown ad m c vs hx hl hvs.add h1 h63 hbytes hbase ?_; intro v' w' h2 h3 _; exact h v' w' h2 h3

theorem txt_app {P : Program} {ops : Array Oper} {lt : Nat → Bool} {Q : Exit → Act → World → Prop} {S : World → Prop} {zz : Option Nat} {k : Nat} {rest : List Oper} {a : Act} {w : World} {o : Oper} (w0 : World) (hb : Below w0.heap.size w0 w) (hlt : lt k = false) (hgd : o.guard = none) (s x : Operand) (t : TypeId)
    (ho : o.op = .call { callee := .builtin .append, args := #[s, x], argTypes := #[t, t] })
    (e : TypeId) (z : Value) (size bytes : Nat) (ht : P.underlying t = some (.slice e)) (hinfo : (P.info? e).map (fun i => (i.zero, i.size, i.bytes)) = some (some z, size, bytes))
    (hzs : z.cells.size = size) (hsz : 0 < size)
    (v : Value) (n : Nat) (xs : List Value) (hs : a.eval s = v) (hown : w.ownsRow w0.heap.size e size v n xs)
    (ax : Option Addr) (m c : Nat) (vs : List Value) (hx : a.eval x = .slice ax m c) (hc0 : ax = none → c = 0) (hvs : Rd w ax vs) (hl : vs.length = m * size) (h1 : ∀ u ∈ vs, u.oneCell' = true)
    (hbytes : (n + m) * bytes ≤ 140737488355328) (hb1 : 0 < bytes)
    (h : ∀ v' w', w'.ownsRow w0.heap.size e size v' (n + m) (xs ++ vs) → w.grownBy w' v.ownBlock → Below w0.heap.size w0 w' → S w' ∧ wpTxtL P ops lt Q S zz (k + 1) rest (a.put o.dst v') w') :
    wpTxtL P ops lt Q S zz k (o :: rest) a w := by
  have hw : Region.wanted o (yielded ops a.tmps) = true := by simp [Region.wanted, hgd]
  refine txt_heavy hlt hw (fun K hK => ?_); refine wp_app s x t ho w0.heap.size e z size bytes ht hinfo hzs hsz v n xs hs hown ax m c vs hx hc0 hvs hl h1 hbytes hb1 hb.size ?_; intro v' w' h2 h3; have := h v' w' h2 h3 (hb.grown h3 hb.size (fun k hk => (hown.lt k hk).1)); exact hK.out _ _ this.1 this.2
end Go
set_option linter.unusedVariables false
set_option linter.unusedSimpArgs false
namespace Go
open Go.RowKit
theorem wp_app_at {P : Program} {w : World} {o : Oper} {a : Act} {K : Act → World → Prop} {Q : Exit → Act → World → Prop} (s x : Operand) (t : TypeId)
    (ho : o.op = .call { callee := .builtin .append, args := #[s, x], argTypes := #[t, t] })
    (base : Nat) (e : TypeId) (z : Value) (size bytes : Nat) (ht : P.underlying t = some (.slice e)) (hinfo : (P.info? e).map (fun i => (i.zero, i.size, i.bytes)) = some (some z, size, bytes))
    (hzs : z.cells.size = size) (hsz : 0 < size)
    (v : Value) (n : Nat) (xs : List Value) (hs : a.eval s = v) (hown : w.ownsRow base e size v n xs)
    (ad : Addr) (m c : Nat) (vs : List Value) (hx : a.eval x = .slice (some ad) m c) (hvs : Rd w (some ad) vs) (hl : vs.length = m * size) (h1 : ∀ u ∈ vs, u.oneCell' = true)
    (hbytes : (n + m) * bytes ≤ 140737488355328) (hb1 : 0 < bytes) (hbase : base ≤ w.heap.size)
    (h : ∀ v' w', w'.ownsRow base e size v' (n + m) (xs ++ vs) → w.grownBy w' v.ownBlock → (v'.ownBlock = v.ownBlock ∨ v'.ownBlock = some w.heap.size) → K (a.put o.dst v') w') : o.wp P a w K Q := by
  obtain ⟨i, hi, hz, hsize, hby⟩ := info_parts hinfo; have h63 : n + m ≤ maxLen := by
    have : (n + m) * 1 ≤ (n + m) * bytes := Nat.mul_le_mul_left _ hb1; unfold maxLen; omega
  obtain ⟨v', w', hr, h2, h3, h4, h5⟩ := run_append_own_at (P := P) w base t o.type e i z size bytes ht hi hz hsize hby hzs hsz v n xs hown ad m c vs hl hvs.add h1 h63 hbytes hbase; unfold Oper.wp execOp; simp only [ho, resolve, invoke, builtin, Sem.run_bind, Sem.run_pure, Result.andThen_ok, List.map_toArray, List.map_cons, List.map_nil, hs, hx, hr]; exact h v' w' h2 h3 h5
def Disj (v u : Value) : Prop := ∀ k, v.ownBlock = some k → u.ownBlock ≠ some k
theorem Disj.symm {v u : Value} (h : Disj v u) : Disj u v := fun k h1 h2 => h k h2 h1
theorem Disj.kept {o u : Value} (h : Disj o u) : u.ownBlock = none ∨ u.ownBlock ≠ o.ownBlock := by
  cases hu : u.ownBlock with
  | none => exact .inl rfl
  | some x => exact .inr fun e => h x e.symm hu
theorem Disj.left {o u v : Value} {N : Nat} (h : Disj o u) (hl : v.ownBlock = o.ownBlock ∨ v.ownBlock = some N) (hu : ∀ k, u.ownBlock = some k → k < N) : Disj v u := by
  intro k h1 h2
  rcases hl with e | e
  · exact h k (e.symm.trans h1) h2
  · rw [e] at h1
    cases h1
    exact absurd (hu _ h2) (Nat.lt_irrefl _)
end Go
/- The rows that a map's elements are: each of the call's own, no two of them in one block. -/
set_option linter.unusedVariables false
set_option linter.unusedSimpArgs false
namespace Go
open Go.RowKit

open Classical in
noncomputable def gput {α β : Type} (G : α → List β) (a : α) (l : List β) : α → List β := fun x => if x = a then l else G x
theorem gput_same {α β : Type} (G : α → List β) (a : α) (l : List β) : gput G a l a = l := by simp [gput]
theorem gput_other {α β : Type} (G : α → List β) {a x : α} (l : List β) (h : x ≠ a) : gput G a l x = G x := by simp [gput, h]

structure GRows {α β : Type} (E : TypeId) (sz : Nat) (cells : β → List Value) (w : World) (base : Nat) (f : α → Option Value) (G : α → List β) : Prop where
  none : ∀ a, f a = Option.none → G a = []
  own : ∀ a v, f a = some v → w.ownsRow base E sz v (G a).length ((G a).flatMap cells)
  dis : ∀ a a' v v', a ≠ a' → f a = some v → f a' = some v' → Disj v v'

section
variable {α β : Type} {E : TypeId} {sz : Nat} {cells : β → List Value} {w w' w1 w2 : World} {base b : Nat} {f : α → Option Value} {G : α → List β}
theorem GRows.made (E : TypeId) (sz : Nat) (cells : β → List Value) (w : World) (base : Nat) : GRows E sz cells w base (fun _ : α => Option.none) (fun _ => []) :=
  ⟨fun _ _ => rfl, fun a v h => (by cases h), fun a a' v v' _ h => (by cases h)⟩
theorem GRows.keep (h : GRows E sz cells w base f G) (hb : Below w.heap.size w w') : GRows E sz cells w' base f G :=
  ⟨h.none, fun a v hv => (h.own a v hv).below hb, h.dis⟩
theorem ownsRow_other {n : Nat} {v : Value} {xs : List Value} {row : Option Nat} (h : w.ownsRow base E sz v n xs) (hg : w.grownBy w' row) (hr : ∀ r, row = some r → v.ownBlock ≠ some r) : w'.ownsRow base E sz v n xs :=
  h.kept hg (by
    cases hv : v.ownBlock with
    | none => exact .inl rfl
    | some k => exact .inr (fun e => hr k e.symm hv))
theorem GRows.kept {row : Option Nat} (h : GRows E sz cells w base f G) (hg : w.grownBy w' row) (hr : ∀ r, row = some r → ∀ a v, f a = some v → v.ownBlock ≠ some r) : GRows E sz cells w' base f G :=
  ⟨h.none, fun a v hv => ownsRow_other (h.own a v hv) hg (fun r e => hr r e a v hv), h.dis⟩
theorem GRows.low {r : Nat} (h : GRows E sz cells w base f G) (hg : w.grownBy w' (some r)) (hr : r < base) : GRows E sz cells w' base f G :=
  h.kept hg fun r' e a v hv e2 => by cases e; have := ((h.own a v hv).lt r e2).1; omega
theorem GRows.look (h : GRows E sz cells w base f G) (a : α) : w.ownsRow base E sz ((f a).getD (.slice Option.none 0 0)) (G a).length ((G a).flatMap cells) := by
  cases hf : f a with
  | none => rw [h.none a hf]; exact World.ownsRow_nil _ _ _ _
  | some v => exact h.own a v hf
theorem GRows.size (h : GRows E sz cells w base f G) (a : α) (k : Nat) (hk : ((f a).getD (.slice Option.none 0 0)).ownBlock = some k) : base ≤ k ∧ k < w.heap.size := (h.look a).lt k hk
theorem GRows.step (h : GRows E sz cells w base f G) (a : α) {v' : Value} {x : List β} (hg : w.grownBy w1 ((f a).getD (.slice Option.none 0 0)).ownBlock)
    (hv : w1.ownsRow base E sz v' (G a ++ x).length ((G a ++ x).flatMap cells)) (hat : v'.ownBlock = ((f a).getD (.slice Option.none 0 0)).ownBlock ∨ ∃ N, v'.ownBlock = some N ∧ w.heap.size ≤ N)
    (hg2 : w1.grownBy w2 (some b)) (hb : b < base) : GRows E sz cells w2 base (fput f a v') (gput G a (G a ++ x)) := by
  have hd : ∀ a' u, a' ≠ a → f a' = some u → ∀ k, ((f a).getD (.slice Option.none 0 0)).ownBlock = some k → u.ownBlock ≠ some k := by
    intro a' u hne hu k hk
    cases hf : f a with
    | none => rw [hf] at hk; cases hk
    | some v => rw [hf] at hk; exact fun e => h.dis a a' v u (fun e => hne e.symm) hf hu k hk e
  have h1 : GRows E sz cells w1 base (fdel f a) (gput G a []) := by
    refine ⟨fun a' hn => ?_, fun a' u hu => ?_, fun a' a'' u u' hne hu hu' => ?_⟩
    · by_cases e : a' = a
      · subst e; rw [gput_same]
      · rw [gput_other G [] e]; rw [fdel_other f e] at hn; exact h.none a' hn
    · by_cases e : a' = a
      · subst e; simp at hu
      · rw [fdel_other f e] at hu; rw [gput_other G [] e]; exact ownsRow_other (h.own a' u hu) hg (fun r e2 => hd a' u e hu r e2)
    · by_cases e : a' = a
      · subst e; simp at hu
      · by_cases e2 : a'' = a
        · subst e2; simp at hu'
        · rw [fdel_other f e] at hu; rw [fdel_other f e2] at hu'; exact h.dis a' a'' u u' hne hu hu'
  have h2 := h1.low hg2 hb; have hv2 := ownsRow_other hv hg2 (fun r e e2 => by cases e; have := (hv.lt b e2).1; omega); have hnew : ∀ a' u, a' ≠ a → f a' = some u → Disj v' u := by
    intro a' u hne hu k hk1 hk2
    rcases hat with e | ⟨N, e, hN⟩
    · exact hd a' u hne hu k (e ▸ hk1) hk2
    · have := ((h.own a' u hu).lt k hk2).2; rw [hk1] at e; cases e; omega
  refine ⟨fun a' hn => ?_, fun a' u hu => ?_, fun a' a'' u u' hne hu hu' => ?_⟩
  · by_cases e : a' = a
    · subst e; simp at hn
    · rw [gput_other _ _ e]; rw [fput_other f v' e] at hn; exact h.none a' hn
  · by_cases e : a' = a
    · subst e; rw [fput_same] at hu; cases hu; rw [gput_same]; exact hv2
    · rw [fput_other f v' e] at hu; have := h2.own a' u (by rw [fdel_other f e]; exact hu); rw [gput_other _ _ e] at this ⊢; exact this
  · by_cases e : a' = a
    · subst e; rw [fput_same] at hu; cases hu; rw [fput_other f v' (fun e => hne e.symm)] at hu'; exact hnew a'' u' (fun e => hne e.symm) hu'
    · rw [fput_other f v' e] at hu
      by_cases e2 : a'' = a
      · subst e2; rw [fput_same] at hu'; cases hu'; exact (hnew a' u e hu).symm
      · rw [fput_other f v' e2] at hu'; exact h.dis a' a'' u u' hne hu hu'
end
def GMap {α β : Type} (P : Program) (K : TypeId) (key : α → Value) (E : TypeId) (sz : Nat) (cells : β → List Value) (w : World) (b base : Nat) (G : α → List β) : Prop :=
  ∃ (f : α → Option Value) (m n : Nat), VMap P K key w b f m n ∧ GRows E sz cells w base f G
theorem GMap.keep {α β : Type} {P : Program} {K : TypeId} {key : α → Value} {E : TypeId} {sz : Nat} {cells : β → List Value} {w w' : World} {b base : Nat} {G : α → List β} (h : GMap P K key E sz cells w b base G) (hb : Below w.heap.size w w') : GMap P K key E sz cells w' b base G := by
  obtain ⟨f, m, n, h1, h2⟩ := h; exact ⟨f, m, n, h1.keep hb, h2.keep hb⟩
theorem GMap.look {α β : Type} {P : Program} {K T : TypeId} {key : α → Value} {E ES : TypeId} {sz : Nat} {cells : β → List Value} {w : World} {b base : Nat} {G : α → List β} (h : GMap P K key E sz cells w b base G) (KK : Maps.Keyed P K) (ht : P.underlying T = some (.map K ES)) (hz : (zeroValue ES).run P w = .ok (.slice none 0 0) w) (a : α) (hk : ∃ l, keyOf P K (key a) = some l) :
    ∃ v, (Instr.lookup T (.map (some b)) (key a) false).run P w = .ok v w ∧ w.ownsRow base E sz v (G a).length ((G a).flatMap cells) := by
  obtain ⟨f, m, n, h1, h2⟩ := h; exact ⟨_, h1.look KK ht hz hk, h2.look a⟩
end Go
/- The values of integers. -/
set_option linter.unusedVariables false
namespace Go
open Go.RowKit
def ins (l : List Int) : List Value := l.map (Value.int .i64)
theorem ins_len (l : List Int) : (ins l).length = l.length * 1 := by simp [ins]
theorem ins_one (l : List Int) : ∀ u ∈ ins l, u.oneCell' = true := ints_one .i64 l
end Go
