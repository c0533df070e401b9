/-
  snap.Lines. What a round keeps: blocks of two element types. (The same lies in XPeach, XPall8, XPonly: those texts and this one do not go together.) A ring's edges, as pairs of points; a yield's answer as a letter. A range over a function whose iterator promises something of the world at each call of yield, and of the world behind all rounds; the body never leaves. A region that draws its order, inside a round of a range over a function: walked once, in the text's order, by the laws outside rounds. World facts for a range over a function whose body appends to a boxed row, and calls. snap.edges: the iterator (XEdges, turned). Owned rows of several cells an element, written in place.
-/
import Derived.Test.YtediblljgakoeaaPk3
import Derived.Test.YtediblljgakoeaaPk4
import Derived.RangeFuncBox
import Derived.Test.YtediblljgakoeaaPk1
import Derived.RangeFuncNested
import Derived.RangeFuncBound
import Derived.RangeFuncCalls
import Derived.RangeFuncLeaves
import Derived.WalkKit
import Derived.Test.YtediblljgakoeaaPk2
import Derived.OrdersIn
import Derived.CallsIn
import Derived.Shelf.Abstract
import Derived.Shelf.RegionOpen
import Derived.OwnWalkIn
import Derived.TacticsInMore
import Derived.LoopNIn
import Derived.LoopIn
import Derived.BigRegionIn
import Derived.Stop.RegionWithIn
/- snap.Lines. -/
set_option linter.unusedVariables false
set_option linter.unusedSimpArgs false
set_option maxRecDepth 100000
namespace Go
open Go.RowKit
/-- The two lines of each number below k, ahead of what is double. -/
def rawL (b : Int) : Nat → List Int
  | 0 => []
  | k + 1 => rawL b k ++ (if k = 0 then [] else [4096 * (k : Int) - b, 4096 * (k : Int) + b])
theorem rawL_len (b : Int) : ∀ k, (rawL b k).length ≤ 2 * k
  | 0 => by simp [rawL]
  | k + 1 => by
    have := rawL_len b k
    unfold rawL; rw [List.length_append]; split <;> simp <;> omega
theorem rawL_le {b : Int} (hb : 0 ≤ b ∧ b ≤ 2047) : ∀ (k : Nat), ∀ x ∈ rawL b k, x ≤ 4096 * (k : Int) - 4096 + b
  | 0, x, h => by simp [rawL] at h
  | k + 1, x, h => by
    unfold rawL at h
    rcases List.mem_append.1 h with h | h
    · have := rawL_le hb k x h; omega
    · split at h
      · simp at h
      · simp at h; omega
theorem rawL_pw {b : Int} (hb : 0 ≤ b ∧ b ≤ 2047) : ∀ (k : Nat), (rawL b k).Pairwise (· ≤ ·)
  | 0 => by simp [rawL]
  | k + 1 => by
    unfold rawL
    rw [List.pairwise_append]
    refine ⟨rawL_pw hb k, ?_, ?_⟩
    · split
      · simp
      · simp; omega
    · intro x hx y hy
      have := rawL_le hb k x hx
      split at hy
      · simp at hy
      · simp at hy; omega
theorem rawL_zero (b : Int) : rawL b 1 = [] := rfl
theorem rawL_step (b : Int) (k : Nat) (hk : 0 < k) : rawL b (k + 1) = rawL b k ++ [4096 * (k : Int) - b, 4096 * (k : Int) + b] := by
  show rawL b k ++ (if k = 0 then [] else [4096 * (k : Int) - b, 4096 * (k : Int) + b]) = _
  rw [if_neg (by omega)]
theorem rawL_nil (b : Int) : rawL b 0 = [] := rfl
/-- Is there such a level, such a buffer? -/
def linesB (z b : Int) : Bool := levelB z && decide (0 ≤ b ∧ b ≤ 2047)
/-- The lines of a level and a buffer. -/
def linesF (z b : Int) : List Int := if linesB z b then Lib.compact (rawL b (2 ^ z.toNat)) else []
attribute [irreducible] rawL
end Go
namespace Go.Proofs.Ytediblljgakoeaa
open Go.RowKit
set_option maxHeartbeats 3200000 in
theorem lines_any (z b : Int) (w : World) :
    Calls Try.prog 11 #[.int .i64 z, .int .i64 b] w fun e w' => ∃ v, e = .returned (.tuple #[v, .bool (linesB z b)]) ∧ w'.ownsRow w.heap.size 3 1 v (linesF z b).length (ins (linesF z b)) ∧ Below w.heap.size w w' := by
  have hlv := level_any z w
  by_cases hL : levelB z = true
  · by_cases hb0 : b < 0
    · have e1 : linesB z b = false := by unfold linesB; rw [hL]; simp; omega
      have e2 : linesF z b = [] := by unfold linesF; rw [e1]; simp
      rw [e1, e2]
      rw [hL] at hlv
      have HLV := Lib.hid hlv
      clear hL hlv e1 e2
      go_enter Try.func11, Try.ntmps11
      go_wp2_with fail
      refine HLV.out.mono ?_
      rintro e w1 ⟨rfl, rfl⟩
      go_wp2
      refine bodyPost_ret (v := .tuple #[.slice none 0 0, .bool false]) (by simp [results, Try.results11, go_sem]) rfl ⟨_, rfl, World.ownsRow_nil _ _ _ _, Below.refl _ _⟩
    by_cases hb1 : 2047 < b
    · have e1 : linesB z b = false := by unfold linesB; rw [hL]; simp; omega
      have e2 : linesF z b = [] := by unfold linesF; rw [e1]; simp
      rw [e1, e2]
      rw [hL] at hlv
      have HLV := Lib.hid hlv
      clear hL hlv e1 e2
      go_enter Try.func11, Try.ntmps11
      go_wp2_with fail
      refine HLV.out.mono ?_
      rintro e w1 ⟨rfl, rfl⟩
      go_wp2
      refine bodyPost_ret (v := .tuple #[.slice none 0 0, .bool false]) (by simp [results, Try.results11, go_sem]) rfl ⟨_, rfl, World.ownsRow_nil _ _ _ _, Below.refl _ _⟩
    have hb : 0 ≤ b ∧ b ≤ 2047 := by omega
    have HB := Lib.hid hb
    have hb2 : 0 ≤ b := hb.1
    have hb3 : b ≤ 2047 := hb.2
    have e1 : linesB z b = true := by unfold linesB; rw [hL]; simp; omega
    have e2 : linesF z b = Lib.compact (rawL b (2 ^ z.toNat)) := by unfold linesF; rw [e1]; simp
    have hz := level_cases hL
    rw [e1, e2]
    rw [hL] at hlv
    clear hb hL e1 e2
    have hu := fun (a : Option Addr) (c : Nat) (l : List Int) (hp : l.Pairwise (· ≤ ·)) (hn : l.length ≤ 1000) (w : World) (hr : Rd w a (ins l)) => uniq_any a c l hp hn w hr
    have HU := Lib.hid hu
    clear hu
    have HLV := Lib.hid hlv
    clear hlv
    obtain ⟨N, hN⟩ : ∃ N, 2 ^ z.toNat = N := ⟨_, rfl⟩
    have hN1 : 1 ≤ N ∧ N ≤ 16 := by rcases hz with rfl | rfl | rfl | rfl | rfl <;> subst hN <;> decide
    have hw : wrap64 ((2 : Int) ^ z.toNat) = (N : Int) := by rcases hz with rfl | rfl | rfl | rfl | rfl <;> subst hN <;> kernel_rfl
    have hz0 : 0 ≤ z := by omega
    have hN2 : N ≤ 16 := hN1.2
    have hz1 : z ≤ 4 := by omega
    rw [hN]
    obtain ⟨C, hC⟩ : ∃ C, Lib.compact (rawL b N) = C := ⟨_, rfl⟩
    rw [hC]
    have HC0 := Lib.hid hC
    have HN := Lib.hid hN
    have HZ := Lib.hid hz
    clear hC hN hz
    go_enter Try.func11, Try.ntmps11
    go_wp2_with fail
    refine HLV.out.mono ?_
    rintro e w1 ⟨rfl, rfl⟩
    clear HLV
    go_wp2
    simp only [hw]
    go_loopw [6, 21] (fun o i wr => ∃ (k : Nat) (l : List Int), k ≤ N ∧ i = .int .i64 k ∧ Hid (rawL b k = l) ∧ l.length ≤ 2 * k ∧ wr.ownsRow w1.heap.size 3 1 o l.length (ins l) ∧ Below w1.heap.size w1 wr) (fun _ i _ => N - (intOf i).toNat)
    case atStart => exact ⟨0, [], by omega, rfl, Lib.hid (rawL_nil b), by simp, World.ownsRow_nil _ _ _ _, Below.refl _ _⟩
    case round =>
      obtain ⟨k, l, hk, rfl, HR, hln, ho, hbb⟩ := hrel
      by_cases hlt : k < N
      · have hlt2 : (k : Int) < (N : Int) := by omega
        by_cases hk0 : k = 0
        · subst hk0
          go_wp2
          refine ⟨⟨1, [], by omega, val_int (by omega), Lib.hid (rawL_zero b), by simp, ?_, hbb⟩, by simp [intOf]; omega⟩
          have e0 : l = [] := by rw [← HR.out, rawL_nil]
          rw [e0] at ho; exact ho
        · have hk1 : (0 : Int) < (k : Int) := by omega
          have HS : Hid (rawL b (k + 1) = l ++ [4096 * (k : Int) - b, 4096 * (k : Int) + b]) := Lib.hid (by rw [rawL_step b k (by omega), HR.out])
          go_wp2_with (at_builtin; go_must (refine wpList_appLit' w1 hbb rfl (.tmp 26) (.tmp 35) 43 rfl 3 (.int .i64 0) 1 8 Try.underlying43 Try.infoIz rfl (by decide) (by decide) u6 l.length (ins l) rfl ho 2 2 [.int .i64 (4096 * (k : Int) - b), .int .i64 (4096 * (k : Int) + b)] _ rfl rfl (by simp [Value.oneCell']) (by omega) ?_); intro v1 w2 ho2 hg2 hb2)
          refine ⟨⟨k + 1, l ++ [4096 * (k : Int) - b, 4096 * (k : Int) + b], by omega, val_int (by omega), HS, by simp; omega, ?_, hb2⟩, by simp [intOf]; omega⟩
          rw [List.length_append]
          have e1 : ins (l ++ [4096 * (k : Int) - b, 4096 * (k : Int) + b]) = ins l ++ [.int .i64 (4096 * (k : Int) - b), .int .i64 (4096 * (k : Int) + b)] := by simp [ins]
          rw [e1]; exact ho2
      · have hk3 : k = N := by omega
        subst hk3
        obtain ⟨oa, oc, rfl, -, -, -, hro, -⟩ := ho.form
        have hc := HU.out oa oc l (by rw [← HR.out]; exact rawL_pw HB.out k) (by omega) wr hro
        have hcl : Lib.compact l = C := by rw [← HR.out]; exact HC0.out
        rw [hcl] at hc
        have HC := Lib.hid hc
        clear hc HU hcl
        go_wp2_with fail
        refine HC.out.mono ?_
        rintro e w2 ⟨v2, rfl, ho2, hb2⟩
        go_wp2
        refine bodyPost_ret (v := .tuple #[v2, .bool true]) (by simp [results, Try.results11, go_sem]) rfl ⟨_, rfl, ho2.mono hbb.size, hbb.trans (hb2.mono hbb.size)⟩
  · have hL' : levelB z = false := by simpa using hL
    have e1 : linesB z b = false := by unfold linesB; rw [hL']; rfl
    have e2 : linesF z b = [] := by unfold linesF; rw [e1]; simp
    rw [e1, e2]
    rw [hL'] at hlv
    have HLV := Lib.hid hlv
    clear hL hlv e1 e2 hL'
    go_enter Try.func11, Try.ntmps11
    go_wp2_with fail
    refine HLV.out.mono ?_
    rintro e w1 ⟨rfl, rfl⟩
    go_wp2
    refine bodyPost_ret (v := .tuple #[.slice none 0 0, .bool false]) (by simp [results, Try.results11, go_sem]) rfl ⟨_, rfl, World.ownsRow_nil _ _ _ _, Below.refl _ _⟩
end Go.Proofs.Ytediblljgakoeaa
/- What a round keeps: blocks of two element types. (The same lies in XPeach, XPall8, XPonly: those texts and this one do not go together.) -/
set_option linter.unusedVariables false
set_option linter.unusedSimpArgs false
namespace Go
open Go.RowKit

def KeepT (T U : TypeId) (A B : World) : Prop := A.heap.size ≤ B.heap.size ∧ ∀ (k : Nat) (cs : Array Value) (V : TypeId) (fr : Nat × Nat), A.heap[k]? = some (Obj.cells cs V fr) → (V = T ∨ V = U) → B.heap[k]? = A.heap[k]?

theorem KeepT.trans {T U : TypeId} {A B C : World} (h : KeepT T U A B) (k : KeepT T U B C) : KeepT T U A C :=
  ⟨Nat.le_trans h.1 k.1, fun i cs V fr hi hv => by
    have h1 := h.2 i cs V fr hi hv
    rw [k.2 i cs V fr (h1.trans hi) hv, h1]⟩
theorem KeepT.of_below {T U : TypeId} {A B : World} (h : Below A.heap.size A B) : KeepT T U A B :=
  ⟨h.size, fun k _ _ _ hk _ => h.block k (Array.getElem?_eq_some_iff.1 hk).1⟩
theorem KeepT.putObj {T U : TypeId} (W : World) (l : Nat) (o o' : Obj) (h : W.heap[l]? = some o) (ho : o.isCells = false) : KeepT T U W (W.putObj l o') := by
  have hg := grownBy_putObj' W l o'
  refine ⟨hg.size, fun k cs V fr hk _ => hg.block k (Array.getElem?_eq_some_iff.1 hk).1 fun e => ?_⟩
  cases e
  rw [h] at hk
  cases hk
  cases ho
theorem KeepT.refl {T U : TypeId} (A : World) : KeepT T U A A := ⟨Nat.le_refl _, fun _ _ _ _ _ _ => rfl⟩

theorem KeepT.of_grownBy {T U : TypeId} {A B : World} {row : Option Nat} (hg : A.grownBy B row) (hr : ∀ r, row = some r → ∀ cs V fr, A.heap[r]? = some (Obj.cells cs V fr) → V ≠ T ∧ V ≠ U) : KeepT T U A B := by
  refine ⟨hg.size, fun k cs V fr hk hv => hg.block k (Array.getElem?_eq_some_iff.1 hk).1 fun e => ?_⟩
  have := hr k e.symm cs V fr hk
  rcases hv with rfl | rfl
  · exact this.1 rfl
  · exact this.2 rfl

theorem KeepT.of_row {T U : TypeId} {A B : World} {n₀ : Nat} {e : TypeId} {size : Nat} {v : Value} {k : Nat} {xs : List Value} (hrow : A.ownsRow n₀ e size v k xs) (hT : e ≠ T) (hU : e ≠ U) (hg : A.grownBy B v.ownBlock) : KeepT T U A B :=
  KeepT.of_grownBy hg fun r he cs V fr hk => by
    rcases hrow.2 with ⟨rfl, _⟩ | ⟨g, cap, cur, rfl, _, hgb, _⟩
    · cases he
    · obtain rfl : g = r := by simpa [Value.ownBlock] using he
      rw [hgb] at hk
      cases hk
      exact ⟨hT, hU⟩

theorem KeepT.store {T U : TypeId} {A : World} {B : Nat} {t : TypeId} {v : Value} (h : Boxed A B t v) (hT : t ≠ T) (hU : t ≠ U) (u : Value) : KeepT T U A (A.setCell ⟨B, 0, none⟩ u) :=
  KeepT.of_grownBy (grownBy_setCell' A B u) fun r he cs V fr hk => by
    cases he
    rw [show A.heap[B]? = _ from h] at hk
    cases hk
    exact ⟨hT, hU⟩

theorem KeepsOthers.of_below {A B : World} (h : Below A.heap.size A B) : KeepsOthers A B :=
  KeepsOthers.of_grownBy (row := none) ⟨h.os, h.tape, h.output, h.size, fun k hk _ => h.block k hk⟩ fun _ _ e => by cases e
theorem grownBy_of_below {A B : World} (h : Below A.heap.size A B) (r : Option Nat) : A.grownBy B r := ⟨h.os, h.tape, h.output, h.size, fun k hk _ => h.block k hk⟩
end Go
/- A ring's edges, as pairs of points; a yield's answer as a letter. -/
set_option linter.unusedVariables false
set_option linter.unusedSimpArgs false
namespace Go
/-- A ring's edges. -/
def edges (l : List Pt) : List (Pt × Pt) := (List.range l.length).map fun i => (l[i]!, l[(i + 1) % l.length]!)
theorem yield_bool {e : Ending} {A B C : Prop} (h : (e = .returned (.bool true) ∧ A ∧ B) ∨ (e = .returned (.bool false) ∧ C)) : ∃ b, e = .returned (.bool b) ∧ ((b = true ∧ A ∧ B) ∨ (b = false ∧ C)) := by
  rcases h with ⟨h, a⟩ | ⟨h, c⟩
  · exact ⟨true, h, .inl ⟨rfl, a⟩⟩
  · exact ⟨false, h, .inr ⟨rfl, c⟩⟩
end Go
/- A range over a function whose iterator promises something of the world at each call of yield, and of the world behind all rounds; the body never leaves. -/
namespace Go
open Go.RowKit

variable {F : Fence} {n : Nat} {P : Program}

/-- The iterator's contract: 'Ahead pre x W': what is promised where yield is called; 'Kp': what a round keeps; 'S xs W': what is promised behind. -/
def SeqAhead {α : Type} (F : Fence) (n : Nat) (P : Program) (g : Nat) (lb : Array Value) (encs : α → Array Value) (Ahead : List α → α → World → Prop) (Kp : World → World → Prop) (S : List α → World → Prop) (w : World) : Prop :=
  ∀ (l : Nat) (J : List α → World → Prop) (W : World), Below w.heap.size w W → AbidesFrom W.heap.size J →
    (∀ pre x W1, J pre W1 → Ahead pre x W1 → YieldAt F (n - 1) P l (encs x) W1 fun e W' => e = .returned (.bool true) ∧ J (pre ++ [x]) W' ∧ Kp W1 W') →
    J [] W → CallsIn F n P g (#[.func (.yield l) #[] #[]] ++ lb) W fun e W' => (∃ v, e = .returned v) ∧ ∃ xs, S xs W' ∧ J xs W'

/-- How the body is left. -/
def postAhead {α : Type} (Kp : World → World → Prop) (I : List α → World → Prop) (xs : List α) (W : World) : Exit → Act → World → Prop
  | .normal, _, W' => KeepsOthers W W' ∧ Kp W W' ∧ I xs W'
  | _, _, _ => False

theorem wpIn_rangeFunc_ahead {α : Type} {g : Operand} {ps : Array Tmp} {assign body : Code} {Q : Exit → Act → World → Prop} {a : Act} {w : World}
    (hro : F.round = none) (h1 : 1 ≤ n) {gf : Nat} {lb : Array Value} (hg : a.eval g = .func (.func gf) #[] lb) (hFg : F.fn gf) (eg : ∀ args w, (callFunc gf args).run P w = .ok (.enter gf args) w)
    {encs : α → Array Value} {Ahead : List α → α → World → Prop} {Kp : World → World → Prop} {S : List α → World → Prop} {w0 : World} (hseq : SeqAhead F (n - 1) P gf lb encs Ahead Kp S w0)
    (hKt : ∀ {A B C : World}, Kp A B → Kp B C → Kp A C) (hKb : ∀ (W : World) (l : Nat) (o o' : Obj), w.heap.size ≤ l → W.heap[l]? = some o → o.isCells = false → Kp W (W.putObj l o'))
    (hb0 : Below w0.heap.size w0 w) (hps : ∀ x, (encs x).size = ps.size)
    (I : List α → World → Prop) (hI : OwnFrom w.heap.size I) (hS : OwnFrom w.heap.size S) (h0 : I [] w)
    (Mid : List α → α → Act → World → Prop) (hM : ∀ pre x a', OwnFrom w.heap.size (fun (_ : Unit) W => Mid pre x a' W))
    (hassign : ∀ (l : Nat) (pre : List α) (x : α) (W : World), I pre W → Ahead pre x W →
      assign.wpIn (F.inRound l) (n - 1 - 1) P (Exit.then (fun a' W' => KeepsOthers W W' ∧ Kp W W' ∧ Mid pre x a' W') (fun _ _ _ => False)) { tmps := (ps.zip (encs x)).foldl (fun t (p, v) => t.setIfInBounds p v) a.tmps, defers := [] } W)
    (hbody : ∀ (l : Nat) (pre : List α) (x : α) (a' : Act) (W : World), Mid pre x a' W → body.wpIn (F.inRound l) (n - 1 - 1) P (postAhead Kp I (pre ++ [x]) W) a' W)
    (hdone : ∀ (D : Nat) (xs : List α) (W : World), w.heap.size ≤ D → S xs W → I xs W → W.heap[D]? = some (.deferred (some [])) → Q .normal { a with defers := { target := .collected D, args := #[] } :: a.defers } W) :
    (Code.rangeFunc g ps assign body).wpIn F n P Q a w := by
  refine wpIn_rangeFunc fun fn hfn => ?_
  rw [hro]
  -- the loop's record, block H + 1; the block for the rounds' deferred calls, block H
  obtain ⟨rec, hrec⟩ : ∃ rec : LoopState → Loop, rec = fun st => { state := st, pending := none, fn, tmps := a.tmps, params := ps, assign, body, defers := w.heap.size } := ⟨_, rfl⟩
  obtain ⟨W1, hW1⟩ : ∃ W1, (w.alloc (.deferred (some []))).alloc (.loop (rec .ready)) = W1 := ⟨_, rfl⟩
  have hs1 : W1.heap.size = w.heap.size + 2 := by rw [← hW1]; simp
  have hk1 : KeepsOthers w W1 := by rw [← hW1]; exact (KeepsOthers.alloc _ _).trans (KeepsOthers.alloc _ _)
  have hL1 : W1.heap[w.heap.size + 1]? = some (.loop (rec .ready)) := by
    rw [← hW1]; have := World.alloc_heap_new (w.alloc (.deferred (some []))) (.loop (rec .ready)); rwa [World.size_alloc] at this
  have hD1 : W1.heap[w.heap.size]? = some (.deferred (some [])) := by
    rw [← hW1]; exact (Below.heap_alloc _ _ _ (by simp)).trans (World.alloc_heap_new w _)
  have hI1 : I [] W1 := by rw [← hW1]; exact hI.alloc _ (hI.alloc _ h0)
  have hb1 : Below w0.heap.size w0 W1 := by
    rw [← hW1]; exact hb0.trans ((((Below.refl _ w).alloc (Nat.le_refl _) _).alloc (by simp) _).mono hb0.size)
  refine ⟨w.heap.size + 1, [{ target := .collected w.heap.size, args := #[] }], W1, { target := .fn (.func gf) lb, args := #[.func (.yield (w.heap.size + 1)) #[] #[]] }, W1, gf,
    #[.func (.yield (w.heap.size + 1)) #[] #[]] ++ lb, W1, ?_, ?_, ?_, ?_, fun _ => h1, ?_⟩
  · rw [← hW1, hrec]; exact run_enterLoop_outer _ _ _ _ _
  · simp only [resolve, hg]
    simp [go_sem]
  · intro f' hf'; simp [Target.leads] at hf'; subst hf'; exact hFg
  · simp [invoke, go_sem, eg]
  · refine (hseq (w.heap.size + 1) (fun pre W => I pre W ∧ W.heap[w.heap.size + 1]? = some (.loop (rec .ready)) ∧ W.heap[w.heap.size]? = some (.deferred (some []))) W1 hb1 ?_ ?_ ⟨hI1, hL1, hD1⟩).mono ?_
    · rintro pre A B row ⟨hi, hl, hd⟩ hgr hr
      refine ⟨hI pre A B row hi hgr fun r e => ?_, ?_, ?_⟩
      · obtain ⟨hB, o, ho, hw⟩ := hr r e
        exact ⟨by omega, o, ho, Obj.not_cells_of_walk hw⟩
      · exact (grownBy_keeps hgr (fun r e => (hr r e).2) hl rfl).trans hl
      · exact (grownBy_keeps hgr (fun r e => (hr r e).2) hd rfl).trans hd
    · rintro pre x W ⟨hi, hl, hd⟩ hah
      have hy := run_yield (P := P) (args := encs x) hl (by rw [hrec]; exact hps x)
      rw [hrec] at hy
      refine ⟨fn, _, assign, body, hy, roundIn_of_wpIn hfn (wpIn_mono (hassign _ pre x W hi hah) ?_)⟩
      rintro e a' Wa hp
      cases e with
      | normal =>
        obtain ⟨hka, hkpa, hm⟩ := hp
        have hla := hka.same _ _ hl rfl
        have hda := hka.same _ _ hd rfl
        have hlt : w.heap.size + 1 < Wa.heap.size := (Array.getElem?_eq_some_iff.1 hla).1
        refine ⟨_, run_beginRound hla (by rw [hrec]), ?_⟩
        refine wpIn_mono (hbody _ pre x a' _ ((hM pre x a').putObj (s := ()) _ hm (by omega) hla rfl)) ?_
        have hl2 : (Wa.putObj (w.heap.size + 1) (.loop { rec .ready with state := .busy })).heap[w.heap.size + 1]? = some (.loop { rec .ready with state := .busy }) := World.putObj_heap_same hlt
        have hd2 : (Wa.putObj (w.heap.size + 1) (.loop { rec .ready with state := .busy })).heap[w.heap.size]? = some (.deferred (some [])) := (World.putObj_heap_other (by omega)).trans hda
        have hw2 : Kp Wa (Wa.putObj (w.heap.size + 1) (.loop { rec .ready with state := .busy })) := hKb _ _ _ _ (by omega) hla rfl
        rintro e a3 W3 hp3
        cases e with
        | normal =>
          obtain ⟨hk3, hkp3, hi3⟩ := hp3
          have hl3 := hk3.same _ _ hl2 rfl
          have hd3 := hk3.same _ _ hd2 rfl
          have her := run_endRound (P := P) none hl3
          refine ⟨_, _, her, rfl, ⟨hI.putObj _ hi3 (by omega) hl3 rfl, ?_, ?_⟩, hKt hkpa (hKt hw2 (hKt hkp3 (hKb _ _ _ _ (by omega) hl3 rfl)))⟩
          · rw [World.putObj_heap_same (Array.getElem?_eq_some_iff.1 hl3).1, hrec]; rfl
          · exact (World.putObj_heap_other (by omega)).trans hd3
        | ret => exact hp3.elim
        | exit id => exact hp3.elim
        | goto t => exact hp3.elim
        | panic ch => exact hp3.elim
        | outgrown => exact hp3.elim
      | ret => exact hp.elim
      | exit id => exact hp.elim
      | goto t => exact hp.elim
      | panic ch => exact hp.elim
      | outgrown => exact hp.elim
    · rintro e W2 ⟨⟨v, rfl⟩, xs, hSx, hi, hl, hd⟩
      have hel := run_endLoop (P := P) hl (by rw [hrec]; simp)
      rw [hrec] at hel
      refine ⟨none, _, hel, hdone _ xs _ (Nat.le_refl _) (hS.putObj _ hSx (by omega) hl rfl) (hI.putObj _ hi (by omega) hl rfl) ((World.putObj_heap_other (by omega)).trans hd)⟩
end Go
/- A region that draws its order, inside a round of a range over a function: walked once, in the text's order, by the laws outside rounds. -/
set_option linter.unusedVariables false
set_option linter.unusedSimpArgs false
namespace Go
open Go.RowKit

/-- Nothing is a defer statement. -/
def noDefer (ops : Array Oper) : Bool := ops.all fun o => match o.op with | .defer _ => false | _ => true

section
variable {P : Program} {ops : Array Oper} {lt : Nat → Bool} {Q : Exit → Act → World → Prop} {S : World → Prop} {l n : Nat}

theorem oper_wpIn_round {o : Oper} {a : Act} {w : World} {K : Act → World → Prop} (hd : ∀ c, o.op ≠ .defer c) (h : o.wp P a w K Q) : o.wpIn (Fence.wide.inRound l) n P a w K Q := by
  refine ⟨fun _ _ => trivial, ?_⟩
  rw [Oper.semAt_eq _ _ _ hd]
  unfold Oper.wp at h
  cases hr : (execOp a.eval o).run P w with
  | ok nx w' =>
    rw [hr] at h
    cases nx with
    | value v => exact h
    | skip => exact h
    | defer d => exact h
    | enter f args =>
      refine ⟨fun hh => (by cases hh), ?_⟩
      exact CallsIn.inRound l (callsIn_wide.2 h)
    | row row args =>
      refine ⟨fun hh => (by cases hh), ?_⟩
      intro c cs _
      obtain ⟨v, w'', hR, hs⟩ := h c cs
      exact ⟨v, w'', hR, stepsIn_wide.2 hs⟩
    | _ => exact (h : False).elim
  | halt hh w' =>
    rw [hr] at h
    cases hh with
    | panic v => exact h
    | _ => exact (h : False).elim

theorem wpAnyIn_of_any (hd : noDefer ops = true) (hQ : ¬ LetsOut Q) (md : Region.Mode) : ∀ (fuel : Nat) (listed : Array Bool) (a : Act) (w : World), wpAny P md ops Q fuel listed a w → wpAnyIn (Fence.wide.inRound l) n P md ops Q fuel listed a w := by
  intro fuel
  induction fuel with
  | zero => intro listed a w h; exact h
  | succ fuel ih =>
    intro listed a w h
    refine ⟨h.1, fun i hi => ?_⟩
    have := h.2 i hi
    unfold wpOp at this
    unfold wpOpIn
    cases ho : ops[i]? with
    | none => rw [ho] at this; exact ih _ _ _ this
    | some o =>
      rw [ho] at this
      simp only at this ⊢
      have hdo : ∀ c, o.op ≠ .defer c := by
        intro c hc
        unfold noDefer at hd
        rw [Array.all_eq_true] at hd
        obtain ⟨hlt, he⟩ := Array.getElem?_eq_some_iff.1 ho
        have := hd i hlt
        rw [he, hc] at this
        simp at this
      split
      · rename_i hw
        rw [if_pos hw] at this
        rcases this with h1 | ⟨_, h2⟩
        · exact oper_wpIn_round hdo (Oper.wp_mono (fun a w h => ih _ _ _ h) h1)
        · exact absurd h2 hQ
      · rename_i hw
        rw [if_neg hw] at this
        exact ⟨fun _ _ => trivial, ih _ _ _ this⟩

theorem onlyQ_letsOut : ¬ LetsOut (OnlyQ Q) := fun ⟨_, _, h⟩ => h

/-- THE LAW, inside a round. -/
theorem wpIn_region_txt {id : Nat} {a : Act} {w : World} (lts : List Nat) (S : World → Prop) (hm : P.follows .mixedOrders = true) (hs : Region.noSelect ops = true) (hd : noDefer ops = true)
    (hc : okText .any ops (lts.contains ·) ops.size (List.range ops.size) (Array.replicate ops.size false) = true) (hS : S w.drew)
    (h : wpTxt P ops (lts.contains ·) Q S none (List.range ops.size) a w.drew) : (Code.region id ops true).wpIn (Fence.wide.inRound l) n P Q a w := by
  refine wpIn_mono ?_ OnlyQ.imp
  refine wpIn_region_any hm ?_
  refine wpAnyIn_of_any hd onlyQ_letsOut .any _ _ _ _ ?_
  refine wpAny_of_held (S := S) _ _ _ _ ?_
  refine okText_sound (Q := OnlyQ Q) .any hs (fun c a w h => h) (fun e a w h => h.elim) ops.size _ _ _ _ hc hS ?_
  exact wpTxt_only _ _ _ h

theorem wpIn_region_lit_txt {id : Nat} {a : Act} {w : World} {L : List Oper} (lts : List Nat) (S : World → Prop) (hm : P.follows .mixedOrders = true) (hs : Region.noSelect L.toArray = true) (hd : noDefer L.toArray = true)
    (hc : okText .any L.toArray (lts.contains ·) L.length (List.range L.length) (Array.replicate L.length false) = true) (hS : S w.drew)
    (h : wpTxtL P L.toArray (lts.contains ·) Q S none 0 L a w.drew) : (Code.region id L.toArray true).wpIn (Fence.wide.inRound l) n P Q a w := by
  refine wpIn_region_txt lts S hm hs hd (by simpa using hc) hS ?_
  have := wpTxtL_eq (P := P) (ops := L.toArray) (lt := (lts.contains ·)) (Q := Q) (S := S) L 0 (fun j => by simp) _ _ h
  rw [← List.range_eq_range'] at this
  simpa using this

theorem oper_noQ {o : Oper} {a : Act} {w : World} {K : Act → World → Prop} (h : o.wp P a w K NoQ) : o.wp P a w K Q := by
  unfold Oper.wp at h ⊢
  generalize (execOp a.eval o).run P w = r at *
  cases r with
  | ok n w' =>
    cases n <;> simp only [Oper.upon] at h ⊢ <;> first
      | exact h
      | exact Calls.mono h (fun e w'' he => by
          cases e with
          | returned v => exact he
          | panicked c => exact (he : False).elim
          | outgrown => obtain ⟨_, _, h⟩ := he; exact (h : False).elim)
  | halt x w' => cases x <;> simp only [Oper.upon, NoQ] at h

/-- A call of a named Go function. -/
theorem wp_callgo {a : Act} {w : World} {K : Act → World → Prop} {dst : Option Tmp} {ty : TypeId} {pos : String} {after : Array Edge} {guard : Option (Nat × Bool)} {f : FuncId} {args : Array Operand} {ats : Array TypeId} (vs : List Value) (fn : Func)
    (hfn : P.funcs[f]? = some fn) (hn : (fn.name == "runtime.NumGoroutine") = false) (hb : fn.body.isNone = false) (hvs : args.toList.map a.eval = vs)
    (h : Calls P f vs.toArray w fun e w' => ∃ v, e = .returned v ∧ K (a.put dst v) w') :
    Oper.wp P { dst := dst, op := .call { callee := .value (.func f), args := args, argTypes := ats }, type := ty, pos := pos, after := after, guard := guard } a w K NoQ := by
  unfold Oper.wp
  have e : #[] ++ args.map a.eval ++ #[] = vs.toArray := by
    rw [← hvs]; simp only [Array.empty_append, Array.append_empty]; apply Array.ext'; simp
  rw [execOp_call_go, run_callFunc _ _ hfn hn hb, e]
  rw [Oper.upon_enter]
  refine Calls.mono h ?_
  rintro e w' ⟨v, rfl, hK⟩
  exact hK

/-! Two operations that may come up in either order (`s += f(v)`: the load of s and the call), the light ones of a prefix taken first. -/
def okPre (md : Region.Mode) (ops : Array Oper) : List Nat → Array Bool → Bool
  | [], _ => true
  | i :: r, listed => Region.free md ops listed i && (Region.ready md ops listed).contains i && okPre md ops r (listed.setIfInBounds i true)

def wpPre (P : Program) (ops : Array Oper) (S : World → Prop) : List Nat → Act → (Act → Prop) → Prop
  | [], a, K => K a
  | i :: r, a, K => ∃ o v, ops[i]? = some o ∧ Region.wanted o (yielded ops a.tmps) = true ∧ (∀ w', S w' → (execOp a.eval o).run P w' = .ok (.value v) w') ∧ wpPre P ops S r (a.put o.dst v) K

theorem wpPre_nil {a : Act} {K : Act → Prop} (h : K a) : wpPre P ops S [] a K := h
theorem wpPre_cons {i : Nat} {r : List Nat} {a : Act} {K : Act → Prop} {o : Oper} (v : Value) (ho : ops[i]? = some o) (hw : Region.wanted o (yielded ops a.tmps) = true)
    (hv : ∀ w', S w' → (execOp a.eval o).run P w' = .ok (.value v) w') (h : wpPre P ops S r (a.put o.dst v) K) : wpPre P ops S (i :: r) a K := ⟨o, v, ho, hw, hv, h⟩

theorem wpAnyH_pre {md : Region.Mode} (hs : Region.noSelect ops = true) (hQ : ∀ c a w, ¬ Q (.panic c) a w) : ∀ (pre : List Nat) (fuel : Nat) (listed : Array Bool) (a : Act) (w : World), okPre md ops pre listed = true → S w →
    wpPre P ops S pre a (fun a' => wpAnyH P md ops Q S fuel (pre.foldl (fun l i => l.setIfInBounds i true) listed) a' w) → wpAnyH P md ops Q S (fuel + pre.length) listed a w := by
  intro pre
  induction pre with
  | nil => intro fuel listed a w _ _ h; exact h
  | cons i r ih =>
    intro fuel listed a w hc hS h
    obtain ⟨o, v, ho, hw, hv, h⟩ := h
    simp only [okPre, Bool.and_eq_true] at hc
    rw [List.length_cons, ← Nat.add_assoc]
    exact wpAnyH_take ho hs hc.1.1 hc.1.2 (fun c a w h => absurd h (hQ c _ w)) (.inl ⟨hw, hv⟩) hS (ih _ _ _ _ hc.2 hS h)

/-- THE LAW, inside a round: a prefix of light operations; then x and y may come up, in either order; behind each a text. -/
theorem wpIn_region_two {id : Nat} {a : Act} {w : World} (lts pre : List Nat) (x y : Nat) (A B : List Nat) (f : Nat) (S : World → Prop) (ox oy : Oper) (hm : P.follows .mixedOrders = true) (hs : Region.noSelect ops = true) (hd : noDefer ops = true)
    (hsz : ops.size = f + 1 + pre.length) (hp : okPre .any ops pre (Array.replicate ops.size false) = true) (hx : ops[x]? = some ox) (hy : ops[y]? = some oy)
    (hr : Region.ready .any ops (pre.foldl (fun l i => l.setIfInBounds i true) (Array.replicate ops.size false)) = [x, y])
    (hA : okText .any ops (lts.contains ·) f A ((pre.foldl (fun l i => l.setIfInBounds i true) (Array.replicate ops.size false)).setIfInBounds x true) = true)
    (hB : okText .any ops (lts.contains ·) f B ((pre.foldl (fun l i => l.setIfInBounds i true) (Array.replicate ops.size false)).setIfInBounds y true) = true)
    (hS : S w.drew)
    (h : wpPre P ops S pre a (fun a' => (Region.wanted ox (yielded ops a'.tmps) = true ∧ ∀ K : Act → World → Prop, Hid (∀ a'' w'', S w'' → wpTxt P ops (lts.contains ·) Q S none A a'' w'' → K a'' w'') → ox.wp P a' w.drew K NoQ) ∧
      (Region.wanted oy (yielded ops a'.tmps) = true ∧ ∀ K : Act → World → Prop, Hid (∀ a'' w'', S w'' → wpTxt P ops (lts.contains ·) Q S none B a'' w'' → K a'' w'') → oy.wp P a' w.drew K NoQ))) :
    (Code.region id ops true).wpIn (Fence.wide.inRound l) n P Q a w := by
  refine wpIn_mono ?_ OnlyQ.imp
  refine wpIn_region_any hm ?_
  refine wpAnyIn_of_any hd onlyQ_letsOut .any _ _ _ _ ?_
  refine wpAny_of_held (S := S) _ _ _ _ ?_
  rw [hsz]
  refine wpAnyH_pre (w := w.drew) hs (fun c a w h => h) pre (f + 1) _ a (by rw [← hsz]; exact hp) hS ?_
  rw [← hsz]
  have key : ∀ (pre : List Nat) (a : Act) (K K' : Act → Prop), (∀ a, K a → K' a) → wpPre P ops S pre a K → wpPre P ops S pre a K' := by
    intro pre
    induction pre with
    | nil => intro a K K' hk h; exact hk a h
    | cons i r ih =>
      intro a K K' hk h
      obtain ⟨o, v, h1, h2, h3, h4⟩ := h
      exact ⟨o, v, h1, h2, h3, ih _ _ _ hk h4⟩
  refine key pre a _ _ (fun a' h => ?_) h
  obtain ⟨⟨wx, kx0⟩, wy, ky0⟩ := h
  have kx := kx0 (fun a'' w'' => S w'' ∧ wpTxt P ops (lts.contains ·) Q S none A a'' w'') (Lib.hid fun a w h1 h2 => ⟨h1, h2⟩)
  have ky := ky0 (fun a'' w'' => S w'' ∧ wpTxt P ops (lts.contains ·) Q S none B a'' w'') (Lib.hid fun a w h1 h2 => ⟨h1, h2⟩)
  refine wpAnyH_all hr (by simp) ?_
  intro i hi
  simp only [List.mem_cons, List.not_mem_nil, or_false] at hi
  have hno : ∀ e a w, NoQ e a w → OnlyQ Q e a w := fun e a w h => h.elim
  rcases hi with rfl | rfl
  · unfold wpOp
    rw [hx]
    simp only
    rw [if_pos wx]
    left
    refine oper_noQ ?_
    exact Oper.wp_mono (fun a w h => ⟨h.1, okText_sound (Q := OnlyQ Q) .any hs (fun c a w h => h) hno f A _ _ _ hA h.1 (wpTxt_only _ _ _ h.2)⟩) kx
  · unfold wpOp
    rw [hy]
    simp only
    rw [if_pos wy]
    left
    refine oper_noQ ?_
    exact Oper.wp_mono (fun a w h => ⟨h.1, okText_sound (Q := OnlyQ Q) .any hs (fun c a w h => h) hno f B _ _ _ hB h.1 (wpTxt_only _ _ _ h.2)⟩) ky
end
end Go
/- World facts for a range over a function whose body appends to a boxed row, and calls. -/
set_option linter.unusedVariables false
set_option linter.unusedSimpArgs false
namespace Go
open Go.RowKit
theorem Rd.putObj {W : World} {a : Option Addr} {vs : List Value} (h : Rd W a vs) {l : Nat} {o : Obj} (o' : Obj) (h1 : W.heap[l]? = some o) (h2 : o.isCells = false) : Rd (W.putObj l o') a vs := by
  rcases h with h | ⟨b, off, rfl, hc⟩
  · exact .inl h
  · refine .inr ⟨b, off, rfl, fun i v hv => ?_⟩
    have hx := hc i v hv
    refine (grownBy_putObj' W l o').cell hx ?_
    intro e
    cases e
    simp only [World.cell?, h1] at hx
    cases o <;> simp_all [Obj.isCells]
/-- A row of numbers stays where a box of a slice has turned. -/
theorem Rd.box {W W' : World} {B : Nat} {t : TypeId} {x : Option Addr} {n c : Nat} {a : Option Addr} {vs : List Value} (h : Rd W a vs) (hb : Boxed W B t (.slice x n c)) (hg : W.grownBy W' (some B)) (hv : ∀ v ∈ vs, ∃ k z, v = .int k z) : Rd W' a vs := by
  rcases h with h | ⟨b, off, rfl, hc⟩
  · exact .inl h
  · refine .inr ⟨b, off, rfl, fun i v hi => ?_⟩
    have hx := hc i v hi
    refine hg.cell hx ?_
    intro e
    cases e
    obtain ⟨k, z, rfl⟩ := hv v (List.mem_of_getElem? hi)
    unfold Boxed at hb
    dsimp only at hb
    simp only [World.cell?, hb] at hx
    cases ho : off + i with
    | zero => rw [ho] at hx; simp at hx
    | succ m => rw [ho] at hx; simp at hx
theorem grown_step {W0 A A' : World} {B : Nat} {r : Option Nat} (h : W0.grownBy A (some B)) (hg : A.grownBy A' r) (hr : ∀ k, r = some k → W0.heap.size ≤ k ∨ k = B) : W0.grownBy A' (some B) :=
  ⟨hg.os.trans h.os, hg.tape.trans h.tape, hg.output.trans h.output, Nat.le_trans h.size hg.size, fun k hk hne => (hg.block k (Nat.lt_of_lt_of_le hk h.size) (fun e => by
    rcases hr k e.symm with h1 | h1
    · omega
    · exact hne (by rw [h1]))).trans (h.block k hk hne)⟩
theorem ownFrom_grown {β : Type} {W0 : World} (B : Nat) : OwnFrom W0.heap.size (fun (_ : β) W => W0.grownBy W (some B)) :=
  fun _ _ _ _ hs hg hr => grown_step hs hg (fun k e => .inl (hr k e).1)
theorem KeepsOthers.of_row {A B : World} {n₀ : Nat} {e : TypeId} {size : Nat} {v : Value} {k : Nat} {xs : List Value} (hrow : A.ownsRow n₀ e size v k xs) (hg : A.grownBy B v.ownBlock) : KeepsOthers A B := by
  refine KeepsOthers.of_grownBy hg fun j o e ho => ?_
  rcases hrow.2 with ⟨rfl, _⟩ | ⟨g, cap, cur, rfl, _, hgb, _⟩
  · cases e
  · obtain rfl : g = j := by simpa [Value.ownBlock] using e
    rw [hgb] at ho
    cases ho
    rfl
end Go
/- snap.edges: the iterator (XEdges, turned). -/
set_option linter.unusedVariables false
set_option linter.unusedSimpArgs false
namespace Go
end Go
namespace Go.Proofs.Ytediblljgakoeaa
open Go.RowKit
attribute [local go_sem] Oper.semAt_some

/-- What a round keeps: the row, and the block Bn. -/
def KpR (a : Option Addr) (L : List Pt) (Bn : Nat) (A B : World) : Prop := (Rd A a (pts L) → Rd B a (pts L)) ∧ B.heap[Bn]? = A.heap[Bn]?

set_option maxRecDepth 100000 in
set_option maxHeartbeats 1000000 in
theorem edges1_in (n : Nat) (l Bn : Nat) (a : Option Addr) (c : Nat) (L : List Pt) (hlen : L.length ≤ 1000000)
    (J : List (Pt × Pt) → World → Prop) (W : World) (hr0 : Rd W a (pts L)) (hJ : AbidesFrom W.heap.size J) (fr : Nat × Nat) (hBn : W.heap[Bn]? = some (.cells #[.slice a L.length c] 42 fr))
    (hY : ∀ pre x W1, J pre W1 → (pre.length < L.length ∧ x = (L[pre.length]!, L[(pre.length + 1) % L.length]!)) → YieldAt Fence.wide (n - 1) Try.prog l #[x.1.val, x.2.val] W1 fun e W' => e = .returned (.bool true) ∧ J (pre ++ [x]) W' ∧ KpR a L Bn W1 W')
    (h0 : J [] W) :
    CallsIn Fence.wide n Try.prog 36 #[.func (.yield l) #[] #[], .pointer (some ⟨Bn, 0, none⟩)] W fun e W' => (∃ v, e = .returned v) ∧ ∃ xs, xs = edges L ∧ J xs W' := by
  refine callsIn_of_wp Try.func36 rfl trivial ?_ rfl
  simp only [Try.ntmps36, List.size_toArray, List.length_cons, List.length_nil, Nat.reduceAdd, Nat.reduceSub, Array.replicate_succ, Array.replicate_zero, List.push_toArray, List.append_toArray, List.nil_append, List.cons_append]
  have hbc : W.cell? ⟨Bn, 0, none⟩ = some (.slice a L.length c) := by simp [World.cell?, hBn]
  gi_wp2
  gi_loopw [7] (fun i wr => ∃ k : Nat, i = .int .i64 k ∧ k ≤ L.length ∧ J ((edges L).take k) wr ∧ Rd wr a (pts L) ∧ wr.heap[Bn]? = some (.cells #[.slice a L.length c] 42 fr)) (fun i _ => L.length - (intOf i).toNat)
  case atStart => exact ⟨0, rfl, Nat.zero_le _, h0, hr0, hBn⟩
  case round =>
    obtain ⟨k, rfl, hk, hj, hb1, hBx⟩ := hrel
    have hbc' : wr.cell? ⟨Bn, 0, none⟩ = some (.slice a L.length c) := by simp [World.cell?, hBx]
    have HY := Lib.hid hY
    have HJ := Lib.hid hJ
    clear hY hBn hbc hJ
    by_cases hlt : k < L.length
    · obtain ⟨q, hq⟩ : ∃ q, (k + 1) % L.length = q := ⟨_, rfl⟩
      have hql : q < L.length := by rw [← hq]; exact Nat.mod_lt _ (by omega)
      obtain ⟨b, off, rfl, hb, c0, c1⟩ := hb1.pt k hlt
      obtain ⟨b', off', e, hb', d0, d1⟩ := hb1.pt q hql
      cases e
      have hek : (edges L)[k]? = some (L[k], L[q]) := by
        unfold edges
        rw [List.getElem?_map, List.getElem?_range hlt]
        simp only [Option.map_some, hq]
        rw [getElem!_pos L k hlt, getElem!_pos L q hql]
      have hel : (edges L).length = L.length := by simp [edges]
      have htk : ((edges L).take k).length = k := by rw [List.length_take, hel]; omega
      have hsn : (edges L).take (k + 1) = (edges L).take k ++ [(L[k], L[q])] := by
        rw [List.take_add_one, hek]; rfl
      have hxe : (L[((edges L).take k).length]!, L[(((edges L).take k).length + 1) % L.length]!) = (L[k], L[q]) := by
        rw [htk, hq, getElem!_pos L k hlt, getElem!_pos L q hql]
      have hyy := fun W1 hj1 => HY.out ((edges L).take k) (L[k], L[q]) W1 hj1 ⟨by rw [htk]; exact hlt, hxe.symm⟩
      have hrem : ((k : Int) + 1) % (L.length : Int) = (q : Int) := by rw [← hq]; simp
      obtain ⟨⟨x1, y1⟩, hp1⟩ : ∃ p, L[k] = p := ⟨_, rfl⟩
      obtain ⟨⟨x2, y2⟩, hp2⟩ : ∃ p, L[q] = p := ⟨_, rfl⟩
      rw [hp1] at c0 c1
      rw [hp2] at d0 d1
      rw [hp1, hp2] at hsn hyy
      dsimp only [Pt.val] at c0 c1 d0 d1 hyy
      have HSN := Lib.hid hsn
      have hbA := Below.new wr (.cells #[.int .i64 x1, .int .i64 y1] 32)
      have hjA := HJ.out _ _ _ none hj (grownBy_of_below hbA none) (fun r h => by cases h)
      have hjB : J ((edges L).take k) (wr.alloc (.cells #[.int .i64 x1, .int .i64 y1] 32)).drew := HJ.out _ _ _ none hjA ⟨rfl, rfl, rfl, Nat.le_refl _, fun _ _ _ => rfl⟩ (fun r h => by cases h)
      obtain ⟨fn, tmps, assign, body, hy, hR⟩ := hyy _ hjB
      have HR := Lib.hid hR
      have HRD := Lib.hid hb1
      clear hb1
      have hlz : (L.length : Int) ≠ 0 := by omega
      clear hyy hq hek hel htk hxe hp1 hp2 hR hjA hjB hsn
      have hrem2 : (IntKind.i64.wrap ((k : Int) + 1)).tmod (L.length : Int) = (q : Int) := by
        rw [IntWalk.i64_in _ (by omega), Int.tmod_eq_emod_of_nonneg (by omega)]
        exact hrem
      have hq0 : (0 : Int) ≤ (q : Int) ∧ (q : Int) < (L.length : Int) := by omega
      have hnb : b ≠ wr.heap.size := by omega
      have hBl : Bn < wr.heap.size := (Array.getElem?_eq_some_iff.1 hBx).1
      have hnB : Bn ≠ wr.heap.size := by omega
      have hnil : ¬ L = [] := by intro h; rw [h] at hlt; simp at hlt
      have hln : ¬ L.length = 0 := by omega
      gi_wp2
      gi_region_with (refine ⟨(fun h => by cases h), HR.out.mono ?_⟩; rintro e W3 ⟨rfl, hJ3, hk3⟩)
      all_goals
        gi_wp2
        go_roundw
        case rel =>
          refine ⟨k + 1, by go_num, by omega, ?_, ?_, ?_⟩
          · rw [HSN.out]; exact hJ3
          · exact hk3.1 (HRD.out.alloc _).drew
          · exact hk3.2.trans ((heap_alloc_old wr _ hBl).trans hBx)
        case measure => simp [intOf]; omega
    · obtain rfl : k = L.length := by omega
      have hall : (edges L).take L.length = edges L := List.take_of_length_le (by simp [edges])
      rw [hall] at hj
      gi_wp2
      go_end0
      exact ⟨⟨_, rfl⟩, edges L, rfl, hj⟩
theorem edges_in (n : Nat) (a : Option Addr) (m c : Nat) (w : World) :
    CallsIn Fence.wide n Try.prog 24 #[.slice a m c] w fun e w' => e = .returned (.func (.func 36) #[] #[.pointer (some ⟨w.heap.size, 0, none⟩)]) ∧ w' = w.alloc (.cells #[.slice a m c] 42) := by
  refine callsIn_of_wp Try.func24 rfl trivial ?_ rfl
  simp only [Try.ntmps24, List.size_toArray, List.length_cons, List.length_nil, Nat.reduceAdd, Nat.reduceSub, Array.replicate_succ, Array.replicate_zero, List.push_toArray, List.append_toArray, List.nil_append, List.cons_append]
  gi_wp2
  go_ret
  exact ⟨rfl, rfl⟩

theorem edges_ahead (n : Nat) (Bn : Nat) (a : Option Addr) (c : Nat) (L : List Pt) (hlen : L.length ≤ 1000000)
    (W0 : World) (hr : Rd W0 a (pts L)) (fr : Nat × Nat) (hBn : W0.heap[Bn]? = some (.cells #[.slice a L.length c] 42 fr)) :
    SeqAhead Fence.wide n Try.prog 36 #[.pointer (some ⟨Bn, 0, none⟩)] (fun x : Pt × Pt => #[x.1.val, x.2.val]) (fun pre x _ => pre.length < L.length ∧ x = (L[pre.length]!, L[(pre.length + 1) % L.length]!)) (KpR a L Bn) (fun xs _ => xs = edges L) W0 := by
  intro l J W hb0 hJ hY h0
  exact edges1_in n l Bn a c L hlen J W (hr.keep hb0) hJ fr ((hb0.block Bn (Array.getElem?_eq_some_iff.1 hBn).1).trans hBn) hY h0

theorem KpR.putObj {a : Option Addr} {L : List Pt} {Bn : Nat} {w : World} (hB : Bn < w.heap.size) (W : World) (l : Nat) (o o' : Obj) (hl : w.heap.size ≤ l) (h1 : W.heap[l]? = some o) (h2 : o.isCells = false) : KpR a L Bn W (W.putObj l o') :=
  ⟨fun h => h.putObj o' h1 h2, World.putObj_heap_other (fun e => by omega)⟩
theorem KpR.trans {a : Option Addr} {L : List Pt} {Bn : Nat} {A B C : World} (h : KpR a L Bn A B) (k : KpR a L Bn B C) : KpR a L Bn A C := ⟨fun x => k.1 (h.1 x), k.2.trans h.2⟩
end Go.Proofs.Ytediblljgakoeaa
/- Owned rows of several cells an element, written in place. -/
set_option linter.unusedVariables false
set_option linter.unusedSimpArgs false
namespace Go
open Go.RowKit

theorem ownsRow_cur {W : World} {base g c n s : Nat} {e : TypeId} {xs : List Value} (h : W.ownsRow base e s (.slice (some ⟨g, 0, none⟩) n c) n xs) :
    ∃ cur : Array Value, W.heap[g]? = some (.cells cur e (0, 0)) ∧ n ≤ c ∧ c ≤ maxLen ∧ cur.size = c * s ∧ cur.toList.take (n * s) = xs ∧ xs.length = n * s ∧ base ≤ g := by
  obtain ⟨h1, h2⟩ := h
  rcases h2 with ⟨hv, _⟩ | ⟨g', cap, cur, hv, hb, hg, h3, h4, h5, h6⟩
  · cases hv
  · cases hv
    exact ⟨cur, hg, h3, h4, h5, h6, h1, hb⟩

theorem ownsRow_setS {W : World} {base g c n s i : Nat} {e : TypeId} {xs : List Value} (h : W.ownsRow base e s (.slice (some ⟨g, 0, none⟩) n c) n xs) (u : Value) :
    (W.setCell ⟨g, i, none⟩ u).ownsRow base e s (.slice (some ⟨g, 0, none⟩) n c) n (xs.set i u) := by
  obtain ⟨cur, hg, h3, h4, h5, h6, h1, hb⟩ := ownsRow_cur h
  refine ⟨by simpa using h1, .inr ⟨g, c, cur.setIfInBounds i u, rfl, hb, ?_, h3, h4, by simpa using h5, ?_⟩⟩
  · show (W.setCell ⟨g, i, none⟩ u).heap[g]? = _
    simp [World.setCell, Array.getElem?_modify, hg]
  · rw [← h6]
    simp [List.take_set]

theorem ownsRow_cellS {W : World} {base g c n s i : Nat} {e : TypeId} {xs : List Value} (h : W.ownsRow base e s (.slice (some ⟨g, 0, none⟩) n c) n xs) {v : Value} (hv : xs[i]? = some v) :
    W.cell? ⟨g, i, none⟩ = some v ∧ W.frozen? ⟨g, i, none⟩ = false ∧ g < W.heap.size := by
  obtain ⟨cur, hg, h3, h4, h5, h6, h1, hb⟩ := ownsRow_cur h
  refine ⟨?_, by simp [World.frozen?, hg], (Array.getElem?_eq_some_iff.1 hg).1⟩
  rw [cell_of_row W g i cur e (0, 0) hg]
  rw [← h6, List.getElem?_take] at hv
  split at hv
  · simpa using hv
  · cases hv

/-- A cut: where, and how far: p of w. -/
structure Cu where
  x : Int
  y : Int
  p : Int
  w : Int
instance : Inhabited Cu := ⟨⟨0, 0, 0, 0⟩⟩
def Cu.cells (c : Cu) : List Value := [.int .i64 c.x, .int .i64 c.y, .int .i64 c.p, .int .i64 c.w]
def Cu.val (c : Cu) : Value := .agg #[.int .i64 c.x, .int .i64 c.y, .int .i64 c.p, .int .i64 c.w]
def cus (l : List Cu) : List Value := l.flatMap Cu.cells
/-- How far one is, by the other's measure. -/
def cmpC (a b : Cu) : Int := a.p * b.w - b.p * a.w
def CuOk (c : Cu) : Prop := (0 ≤ c.p ∧ c.p ≤ 67108864) ∧ (1 ≤ c.w ∧ c.w ≤ 67108864)
end Go
