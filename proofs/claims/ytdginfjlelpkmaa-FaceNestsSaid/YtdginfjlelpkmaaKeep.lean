/-
  What a round keeps: blocks of two element types. (The same lies in XPeach, XPall8, XPonly: those texts and this one do not go together.)
-/
import Derived.RangeFuncBox
import Derived.Test.YtdginfjlelpkmaaLib
set_option linter.unusedVariables false
set_option linter.unusedSimpArgs false
namespace Go
open Go.RowKit

def KeepT (T U : TypeId) (A B : World) : Prop := A.heap.size ≤ B.heap.size ∧ ∀ (k : Nat) (cs : Array Value) (V : TypeId) (fr : Nat × Nat), A.heap[k]? = some (Obj.cells cs V fr) → (V = T ∨ V = U) → B.heap[k]? = A.heap[k]?

theorem KeepT.trans {T U : TypeId} {A B C : World} (h : KeepT T U A B) (k : KeepT T U B C) : KeepT T U A C :=
  ⟨Nat.le_trans h.1 k.1, fun i cs V fr hi hv => by
    have h1 := h.2 i cs V fr hi hv
    rw [k.2 i cs V fr (h1.trans hi) hv, h1]⟩
theorem KeepT.of_below {T U : TypeId} {A B : World} (h : Below A.heap.size A B) : KeepT T U A B :=
  ⟨h.size, fun k _ _ _ hk _ => h.block k (Array.getElem?_eq_some_iff.1 hk).1⟩
theorem KeepT.putObj {T U : TypeId} (W : World) (l : Nat) (o o' : Obj) (h : W.heap[l]? = some o) (ho : o.isCells = false) : KeepT T U W (W.putObj l o') := by
  have hg := grownBy_putObj' W l o'
  refine ⟨hg.size, fun k cs V fr hk _ => hg.block k (Array.getElem?_eq_some_iff.1 hk).1 fun e => ?_⟩
  cases e
  rw [h] at hk
  cases hk
  cases ho
theorem KeepT.refl {T U : TypeId} (A : World) : KeepT T U A A := ⟨Nat.le_refl _, fun _ _ _ _ _ _ => rfl⟩

theorem KeepT.of_grownBy {T U : TypeId} {A B : World} {row : Option Nat} (hg : A.grownBy B row) (hr : ∀ r, row = some r → ∀ cs V fr, A.heap[r]? = some (Obj.cells cs V fr) → V ≠ T ∧ V ≠ U) : KeepT T U A B := by
  refine ⟨hg.size, fun k cs V fr hk hv => hg.block k (Array.getElem?_eq_some_iff.1 hk).1 fun e => ?_⟩
  have := hr k e.symm cs V fr hk
  rcases hv with rfl | rfl
  · exact this.1 rfl
  · exact this.2 rfl

theorem KeepT.of_row {T U : TypeId} {A B : World} {n₀ : Nat} {e : TypeId} {size : Nat} {v : Value} {k : Nat} {xs : List Value} (hrow : A.ownsRow n₀ e size v k xs) (hT : e ≠ T) (hU : e ≠ U) (hg : A.grownBy B v.ownBlock) : KeepT T U A B :=
  KeepT.of_grownBy hg fun r he cs V fr hk => by
    rcases hrow.2 with ⟨rfl, _⟩ | ⟨g, cap, cur, rfl, _, hgb, _⟩
    · cases he
    · obtain rfl : g = r := by simpa [Value.ownBlock] using he
      rw [hgb] at hk
      cases hk
      exact ⟨hT, hU⟩

theorem KeepT.store {T U : TypeId} {A : World} {B : Nat} {t : TypeId} {v : Value} (h : Boxed A B t v) (hT : t ≠ T) (hU : t ≠ U) (u : Value) : KeepT T U A (A.setCell ⟨B, 0, none⟩ u) :=
  KeepT.of_grownBy (grownBy_setCell' A B u) fun r he cs V fr hk => by
    cases he
    rw [show A.heap[B]? = _ from h] at hk
    cases hk
    exact ⟨hT, hU⟩

theorem KeepsOthers.of_below {A B : World} (h : Below A.heap.size A B) : KeepsOthers A B :=
  KeepsOthers.of_grownBy (row := none) ⟨h.os, h.tape, h.output, h.size, fun k hk _ => h.block k hk⟩ fun _ _ e => by cases e
theorem grownBy_of_below {A B : World} (h : Below A.heap.size A B) (r : Option Nat) : A.grownBy B r := ⟨h.os, h.tape, h.output, h.size, fun k hk _ => h.block k hk⟩
end Go
