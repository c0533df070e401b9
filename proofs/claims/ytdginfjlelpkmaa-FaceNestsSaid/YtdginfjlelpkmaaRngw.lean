/-
  World facts for a range over a function whose body appends to a boxed row, and calls.
-/
import Derived.Test.YtdginfjlelpkmaaKeep
import Derived.Test.YtdginfjlelpkmaaAhead
import Derived.Test.YtdginfjlelpkmaaPts
import Derived.Test.YtdginfjlelpkmaaRegIn
set_option linter.unusedVariables false
set_option linter.unusedSimpArgs false
namespace Go
open Go.RowKit
theorem Rd.putObj {W : World} {a : Option Addr} {vs : List Value} (h : Rd W a vs) {l : Nat} {o : Obj} (o' : Obj) (h1 : W.heap[l]? = some o) (h2 : o.isCells = false) : Rd (W.putObj l o') a vs := by
  rcases h with h | ⟨b, off, rfl, hc⟩
  · exact .inl h
  · refine .inr ⟨b, off, rfl, fun i v hv => ?_⟩
    have hx := hc i v hv
    refine (grownBy_putObj' W l o').cell hx ?_
    intro e
    cases e
    simp only [World.cell?, h1] at hx
    cases o <;> simp_all [Obj.isCells]
/-- A row of numbers stays where a box of a slice has turned. -/
theorem Rd.box {W W' : World} {B : Nat} {t : TypeId} {x : Option Addr} {n c : Nat} {a : Option Addr} {vs : List Value} (h : Rd W a vs) (hb : Boxed W B t (.slice x n c)) (hg : W.grownBy W' (some B)) (hv : ∀ v ∈ vs, ∃ k z, v = .int k z) : Rd W' a vs := by
  rcases h with h | ⟨b, off, rfl, hc⟩
  · exact .inl h
  · refine .inr ⟨b, off, rfl, fun i v hi => ?_⟩
    have hx := hc i v hi
    refine hg.cell hx ?_
    intro e
    cases e
    obtain ⟨k, z, rfl⟩ := hv v (List.mem_of_getElem? hi)
    unfold Boxed at hb
    dsimp only at hb
    simp only [World.cell?, hb] at hx
    cases ho : off + i with
    | zero => rw [ho] at hx; simp at hx
    | succ m => rw [ho] at hx; simp at hx
theorem grown_step {W0 A A' : World} {B : Nat} {r : Option Nat} (h : W0.grownBy A (some B)) (hg : A.grownBy A' r) (hr : ∀ k, r = some k → W0.heap.size ≤ k ∨ k = B) : W0.grownBy A' (some B) :=
  ⟨hg.os.trans h.os, hg.tape.trans h.tape, hg.output.trans h.output, Nat.le_trans h.size hg.size, fun k hk hne => (hg.block k (Nat.lt_of_lt_of_le hk h.size) (fun e => by
    rcases hr k e.symm with h1 | h1
    · omega
    · exact hne (by rw [h1]))).trans (h.block k hk hne)⟩
theorem ownFrom_grown {β : Type} {W0 : World} (B : Nat) : OwnFrom W0.heap.size (fun (_ : β) W => W0.grownBy W (some B)) :=
  fun _ _ _ _ hs hg hr => grown_step hs hg (fun k e => .inl (hr k e).1)
theorem KeepsOthers.of_row {A B : World} {n₀ : Nat} {e : TypeId} {size : Nat} {v : Value} {k : Nat} {xs : List Value} (hrow : A.ownsRow n₀ e size v k xs) (hg : A.grownBy B v.ownBlock) : KeepsOthers A B := by
  refine KeepsOthers.of_grownBy hg fun j o e ho => ?_
  rcases hrow.2 with ⟨rfl, _⟩ | ⟨g, cap, cur, rfl, _, hgb, _⟩
  · cases e
  · obtain rfl : g = j := by simpa [Value.ownBlock] using e
    rw [hgb] at ho
    cases ho
    rfl
end Go
