/-
  The document's faces that grow, in memory.
-/
import Derived.Test.YtkfgbjjelcigcaaGreatDoorPk14
import Derived.Test.YtkfgbjjelcigcaaGreatDoorPk15
import Derived.Test.YtkfgbjjelcigcaaGreatDoorPk17
/- The document's faces that grow, in memory. -/
set_option linter.unusedVariables false
set_option linter.unusedSimpArgs false
set_option maxRecDepth 100000
namespace Go.Proofs.YtkfgbjjelcigcaaGreatDoor
open Go.RowKit
theorem Tryz.infoRIt : (Tryz.prog.info? 50).map (fun i => (i.zero, i.size, i.bytes)) = some (some (.agg #[.int .i64 0, .slice none 0 0, .string ⟨#[]⟩, .int .i64 0, .string ⟨#[]⟩, .int .i64 0]), 6, 80) := by kernel_rfl
theorem Tryz.infoRPt : (Tryz.prog.info? 77).map (fun i => (i.zero, i.size, i.bytes)) = some (some (.agg #[.int .i64 0, .int .i64 0]), 2, 16) := by kernel_rfl
def GrowR (base : Nat) (W : World) (LF : List Fc) : Prop :=
  LF = [] ∨ ∃ (L0 : List Fc) (f : Fc) (Wf : World), LF = L0 ++ [f] ∧ base ≤ Wf.heap.size ∧ (∀ x ∈ L0, RfT Wf x) ∧ KeepS refS Wf W ∧ W.ownsRow Wf.heap.size 76 1 f.rval f.rs.length (rcs f.rs) ∧ (∀ r ∈ f.rs, PrT W r) ∧ W.ownsRow Wf.heap.size 79 4 f.aval f.ls.length (ats f.ls)
theorem GrowR.keepS {base : Nat} {A B : World} {LF : List Fc} (h : GrowR base A LF) (k : KeepS refS A B) : GrowR base B LF := by
  rcases h with rfl | ⟨L0, f, Wf, rfl, h1, h2, h3, h4, h5, h6⟩
  · exact .inl rfl
  · exact .inr ⟨L0, f, Wf, rfl, h1, h2, h3.trans k, h4.keepS (.inr (.inl rfl)) k, fun r hr => (h5 r hr).keepS (S := refS) (.inl rfl) k, h6.keepS (.inr (.inr rfl)) k⟩
theorem GrowR.keep {base : Nat} {A B : World} {LF : List Fc} (h : GrowR base A LF) (hb : Below A.heap.size A B) : GrowR base B LF := h.keepS (KeepS.of_below hb)
theorem GrowR.all {base : Nat} {W : World} {LF : List Fc} (h : GrowR base W LF) : ∀ f ∈ LF, RfT W f := by
  rcases h with rfl | ⟨L0, f, Wf, rfl, h1, h2, h3, h4, h5, h6⟩
  · simp
  · intro x hx
    rcases List.mem_append.1 hx with hx | hx
    · exact (h2 x hx).keepS h3
    · rw [List.mem_singleton] at hx; subst hx; obtain ⟨ra, rc, e1, q1, q2, q3, q4, -⟩ := h4.form; obtain ⟨aa, ac, e2, p1, p2, p3, p4, -⟩ := h6.form; unfold Fc.rval at e1; unfold Fc.aval at e2
      cases e1
      cases e2
      exact ⟨⟨⟨q4, q1, q2, q3⟩, fun r hr => (h5 r hr).1, ⟨p4, p1, p2, p3⟩⟩, TypB.of_owns h4, h5, TypB.of_owns h6⟩
theorem GrowR.face {base : Nat} {W : World} {LF : List Fc} (h : GrowR base W LF) (hb : base ≤ W.heap.size) : GrowR base W (LF ++ [⟨[], none, 0, [], none, 0⟩]) :=
  .inr ⟨LF, _, W, rfl, hb, h.all, KeepS.refl W, World.ownsRow_nil _ _ _ _, by simp, World.ownsRow_nil _ _ _ _⟩
theorem rf33 : ∀ V, refS V → V ≠ 33 := by rintro V (rfl | rfl | rfl) <;> decide
theorem rf75 : ∀ V, refS V → V ≠ 75 := by rintro V (rfl | rfl | rfl) <;> decide
theorem rf50 : ∀ V, refS V → V ≠ 50 := by rintro V (rfl | rfl | rfl) <;> decide
end Go.Proofs.YtkfgbjjelcigcaaGreatDoor
