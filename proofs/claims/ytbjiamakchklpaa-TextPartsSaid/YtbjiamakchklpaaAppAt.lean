/-
  append of a literal: where it lies, and where the new row lies.
-/
import Derived.Test.YtbjiamakchklpaaLib
import Derived.Maps.AppendAt
set_option linter.unusedVariables false
set_option linter.unusedSimpArgs false
namespace Go
open Go.RowKit
/-- append(s, literal..): where the literal's block is written as a letter; and where the new row lies. -/
theorem wpList_appLitAt {P : Program} {w : World} {ops : Array Oper} {rest : List Oper} {o : Oper} {a : Act} {Q : Exit → Act → World → Prop} (w0 : World) (hb : Below w0.heap.size w0 w) (hgd : o.guard = none) (s x : Operand) (t : TypeId)
    (ho : o.op = .call { callee := .builtin .append, args := #[s, x], argTypes := #[t, t] })
    (e : TypeId) (z : Value) (size bytes : Nat) (ht : P.underlying t = some (.slice e)) (hinfo : (P.info? e).map (fun i => (i.zero, i.size, i.bytes)) = some (some z, size, bytes))
    (hzs : z.cells.size = size) (hsz : 0 < size) (hb1 : 0 < bytes)
    (v : Value) (n : Nat) (xs : List Value) (hs : a.eval s = v) (hown : w.ownsRow w0.heap.size e size v n xs)
    (m c B : Nat) (hB : w.heap.size = B) (vs : List Value) (te : TypeId) (hx : a.eval x = .slice (some ⟨B, 0, none⟩) m c) (hl : vs.length = m * size) (h1 : ∀ u ∈ vs, u.oneCell' = true)
    (hbytes : (n + m) * bytes ≤ 140737488355328)
    (h : ∀ v' w', w'.ownsRow w0.heap.size e size v' (n + m) (xs ++ vs) → w.grownBy w' v.ownBlock → Below w0.heap.size w0 w' → (v'.ownBlock = v.ownBlock ∨ v'.ownBlock = some (B + 1)) → wpList P ops Q rest (a.put o.dst v') w') :
    wpList P ops Q (o :: rest) a (w.alloc (.cells vs.toArray te)) := by
  subst hB
  obtain ⟨i, hi, hz, hsize, hby⟩ := info_parts hinfo
  have h63 : n + m ≤ maxLen := by
    have : (n + m) * 1 ≤ (n + m) * bytes := Nat.mul_le_mul_left _ hb1
    unfold maxLen; omega
  have hw1 : w.grownBy (w.alloc (.cells vs.toArray te)) v.ownBlock := World.grownBy_alloc w _ _
  refine wpList_append_own_at (w.alloc (.cells vs.toArray te)) hgd s x t ho w0.heap.size e i z size bytes ht hi hz hsize hby hzs hsz v n xs hs (hown.below (Below.new _ _)) ⟨w.heap.size, 0, none⟩ m c vs hx hl ?_ h1 h63 hbytes (by have := hb.size; simp; omega) ?_
  · exact (Rd.new w vs te).add
  · intro v' w' h2 h3 _ h5
    have h4 := hw1.trans h3
    exact h v' w' h2 h4 (hb.grown h4 hb.size (fun k hk => (hown.lt k hk).1)) (by simpa using h5)
end Go
