/-
  Rows of fields: the program's (bytes behind a slice) and the document's (bytes in a string).
-/
import Derived.Test.YtoicahfpnnhgpaaPrefread
import Derived.Test.YtoicahfpnnhgpaaPall
import Derived.Maps.AppendAt
namespace Go
open Go.RowKit Go.Proto

/-- A field of the program's, with its slice's address and capacity. -/
structure FC where
  f : Fld
  p : Option Addr
  c : Nat

def FC.cells (x : FC) : List Value := [.int .i64 x.f.num, .int .i64 x.f.kind, .int .u64 x.f.n, .slice x.p x.f.bs.length x.c]
def FC.val (x : FC) : Value := .agg #[.int .i64 x.f.num, .int .i64 x.f.kind, .int .u64 x.f.n, .slice x.p x.f.bs.length x.c]
def FC.Ok (W : World) (x : FC) : Prop := Rd W x.p (x.f.bs.map (Value.int .u8)) ∧ x.f.bs.length ≤ x.c ∧ x.c ≤ maxLen ∧ (x.p = none → x.c = 0)
def flat (xs : List FC) : List Value := xs.flatMap FC.cells

/-- A field of the document's. -/
def rcells (f : Fld) : List Value := [.int .i64 f.num, .int .i64 f.kind, .int .u64 f.n, .string (strOfNums f.bs)]
def rflat (fs : List Fld) : List Value := fs.flatMap rcells

theorem FC.Ok.keep {w w' : World} {x : FC} (h : x.Ok w) (hb : Below w.heap.size w w') : x.Ok w' := ⟨h.1.keep hb, h.2⟩
theorem FC.Ok.below {B : Nat} {w w' : World} {x : FC} (h : x.Ok w) (hb : Below B w w') (hB : w.heap.size ≤ B) : x.Ok w' := ⟨h.1.below hb hB, h.2⟩
theorem FC.Ok.grown {w w' : World} {r : Option Nat} {x : FC} (h : x.Ok w) (hg : w.grownBy w' r) (hne : ∀ b, x.p.map (·.block) = some b → some b ≠ r) : x.Ok w' := ⟨h.1.grown hg hne, h.2⟩

theorem flat_len (xs : List FC) : (flat xs).length = xs.length * 4 := by
  induction xs with
  | nil => rfl
  | cons x xs ih => simp only [flat, List.flatMap_cons, List.length_append] at *; rw [ih]; simp [FC.cells]; omega
theorem rflat_len (xs : List Fld) : (rflat xs).length = xs.length * 4 := by
  induction xs with
  | nil => rfl
  | cons x xs ih => simp only [rflat, List.flatMap_cons, List.length_append] at *; rw [ih]; simp [rcells]; omega

theorem flat_get (xs : List FC) (i j : Nat) (hi : i < xs.length) (hj : j < 4) : (flat xs)[i * 4 + j]? = (xs[i]).cells[j]? := by
  induction xs generalizing i with
  | nil => simp at hi
  | cons x xs ih =>
    simp only [flat, List.flatMap_cons]
    cases i with
    | zero => simp only [Nat.zero_mul, Nat.zero_add, List.getElem_cons_zero]; rw [List.getElem?_append_left (by simp [FC.cells]; omega)]
    | succ i =>
      rw [List.getElem?_append_right (by simp [FC.cells]; omega), List.getElem_cons_succ]
      rw [← ih i (by simpa using hi)]
      simp only [FC.cells, List.length_cons, List.length_nil, flat]
      congr 1; omega
theorem rflat_get (xs : List Fld) (i j : Nat) (hi : i < xs.length) (hj : j < 4) : (rflat xs)[i * 4 + j]? = (rcells xs[i])[j]? := by
  induction xs generalizing i with
  | nil => simp at hi
  | cons x xs ih =>
    simp only [rflat, List.flatMap_cons]
    cases i with
    | zero => simp only [Nat.zero_mul, Nat.zero_add, List.getElem_cons_zero]; rw [List.getElem?_append_left (by simp [rcells]; omega)]
    | succ i =>
      rw [List.getElem?_append_right (by simp [rcells]; omega), List.getElem_cons_succ]
      rw [← ih i (by simpa using hi)]
      simp only [rcells, List.length_cons, List.length_nil, rflat]
      congr 1; omega

theorem flat_snoc (xs : List FC) (x : FC) : flat (xs ++ [x]) = flat xs ++ x.cells := by simp [flat]
theorem rflat_snoc (xs : List Fld) (x : Fld) : rflat (xs ++ [x]) = rflat xs ++ rcells x := by simp [rflat]
theorem FC.cells_one (x : FC) : ∀ u ∈ x.cells, u.oneCell' = true := by intro u hu; simp [FC.cells] at hu; rcases hu with rfl | rfl | rfl | rfl <;> rfl
theorem rcells_one (x : Fld) : ∀ u ∈ rcells x, u.oneCell' = true := by intro u hu; simp [rcells] at hu; rcases hu with rfl | rfl | rfl | rfl <;> rfl

/-- append(s, literal..): where the literal's block is written as a letter; and where the new row lies. -/
theorem wpList_appLitAt {P : Program} {w : World} {ops : Array Oper} {rest : List Oper} {o : Oper} {a : Act} {Q : Exit → Act → World → Prop} (w0 : World) (hb : Below w0.heap.size w0 w) (hgd : o.guard = none) (s x : Operand) (t : TypeId)
    (ho : o.op = .call { callee := .builtin .append, args := #[s, x], argTypes := #[t, t] })
    (e : TypeId) (z : Value) (size bytes : Nat) (ht : P.underlying t = some (.slice e)) (hinfo : (P.info? e).map (fun i => (i.zero, i.size, i.bytes)) = some (some z, size, bytes))
    (hzs : z.cells.size = size) (hsz : 0 < size) (hb1 : 0 < bytes)
    (v : Value) (n : Nat) (xs : List Value) (hs : a.eval s = v) (hown : w.ownsRow w0.heap.size e size v n xs)
    (m c B : Nat) (hB : w.heap.size = B) (vs : List Value) (te : TypeId) (hx : a.eval x = .slice (some ⟨B, 0, none⟩) m c) (hl : vs.length = m * size) (h1 : ∀ u ∈ vs, u.oneCell' = true)
    (hbytes : (n + m) * bytes ≤ 140737488355328)
    (h : ∀ v' w', w'.ownsRow w0.heap.size e size v' (n + m) (xs ++ vs) → w.grownBy w' v.ownBlock → Below w0.heap.size w0 w' → (v'.ownBlock = v.ownBlock ∨ v'.ownBlock = some (B + 1)) → wpList P ops Q rest (a.put o.dst v') w') :
    wpList P ops Q (o :: rest) a (w.alloc (.cells vs.toArray te)) := by
  subst hB
  obtain ⟨i, hi, hz, hsize, hby⟩ := info_parts hinfo
  have h63 : n + m ≤ maxLen := by
    have : (n + m) * 1 ≤ (n + m) * bytes := Nat.mul_le_mul_left _ hb1
    unfold maxLen; omega
  have hw1 : w.grownBy (w.alloc (.cells vs.toArray te)) v.ownBlock := World.grownBy_alloc w _ _
  refine wpList_append_own_at (w.alloc (.cells vs.toArray te)) hgd s x t ho w0.heap.size e i z size bytes ht hi hz hsize hby hzs hsz v n xs hs (hown.below (Below.new _ _)) ⟨w.heap.size, 0, none⟩ m c vs hx hl ?_ h1 h63 hbytes (by have := hb.size; simp; omega) ?_
  · exact (Rd.new w vs te).add
  · intro v' w' h2 h3 _ h5
    have h4 := hw1.trans h3
    exact h v' w' h2 h4 (hb.grown h4 hb.size (fun k hk => (hown.lt k hk).1)) (by simpa using h5)
end Go
namespace Go.Proofs.Ytoicahfpnnhgpaa
theorem Try.infoField : (Try.prog.info? 25).map (fun i => (i.zero, i.size, i.bytes)) = some (some (.agg #[.int .i64 0, .int .i64 0, .int .u64 0, .slice none 0 0]), 4, 48) := by kernel_rfl
theorem Try.infoF : (Try.prog.info? 30).map (fun i => (i.zero, i.size, i.bytes)) = some (some (.agg #[.int .i64 0, .int .i64 0, .int .u64 0, .string ⟨#[]⟩]), 4, 40) := by kernel_rfl
end Go.Proofs.Ytoicahfpnnhgpaa
