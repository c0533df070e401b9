/-
  Small laws of our own, over any program: what a slice reads (Rd), append from whatever source, carrying readings. Opening a law's arguments: a slice of integers that came in, as 'Rd'. Bytes that a string is made of.
-/
import Derived.WalkKit
import Derived.Outline
import Derived.Laws.AppendOwnNone
import Derived.WalkMore
import Derived.ScopeJumps
import Derived.Deep.LoopGhost
import Derived.Deep.QuietTactic
import Derived.BigQuiet
import Derived.Lib.Hide
import Derived.WalkLawsBesides
import Derived.WalkSpells
import Derived.ProofKit
import Derived.OpenShut
import Derived.ShutString
import Derived.ChangeOld
import Derived.Below
import Derived.JoinedCond
import Derived.Laws.BytesArg
/- Small laws of our own, over any program: what a slice reads (Rd), append from whatever source, carrying readings. -/
set_option linter.unusedVariables false
set_option linter.unusedSimpArgs false
namespace Go
open Go.RowKit

def Rd (w : World) (a : Option Addr) (vs : List Value) : Prop :=
  vs = [] ∨ ∃ b off, a = some ⟨b, off, none⟩ ∧ ∀ i v, vs[i]? = some v → w.cell? ⟨b, off + i, none⟩ = some v

theorem Rd.nil (w : World) (a : Option Addr) : Rd w a [] := .inl rfl

theorem Rd.at {w : World} {a : Option Addr} {vs : List Value} (h : Rd w a vs) {i : Nat} {v : Value} (hv : vs[i]? = some v) :
    ∃ b off, a = some ⟨b, off, none⟩ ∧ w.cell? ⟨b, off + i, none⟩ = some v ∧ b < w.heap.size := by
  rcases h with rfl | ⟨b, off, ha, hc⟩
  · simp at hv
  · exact ⟨b, off, ha, hc i v hv, World.block_lt_of_cell? w _ (hc i v hv)⟩

theorem Rd.below {B : Nat} {w w' : World} {a : Option Addr} {vs : List Value} (h : Rd w a vs) (hb : Below B w w') (hB : w.heap.size ≤ B) : Rd w' a vs := by
  rcases h with h | ⟨b, off, ha, hc⟩
  · exact .inl h
  · refine .inr ⟨b, off, ha, fun i v hv => ?_⟩; have := hc i v hv; rw [hb.cell (by have := World.block_lt_of_cell? w _ this; simp at this ⊢; omega)]; exact this

theorem Rd.keep {w w' : World} {a : Option Addr} {vs : List Value} (h : Rd w a vs) (hb : Below w.heap.size w w') : Rd w' a vs := h.below hb (Nat.le_refl _)

theorem Rd.keep2 {w0 w w' : World} {a : Option Addr} {vs : List Value} (h : Rd w0 a vs) (hb : Below w0.heap.size w0 w') : Rd w' a vs := h.keep hb

theorem Rd.alloc {w : World} {a : Option Addr} {vs : List Value} (h : Rd w a vs) (o : Obj) : Rd (w.alloc o) a vs :=
  h.keep ((Below.refl _ _).alloc (Nat.le_refl _) _)

theorem Rd.drew {w : World} {a : Option Addr} {vs : List Value} (h : Rd w a vs) : Rd w.drew a vs := h

theorem Rd.grown {w w' : World} {a : Option Addr} {vs : List Value} {r : Option Nat} (h : Rd w a vs) (hg : w.grownBy w' r) (hne : ∀ b, a.map (·.block) = some b → some b ≠ r) : Rd w' a vs := by
  rcases h with h | ⟨b, off, rfl, hc⟩
  · exact .inl h
  · refine .inr ⟨b, off, rfl, fun i v hv => hg.cell (hc i v hv) (hne b rfl)⟩

theorem Rd.take {w : World} {a : Option Addr} {vs : List Value} (h : Rd w a vs) (n : Nat) : Rd w a (vs.take n) := by
  rcases h with rfl | ⟨b, off, ha, hc⟩
  · simp [Rd]
  · refine .inr ⟨b, off, ha, fun i v hv => hc i v ?_⟩; rw [List.getElem?_take] at hv
    split at hv
    · exact hv
    · cases hv

theorem Rd.drop {w : World} {b off : Nat} {vs : List Value} (h : Rd w (some ⟨b, off, none⟩) vs) (n : Nat) : Rd w (some ⟨b, off + n, none⟩) (vs.drop n) := by
  rcases h with rfl | ⟨b', off', ha, hc⟩
  · simp [Rd]
  · cases ha
    refine .inr ⟨b, off + n, rfl, fun i v hv => ?_⟩; rw [List.getElem?_drop] at hv; have := hc _ _ hv
    rwa [← Nat.add_assoc] at this

theorem Rd.of_owns {w : World} {base : Nat} {e : TypeId} {size : Nat} {a : Option Addr} {n c m : Nat} {xs : List Value} (h : w.ownsRow base e size (.slice a n c) m xs) : Rd w a xs := by
  obtain ⟨h1, h2⟩ := h
  rcases h2 with ⟨h2, hn⟩ | ⟨g, cap, cur, hv, _, hg, _, _, _, htake⟩
  · subst hn; exact .inl (List.length_eq_zero_iff.1 (by omega))
  · cases hv
    refine .inr ⟨g, 0, rfl, fun i v hv => ?_⟩; rw [← htake, List.getElem?_take] at hv
    split at hv
    · rw [cell_of_row w g (0 + i) cur e (0, 0) hg]; simpa using hv
    · cases hv

theorem Rd.one (w : World) (x : Value) (t : TypeId) : Rd (w.alloc (.cells #[x] t)) (some ⟨w.heap.size, 0, none⟩) [x] := by
  refine .inr ⟨_, _, rfl, fun i v hv => ?_⟩; have := cell_one_new w x t i v hv
  match i, hv with
  | 0, _ => simpa [Addr.add] using this

theorem World.ownsRow.form {w : World} {base : Nat} {e : TypeId} {size : Nat} {v : Value} {n : Nat} {xs : List Value} (h : w.ownsRow base e size v n xs) :
    ∃ a c, v = .slice a n c ∧ n ≤ c ∧ c ≤ maxLen ∧ (a = none → c = 0) ∧ Rd w a xs ∧ (∀ b, a.map (·.block) = some b → base ≤ b ∧ b < w.heap.size) := by
  have h' := h; obtain ⟨h1, h2⟩ := h
  rcases h2 with ⟨rfl, rfl⟩ | ⟨g, cap, cur, rfl, hb, hg, h3, h4, _, _⟩
  · exact ⟨none, 0, rfl, Nat.le_refl _, by simp [maxLen], fun _ => rfl, Rd.of_owns h', by simp⟩
  · refine ⟨some ⟨g, 0, none⟩, cap, rfl, h3, h4, fun h => (by cases h), Rd.of_owns h', fun b hb' => ?_⟩; simp at hb'; subst hb'; exact ⟨hb, (Array.getElem?_eq_some_iff.1 hg).1⟩

theorem World.ownsRow.mono {w : World} {base base' : Nat} {e : TypeId} {size : Nat} {v : Value} {n : Nat} {xs : List Value} (h : w.ownsRow base e size v n xs) (hb : base' ≤ base) : w.ownsRow base' e size v n xs := by
  refine ⟨h.1, ?_⟩
  rcases h.2 with h2 | ⟨g, cap, cur, hv, hg, r⟩
  · exact .inl h2
  · exact .inr ⟨g, cap, cur, hv, Nat.le_trans hb hg, r⟩

theorem World.ownsRow.below {w w' : World} {base : Nat} {e : TypeId} {size : Nat} {v : Value} {n : Nat} {xs : List Value} (h : w.ownsRow base e size v n xs) (hb : Below w.heap.size w w') : w'.ownsRow base e size v n xs := by
  refine ⟨h.1, ?_⟩
  rcases h.2 with h2 | ⟨g, cap, cur, hv, hg, hh, r⟩
  · exact .inl h2
  · refine .inr ⟨g, cap, cur, hv, hg, ?_, r⟩; rw [hb.block g (Array.getElem?_eq_some_iff.1 hh).1]; exact hh

theorem wpList_app {P : Program} {w : World} {ops : Array Oper} {rest : List Oper} {o : Oper} {a : Act} {Q : Exit → Act → World → Prop} (hgd : o.guard = none) (s x : Operand) (t : TypeId)
    (ho : o.op = .call { callee := .builtin .append, args := #[s, x], argTypes := #[t, t] })
    (base : Nat) (e : TypeId) (z : Value) (size bytes : Nat) (ht : P.underlying t = some (.slice e)) (hinfo : (P.info? e).map (fun i => (i.zero, i.size, i.bytes)) = some (some z, size, bytes))
    (hzs : z.cells.size = size) (hsz : 0 < size)
    (v : Value) (n : Nat) (xs : List Value) (hs : a.eval s = v) (hown : w.ownsRow base e size v n xs)
    (ax : Option Addr) (m c : Nat) (vs : List Value) (hx : a.eval x = .slice ax m c) (hc0 : ax = none → c = 0) (hvs : Rd w ax vs) (hl : vs.length = m * size) (h1 : ∀ u ∈ vs, u.oneCell' = true)
    (hbytes : (n + m) * bytes ≤ 140737488355328) (hb1 : 0 < bytes) (hbase : base ≤ w.heap.size)
    (h : ∀ v' w', w'.ownsRow base e size v' (n + m) (xs ++ vs) → w.grownBy w' v.ownBlock → wpList P ops Q rest (a.put o.dst v') w') : wpList P ops Q (o :: rest) a w := by
  obtain ⟨i, hi, hz, hsize, hby⟩ := info_parts hinfo; have h63 : n + m ≤ maxLen := by
    have : (n + m) * 1 ≤ (n + m) * bytes := Nat.mul_le_mul_left _ hb1; unfold maxLen; omega
  cases ax with
  | none =>
    have hv0 : vs = [] := by
      rcases hvs with h | ⟨_, _, h, _⟩
      · exact h
      · cases h
    subst hv0; have hm : m = 0 := by
      have : m * size = 0 := by simpa using hl.symm
      rcases Nat.mul_eq_zero.1 this with h | h <;> omega
    subst hm; obtain rfl := hc0 rfl; refine wpList_append_own_none hgd s x t ho base e i size ht hi v n xs hs hown hx ?_; exact h v w (by simpa using hown) (World.grownBy.refl _ _)
  | some ad =>
    refine wpList_append_own w hgd s x t ho base e i z size bytes ht hi hz hsize hby hzs hsz v n xs hs hown ad m c vs hx hl ?_ h1 h63 hbytes hbase ?_
    · intro j u hu
      rcases hvs with rfl | ⟨b, off, ha, hc⟩
      · simp at hu
      · cases ha
        have := hc j u hu; unfold Addr.add
        split
        · subst_vars; simpa using this
        · exact this
    · intro v' w' h2 h3 _; exact h v' w' h2 h3

theorem Rd.new (w : World) (xs : List Value) (t : TypeId) : Rd (w.alloc (.cells xs.toArray t)) (some ⟨w.heap.size, 0, none⟩) xs := by
  refine .inr ⟨_, _, rfl, fun i v hv => ?_⟩; rw [cell_of_row _ w.heap.size (0 + i) xs.toArray t (0, 0) (heap_alloc_new w _)]
  simpa using hv

theorem Rd.lit (w : World) (b : Nat) (xs : List Value) (t : TypeId) (hb : w.heap.size = b) : Rd (w.alloc (.cells xs.toArray t)) (some ⟨b, 0, none⟩) xs := by
  subst hb; exact Rd.new w xs t

theorem wpList_appLit {P : Program} {w : World} {ops : Array Oper} {rest : List Oper} {o : Oper} {a : Act} {Q : Exit → Act → World → Prop} (hgd : o.guard = none) (s x : Operand) (t : TypeId)
    (ho : o.op = .call { callee := .builtin .append, args := #[s, x], argTypes := #[t, t] })
    (base : Nat) (e : TypeId) (z : Value) (size bytes : Nat) (ht : P.underlying t = some (.slice e)) (hinfo : (P.info? e).map (fun i => (i.zero, i.size, i.bytes)) = some (some z, size, bytes))
    (hzs : z.cells.size = size) (hsz : 0 < size) (hb1 : 0 < bytes)
    (v : Value) (n : Nat) (xs : List Value) (hs : a.eval s = v) (hown : w.ownsRow base e size v n xs)
    (m c : Nat) (vs : List Value) (te : TypeId) (hx : a.eval x = .slice (some ⟨w.heap.size, 0, none⟩) m c) (hl : vs.length = m * size) (h1 : ∀ u ∈ vs, u.oneCell' = true)
    (hbytes : (n + m) * bytes ≤ 140737488355328) (hbase : base ≤ w.heap.size)
    (h : ∀ v' w', w'.ownsRow base e size v' (n + m) (xs ++ vs) → w.grownBy w' v.ownBlock → wpList P ops Q rest (a.put o.dst v') w') : wpList P ops Q (o :: rest) a (w.alloc (.cells vs.toArray te)) := by
  refine wpList_app hgd s x t ho base e z size bytes ht hinfo hzs hsz v n xs hs (hown.alloc _) _ m c vs hx (fun h => by cases h) (Rd.new w vs te) hl h1 hbytes hb1 (by simp; omega) ?_; intro v' w' h2 h3; refine h v' w' h2 ⟨h3.os, h3.tape, h3.output, Nat.le_trans (by simp) h3.size, fun k hk hne => ?_⟩; rw [h3.block k (by simp; omega) hne]; exact heap_alloc_old w _ hk

theorem wpList_app' {P : Program} {w : World} {ops : Array Oper} {rest : List Oper} {o : Oper} {a : Act} {Q : Exit → Act → World → Prop} (w0 : World) (hb : Below w0.heap.size w0 w) (hgd : o.guard = none) (s x : Operand) (t : TypeId)
    (ho : o.op = .call { callee := .builtin .append, args := #[s, x], argTypes := #[t, t] })
    (e : TypeId) (z : Value) (size bytes : Nat) (ht : P.underlying t = some (.slice e)) (hinfo : (P.info? e).map (fun i => (i.zero, i.size, i.bytes)) = some (some z, size, bytes))
    (hzs : z.cells.size = size) (hsz : 0 < size)
    (v : Value) (n : Nat) (xs : List Value) (hs : a.eval s = v) (hown : w.ownsRow w0.heap.size e size v n xs)
    (ax : Option Addr) (m c : Nat) (vs : List Value) (hx : a.eval x = .slice ax m c) (hc0 : ax = none → c = 0) (hvs : Rd w ax vs) (hl : vs.length = m * size) (h1 : ∀ u ∈ vs, u.oneCell' = true)
    (hbytes : (n + m) * bytes ≤ 140737488355328) (hb1 : 0 < bytes)
    (h : ∀ v' w', w'.ownsRow w0.heap.size e size v' (n + m) (xs ++ vs) → w.grownBy w' v.ownBlock → Below w0.heap.size w0 w' → wpList P ops Q rest (a.put o.dst v') w') : wpList P ops Q (o :: rest) a w :=
  wpList_app hgd s x t ho w0.heap.size e z size bytes ht hinfo hzs hsz v n xs hs hown ax m c vs hx hc0 hvs hl h1 hbytes hb1 hb.size fun v' w' h2 h3 => h v' w' h2 h3 (hb.grown h3 hb.size (fun k hk => (hown.lt k hk).1))

theorem wpList_appLit' {P : Program} {w : World} {ops : Array Oper} {rest : List Oper} {o : Oper} {a : Act} {Q : Exit → Act → World → Prop} (w0 : World) (hb : Below w0.heap.size w0 w) (hgd : o.guard = none) (s x : Operand) (t : TypeId)
    (ho : o.op = .call { callee := .builtin .append, args := #[s, x], argTypes := #[t, t] })
    (e : TypeId) (z : Value) (size bytes : Nat) (ht : P.underlying t = some (.slice e)) (hinfo : (P.info? e).map (fun i => (i.zero, i.size, i.bytes)) = some (some z, size, bytes))
    (hzs : z.cells.size = size) (hsz : 0 < size) (hb1 : 0 < bytes)
    (v : Value) (n : Nat) (xs : List Value) (hs : a.eval s = v) (hown : w.ownsRow w0.heap.size e size v n xs)
    (m c : Nat) (vs : List Value) (te : TypeId) (hx : a.eval x = .slice (some ⟨w.heap.size, 0, none⟩) m c) (hl : vs.length = m * size) (h1 : ∀ u ∈ vs, u.oneCell' = true)
    (hbytes : (n + m) * bytes ≤ 140737488355328)
    (h : ∀ v' w', w'.ownsRow w0.heap.size e size v' (n + m) (xs ++ vs) → w.grownBy w' v.ownBlock → Below w0.heap.size w0 w' → wpList P ops Q rest (a.put o.dst v') w') : wpList P ops Q (o :: rest) a (w.alloc (.cells vs.toArray te)) :=
  wpList_appLit hgd s x t ho w0.heap.size e z size bytes ht hinfo hzs hsz hb1 v n xs hs hown m c vs te hx hl h1 hbytes hb.size fun v' w' h2 h3 => h v' w' h2 h3 (hb.grown h3 hb.size (fun k hk => (hown.lt k hk).1))

theorem ownsRow_empty (w : World) (e : TypeId) (size : Nat) : (w.alloc (.cells #[] e)).ownsRow w.heap.size e size (.slice (some ⟨w.heap.size, 0, none⟩) 0 0) 0 [] :=
  World.ownsRow_made (base := w.heap.size) (e := e) (size := size) w #[] 0 (Nat.le_refl _) (by decide) (by simp)

theorem Below.new (w : World) (o : Obj) : Below w.heap.size w (w.alloc o) := (Below.refl _ _).alloc (Nat.le_refl _) _

theorem ret_int {k : IntKind} {a b : Int} (h : a = b) : Ending.returned (.int k a) = .returned (.int k b) := by rw [h]
theorem ret_bool {a b : Bool} (h : a = b) : Ending.returned (.bool a) = .returned (.bool b) := by rw [h]
theorem val_int {k : IntKind} {a b : Int} (h : a = b) : Value.int k a = Value.int k b := by rw [h]

/-! Jumps back to one label; what holds at every jump stands behind a variable. -/
@[go_sem] theorem Exit.jump_normal (l : Nat) (J : Act → World → Prop) (Q : Exit → Act → World → Prop) (a : Act) (w : World) : Exit.jump l J Q .normal a w = Q .normal a w := rfl
@[go_sem] theorem Exit.jump_exit (l : Nat) (J : Act → World → Prop) (Q : Exit → Act → World → Prop) (id : Nat) (a : Act) (w : World) : Exit.jump l J Q (.exit id) a w = Q (.exit id) a w := rfl
@[go_sem] theorem Exit.jump_ret (l : Nat) (J : Act → World → Prop) (Q : Exit → Act → World → Prop) (a : Act) (w : World) : Exit.jump l J Q .ret a w = Q .ret a w := rfl
@[go_sem] theorem Exit.jump_panic (l : Nat) (J : Act → World → Prop) (Q : Exit → Act → World → Prop) (ch : List PanicEntry) (a : Act) (w : World) : Exit.jump l J Q (.panic ch) a w = Q (.panic ch) a w := rfl
theorem Exit.jump_goto {l : Nat} {J : Act → World → Prop} {Q : Exit → Act → World → Prop} {a : Act} {w : World} (h : J a w) : Exit.jump l J Q (.goto l) a w := ⟨rfl, h⟩

theorem wp_goto_k {P : Program} {a : Act} {w : World} {Q : Exit → Act → World → Prop} {c rest : Code} (l : Nat) (I : Nat → Act → World → Prop) (hf : findLabel c l = some rest)
    (first : ∀ J : Act → World → Prop, (∀ k a' w', I k a' w' → J a' w') → c.wp P (Exit.jump l J Q) a w)
    (pass : ∀ n a w, I n a w → ∀ J : Act → World → Prop, (∀ k a' w', k < n → I k a' w' → J a' w') → rest.wp P (Exit.jump l J Q) a w) : (Code.scope c).wp P Q a w := by
  refine wp_scope_jumps l (fun a w => ∃ n, I n a w) (fun a w => leastOf (fun n => I n a w)) hf (first _ fun k a' w' h => ⟨k, h⟩) ?_; intro a w hI; refine pass _ a w (leastOf_spec hI).1 _ fun k a' w' hlt h => ⟨⟨k, h⟩, ?_⟩; exact Nat.lt_of_le_of_lt ((leastOf_spec ⟨k, h⟩).2 k h) hlt

theorem wp_goto_pre {P : Program} {a : Act} {w : World} {Q : Exit → Act → World → Prop} {c rest : Code} (l : Nat) (I : Nat → Act → World → Prop) (hf : findLabel c l = some (.seq .skip rest))
    (pass : ∀ n a w, I n a w → ∀ J : Act → World → Prop, (∀ k a' w', k < n → I k a' w' → J a' w') → rest.wp P (Exit.jump l J Q) a w)
    (first : ∀ J : Act → World → Prop, Hid (∀ n a w, I n a w → rest.wp P (Exit.jump l J Q) a w) → c.wp P (Exit.jump l J Q) a w) : (Code.scope c).wp P Q a w :=
  wp_goto_k l I hf (fun J hJ => first J (fun n a w h => pass n a w h J fun k a' w' _ h => hJ k a' w' h)) fun n a w h J hJ => wp_seq (wp_skip (pass n a w h J hJ))

theorem wp_goto_head {P : Program} {a : Act} {w : World} {Q : Exit → Act → World → Prop} {rest : Code} (l : Nat) (I : Nat → Act → World → Prop) (n₀ : Nat) (h₀ : I n₀ a w)
    (pass : ∀ n a w, I n a w → ∀ J : Act → World → Prop, (∀ k a' w', k < n → I k a' w' → J a' w') → rest.wp P (Exit.jump l J Q) a w) : (Code.scope (.seq (.label l) rest)).wp P Q a w := by
  refine wp_goto_k (rest := .seq .skip rest) l I (by simp [findLabel]) ?_ (fun n a w h J hJ => wp_seq (wp_skip (pass n a w h J hJ))); intro J hJ; refine wp_seq (wp_label ?_); exact pass n₀ a w h₀ J fun k a' w' _ h => hJ k a' w' h

theorem ints_one (k : IntKind) (zs : List Int) : ∀ u ∈ zs.map (Value.int k), u.oneCell' = true := ints_oneCell k zs

/-! A variable that is captured, or whose address is taken: a block of one cell. -/
def Cell1 (w : World) (b : Nat) (v : Value) : Prop := ∃ T, w.heap[b]? = some (.cells #[v] T (0, 0))

section
variable {w w' : World} {b : Nat} {v : Value}
theorem Cell1.lt (h : Cell1 w b v) : b < w.heap.size := by obtain ⟨T, h⟩ := h; exact (Array.getElem?_eq_some_iff.1 h).1
theorem Cell1.cell (h : Cell1 w b v) : w.cell? ⟨b, 0, none⟩ = some v := by
  obtain ⟨T, h⟩ := h; simp [World.cell?, h]
theorem Cell1.free (h : Cell1 w b v) : w.frozen? ⟨b, 0, none⟩ = false := by
  obtain ⟨T, h⟩ := h; simp [World.frozen?, h]
theorem Cell1.of_block (h : Cell1 w b v) (hb : w'.heap[b]? = w.heap[b]?) : Cell1 w' b v := by
  obtain ⟨T, h⟩ := h; exact ⟨T, by rw [hb, h]⟩
theorem Cell1.grown {r : Option Nat} (h : Cell1 w b v) (hg : w.grownBy w' r) (hne : some b ≠ r) : Cell1 w' b v := h.of_block (hg.block b h.lt hne)
theorem Cell1.below {B : Nat} (h : Cell1 w b v) (hb : Below B w w') (hB : b < B) : Cell1 w' b v := h.of_block (hb.block b hB)
theorem Cell1.keep (h : Cell1 w b v) (hb : Below w.heap.size w w') : Cell1 w' b v := h.below hb h.lt
theorem Cell1.alloc (h : Cell1 w b v) (o : Obj) : Cell1 (w.alloc o) b v := h.of_block (heap_alloc_old w o h.lt)
theorem Cell1.drewN (h : Cell1 w b v) (n : Nat) : Cell1 (w.drewN n) b v := h
theorem Cell1.set (h : Cell1 w b v) (u : Value) : Cell1 (w.setCell ⟨b, 0, none⟩ u) b u := by
  obtain ⟨T, h⟩ := h; exact ⟨T, by simp [World.setCell, Array.getElem?_modify, h]⟩
theorem Cell1.set_ne (h : Cell1 w b v) {p : Addr} (hp : b ≠ p.block) (u : Value) : Cell1 (w.setCell p u) b v := h.of_block (Below.heap_setCell _ _ _ _ hp)
theorem Cell1.new (w : World) (v : Value) (T : TypeId) : Cell1 (w.alloc (.cells #[v] T)) w.heap.size v := ⟨T, heap_alloc_new w _⟩
theorem Cell1.lit (w : World) (b : Nat) (v : Value) (T : TypeId) (hb : w.heap.size = b) : Cell1 (w.alloc (.cells #[v] T)) b v := by subst hb; exact Cell1.new w v T
end

theorem World.ownsRow.set_ne {w : World} {base : Nat} {e : TypeId} {size : Nat} {v : Value} {n : Nat} {xs : List Value} (h : w.ownsRow base e size v n xs) {p : Addr} (hp : v.ownBlock ≠ some p.block) (u : Value) : (w.setCell p u).ownsRow base e size v n xs := by
  refine ⟨h.1, ?_⟩
  rcases h.2 with h2 | ⟨g, cap, cur, rfl, hg, hh, r⟩
  · exact .inl h2
  · refine .inr ⟨g, cap, cur, rfl, hg, ?_, r⟩; rw [Below.heap_setCell _ _ _ _ (by intro h; exact hp (by simp [Value.ownBlock, h]))]; exact hh

theorem World.ownsRow.ne {w : World} {base : Nat} {e : TypeId} {size : Nat} {v : Value} {n : Nat} {xs : List Value} (h : w.ownsRow base e size v n xs) {b : Nat} (hb : b < base) : some b ≠ v.ownBlock := by
  intro he; have := (h.lt b he.symm).1; omega
theorem size_setCell (w : World) (p : Addr) (u : Value) : (w.setCell p u).heap.size = w.heap.size := by simp [World.setCell]
theorem World.ownsRow.set_lt {w : World} {base : Nat} {e : TypeId} {size : Nat} {v : Value} {n : Nat} {xs : List Value} (h : w.ownsRow base e size v n xs) {b o : Nat} (hb : b < base) (u : Value) : (w.setCell ⟨b, o, none⟩ u).ownsRow base e size v n xs :=
  h.set_ne (p := ⟨b, o, none⟩) (Ne.symm (h.ne hb)) u
theorem Cell1.set_at {w : World} {b : Nat} {v : Value} (h : Cell1 w b v) {b' o : Nat} (hp : b ≠ b') (u : Value) : Cell1 (w.setCell ⟨b', o, none⟩ u) b v := h.set_ne (p := ⟨b', o, none⟩) hp u
theorem RowKit.Below.set_at {B : Nat} {a w : World} (h : Below B a w) {b o : Nat} (hp : B ≤ b) (u : Value) : Below B a (w.setCell ⟨b, o, none⟩ u) := h.setCell (p := ⟨b, o, none⟩) hp u
theorem ownsRow_lit (w : World) (e : TypeId) (size n : Nat) (xs : List Value) (hx : xs.length = n * size) (hn : n ≤ maxLen) : (w.alloc (.cells xs.toArray e)).ownsRow w.heap.size e size (.slice (some ⟨w.heap.size, 0, none⟩) n n) n xs := by
  refine ⟨hx, .inr ⟨w.heap.size, n, xs.toArray, rfl, Nat.le_refl _, heap_alloc_new w _, Nat.le_refl _, hn, by simpa using hx, ?_⟩⟩; rw [← hx]; simp
theorem Rd.drewN {w : World} {a : Option Addr} {vs : List Value} (h : Rd w a vs) (n : Nat) : Rd (w.drewN n) a vs := h
theorem wp_goto_fwd {P : Program} {a : Act} {w : World} {Q : Exit → Act → World → Prop} {c rest : Code} (l : Nat) (hf : findLabel c l = some rest)
    (h : ∀ J : Act → World → Prop, Hid (∀ a w, rest.wp P (Exit.jump l (fun _ _ => False) Q) a w → J a w) → c.wp P (Exit.jump l J Q) a w) : (Code.scope c).wp P Q a w := by
  refine wp_goto_k l (fun _ a w => rest.wp P (Exit.jump l (fun _ _ => False) Q) a w) hf (fun J hJ => h J fun a w h => hJ 0 a w h) ?_; intro n a w hI J _; refine wp_mono hI ?_; intro e a' w' hq
  cases e <;> first | exact hq | exact (hq.2 : False).elim
/-! A block of cells that is known whole, and may be written. -/
def Blk (w : World) (b : Nat) (vs : List Value) : Prop := ∃ T, w.heap[b]? = some (.cells vs.toArray T (0, 0))

section
variable {w w' : World} {b : Nat} {vs : List Value}
theorem Blk.lt (h : Blk w b vs) : b < w.heap.size := by obtain ⟨T, h⟩ := h; exact (Array.getElem?_eq_some_iff.1 h).1
theorem Blk.cell (h : Blk w b vs) (i : Nat) {v : Value} (hi : vs[i]? = some v) : w.cell? ⟨b, i, none⟩ = some v := by
  obtain ⟨T, h⟩ := h; simp [World.cell?, h, hi]
theorem Blk.free (h : Blk w b vs) (i : Nat) : w.frozen? ⟨b, i, none⟩ = false := by
  obtain ⟨T, h⟩ := h; simp [World.frozen?, h]
theorem Blk.of_block (h : Blk w b vs) (hb : w'.heap[b]? = w.heap[b]?) : Blk w' b vs := by
  obtain ⟨T, h⟩ := h; exact ⟨T, by rw [hb, h]⟩
theorem Blk.grown {r : Option Nat} (h : Blk w b vs) (hg : w.grownBy w' r) (hne : some b ≠ r) : Blk w' b vs := h.of_block (hg.block b h.lt hne)
theorem Blk.below {B : Nat} (h : Blk w b vs) (hb : Below B w w') (hB : b < B) : Blk w' b vs := h.of_block (hb.block b hB)
theorem Blk.keep (h : Blk w b vs) (hb : Below w.heap.size w w') : Blk w' b vs := h.below hb h.lt
theorem Blk.alloc (h : Blk w b vs) (o : Obj) : Blk (w.alloc o) b vs := h.of_block (heap_alloc_old w o h.lt)
theorem Blk.drewN (h : Blk w b vs) (n : Nat) : Blk (w.drewN n) b vs := h
theorem Blk.drew (h : Blk w b vs) : Blk w.drew b vs := h
theorem Blk.set (h : Blk w b vs) (i : Nat) (u : Value) : Blk (w.setCell ⟨b, i, none⟩ u) b (vs.set i u) := by
  obtain ⟨T, h⟩ := h; exact ⟨T, by simp [World.setCell, Array.getElem?_modify, h]⟩
theorem Blk.set_at (h : Blk w b vs) {b' o : Nat} (hp : b ≠ b') (u : Value) : Blk (w.setCell ⟨b', o, none⟩ u) b vs := h.of_block (Below.heap_setCell _ ⟨b', o, none⟩ _ _ hp)
theorem Blk.new (w : World) (vs : List Value) (T : TypeId) : Blk (w.alloc (.cells vs.toArray T)) w.heap.size vs := ⟨T, heap_alloc_new w _⟩
theorem Blk.lit (w : World) (b : Nat) (vs : List Value) (T : TypeId) (hb : w.heap.size = b) : Blk (w.alloc (.cells vs.toArray T)) b vs := by subst hb; exact Blk.new w vs T
end
theorem World.ownsRow.block {w : World} {base g : Nat} {e : TypeId} {size n : Nat} {xs : List Value} (h : w.ownsRow base e size (.slice (some ⟨g, 0, none⟩) n n) n xs) : w.heap[g]? = some (.cells xs.toArray e (0, 0)) := by
  obtain ⟨h1, h2⟩ := h
  rcases h2 with ⟨h2, _⟩ | ⟨g', cap, cur, hv, _, hg, _, _, hs, htake⟩
  · cases h2
  · cases hv
    rw [hg, ← htake, List.take_of_length_le (by simp; omega)]
theorem Rd.add {w : World} {ad : Addr} {vs : List Value} (h : Rd w (some ad) vs) : ∀ j v, vs[j]? = some v → w.cell? (ad.add j) = some v := by
  intro j u hu
  rcases h with rfl | ⟨b, off, ha, hc⟩
  · simp at hu
  · cases ha
    have := hc j u hu; unfold Addr.add
    split
    · subst_vars; simpa using this
    · exact this

theorem Rd.of_blk {w : World} {b : Nat} {vs : List Value} (h : Blk w b vs) : Rd w (some ⟨b, 0, none⟩) vs :=
  .inr ⟨b, 0, rfl, fun i v hv => by rw [Nat.zero_add]; exact h.cell i hv⟩
end Go
/- Opening a law's arguments: a slice of integers that came in, as 'Rd'. -/
namespace Go
open Go.ChangeShapes Go.WideShapes Go.ChangeAt Go.RowKit

theorem cell_spot {w : World} {x : Addr} {v : Value} (h : w.cell? x = some v) : x.spot = none := by
  unfold World.cell? at h
  split at h
  · split at h
    · cases h
    · rename_i hs; simpa using hs
  · cases h

theorem open_rowRd {H : Type} {enc : TypeId × Value → H} {P : Program} {W : World} {base : Nat} {spare : Nat → Bool} {t e : TypeId} {k : IntKind} {fuel : Nat} {a : Option Addr} {len cap : Nat} {x : DataW H × List MemPlace}
    (ht : P.underlying t = some (.slice e)) (he : P.underlying e = some (.int k)) (hc : P.cellsOf e = 1) (hsp : ∀ b, spare b = true) {held : Bool}
    (h : DataW.trod enc P W base spare held fuel t [.slice a len cap] = some x) :
    ∃ L : List Int, len = L.length ∧ len ≤ cap ∧ cap ≤ maxLen ∧ (a = none → cap = 0) ∧ Rd W a (L.map (Value.int k)) ∧ ∀ n ∈ L, (Lit.int k n).wf = true := by
  rcases open_ints ht he hc h with ⟨hcs, _⟩ | ⟨y, l, c, zs, hcs, _, hl, hm, hz, _, hcell, hwz⟩
  · simp at hcs; obtain ⟨rfl, rfl, rfl⟩ := hcs; exact ⟨[], rfl, Nat.le_refl _, by simp [maxLen], fun _ => rfl, .inl rfl, by simp⟩
  · simp at hcs; obtain ⟨rfl, rfl, rfl⟩ := hcs; rw [hsp, if_pos rfl] at hz; refine ⟨zs.take len, by simp; omega, hl, hm, fun h => (by cases h), ?_, fun n hn => hwz n (List.mem_of_mem_take hn)⟩
    by_cases h0 : zs.length = 0
    · left
      have : zs = [] := List.length_eq_zero_iff.1 h0; simp [this]
    · have hs := cell_spot (hcell 0 (by omega)); have hs' : y.spot = none := by simpa [Addr.add] using hs
      obtain ⟨b, off, sp⟩ := y; simp only at hs'; subst hs'; refine .inr ⟨b, off, rfl, fun i v hv => ?_⟩; rw [List.getElem?_map, List.getElem?_take] at hv
      split at hv
      · cases hzi : zs[i]? with
        | none => rw [hzi] at hv; cases hv
        | some z =>
          rw [hzi] at hv; simp at hv; subst hv; have hi : i < zs.length := (List.getElem?_eq_some_iff.1 hzi).1; have hc := hcell i hi; rw [List.getD_eq_getElem?_getD, hzi] at hc; unfold Addr.add at hc
          split at hc
          · subst_vars; simpa using hc
          · simpa using hc
      · cases hv

theorem bd_u8 {n : Int} (h : (Lit.int .u8 n).wf = true) : 0 ≤ n ∧ n ≤ 255 := by simpa [Lit.wf, IntKind.min, IntKind.max, IntKind.signed, IntKind.bits] using h
theorem bd_u64 {n : Int} (h : (Lit.int .u64 n).wf = true) : 0 ≤ n ∧ n ≤ 18446744073709551615 := by simpa [Lit.wf, IntKind.min, IntKind.max, IntKind.signed, IntKind.bits] using h
theorem bd_i64 {n : Int} (h : (Lit.int .i64 n).wf = true) : -9223372036854775808 ≤ n ∧ n ≤ 9223372036854775807 := by simpa [Lit.wf, IntKind.min, IntKind.max, IntKind.signed, IntKind.bits] using h
end Go
/- Bytes that a string is made of. -/
namespace Go
open Go.RowKit

theorem run_convert_rd {P : Program} (w : World) (src e dst : TypeId) (hs : P.underlying src = some (.slice e)) (he : P.underlying e = some (.int .u8)) (hd : P.underlying dst = some .string)
    (a : Option Addr) (c : Nat) (xs : List Int) (hr : Rd w a (xs.map (Value.int .u8))) :
    (convert src dst (.slice a xs.length c)).run P w = .ok (.string (strOfNums xs)) w := by
  rcases hr with h | ⟨b, off, rfl, h⟩
  · have : xs = [] := by simpa using h
    subst this; rw [run_convert_bytes_string w src dst e _ _ c hs he hd]
    cases a <;> simp [Conv.bytesToString, loadCells]
    all_goals rfl
  · refine run_convert_bytes_arg w src e hs he b off xs.length c xs rfl (fun i hi => ?_) dst hd; exact h i _ (by simp [List.getD, hi])

theorem strOfNums_inj (xs ys : List Int) (hx : ∀ x ∈ xs, 0 ≤ x ∧ x ≤ 255) (hy : ∀ x ∈ ys, 0 ≤ x ∧ x ≤ 255) (h : strOfNums xs = strOfNums ys) : xs = ys := by
  have h1 : (strOfNums xs).data.toList = (strOfNums ys).data.toList := by rw [h]
  rw [strOfNums_data, strOfNums_data] at h1; clear h
  induction xs generalizing ys with
  | nil => cases ys with
    | nil => rfl
    | cons => simp at h1
  | cons x xs ih => cases ys with
    | nil => simp at h1
    | cons y ys =>
      simp only [List.map_cons, List.cons.injEq] at h1; have a1 := hx x (by simp); have a2 := hy y (by simp); have : x.toNat = y.toNat := by
        have h2 := congrArg UInt8.toNat h1.1; rw [UInt8.toNat_ofNat', UInt8.toNat_ofNat'] at h2; omega
      rw [ih ys (fun z hz => hx z (by simp [hz])) (fun z hz => hy z (by simp [hz])) h1.2, show x = y by omega]
end Go
