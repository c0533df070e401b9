/-
  Small laws of our own, over any program: what a slice reads (Rd), append from whatever source, carrying readings. Opening a law's arguments: a slice of integers that came in, as 'Rd'. Runes of a text: the model's decoding and the document's first rune, in plain terms. text.bad; plain: where no rune begins.
-/
import Derived.WalkKit
import Derived.Outline
import Derived.Laws.AppendOwnNone
import Derived.WalkMore
import Derived.ScopeJumps
import Derived.Deep.LoopGhost
import Derived.Deep.QuietTactic
import Derived.BigQuiet
import Derived.Lib.Hide
import Derived.WalkLawsBesides
import Derived.WalkSpells
import Derived.ProofKit
import Derived.OpenShut
import Derived.ShutString
import Derived.ChangeOld
import Derived.Below
import Derived.JoinedCond
import Derived.Laws.RangeAny
import Derived.Test.YtkfgbjjelcigcaaGreatDoorShelf
/- Small laws of our own, over any program: what a slice reads (Rd), append from whatever source, carrying readings. -/
set_option linter.unusedVariables false
set_option linter.unusedSimpArgs false
namespace Go
open Go.RowKit

def Rd (w : World) (a : Option Addr) (vs : List Value) : Prop :=
  vs = [] ∨ ∃ b off, a = some ⟨b, off, none⟩ ∧ ∀ i v, vs[i]? = some v → w.cell? ⟨b, off + i, none⟩ = some v

theorem Rd.nil (w : World) (a : Option Addr) : Rd w a [] := .inl rfl

theorem Rd.at {w : World} {a : Option Addr} {vs : List Value} (h : Rd w a vs) {i : Nat} {v : Value} (hv : vs[i]? = some v) :
    ∃ b off, a = some ⟨b, off, none⟩ ∧ w.cell? ⟨b, off + i, none⟩ = some v ∧ b < w.heap.size := by
  rcases h with rfl | ⟨b, off, ha, hc⟩
  · simp at hv
  · exact ⟨b, off, ha, hc i v hv, World.block_lt_of_cell? w _ (hc i v hv)⟩

theorem Rd.below {B : Nat} {w w' : World} {a : Option Addr} {vs : List Value} (h : Rd w a vs) (hb : Below B w w') (hB : w.heap.size ≤ B) : Rd w' a vs := by
  rcases h with h | ⟨b, off, ha, hc⟩
  · exact .inl h
  · refine .inr ⟨b, off, ha, fun i v hv => ?_⟩; have := hc i v hv; rw [hb.cell (by have := World.block_lt_of_cell? w _ this; simp at this ⊢; omega)]; exact this

theorem Rd.keep {w w' : World} {a : Option Addr} {vs : List Value} (h : Rd w a vs) (hb : Below w.heap.size w w') : Rd w' a vs := h.below hb (Nat.le_refl _)

theorem Rd.keep2 {w0 w w' : World} {a : Option Addr} {vs : List Value} (h : Rd w0 a vs) (hb : Below w0.heap.size w0 w') : Rd w' a vs := h.keep hb

theorem Rd.alloc {w : World} {a : Option Addr} {vs : List Value} (h : Rd w a vs) (o : Obj) : Rd (w.alloc o) a vs :=
  h.keep ((Below.refl _ _).alloc (Nat.le_refl _) _)

theorem Rd.drew {w : World} {a : Option Addr} {vs : List Value} (h : Rd w a vs) : Rd w.drew a vs := h

theorem Rd.grown {w w' : World} {a : Option Addr} {vs : List Value} {r : Option Nat} (h : Rd w a vs) (hg : w.grownBy w' r) (hne : ∀ b, a.map (·.block) = some b → some b ≠ r) : Rd w' a vs := by
  rcases h with h | ⟨b, off, rfl, hc⟩
  · exact .inl h
  · refine .inr ⟨b, off, rfl, fun i v hv => hg.cell (hc i v hv) (hne b rfl)⟩

theorem Rd.take {w : World} {a : Option Addr} {vs : List Value} (h : Rd w a vs) (n : Nat) : Rd w a (vs.take n) := by
  rcases h with rfl | ⟨b, off, ha, hc⟩
  · simp [Rd]
  · refine .inr ⟨b, off, ha, fun i v hv => hc i v ?_⟩; rw [List.getElem?_take] at hv
    split at hv
    · exact hv
    · cases hv

theorem Rd.drop {w : World} {b off : Nat} {vs : List Value} (h : Rd w (some ⟨b, off, none⟩) vs) (n : Nat) : Rd w (some ⟨b, off + n, none⟩) (vs.drop n) := by
  rcases h with rfl | ⟨b', off', ha, hc⟩
  · simp [Rd]
  · cases ha
    refine .inr ⟨b, off + n, rfl, fun i v hv => ?_⟩; rw [List.getElem?_drop] at hv; have := hc _ _ hv
    rwa [← Nat.add_assoc] at this

theorem Rd.of_owns {w : World} {base : Nat} {e : TypeId} {size : Nat} {a : Option Addr} {n c m : Nat} {xs : List Value} (h : w.ownsRow base e size (.slice a n c) m xs) : Rd w a xs := by
  obtain ⟨h1, h2⟩ := h
  rcases h2 with ⟨h2, hn⟩ | ⟨g, cap, cur, hv, _, hg, _, _, _, htake⟩
  · subst hn; exact .inl (List.length_eq_zero_iff.1 (by omega))
  · cases hv
    refine .inr ⟨g, 0, rfl, fun i v hv => ?_⟩; rw [← htake, List.getElem?_take] at hv
    split at hv
    · rw [cell_of_row w g (0 + i) cur e (0, 0) hg]; simpa using hv
    · cases hv

theorem Rd.one (w : World) (x : Value) (t : TypeId) : Rd (w.alloc (.cells #[x] t)) (some ⟨w.heap.size, 0, none⟩) [x] := by
  refine .inr ⟨_, _, rfl, fun i v hv => ?_⟩; have := cell_one_new w x t i v hv
  match i, hv with
  | 0, _ => simpa [Addr.add] using this

theorem World.ownsRow.form {w : World} {base : Nat} {e : TypeId} {size : Nat} {v : Value} {n : Nat} {xs : List Value} (h : w.ownsRow base e size v n xs) :
    ∃ a c, v = .slice a n c ∧ n ≤ c ∧ c ≤ maxLen ∧ (a = none → c = 0) ∧ Rd w a xs ∧ (∀ b, a.map (·.block) = some b → base ≤ b ∧ b < w.heap.size) := by
  have h' := h; obtain ⟨h1, h2⟩ := h
  rcases h2 with ⟨rfl, rfl⟩ | ⟨g, cap, cur, rfl, hb, hg, h3, h4, _, _⟩
  · exact ⟨none, 0, rfl, Nat.le_refl _, by simp [maxLen], fun _ => rfl, Rd.of_owns h', by simp⟩
  · refine ⟨some ⟨g, 0, none⟩, cap, rfl, h3, h4, fun h => (by cases h), Rd.of_owns h', fun b hb' => ?_⟩; simp at hb'; subst hb'; exact ⟨hb, (Array.getElem?_eq_some_iff.1 hg).1⟩

theorem World.ownsRow.mono {w : World} {base base' : Nat} {e : TypeId} {size : Nat} {v : Value} {n : Nat} {xs : List Value} (h : w.ownsRow base e size v n xs) (hb : base' ≤ base) : w.ownsRow base' e size v n xs := by
  refine ⟨h.1, ?_⟩
  rcases h.2 with h2 | ⟨g, cap, cur, hv, hg, r⟩
  · exact .inl h2
  · exact .inr ⟨g, cap, cur, hv, Nat.le_trans hb hg, r⟩

theorem World.ownsRow.below {w w' : World} {base : Nat} {e : TypeId} {size : Nat} {v : Value} {n : Nat} {xs : List Value} (h : w.ownsRow base e size v n xs) (hb : Below w.heap.size w w') : w'.ownsRow base e size v n xs := by
  refine ⟨h.1, ?_⟩
  rcases h.2 with h2 | ⟨g, cap, cur, hv, hg, hh, r⟩
  · exact .inl h2
  · refine .inr ⟨g, cap, cur, hv, hg, ?_, r⟩; rw [hb.block g (Array.getElem?_eq_some_iff.1 hh).1]; exact hh

theorem wpList_app {P : Program} {w : World} {ops : Array Oper} {rest : List Oper} {o : Oper} {a : Act} {Q : Exit → Act → World → Prop} (hgd : o.guard = none) (s x : Operand) (t : TypeId)
    (ho : o.op = .call { callee := .builtin .append, args := #[s, x], argTypes := #[t, t] })
    (base : Nat) (e : TypeId) (z : Value) (size bytes : Nat) (ht : P.underlying t = some (.slice e)) (hinfo : (P.info? e).map (fun i => (i.zero, i.size, i.bytes)) = some (some z, size, bytes))
    (hzs : z.cells.size = size) (hsz : 0 < size)
    (v : Value) (n : Nat) (xs : List Value) (hs : a.eval s = v) (hown : w.ownsRow base e size v n xs)
    (ax : Option Addr) (m c : Nat) (vs : List Value) (hx : a.eval x = .slice ax m c) (hc0 : ax = none → c = 0) (hvs : Rd w ax vs) (hl : vs.length = m * size) (h1 : ∀ u ∈ vs, u.oneCell' = true)
    (hbytes : (n + m) * bytes ≤ 140737488355328) (hb1 : 0 < bytes) (hbase : base ≤ w.heap.size)
    (h : ∀ v' w', w'.ownsRow base e size v' (n + m) (xs ++ vs) → w.grownBy w' v.ownBlock → wpList P ops Q rest (a.put o.dst v') w') : wpList P ops Q (o :: rest) a w := by
  obtain ⟨i, hi, hz, hsize, hby⟩ := info_parts hinfo; have h63 : n + m ≤ maxLen := by
    have : (n + m) * 1 ≤ (n + m) * bytes := Nat.mul_le_mul_left _ hb1; unfold maxLen; omega
  cases ax with
  | none =>
    have hv0 : vs = [] := by
      rcases hvs with h | ⟨_, _, h, _⟩
      · exact h
      · cases h
    subst hv0; have hm : m = 0 := by
      have : m * size = 0 := by simpa using hl.symm
      rcases Nat.mul_eq_zero.1 this with h | h <;> omega
    subst hm; obtain rfl := hc0 rfl; refine wpList_append_own_none hgd s x t ho base e i size ht hi v n xs hs hown hx ?_; exact h v w (by simpa using hown) (World.grownBy.refl _ _)
  | some ad =>
    refine wpList_append_own w hgd s x t ho base e i z size bytes ht hi hz hsize hby hzs hsz v n xs hs hown ad m c vs hx hl ?_ h1 h63 hbytes hbase ?_
    · intro j u hu
      rcases hvs with rfl | ⟨b, off, ha, hc⟩
      · simp at hu
      · cases ha
        have := hc j u hu; unfold Addr.add
        split
        · subst_vars; simpa using this
        · exact this
    · intro v' w' h2 h3 _; exact h v' w' h2 h3

theorem Rd.new (w : World) (xs : List Value) (t : TypeId) : Rd (w.alloc (.cells xs.toArray t)) (some ⟨w.heap.size, 0, none⟩) xs := by
  refine .inr ⟨_, _, rfl, fun i v hv => ?_⟩; rw [cell_of_row _ w.heap.size (0 + i) xs.toArray t (0, 0) (heap_alloc_new w _)]
  simpa using hv

theorem Rd.lit (w : World) (b : Nat) (xs : List Value) (t : TypeId) (hb : w.heap.size = b) : Rd (w.alloc (.cells xs.toArray t)) (some ⟨b, 0, none⟩) xs := by
  subst hb; exact Rd.new w xs t

theorem wpList_appLit {P : Program} {w : World} {ops : Array Oper} {rest : List Oper} {o : Oper} {a : Act} {Q : Exit → Act → World → Prop} (hgd : o.guard = none) (s x : Operand) (t : TypeId)
    (ho : o.op = .call { callee := .builtin .append, args := #[s, x], argTypes := #[t, t] })
    (base : Nat) (e : TypeId) (z : Value) (size bytes : Nat) (ht : P.underlying t = some (.slice e)) (hinfo : (P.info? e).map (fun i => (i.zero, i.size, i.bytes)) = some (some z, size, bytes))
    (hzs : z.cells.size = size) (hsz : 0 < size) (hb1 : 0 < bytes)
    (v : Value) (n : Nat) (xs : List Value) (hs : a.eval s = v) (hown : w.ownsRow base e size v n xs)
    (m c : Nat) (vs : List Value) (te : TypeId) (hx : a.eval x = .slice (some ⟨w.heap.size, 0, none⟩) m c) (hl : vs.length = m * size) (h1 : ∀ u ∈ vs, u.oneCell' = true)
    (hbytes : (n + m) * bytes ≤ 140737488355328) (hbase : base ≤ w.heap.size)
    (h : ∀ v' w', w'.ownsRow base e size v' (n + m) (xs ++ vs) → w.grownBy w' v.ownBlock → wpList P ops Q rest (a.put o.dst v') w') : wpList P ops Q (o :: rest) a (w.alloc (.cells vs.toArray te)) := by
  refine wpList_app hgd s x t ho base e z size bytes ht hinfo hzs hsz v n xs hs (hown.alloc _) _ m c vs hx (fun h => by cases h) (Rd.new w vs te) hl h1 hbytes hb1 (by simp; omega) ?_; intro v' w' h2 h3; refine h v' w' h2 ⟨h3.os, h3.tape, h3.output, Nat.le_trans (by simp) h3.size, fun k hk hne => ?_⟩; rw [h3.block k (by simp; omega) hne]; exact heap_alloc_old w _ hk

theorem wpList_app' {P : Program} {w : World} {ops : Array Oper} {rest : List Oper} {o : Oper} {a : Act} {Q : Exit → Act → World → Prop} (w0 : World) (hb : Below w0.heap.size w0 w) (hgd : o.guard = none) (s x : Operand) (t : TypeId)
    (ho : o.op = .call { callee := .builtin .append, args := #[s, x], argTypes := #[t, t] })
    (e : TypeId) (z : Value) (size bytes : Nat) (ht : P.underlying t = some (.slice e)) (hinfo : (P.info? e).map (fun i => (i.zero, i.size, i.bytes)) = some (some z, size, bytes))
    (hzs : z.cells.size = size) (hsz : 0 < size)
    (v : Value) (n : Nat) (xs : List Value) (hs : a.eval s = v) (hown : w.ownsRow w0.heap.size e size v n xs)
    (ax : Option Addr) (m c : Nat) (vs : List Value) (hx : a.eval x = .slice ax m c) (hc0 : ax = none → c = 0) (hvs : Rd w ax vs) (hl : vs.length = m * size) (h1 : ∀ u ∈ vs, u.oneCell' = true)
    (hbytes : (n + m) * bytes ≤ 140737488355328) (hb1 : 0 < bytes)
    (h : ∀ v' w', w'.ownsRow w0.heap.size e size v' (n + m) (xs ++ vs) → w.grownBy w' v.ownBlock → Below w0.heap.size w0 w' → wpList P ops Q rest (a.put o.dst v') w') : wpList P ops Q (o :: rest) a w :=
  wpList_app hgd s x t ho w0.heap.size e z size bytes ht hinfo hzs hsz v n xs hs hown ax m c vs hx hc0 hvs hl h1 hbytes hb1 hb.size fun v' w' h2 h3 => h v' w' h2 h3 (hb.grown h3 hb.size (fun k hk => (hown.lt k hk).1))

theorem wpList_appLit' {P : Program} {w : World} {ops : Array Oper} {rest : List Oper} {o : Oper} {a : Act} {Q : Exit → Act → World → Prop} (w0 : World) (hb : Below w0.heap.size w0 w) (hgd : o.guard = none) (s x : Operand) (t : TypeId)
    (ho : o.op = .call { callee := .builtin .append, args := #[s, x], argTypes := #[t, t] })
    (e : TypeId) (z : Value) (size bytes : Nat) (ht : P.underlying t = some (.slice e)) (hinfo : (P.info? e).map (fun i => (i.zero, i.size, i.bytes)) = some (some z, size, bytes))
    (hzs : z.cells.size = size) (hsz : 0 < size) (hb1 : 0 < bytes)
    (v : Value) (n : Nat) (xs : List Value) (hs : a.eval s = v) (hown : w.ownsRow w0.heap.size e size v n xs)
    (m c : Nat) (vs : List Value) (te : TypeId) (hx : a.eval x = .slice (some ⟨w.heap.size, 0, none⟩) m c) (hl : vs.length = m * size) (h1 : ∀ u ∈ vs, u.oneCell' = true)
    (hbytes : (n + m) * bytes ≤ 140737488355328)
    (h : ∀ v' w', w'.ownsRow w0.heap.size e size v' (n + m) (xs ++ vs) → w.grownBy w' v.ownBlock → Below w0.heap.size w0 w' → wpList P ops Q rest (a.put o.dst v') w') : wpList P ops Q (o :: rest) a (w.alloc (.cells vs.toArray te)) :=
  wpList_appLit hgd s x t ho w0.heap.size e z size bytes ht hinfo hzs hsz hb1 v n xs hs hown m c vs te hx hl h1 hbytes hb.size fun v' w' h2 h3 => h v' w' h2 h3 (hb.grown h3 hb.size (fun k hk => (hown.lt k hk).1))

theorem ownsRow_empty (w : World) (e : TypeId) (size : Nat) : (w.alloc (.cells #[] e)).ownsRow w.heap.size e size (.slice (some ⟨w.heap.size, 0, none⟩) 0 0) 0 [] :=
  World.ownsRow_made (base := w.heap.size) (e := e) (size := size) w #[] 0 (Nat.le_refl _) (by decide) (by simp)

theorem Below.new (w : World) (o : Obj) : Below w.heap.size w (w.alloc o) := (Below.refl _ _).alloc (Nat.le_refl _) _

theorem ret_int {k : IntKind} {a b : Int} (h : a = b) : Ending.returned (.int k a) = .returned (.int k b) := by rw [h]
theorem ret_bool {a b : Bool} (h : a = b) : Ending.returned (.bool a) = .returned (.bool b) := by rw [h]
theorem val_int {k : IntKind} {a b : Int} (h : a = b) : Value.int k a = Value.int k b := by rw [h]

/-! Jumps back to one label; what holds at every jump stands behind a variable. -/
@[go_sem] theorem Exit.jump_normal (l : Nat) (J : Act → World → Prop) (Q : Exit → Act → World → Prop) (a : Act) (w : World) : Exit.jump l J Q .normal a w = Q .normal a w := rfl
@[go_sem] theorem Exit.jump_exit (l : Nat) (J : Act → World → Prop) (Q : Exit → Act → World → Prop) (id : Nat) (a : Act) (w : World) : Exit.jump l J Q (.exit id) a w = Q (.exit id) a w := rfl
@[go_sem] theorem Exit.jump_ret (l : Nat) (J : Act → World → Prop) (Q : Exit → Act → World → Prop) (a : Act) (w : World) : Exit.jump l J Q .ret a w = Q .ret a w := rfl
@[go_sem] theorem Exit.jump_panic (l : Nat) (J : Act → World → Prop) (Q : Exit → Act → World → Prop) (ch : List PanicEntry) (a : Act) (w : World) : Exit.jump l J Q (.panic ch) a w = Q (.panic ch) a w := rfl
theorem Exit.jump_goto {l : Nat} {J : Act → World → Prop} {Q : Exit → Act → World → Prop} {a : Act} {w : World} (h : J a w) : Exit.jump l J Q (.goto l) a w := ⟨rfl, h⟩

theorem wp_goto_k {P : Program} {a : Act} {w : World} {Q : Exit → Act → World → Prop} {c rest : Code} (l : Nat) (I : Nat → Act → World → Prop) (hf : findLabel c l = some rest)
    (first : ∀ J : Act → World → Prop, (∀ k a' w', I k a' w' → J a' w') → c.wp P (Exit.jump l J Q) a w)
    (pass : ∀ n a w, I n a w → ∀ J : Act → World → Prop, (∀ k a' w', k < n → I k a' w' → J a' w') → rest.wp P (Exit.jump l J Q) a w) : (Code.scope c).wp P Q a w := by
  refine wp_scope_jumps l (fun a w => ∃ n, I n a w) (fun a w => leastOf (fun n => I n a w)) hf (first _ fun k a' w' h => ⟨k, h⟩) ?_; intro a w hI; refine pass _ a w (leastOf_spec hI).1 _ fun k a' w' hlt h => ⟨⟨k, h⟩, ?_⟩; exact Nat.lt_of_le_of_lt ((leastOf_spec ⟨k, h⟩).2 k h) hlt

theorem wp_goto_pre {P : Program} {a : Act} {w : World} {Q : Exit → Act → World → Prop} {c rest : Code} (l : Nat) (I : Nat → Act → World → Prop) (hf : findLabel c l = some (.seq .skip rest))
    (pass : ∀ n a w, I n a w → ∀ J : Act → World → Prop, (∀ k a' w', k < n → I k a' w' → J a' w') → rest.wp P (Exit.jump l J Q) a w)
    (first : ∀ J : Act → World → Prop, Hid (∀ n a w, I n a w → rest.wp P (Exit.jump l J Q) a w) → c.wp P (Exit.jump l J Q) a w) : (Code.scope c).wp P Q a w :=
  wp_goto_k l I hf (fun J hJ => first J (fun n a w h => pass n a w h J fun k a' w' _ h => hJ k a' w' h)) fun n a w h J hJ => wp_seq (wp_skip (pass n a w h J hJ))

theorem wp_goto_head {P : Program} {a : Act} {w : World} {Q : Exit → Act → World → Prop} {rest : Code} (l : Nat) (I : Nat → Act → World → Prop) (n₀ : Nat) (h₀ : I n₀ a w)
    (pass : ∀ n a w, I n a w → ∀ J : Act → World → Prop, (∀ k a' w', k < n → I k a' w' → J a' w') → rest.wp P (Exit.jump l J Q) a w) : (Code.scope (.seq (.label l) rest)).wp P Q a w := by
  refine wp_goto_k (rest := .seq .skip rest) l I (by simp [findLabel]) ?_ (fun n a w h J hJ => wp_seq (wp_skip (pass n a w h J hJ))); intro J hJ; refine wp_seq (wp_label ?_); exact pass n₀ a w h₀ J fun k a' w' _ h => hJ k a' w' h

theorem ints_one (k : IntKind) (zs : List Int) : ∀ u ∈ zs.map (Value.int k), u.oneCell' = true := ints_oneCell k zs

/-! A variable that is captured, or whose address is taken: a block of one cell. -/
def Cell1 (w : World) (b : Nat) (v : Value) : Prop := ∃ T, w.heap[b]? = some (.cells #[v] T (0, 0))

section
variable {w w' : World} {b : Nat} {v : Value}
theorem Cell1.lt (h : Cell1 w b v) : b < w.heap.size := by obtain ⟨T, h⟩ := h; exact (Array.getElem?_eq_some_iff.1 h).1
theorem Cell1.cell (h : Cell1 w b v) : w.cell? ⟨b, 0, none⟩ = some v := by
  obtain ⟨T, h⟩ := h; simp [World.cell?, h]
theorem Cell1.free (h : Cell1 w b v) : w.frozen? ⟨b, 0, none⟩ = false := by
  obtain ⟨T, h⟩ := h; simp [World.frozen?, h]
theorem Cell1.of_block (h : Cell1 w b v) (hb : w'.heap[b]? = w.heap[b]?) : Cell1 w' b v := by
  obtain ⟨T, h⟩ := h; exact ⟨T, by rw [hb, h]⟩
theorem Cell1.grown {r : Option Nat} (h : Cell1 w b v) (hg : w.grownBy w' r) (hne : some b ≠ r) : Cell1 w' b v := h.of_block (hg.block b h.lt hne)
theorem Cell1.below {B : Nat} (h : Cell1 w b v) (hb : Below B w w') (hB : b < B) : Cell1 w' b v := h.of_block (hb.block b hB)
theorem Cell1.keep (h : Cell1 w b v) (hb : Below w.heap.size w w') : Cell1 w' b v := h.below hb h.lt
theorem Cell1.alloc (h : Cell1 w b v) (o : Obj) : Cell1 (w.alloc o) b v := h.of_block (heap_alloc_old w o h.lt)
theorem Cell1.drewN (h : Cell1 w b v) (n : Nat) : Cell1 (w.drewN n) b v := h
theorem Cell1.set (h : Cell1 w b v) (u : Value) : Cell1 (w.setCell ⟨b, 0, none⟩ u) b u := by
  obtain ⟨T, h⟩ := h; exact ⟨T, by simp [World.setCell, Array.getElem?_modify, h]⟩
theorem Cell1.set_ne (h : Cell1 w b v) {p : Addr} (hp : b ≠ p.block) (u : Value) : Cell1 (w.setCell p u) b v := h.of_block (Below.heap_setCell _ _ _ _ hp)
theorem Cell1.new (w : World) (v : Value) (T : TypeId) : Cell1 (w.alloc (.cells #[v] T)) w.heap.size v := ⟨T, heap_alloc_new w _⟩
theorem Cell1.lit (w : World) (b : Nat) (v : Value) (T : TypeId) (hb : w.heap.size = b) : Cell1 (w.alloc (.cells #[v] T)) b v := by subst hb; exact Cell1.new w v T
end

theorem World.ownsRow.set_ne {w : World} {base : Nat} {e : TypeId} {size : Nat} {v : Value} {n : Nat} {xs : List Value} (h : w.ownsRow base e size v n xs) {p : Addr} (hp : v.ownBlock ≠ some p.block) (u : Value) : (w.setCell p u).ownsRow base e size v n xs := by
  refine ⟨h.1, ?_⟩
  rcases h.2 with h2 | ⟨g, cap, cur, rfl, hg, hh, r⟩
  · exact .inl h2
  · refine .inr ⟨g, cap, cur, rfl, hg, ?_, r⟩; rw [Below.heap_setCell _ _ _ _ (by intro h; exact hp (by simp [Value.ownBlock, h]))]; exact hh

theorem World.ownsRow.ne {w : World} {base : Nat} {e : TypeId} {size : Nat} {v : Value} {n : Nat} {xs : List Value} (h : w.ownsRow base e size v n xs) {b : Nat} (hb : b < base) : some b ≠ v.ownBlock := by
  intro he; have := (h.lt b he.symm).1; omega
theorem size_setCell (w : World) (p : Addr) (u : Value) : (w.setCell p u).heap.size = w.heap.size := by simp [World.setCell]
theorem World.ownsRow.set_lt {w : World} {base : Nat} {e : TypeId} {size : Nat} {v : Value} {n : Nat} {xs : List Value} (h : w.ownsRow base e size v n xs) {b o : Nat} (hb : b < base) (u : Value) : (w.setCell ⟨b, o, none⟩ u).ownsRow base e size v n xs :=
  h.set_ne (p := ⟨b, o, none⟩) (Ne.symm (h.ne hb)) u
theorem Cell1.set_at {w : World} {b : Nat} {v : Value} (h : Cell1 w b v) {b' o : Nat} (hp : b ≠ b') (u : Value) : Cell1 (w.setCell ⟨b', o, none⟩ u) b v := h.set_ne (p := ⟨b', o, none⟩) hp u
theorem RowKit.Below.set_at {B : Nat} {a w : World} (h : Below B a w) {b o : Nat} (hp : B ≤ b) (u : Value) : Below B a (w.setCell ⟨b, o, none⟩ u) := h.setCell (p := ⟨b, o, none⟩) hp u
theorem ownsRow_lit (w : World) (e : TypeId) (size n : Nat) (xs : List Value) (hx : xs.length = n * size) (hn : n ≤ maxLen) : (w.alloc (.cells xs.toArray e)).ownsRow w.heap.size e size (.slice (some ⟨w.heap.size, 0, none⟩) n n) n xs := by
  refine ⟨hx, .inr ⟨w.heap.size, n, xs.toArray, rfl, Nat.le_refl _, heap_alloc_new w _, Nat.le_refl _, hn, by simpa using hx, ?_⟩⟩; rw [← hx]; simp
theorem Rd.drewN {w : World} {a : Option Addr} {vs : List Value} (h : Rd w a vs) (n : Nat) : Rd (w.drewN n) a vs := h
theorem wp_goto_fwd {P : Program} {a : Act} {w : World} {Q : Exit → Act → World → Prop} {c rest : Code} (l : Nat) (hf : findLabel c l = some rest)
    (h : ∀ J : Act → World → Prop, Hid (∀ a w, rest.wp P (Exit.jump l (fun _ _ => False) Q) a w → J a w) → c.wp P (Exit.jump l J Q) a w) : (Code.scope c).wp P Q a w := by
  refine wp_goto_k l (fun _ a w => rest.wp P (Exit.jump l (fun _ _ => False) Q) a w) hf (fun J hJ => h J fun a w h => hJ 0 a w h) ?_; intro n a w hI J _; refine wp_mono hI ?_; intro e a' w' hq
  cases e <;> first | exact hq | exact (hq.2 : False).elim
/-! A block of cells that is known whole, and may be written. -/
def Blk (w : World) (b : Nat) (vs : List Value) : Prop := ∃ T, w.heap[b]? = some (.cells vs.toArray T (0, 0))

section
variable {w w' : World} {b : Nat} {vs : List Value}
theorem Blk.lt (h : Blk w b vs) : b < w.heap.size := by obtain ⟨T, h⟩ := h; exact (Array.getElem?_eq_some_iff.1 h).1
theorem Blk.cell (h : Blk w b vs) (i : Nat) {v : Value} (hi : vs[i]? = some v) : w.cell? ⟨b, i, none⟩ = some v := by
  obtain ⟨T, h⟩ := h; simp [World.cell?, h, hi]
theorem Blk.free (h : Blk w b vs) (i : Nat) : w.frozen? ⟨b, i, none⟩ = false := by
  obtain ⟨T, h⟩ := h; simp [World.frozen?, h]
theorem Blk.of_block (h : Blk w b vs) (hb : w'.heap[b]? = w.heap[b]?) : Blk w' b vs := by
  obtain ⟨T, h⟩ := h; exact ⟨T, by rw [hb, h]⟩
theorem Blk.grown {r : Option Nat} (h : Blk w b vs) (hg : w.grownBy w' r) (hne : some b ≠ r) : Blk w' b vs := h.of_block (hg.block b h.lt hne)
theorem Blk.below {B : Nat} (h : Blk w b vs) (hb : Below B w w') (hB : b < B) : Blk w' b vs := h.of_block (hb.block b hB)
theorem Blk.keep (h : Blk w b vs) (hb : Below w.heap.size w w') : Blk w' b vs := h.below hb h.lt
theorem Blk.alloc (h : Blk w b vs) (o : Obj) : Blk (w.alloc o) b vs := h.of_block (heap_alloc_old w o h.lt)
theorem Blk.drewN (h : Blk w b vs) (n : Nat) : Blk (w.drewN n) b vs := h
theorem Blk.drew (h : Blk w b vs) : Blk w.drew b vs := h
theorem Blk.set (h : Blk w b vs) (i : Nat) (u : Value) : Blk (w.setCell ⟨b, i, none⟩ u) b (vs.set i u) := by
  obtain ⟨T, h⟩ := h; exact ⟨T, by simp [World.setCell, Array.getElem?_modify, h]⟩
theorem Blk.set_at (h : Blk w b vs) {b' o : Nat} (hp : b ≠ b') (u : Value) : Blk (w.setCell ⟨b', o, none⟩ u) b vs := h.of_block (Below.heap_setCell _ ⟨b', o, none⟩ _ _ hp)
theorem Blk.new (w : World) (vs : List Value) (T : TypeId) : Blk (w.alloc (.cells vs.toArray T)) w.heap.size vs := ⟨T, heap_alloc_new w _⟩
theorem Blk.lit (w : World) (b : Nat) (vs : List Value) (T : TypeId) (hb : w.heap.size = b) : Blk (w.alloc (.cells vs.toArray T)) b vs := by subst hb; exact Blk.new w vs T
end
theorem World.ownsRow.block {w : World} {base g : Nat} {e : TypeId} {size n : Nat} {xs : List Value} (h : w.ownsRow base e size (.slice (some ⟨g, 0, none⟩) n n) n xs) : w.heap[g]? = some (.cells xs.toArray e (0, 0)) := by
  obtain ⟨h1, h2⟩ := h
  rcases h2 with ⟨h2, _⟩ | ⟨g', cap, cur, hv, _, hg, _, _, hs, htake⟩
  · cases h2
  · cases hv
    rw [hg, ← htake, List.take_of_length_le (by simp; omega)]
theorem Rd.add {w : World} {ad : Addr} {vs : List Value} (h : Rd w (some ad) vs) : ∀ j v, vs[j]? = some v → w.cell? (ad.add j) = some v := by
  intro j u hu
  rcases h with rfl | ⟨b, off, ha, hc⟩
  · simp at hu
  · cases ha
    have := hc j u hu; unfold Addr.add
    split
    · subst_vars; simpa using this
    · exact this

theorem Rd.of_blk {w : World} {b : Nat} {vs : List Value} (h : Blk w b vs) : Rd w (some ⟨b, 0, none⟩) vs :=
  .inr ⟨b, 0, rfl, fun i v hv => by rw [Nat.zero_add]; exact h.cell i hv⟩
end Go
/- Opening a law's arguments: a slice of integers that came in, as 'Rd'. -/
namespace Go
open Go.ChangeShapes Go.WideShapes Go.ChangeAt Go.RowKit

theorem cell_spot {w : World} {x : Addr} {v : Value} (h : w.cell? x = some v) : x.spot = none := by
  unfold World.cell? at h
  split at h
  · split at h
    · cases h
    · rename_i hs; simpa using hs
  · cases h

theorem open_rowRd {H : Type} {enc : TypeId × Value → H} {P : Program} {W : World} {base : Nat} {spare : Nat → Bool} {t e : TypeId} {k : IntKind} {fuel : Nat} {a : Option Addr} {len cap : Nat} {x : DataW H × List MemPlace}
    (ht : P.underlying t = some (.slice e)) (he : P.underlying e = some (.int k)) (hc : P.cellsOf e = 1) (hsp : ∀ b, spare b = true) {held : Bool}
    (h : DataW.trod enc P W base spare held fuel t [.slice a len cap] = some x) :
    ∃ L : List Int, len = L.length ∧ len ≤ cap ∧ cap ≤ maxLen ∧ (a = none → cap = 0) ∧ Rd W a (L.map (Value.int k)) ∧ ∀ n ∈ L, (Lit.int k n).wf = true := by
  rcases open_ints ht he hc h with ⟨hcs, _⟩ | ⟨y, l, c, zs, hcs, _, hl, hm, hz, _, hcell, hwz⟩
  · simp at hcs; obtain ⟨rfl, rfl, rfl⟩ := hcs; exact ⟨[], rfl, Nat.le_refl _, by simp [maxLen], fun _ => rfl, .inl rfl, by simp⟩
  · simp at hcs; obtain ⟨rfl, rfl, rfl⟩ := hcs; rw [hsp, if_pos rfl] at hz; refine ⟨zs.take len, by simp; omega, hl, hm, fun h => (by cases h), ?_, fun n hn => hwz n (List.mem_of_mem_take hn)⟩
    by_cases h0 : zs.length = 0
    · left
      have : zs = [] := List.length_eq_zero_iff.1 h0; simp [this]
    · have hs := cell_spot (hcell 0 (by omega)); have hs' : y.spot = none := by simpa [Addr.add] using hs
      obtain ⟨b, off, sp⟩ := y; simp only at hs'; subst hs'; refine .inr ⟨b, off, rfl, fun i v hv => ?_⟩; rw [List.getElem?_map, List.getElem?_take] at hv
      split at hv
      · cases hzi : zs[i]? with
        | none => rw [hzi] at hv; cases hv
        | some z =>
          rw [hzi] at hv; simp at hv; subst hv; have hi : i < zs.length := (List.getElem?_eq_some_iff.1 hzi).1; have hc := hcell i hi; rw [List.getD_eq_getElem?_getD, hzi] at hc; unfold Addr.add at hc
          split at hc
          · subst_vars; simpa using hc
          · simpa using hc
      · cases hv

theorem bd_u8 {n : Int} (h : (Lit.int .u8 n).wf = true) : 0 ≤ n ∧ n ≤ 255 := by simpa [Lit.wf, IntKind.min, IntKind.max, IntKind.signed, IntKind.bits] using h
theorem bd_u64 {n : Int} (h : (Lit.int .u64 n).wf = true) : 0 ≤ n ∧ n ≤ 18446744073709551615 := by simpa [Lit.wf, IntKind.min, IntKind.max, IntKind.signed, IntKind.bits] using h
theorem bd_i64 {n : Int} (h : (Lit.int .i64 n).wf = true) : -9223372036854775808 ≤ n ∧ n ≤ 9223372036854775807 := by simpa [Lit.wf, IntKind.min, IntKind.max, IntKind.signed, IntKind.bits] using h
end Go
/- Runes of a text: the model's decoding and the document's first rune, in plain terms. -/
set_option linter.unusedVariables false
set_option linter.unusedSimpArgs false
namespace Go
open Go.RowKit
def byt (s : ByteArray) (i : Nat) : Nat := (s.get! i).toNat
theorem byt_lt (s : ByteArray) (i : Nat) : byt s i < 256 := (s.get! i).toNat_lt
def cont (s : ByteArray) (i : Nat) : Bool := decide (i < s.size) && decide (128 ≤ byt s i) && decide (byt s i < 192)
def badAt (s : ByteArray) (i : Nat) : Bool := decide (Utf8.decode s i = (65533, 1))
def firstF (s : ByteArray) (i : Nat) : Nat × Nat := if badAt s i then (0, 0) else Utf8.decode s i
theorem cont_eq (s : ByteArray) (i : Nat) : (decide (i < s.size) && ((s.get! i).toNat / 64 == 2)) = cont s i := by
  have h := byt_lt s i; unfold cont byt at *; rw [Bool.and_assoc]
  congr 1
  rw [Bool.eq_iff_iff]; simp; omega
theorem decode_eq (s : ByteArray) (i : Nat) : Utf8.decode s i =
    (if byt s i < 128 then (byt s i, 1)
     else if 192 ≤ byt s i ∧ byt s i < 224 ∧ cont s (i + 1) = true then (if 128 ≤ (byt s i - 192) * 64 + (byt s (i + 1) - 128) then ((byt s i - 192) * 64 + (byt s (i + 1) - 128), 2) else (65533, 1))
     else if 224 ≤ byt s i ∧ byt s i < 240 ∧ cont s (i + 1) = true ∧ cont s (i + 2) = true then
       (if 2048 ≤ (byt s i - 224) * 4096 + (byt s (i + 1) - 128) * 64 + (byt s (i + 2) - 128) ∧ ¬ (55296 ≤ (byt s i - 224) * 4096 + (byt s (i + 1) - 128) * 64 + (byt s (i + 2) - 128) ∧ (byt s i - 224) * 4096 + (byt s (i + 1) - 128) * 64 + (byt s (i + 2) - 128) ≤ 57343)
        then ((byt s i - 224) * 4096 + (byt s (i + 1) - 128) * 64 + (byt s (i + 2) - 128), 3) else (65533, 1))
     else if 240 ≤ byt s i ∧ byt s i < 248 ∧ cont s (i + 1) = true ∧ cont s (i + 2) = true ∧ cont s (i + 3) = true then
       (if 65536 ≤ (byt s i - 240) * 262144 + (byt s (i + 1) - 128) * 4096 + (byt s (i + 2) - 128) * 64 + (byt s (i + 3) - 128) ∧ (byt s i - 240) * 262144 + (byt s (i + 1) - 128) * 4096 + (byt s (i + 2) - 128) * 64 + (byt s (i + 3) - 128) ≤ 1114111
        then ((byt s i - 240) * 262144 + (byt s (i + 1) - 128) * 4096 + (byt s (i + 2) - 128) * 64 + (byt s (i + 3) - 128), 4) else (65533, 1))
     else (65533, 1)) := by
  have h0 := byt_lt s i; have h1 := byt_lt s (i + 1); have h2 := byt_lt s (i + 2); have h3 := byt_lt s (i + 3); unfold Utf8.decode; simp only [cont_eq, Nat.add_zero, Utf8.runeError]; show (if (byt s i) < 128 then _ else _) = _; have hm : ∀ k, cont s k = true → 128 ≤ byt s k ∧ byt s k < 192 := by
    intro k h; unfold cont at h; simp only [Bool.and_eq_true, decide_eq_true_eq] at h; omega
  by_cases c0 : byt s i < 128
  · rw [if_pos c0, if_pos c0]; rfl
  rw [if_neg c0, if_neg c0]
  by_cases c1 : 192 ≤ byt s i ∧ byt s i < 224 ∧ cont s (i + 1) = true
  · rw [if_pos c1]; have d1 : ((s.get! i).toNat / 32 == 6 && cont s (i + 1)) = true := by
      rw [c1.2.2, Bool.and_true, beq_iff_eq]; show byt s i / 32 = 6; omega
    rw [if_pos d1]; have := hm _ c1.2.2; show (if byt s i % 32 * 64 + byt s (i + 1) % 64 ≥ 128 then (byt s i % 32 * 64 + byt s (i + 1) % 64, 2) else (65533, 1)) = _; rw [show byt s i % 32 * 64 + byt s (i + 1) % 64 = (byt s i - 192) * 64 + (byt s (i + 1) - 128) by omega]
  · rw [if_neg c1]; have d1 : ¬ ((s.get! i).toNat / 32 == 6 && cont s (i + 1)) = true := by
      intro h; rw [Bool.and_eq_true, beq_iff_eq] at h; have hb : byt s i / 32 = 6 := h.1; exact c1 ⟨by omega, by omega, h.2⟩
    rw [if_neg d1]
    by_cases c2 : 224 ≤ byt s i ∧ byt s i < 240 ∧ cont s (i + 1) = true ∧ cont s (i + 2) = true
    · rw [if_pos c2]; have d2 : ((s.get! i).toNat / 16 == 14 && cont s (i + 1) && cont s (i + 2)) = true := by
        rw [c2.2.2.1, c2.2.2.2, Bool.and_true, Bool.and_true, beq_iff_eq]; show byt s i / 16 = 14; omega
      rw [if_pos d2]; have e1 := hm _ c2.2.2.1; have e2 := hm _ c2.2.2.2; show (if (decide (byt s i % 16 * 4096 + byt s (i + 1) % 64 * 64 + byt s (i + 2) % 64 ≥ 2048) && Utf8.valid ((byt s i % 16 * 4096 + byt s (i + 1) % 64 * 64 + byt s (i + 2) % 64 : Nat) : Int)) = true then (byt s i % 16 * 4096 + byt s (i + 1) % 64 * 64 + byt s (i + 2) % 64, 3) else (65533, 1)) = _; rw [show byt s i % 16 * 4096 + byt s (i + 1) % 64 * 64 + byt s (i + 2) % 64 = (byt s i - 224) * 4096 + (byt s (i + 1) - 128) * 64 + (byt s (i + 2) - 128) by omega]; have hb : (byt s i - 224) * 4096 + (byt s (i + 1) - 128) * 64 + (byt s (i + 2) - 128) < 65536 := by omega
      generalize (byt s i - 224) * 4096 + (byt s (i + 1) - 128) * 64 + (byt s (i + 2) - 128) = r at *
      congr 1
      rw [Bool.and_eq_true]; simp only [Utf8.valid, decide_eq_true_eq, Bool.or_eq_true, Bool.and_eq_true, ge_iff_le, eq_iff_iff]; omega
    · rw [if_neg c2]; have d2 : ¬ ((s.get! i).toNat / 16 == 14 && cont s (i + 1) && cont s (i + 2)) = true := by
        intro h; rw [Bool.and_eq_true, Bool.and_eq_true, beq_iff_eq] at h; have hb : byt s i / 16 = 14 := h.1.1; exact c2 ⟨by omega, by omega, h.1.2, h.2⟩
      rw [if_neg d2]
      by_cases c3 : 240 ≤ byt s i ∧ byt s i < 248 ∧ cont s (i + 1) = true ∧ cont s (i + 2) = true ∧ cont s (i + 3) = true
      · rw [if_pos c3]; have d3 : ((s.get! i).toNat / 8 == 30 && cont s (i + 1) && cont s (i + 2) && cont s (i + 3)) = true := by
          rw [c3.2.2.1, c3.2.2.2.1, c3.2.2.2.2, Bool.and_true, Bool.and_true, Bool.and_true, beq_iff_eq]; show byt s i / 8 = 30; omega
        rw [if_pos d3]; have e1 := hm _ c3.2.2.1; have e2 := hm _ c3.2.2.2.1; have e3 := hm _ c3.2.2.2.2; show (if (decide (byt s i % 8 * 262144 + byt s (i + 1) % 64 * 4096 + byt s (i + 2) % 64 * 64 + byt s (i + 3) % 64 ≥ 65536) && Utf8.valid ((byt s i % 8 * 262144 + byt s (i + 1) % 64 * 4096 + byt s (i + 2) % 64 * 64 + byt s (i + 3) % 64 : Nat) : Int)) = true then (byt s i % 8 * 262144 + byt s (i + 1) % 64 * 4096 + byt s (i + 2) % 64 * 64 + byt s (i + 3) % 64, 4) else (65533, 1)) = _; rw [show byt s i % 8 * 262144 + byt s (i + 1) % 64 * 4096 + byt s (i + 2) % 64 * 64 + byt s (i + 3) % 64 = (byt s i - 240) * 262144 + (byt s (i + 1) - 128) * 4096 + (byt s (i + 2) - 128) * 64 + (byt s (i + 3) - 128) by omega]; generalize (byt s i - 240) * 262144 + (byt s (i + 1) - 128) * 4096 + (byt s (i + 2) - 128) * 64 + (byt s (i + 3) - 128) = r at *
        congr 1
        rw [Bool.and_eq_true]; simp only [Utf8.valid, decide_eq_true_eq, Bool.or_eq_true, Bool.and_eq_true, ge_iff_le, eq_iff_iff]; omega
      · rw [if_neg c3]; have d3 : ¬ ((s.get! i).toNat / 8 == 30 && cont s (i + 1) && cont s (i + 2) && cont s (i + 3)) = true := by
          intro h; rw [Bool.and_eq_true, Bool.and_eq_true, Bool.and_eq_true, beq_iff_eq] at h; have hb : byt s i / 8 = 30 := h.1.1.1; exact c3 ⟨by omega, by omega, h.1.1.2, h.1.2, h.2⟩
        rw [if_neg d3]
end Go
/- text.bad; plain: where no rune begins. -/
set_option linter.unusedVariables false
set_option linter.unusedSimpArgs false
namespace Go
open Go.RowKit
theorem get_lt {s : ByteArray} {i : Nat} (h : i < s.size) : s.data.toList[i]? = some (s.get! i) := by
  rw [Array.getElem?_toList]; have : s.get! i = s.data[i]'h := by
    show s.data[i]! = _; rw [getElem!_pos s.data i h]
  rw [this, Array.getElem?_eq_getElem h]
theorem ext_size (s : ByteArray) (i : Nat) : (s.extract i s.size).size = s.size - i := by
  simp [ByteArray.size_extract]
theorem ext_get (s : ByteArray) (i k : Nat) (h : i + k < s.size) : (s.extract i s.size).get! k = s.get! (i + k) := by
  have h1 : k < (s.extract i s.size).size := by rw [ext_size]; omega
  have e1 := get_lt h1; have e2 := get_lt h; have : (s.extract i s.size).data.toList[k]? = s.data.toList[i + k]? := by
    rw [Array.getElem?_toList, Array.getElem?_toList, ByteArray.data_extract, Array.getElem?_extract]; have hs : s.data.size = s.size := rfl; rw [hs, Nat.min_self, if_pos (by omega)]
  rw [this, e2] at e1; exact (Option.some.inj e1).symm
theorem byt_out {s : ByteArray} {i : Nat} (h : ¬ i < s.size) : byt s i = 0 := by
  unfold byt; have : s.get! i = default := by
    show s.data[i]! = _; rw [getElem!_neg s.data i h]
  rw [this]; rfl
theorem ext_byt (s : ByteArray) (i k : Nat) : byt (s.extract i s.size) k = byt s (i + k) := by
  by_cases h : i + k < s.size
  · unfold byt; rw [ext_get s i k h]
  · rw [byt_out h, byt_out (by rw [ext_size]; omega)]
theorem ext_cont (s : ByteArray) (i k : Nat) : cont (s.extract i s.size) k = cont s (i + k) := by
  unfold cont; rw [ext_byt, ext_size]
  by_cases h : i + k < s.size
  · simp [h, show k < s.size - i by omega]
  · simp [h, show ¬ k < s.size - i by omega]
theorem ext_decode (s : ByteArray) (i k : Nat) : Utf8.decode (s.extract i s.size) k = Utf8.decode s (i + k) := by
  rw [decode_eq, decode_eq]; simp only [ext_byt, ext_cont, Nat.add_assoc]
theorem ext_bad (s : ByteArray) (i k : Nat) : badAt (s.extract i s.size) k = badAt s (i + k) := by
  unfold badAt; rw [ext_decode]
theorem ext_first (s : ByteArray) (i k : Nat) : firstF (s.extract i s.size) k = firstF s (i + k) := by
  unfold firstF; rw [ext_bad, ext_decode]
theorem cont_iff (s : ByteArray) (i : Nat) : cont s i = true ↔ i < s.size ∧ 128 ≤ byt s i ∧ byt s i < 192 := by
  unfold cont; simp only [Bool.and_eq_true, decide_eq_true_eq, and_assoc]
theorem decode_wid {s : ByteArray} {i : Nat} (h : i < s.size) : 1 ≤ (Utf8.decode s i).2 ∧ i + (Utf8.decode s i).2 ≤ s.size ∧ (Utf8.decode s i).2 ≤ 4 ∧ (Utf8.decode s i).1 ≤ 1114111 := by
  have h0 := byt_lt s i; have c1 := cont_iff s (i + 1); have c2 := cont_iff s (i + 2); have c3 := cont_iff s (i + 3); rw [decode_eq]
  repeat' split
  all_goals simp_all
  all_goals omega
theorem bad_iff {s : ByteArray} {i : Nat} (h : i < s.size) : badAt s i = true ↔ (Utf8.decode s i).1 = 65533 ∧ ¬ (byt s i = 239 ∧ byt s (i + 1) = 191 ∧ byt s (i + 2) = 189) := by
  have h0 := byt_lt s i; have c1 := cont_iff s (i + 1); have c2 := cont_iff s (i + 2); have c3 := cont_iff s (i + 3); have o1 : ¬ i + 1 < s.size → byt s (i + 1) = 0 := byt_out; have o2 : ¬ i + 2 < s.size → byt s (i + 2) = 0 := byt_out; unfold badAt; rw [decide_eq_true_eq, decode_eq]
  repeat' split
  all_goals simp_all
  all_goals omega
theorem isPrefixOf_three (l : List UInt8) (a b c : UInt8) : [a, b, c].isPrefixOf l = (decide (l[0]? = some a) && decide (l[1]? = some b) && decide (l[2]? = some c)) := by
  match l with
  | [] => simp [List.isPrefixOf]
  | [x] => simp [List.isPrefixOf]
  | [x, y] => simp [List.isPrefixOf]
  | x :: y :: z :: t =>
    simp only [List.isPrefixOf, Bool.and_true, List.getElem?_cons_zero, List.getElem?_cons_succ, Option.some.injEq, Bool.and_assoc]; rw [Bool.eq_iff_iff]; simp only [Bool.and_eq_true, beq_iff_eq, decide_eq_true_eq]; constructor <;> (rintro ⟨rfl, rfl, rfl⟩; exact ⟨rfl, rfl, rfl⟩)
theorem get_byt {s : ByteArray} {i : Nat} {b : UInt8} : s.data.toList[i]? = some b ↔ i < s.size ∧ byt s i = b.toNat := by
  by_cases h : i < s.size
  · rw [get_lt h]; simp only [Option.some.injEq, h, true_and]; unfold byt; exact ⟨fun e => by rw [e], fun e => UInt8.toNat_inj.1 e⟩
  · have : s.data.toList[i]? = none := by rw [Array.getElem?_toList]; exact Array.getElem?_eq_none (Nat.le_of_not_lt h)
    rw [this]; simp [h]
theorem pre_fffd (s : ByteArray) (i : Nat) : Lib.hasPrefix (s.extract i s.size).data.toList [239, 191, 189] = decide (byt s i = 239 ∧ byt s (i + 1) = 191 ∧ byt s (i + 2) = 189) := by
  unfold Lib.hasPrefix; rw [isPrefixOf_three]; have e : ∀ (k : Nat) (b : UInt8), 0 < b.toNat → ((s.extract i s.size).data.toList[k]? = some b ↔ byt s (i + k) = b.toNat) := by
    intro k b hb; rw [get_byt, ext_byt, ext_size]; constructor
    · exact fun h => h.2
    · intro h; refine ⟨?_, h⟩
      by_cases hk : i + k < s.size
      · omega
      · rw [byt_out hk] at h; omega
  rw [Bool.eq_iff_iff]; simp only [Bool.and_eq_true, decide_eq_true_eq, e 0 239 (by decide), e 1 191 (by decide), e 2 189 (by decide), Nat.add_zero, and_assoc]; exact Iff.rfl
end Go
namespace Go.Proofs.YtkfgbjjelcigcaaGreatDoor
open Go.RowKit

set_option maxHeartbeats 800000 in
theorem bad_any (s : ByteArray) (i : Nat) (h : i < s.size) (hs : s.size ≤ maxLen) (w : World) :
    Calls Tryz.prog 64 #[.string s, .int .i64 i, .int .i32 (Utf8.decode s i).1] w fun e w' => e = .returned (.bool (badAt s i)) ∧ w' = w := by
  have hb := bad_iff h; have hp := pre_fffd s i; have hi : (i : Int) ≤ (s.size : Int) := by omega
  obtain ⟨X, hX⟩ : ∃ X : Bool, decide (byt s i = 239 ∧ byt s (i + 1) = 191 ∧ byt s (i + 2) = 189) = X := ⟨_, rfl⟩; have HC : Hid (∀ w, Calls Tryz.prog 75 #[.string (s.extract i s.size), .string ⟨#[239, 191, 189]⟩] w fun e w' => e = .returned (.bool X) ∧ w' = w) := Lib.hid (fun w => by
    have := Tryz.strings_HasPrefix (s.extract i s.size) ⟨#[239, 191, 189]⟩ w; rw [show (⟨#[239, 191, 189]⟩ : ByteArray).data.toList = [239, 191, 189] from rfl, hp, hX] at this; exact this)
  have HB : Hid ((badAt s i) = (decide ((Utf8.decode s i).1 = 65533) && !X)) := Lib.hid (by
    rw [← hX, Bool.eq_iff_iff, hb, Bool.and_eq_true, Bool.not_eq_true', decide_eq_true_eq, decide_eq_false_iff_not])
  clear hb hp hX; generalize badAt s i = B at *; generalize (Utf8.decode s i).1 = r at *
  go_enter Tryz.func64, Tryz.ntmps64
  by_cases hr : (r : Int) = 65533
  · have hB : B = !X := by rw [HB.out]; simp; omega
    rw [hr]; subst hB
    go_wp2_with fail
    refine (HC.out _).mono ?_; rintro e w1 ⟨rfl, rfl⟩; go_wp2; go_ret; exact ⟨rfl, rfl⟩
  · have hB : B = false := by rw [HB.out]; simp; omega
    subst hB; have hrb : ((r : Int) == 65533) = false := by simp; omega
    go_wp2; go_ret; exact ⟨rfl, rfl⟩
end Go.Proofs.YtkfgbjjelcigcaaGreatDoor
