/-
  Small laws of our own, over any program: what a slice reads (Rd), append from whatever source, carrying readings. Opening a law's arguments: a slice of integers that came in, as 'Rd'. Bytes that a string is made of. The bytes of numbers: plain functions on lists of integers, and what they obey.
-/
import Derived.WalkKit
import Derived.Outline
import Derived.Laws.AppendOwnNone
import Derived.WalkMore
import Derived.ScopeJumps
import Derived.Deep.LoopGhost
import Derived.Deep.QuietTactic
import Derived.BigQuiet
import Derived.Lib.Hide
import Derived.WalkLawsBesides
import Derived.WalkSpells
import Derived.ProofKit
import Derived.OpenShut
import Derived.ShutString
import Derived.ChangeOld
import Derived.Below
import Derived.JoinedCond
import Derived.Laws.BytesArg
set_option linter.unusedVariables false
set_option linter.unusedSimpArgs false
namespace Go
open Go.RowKit

def Rd (w : World) (a : Option Addr) (vs : List Value) : Prop :=
 vs = [] ∨ ∃ b off, a = some ⟨b, off, none⟩ ∧ ∀ i v, vs[i]? = some v → w.cell? ⟨b, off + i, none⟩ = some v

theorem Rd.nil (w : World) (a : Option Addr) : Rd w a [] := .inl rfl

theorem Rd.at {w : World} {a : Option Addr} {vs : List Value} (h : Rd w a vs) {i : Nat} {v : Value} (hv : vs[i]? = some v) :
  ∃ b off, a = some ⟨b, off, none⟩ ∧ w.cell? ⟨b, off + i, none⟩ = some v ∧ b < w.heap.size := by
 rcases h with rfl | ⟨b, off, ha, hc⟩
 ·simp at hv
 ·exact ⟨b, off, ha, hc i v hv, World.block_lt_of_cell? w _ (hc i v hv)⟩

theorem Rd.below {B : Nat} {w w' : World} {a : Option Addr} {vs : List Value} (h : Rd w a vs) (hb : Below B w w') (hB : w.heap.size ≤ B) : Rd w' a vs := by
 rcases h with h | ⟨b, off, ha, hc⟩
 ·exact .inl h
 ·refine .inr ⟨b, off, ha, fun i v hv => ?_⟩; have := hc i v hv; rw [hb.cell (by have := World.block_lt_of_cell? w _ this; simp at this ⊢; omega)]; exact this

theorem Rd.keep {w w' : World} {a : Option Addr} {vs : List Value} (h : Rd w a vs) (hb : Below w.heap.size w w') : Rd w' a vs := h.below hb (Nat.le_refl _)

theorem Rd.alloc {w : World} {a : Option Addr} {vs : List Value} (h : Rd w a vs) (o : Obj) : Rd (w.alloc o) a vs :=
 h.keep ((Below.refl _ _).alloc (Nat.le_refl _) _)

theorem Rd.drew {w : World} {a : Option Addr} {vs : List Value} (h : Rd w a vs) : Rd w.drew a vs := h

theorem Rd.grown {w w' : World} {a : Option Addr} {vs : List Value} {r : Option Nat} (h : Rd w a vs) (hg : w.grownBy w' r) (hne : ∀ b, a.map (·.block) = some b → some b ≠ r) : Rd w' a vs := by
 rcases h with h | ⟨b, off, rfl, hc⟩
 ·exact .inl h
 ·refine .inr ⟨b, off, rfl, fun i v hv => hg.cell (hc i v hv) (hne b rfl)⟩

theorem Rd.take {w : World} {a : Option Addr} {vs : List Value} (h : Rd w a vs) (n : Nat) : Rd w a (vs.take n) := by
 rcases h with rfl | ⟨b, off, ha, hc⟩
 ·simp [Rd]
 ·refine .inr ⟨b, off, ha, fun i v hv => hc i v ?_⟩; rw [List.getElem?_take] at hv
  split at hv
  ·exact hv
  ·cases hv

theorem Rd.drop {w : World} {b off : Nat} {vs : List Value} (h : Rd w (some ⟨b, off, none⟩) vs) (n : Nat) : Rd w (some ⟨b, off + n, none⟩) (vs.drop n) := by
 rcases h with rfl | ⟨b', off', ha, hc⟩
 ·simp [Rd]
 ·cases ha
  refine .inr ⟨b, off + n, rfl, fun i v hv => ?_⟩; rw [List.getElem?_drop] at hv; have := hc _ _ hv
  rwa [← Nat.add_assoc] at this

theorem Rd.of_owns {w : World} {base : Nat} {e : TypeId} {size : Nat} {a : Option Addr} {n c m : Nat} {xs : List Value} (h : w.ownsRow base e size (.slice a n c) m xs) : Rd w a xs := by
 obtain ⟨h1, h2⟩ := h
 rcases h2 with ⟨h2, hn⟩ | ⟨g, cap, cur, hv, _, hg, _, _, _, htake⟩
 ·subst hn; exact .inl (List.length_eq_zero_iff.1 (by omega))
 ·cases hv
  refine .inr ⟨g, 0, rfl, fun i v hv => ?_⟩; rw [← htake, List.getElem?_take] at hv
  split at hv
  ·rw [cell_of_row w g (0 + i) cur e (0, 0) hg]; simpa using hv
  ·cases hv

theorem Rd.one (w : World) (x : Value) (t : TypeId) : Rd (w.alloc (.cells #[x] t)) (some ⟨w.heap.size, 0, none⟩) [x] := by
 refine .inr ⟨_, _, rfl, fun i v hv => ?_⟩; have := cell_one_new w x t i v hv
 match i, hv with
 | 0, _ => simpa [Addr.add] using this

theorem World.ownsRow.form {w : World} {base : Nat} {e : TypeId} {size : Nat} {v : Value} {n : Nat} {xs : List Value} (h : w.ownsRow base e size v n xs) :
  ∃ a c, v = .slice a n c ∧ n ≤ c ∧ c ≤ maxLen ∧ (a = none → c = 0) ∧ Rd w a xs ∧ (∀ b, a.map (·.block) = some b → base ≤ b ∧ b < w.heap.size) := by
 have h' := h; obtain ⟨h1, h2⟩ := h
 rcases h2 with ⟨rfl, rfl⟩ | ⟨g, cap, cur, rfl, hb, hg, h3, h4, _, _⟩
 ·exact ⟨none, 0, rfl, Nat.le_refl _, by simp [maxLen], fun _ => rfl, Rd.of_owns h', by simp⟩
 ·refine ⟨some ⟨g, 0, none⟩, cap, rfl, h3, h4, fun h => (by cases h), Rd.of_owns h', fun b hb' => ?_⟩; simp at hb'; subst hb'; exact ⟨hb, (Array.getElem?_eq_some_iff.1 hg).1⟩

theorem World.ownsRow.mono {w : World} {base base' : Nat} {e : TypeId} {size : Nat} {v : Value} {n : Nat} {xs : List Value} (h : w.ownsRow base e size v n xs) (hb : base' ≤ base) : w.ownsRow base' e size v n xs := by
 refine ⟨h.1, ?_⟩
 rcases h.2 with h2 | ⟨g, cap, cur, hv, hg, r⟩
 ·exact .inl h2
 ·exact .inr ⟨g, cap, cur, hv, Nat.le_trans hb hg, r⟩

theorem World.ownsRow.below {w w' : World} {base : Nat} {e : TypeId} {size : Nat} {v : Value} {n : Nat} {xs : List Value} (h : w.ownsRow base e size v n xs) (hb : Below w.heap.size w w') : w'.ownsRow base e size v n xs := by
 refine ⟨h.1, ?_⟩
 rcases h.2 with h2 | ⟨g, cap, cur, hv, hg, hh, r⟩
 ·exact .inl h2
 ·refine .inr ⟨g, cap, cur, hv, hg, ?_, r⟩; rw [hb.block g (Array.getElem?_eq_some_iff.1 hh).1]; exact hh

theorem wpList_app {P : Program} {w : World} {ops : Array Oper} {rest : List Oper} {o : Oper} {a : Act} {Q : Exit → Act → World → Prop} (hgd : o.guard = none) (s x : Operand) (t : TypeId)
  (ho : o.op = .call { callee := .builtin .append, args := #[s, x], argTypes := #[t, t] })
  (base : Nat) (e : TypeId) (z : Value) (size bytes : Nat) (ht : P.underlying t = some (.slice e)) (hinfo : (P.info? e).map (fun i => (i.zero, i.size, i.bytes)) = some (some z, size, bytes))
  (hzs : z.cells.size = size) (hsz : 0 < size)
  (v : Value) (n : Nat) (xs : List Value) (hs : a.eval s = v) (hown : w.ownsRow base e size v n xs)
  (ax : Option Addr) (m c : Nat) (vs : List Value) (hx : a.eval x = .slice ax m c) (hc0 : ax = none → c = 0) (hvs : Rd w ax vs) (hl : vs.length = m * size) (h1 : ∀ u ∈ vs, u.oneCell' = true)
  (hbytes : (n + m) * bytes ≤ 140737488355328) (hb1 : 0 < bytes) (hbase : base ≤ w.heap.size)
  (h : ∀ v' w', w'.ownsRow base e size v' (n + m) (xs ++ vs) → w.grownBy w' v.ownBlock → wpList P ops Q rest (a.put o.dst v') w') : wpList P ops Q (o :: rest) a w := by
 obtain ⟨i, hi, hz, hsize, hby⟩ := info_parts hinfo; have h63 : n + m ≤ maxLen := by
  have : (n + m) * 1 ≤ (n + m) * bytes := Nat.mul_le_mul_left _ hb1; unfold maxLen; omega
 cases ax with
 | none =>
  have hv0 : vs = [] := by
   rcases hvs with h | ⟨_, _, h, _⟩
   ·exact h
   ·cases h
  subst hv0; have hm : m = 0 := by
   have : m * size = 0 := by simpa using hl.symm
   rcases Nat.mul_eq_zero.1 this with h | h <;> omega
  subst hm; obtain rfl := hc0 rfl; refine wpList_append_own_none hgd s x t ho base e i size ht hi v n xs hs hown hx ?_; exact h v w (by simpa using hown) (World.grownBy.refl _ _)
 | some ad =>
  refine wpList_append_own w hgd s x t ho base e i z size bytes ht hi hz hsize hby hzs hsz v n xs hs hown ad m c vs hx hl ?_ h1 h63 hbytes hbase ?_
  ·intro j u hu
   rcases hvs with rfl | ⟨b, off, ha, hc⟩
   ·simp at hu
   ·cases ha
    have := hc j u hu; unfold Addr.add
    split
    ·subst_vars; simpa using this
    ·exact this
  ·intro v' w' h2 h3 _; exact h v' w' h2 h3

theorem Rd.new (w : World) (xs : List Value) (t : TypeId) : Rd (w.alloc (.cells xs.toArray t)) (some ⟨w.heap.size, 0, none⟩) xs := by
 refine .inr ⟨_, _, rfl, fun i v hv => ?_⟩; rw [cell_of_row _ w.heap.size (0 + i) xs.toArray t (0, 0) (heap_alloc_new w _)]
 simpa using hv

theorem Rd.lit (w : World) (b : Nat) (xs : List Value) (t : TypeId) (hb : w.heap.size = b) : Rd (w.alloc (.cells xs.toArray t)) (some ⟨b, 0, none⟩) xs := by
 subst hb; exact Rd.new w xs t

theorem wpList_appLit {P : Program} {w : World} {ops : Array Oper} {rest : List Oper} {o : Oper} {a : Act} {Q : Exit → Act → World → Prop} (hgd : o.guard = none) (s x : Operand) (t : TypeId)
  (ho : o.op = .call { callee := .builtin .append, args := #[s, x], argTypes := #[t, t] })
  (base : Nat) (e : TypeId) (z : Value) (size bytes : Nat) (ht : P.underlying t = some (.slice e)) (hinfo : (P.info? e).map (fun i => (i.zero, i.size, i.bytes)) = some (some z, size, bytes))
  (hzs : z.cells.size = size) (hsz : 0 < size) (hb1 : 0 < bytes)
  (v : Value) (n : Nat) (xs : List Value) (hs : a.eval s = v) (hown : w.ownsRow base e size v n xs)
  (m c : Nat) (vs : List Value) (te : TypeId) (hx : a.eval x = .slice (some ⟨w.heap.size, 0, none⟩) m c) (hl : vs.length = m * size) (h1 : ∀ u ∈ vs, u.oneCell' = true)
  (hbytes : (n + m) * bytes ≤ 140737488355328) (hbase : base ≤ w.heap.size)
  (h : ∀ v' w', w'.ownsRow base e size v' (n + m) (xs ++ vs) → w.grownBy w' v.ownBlock → wpList P ops Q rest (a.put o.dst v') w') : wpList P ops Q (o :: rest) a (w.alloc (.cells vs.toArray te)) := by
 refine wpList_app hgd s x t ho base e z size bytes ht hinfo hzs hsz v n xs hs (hown.alloc _) _ m c vs hx (fun h => by cases h) (Rd.new w vs te) hl h1 hbytes hb1 (by simp; omega) ?_; intro v' w' h2 h3; refine h v' w' h2 ⟨h3.os, h3.tape, h3.output, Nat.le_trans (by simp) h3.size, fun k hk hne => ?_⟩; rw [h3.block k (by simp; omega) hne]; exact heap_alloc_old w _ hk

theorem wpList_app' {P : Program} {w : World} {ops : Array Oper} {rest : List Oper} {o : Oper} {a : Act} {Q : Exit → Act → World → Prop} (w0 : World) (hb : Below w0.heap.size w0 w) (hgd : o.guard = none) (s x : Operand) (t : TypeId)
  (ho : o.op = .call { callee := .builtin .append, args := #[s, x], argTypes := #[t, t] })
  (e : TypeId) (z : Value) (size bytes : Nat) (ht : P.underlying t = some (.slice e)) (hinfo : (P.info? e).map (fun i => (i.zero, i.size, i.bytes)) = some (some z, size, bytes))
  (hzs : z.cells.size = size) (hsz : 0 < size)
  (v : Value) (n : Nat) (xs : List Value) (hs : a.eval s = v) (hown : w.ownsRow w0.heap.size e size v n xs)
  (ax : Option Addr) (m c : Nat) (vs : List Value) (hx : a.eval x = .slice ax m c) (hc0 : ax = none → c = 0) (hvs : Rd w ax vs) (hl : vs.length = m * size) (h1 : ∀ u ∈ vs, u.oneCell' = true)
  (hbytes : (n + m) * bytes ≤ 140737488355328) (hb1 : 0 < bytes)
  (h : ∀ v' w', w'.ownsRow w0.heap.size e size v' (n + m) (xs ++ vs) → w.grownBy w' v.ownBlock → Below w0.heap.size w0 w' → wpList P ops Q rest (a.put o.dst v') w') : wpList P ops Q (o :: rest) a w :=
 wpList_app hgd s x t ho w0.heap.size e z size bytes ht hinfo hzs hsz v n xs hs hown ax m c vs hx hc0 hvs hl h1 hbytes hb1 hb.size fun v' w' h2 h3 => h v' w' h2 h3 (hb.grown h3 hb.size (fun k hk => (hown.lt k hk).1))

theorem wpList_appLit' {P : Program} {w : World} {ops : Array Oper} {rest : List Oper} {o : Oper} {a : Act} {Q : Exit → Act → World → Prop} (w0 : World) (hb : Below w0.heap.size w0 w) (hgd : o.guard = none) (s x : Operand) (t : TypeId)
  (ho : o.op = .call { callee := .builtin .append, args := #[s, x], argTypes := #[t, t] })
  (e : TypeId) (z : Value) (size bytes : Nat) (ht : P.underlying t = some (.slice e)) (hinfo : (P.info? e).map (fun i => (i.zero, i.size, i.bytes)) = some (some z, size, bytes))
  (hzs : z.cells.size = size) (hsz : 0 < size) (hb1 : 0 < bytes)
  (v : Value) (n : Nat) (xs : List Value) (hs : a.eval s = v) (hown : w.ownsRow w0.heap.size e size v n xs)
  (m c : Nat) (vs : List Value) (te : TypeId) (hx : a.eval x = .slice (some ⟨w.heap.size, 0, none⟩) m c) (hl : vs.length = m * size) (h1 : ∀ u ∈ vs, u.oneCell' = true)
  (hbytes : (n + m) * bytes ≤ 140737488355328)
  (h : ∀ v' w', w'.ownsRow w0.heap.size e size v' (n + m) (xs ++ vs) → w.grownBy w' v.ownBlock → Below w0.heap.size w0 w' → wpList P ops Q rest (a.put o.dst v') w') : wpList P ops Q (o :: rest) a (w.alloc (.cells vs.toArray te)) :=
 wpList_appLit hgd s x t ho w0.heap.size e z size bytes ht hinfo hzs hsz hb1 v n xs hs hown m c vs te hx hl h1 hbytes hb.size fun v' w' h2 h3 => h v' w' h2 h3 (hb.grown h3 hb.size (fun k hk => (hown.lt k hk).1))

theorem ownsRow_empty (w : World) (e : TypeId) (size : Nat) : (w.alloc (.cells #[] e)).ownsRow w.heap.size e size (.slice (some ⟨w.heap.size, 0, none⟩) 0 0) 0 [] :=
 World.ownsRow_made (base := w.heap.size) (e := e) (size := size) w #[] 0 (Nat.le_refl _) (by decide) (by simp)

theorem Below.new (w : World) (o : Obj) : Below w.heap.size w (w.alloc o) := (Below.refl _ _).alloc (Nat.le_refl _) _

theorem ret_int {k : IntKind} {a b : Int} (h : a = b) : Ending.returned (.int k a) = .returned (.int k b) := by rw [h]
theorem ret_bool {a b : Bool} (h : a = b) : Ending.returned (.bool a) = .returned (.bool b) := by rw [h]
theorem val_int {k : IntKind} {a b : Int} (h : a = b) : Value.int k a = Value.int k b := by rw [h]

/-! Jumps back to one label; what holds at every jump stands behind a variable. -/
@[go_sem] theorem Exit.jump_normal (l : Nat) (J : Act → World → Prop) (Q : Exit → Act → World → Prop) (a : Act) (w : World) : Exit.jump l J Q .normal a w = Q .normal a w := rfl
@[go_sem] theorem Exit.jump_exit (l : Nat) (J : Act → World → Prop) (Q : Exit → Act → World → Prop) (id : Nat) (a : Act) (w : World) : Exit.jump l J Q (.exit id) a w = Q (.exit id) a w := rfl
@[go_sem] theorem Exit.jump_ret (l : Nat) (J : Act → World → Prop) (Q : Exit → Act → World → Prop) (a : Act) (w : World) : Exit.jump l J Q .ret a w = Q .ret a w := rfl
@[go_sem] theorem Exit.jump_panic (l : Nat) (J : Act → World → Prop) (Q : Exit → Act → World → Prop) (ch : List PanicEntry) (a : Act) (w : World) : Exit.jump l J Q (.panic ch) a w = Q (.panic ch) a w := rfl
theorem Exit.jump_goto {l : Nat} {J : Act → World → Prop} {Q : Exit → Act → World → Prop} {a : Act} {w : World} (h : J a w) : Exit.jump l J Q (.goto l) a w := ⟨rfl, h⟩

theorem wp_goto_k {P : Program} {a : Act} {w : World} {Q : Exit → Act → World → Prop} {c rest : Code} (l : Nat) (I : Nat → Act → World → Prop) (hf : findLabel c l = some rest)
  (first : ∀ J : Act → World → Prop, (∀ k a' w', I k a' w' → J a' w') → c.wp P (Exit.jump l J Q) a w)
  (pass : ∀ n a w, I n a w → ∀ J : Act → World → Prop, (∀ k a' w', k < n → I k a' w' → J a' w') → rest.wp P (Exit.jump l J Q) a w) : (Code.scope c).wp P Q a w := by
 refine wp_scope_jumps l (fun a w => ∃ n, I n a w) (fun a w => leastOf (fun n => I n a w)) hf (first _ fun k a' w' h => ⟨k, h⟩) ?_; intro a w hI; refine pass _ a w (leastOf_spec hI).1 _ fun k a' w' hlt h => ⟨⟨k, h⟩, ?_⟩; exact Nat.lt_of_le_of_lt ((leastOf_spec ⟨k, h⟩).2 k h) hlt

theorem wp_goto_pre {P : Program} {a : Act} {w : World} {Q : Exit → Act → World → Prop} {c rest : Code} (l : Nat) (I : Nat → Act → World → Prop) (hf : findLabel c l = some (.seq .skip rest))
  (pass : ∀ n a w, I n a w → ∀ J : Act → World → Prop, (∀ k a' w', k < n → I k a' w' → J a' w') → rest.wp P (Exit.jump l J Q) a w)
  (first : ∀ J : Act → World → Prop, Hid (∀ n a w, I n a w → rest.wp P (Exit.jump l J Q) a w) → c.wp P (Exit.jump l J Q) a w) : (Code.scope c).wp P Q a w :=
 wp_goto_k l I hf (fun J hJ => first J (fun n a w h => pass n a w h J fun k a' w' _ h => hJ k a' w' h)) fun n a w h J hJ => wp_seq (wp_skip (pass n a w h J hJ))

theorem wp_goto_head {P : Program} {a : Act} {w : World} {Q : Exit → Act → World → Prop} {rest : Code} (l : Nat) (I : Nat → Act → World → Prop) (n₀ : Nat) (h₀ : I n₀ a w)
  (pass : ∀ n a w, I n a w → ∀ J : Act → World → Prop, (∀ k a' w', k < n → I k a' w' → J a' w') → rest.wp P (Exit.jump l J Q) a w) : (Code.scope (.seq (.label l) rest)).wp P Q a w := by
 refine wp_goto_k (rest := .seq .skip rest) l I (by simp [findLabel]) ?_ (fun n a w h J hJ => wp_seq (wp_skip (pass n a w h J hJ))); intro J hJ; refine wp_seq (wp_label ?_); exact pass n₀ a w h₀ J fun k a' w' _ h => hJ k a' w' h

theorem ints_one (k : IntKind) (zs : List Int) : ∀ u ∈ zs.map (Value.int k), u.oneCell' = true := ints_oneCell k zs

/-! A variable that is captured, or whose address is taken: a block of one cell. -/
def Cell1 (w : World) (b : Nat) (v : Value) : Prop := ∃ T, w.heap[b]? = some (.cells #[v] T (0, 0))

section
variable {w w' : World} {b : Nat} {v : Value}
theorem Cell1.lt (h : Cell1 w b v) : b < w.heap.size := by obtain ⟨T, h⟩ := h; exact (Array.getElem?_eq_some_iff.1 h).1
theorem Cell1.cell (h : Cell1 w b v) : w.cell? ⟨b, 0, none⟩ = some v := by
 obtain ⟨T, h⟩ := h; simp [World.cell?, h]
theorem Cell1.free (h : Cell1 w b v) : w.frozen? ⟨b, 0, none⟩ = false := by
 obtain ⟨T, h⟩ := h; simp [World.frozen?, h]
theorem Cell1.of_block (h : Cell1 w b v) (hb : w'.heap[b]? = w.heap[b]?) : Cell1 w' b v := by
 obtain ⟨T, h⟩ := h; exact ⟨T, by rw [hb, h]⟩
theorem Cell1.grown {r : Option Nat} (h : Cell1 w b v) (hg : w.grownBy w' r) (hne : some b ≠ r) : Cell1 w' b v := h.of_block (hg.block b h.lt hne)
theorem Cell1.below {B : Nat} (h : Cell1 w b v) (hb : Below B w w') (hB : b < B) : Cell1 w' b v := h.of_block (hb.block b hB)
theorem Cell1.keep (h : Cell1 w b v) (hb : Below w.heap.size w w') : Cell1 w' b v := h.below hb h.lt
theorem Cell1.alloc (h : Cell1 w b v) (o : Obj) : Cell1 (w.alloc o) b v := h.of_block (heap_alloc_old w o h.lt)
theorem Cell1.drewN (h : Cell1 w b v) (n : Nat) : Cell1 (w.drewN n) b v := h
theorem Cell1.set (h : Cell1 w b v) (u : Value) : Cell1 (w.setCell ⟨b, 0, none⟩ u) b u := by
 obtain ⟨T, h⟩ := h; exact ⟨T, by simp [World.setCell, Array.getElem?_modify, h]⟩
theorem Cell1.set_ne (h : Cell1 w b v) {p : Addr} (hp : b ≠ p.block) (u : Value) : Cell1 (w.setCell p u) b v := h.of_block (Below.heap_setCell _ _ _ _ hp)
theorem Cell1.new (w : World) (v : Value) (T : TypeId) : Cell1 (w.alloc (.cells #[v] T)) w.heap.size v := ⟨T, heap_alloc_new w _⟩
theorem Cell1.lit (w : World) (b : Nat) (v : Value) (T : TypeId) (hb : w.heap.size = b) : Cell1 (w.alloc (.cells #[v] T)) b v := by subst hb; exact Cell1.new w v T
end

theorem World.ownsRow.set_ne {w : World} {base : Nat} {e : TypeId} {size : Nat} {v : Value} {n : Nat} {xs : List Value} (h : w.ownsRow base e size v n xs) {p : Addr} (hp : v.ownBlock ≠ some p.block) (u : Value) : (w.setCell p u).ownsRow base e size v n xs := by
 refine ⟨h.1, ?_⟩
 rcases h.2 with h2 | ⟨g, cap, cur, rfl, hg, hh, r⟩
 ·exact .inl h2
 ·refine .inr ⟨g, cap, cur, rfl, hg, ?_, r⟩; rw [Below.heap_setCell _ _ _ _ (by intro h; exact hp (by simp [Value.ownBlock, h]))]; exact hh

theorem World.ownsRow.ne {w : World} {base : Nat} {e : TypeId} {size : Nat} {v : Value} {n : Nat} {xs : List Value} (h : w.ownsRow base e size v n xs) {b : Nat} (hb : b < base) : some b ≠ v.ownBlock := by
 intro he; have := (h.lt b he.symm).1; omega
theorem size_setCell (w : World) (p : Addr) (u : Value) : (w.setCell p u).heap.size = w.heap.size := by simp [World.setCell]
theorem World.ownsRow.set_lt {w : World} {base : Nat} {e : TypeId} {size : Nat} {v : Value} {n : Nat} {xs : List Value} (h : w.ownsRow base e size v n xs) {b o : Nat} (hb : b < base) (u : Value) : (w.setCell ⟨b, o, none⟩ u).ownsRow base e size v n xs :=
 h.set_ne (p := ⟨b, o, none⟩) (Ne.symm (h.ne hb)) u
theorem Cell1.set_at {w : World} {b : Nat} {v : Value} (h : Cell1 w b v) {b' o : Nat} (hp : b ≠ b') (u : Value) : Cell1 (w.setCell ⟨b', o, none⟩ u) b v := h.set_ne (p := ⟨b', o, none⟩) hp u
theorem RowKit.Below.set_at {B : Nat} {a w : World} (h : Below B a w) {b o : Nat} (hp : B ≤ b) (u : Value) : Below B a (w.setCell ⟨b, o, none⟩ u) := h.setCell (p := ⟨b, o, none⟩) hp u
theorem ownsRow_lit (w : World) (e : TypeId) (size n : Nat) (xs : List Value) (hx : xs.length = n * size) (hn : n ≤ maxLen) : (w.alloc (.cells xs.toArray e)).ownsRow w.heap.size e size (.slice (some ⟨w.heap.size, 0, none⟩) n n) n xs := by
 refine ⟨hx, .inr ⟨w.heap.size, n, xs.toArray, rfl, Nat.le_refl _, heap_alloc_new w _, Nat.le_refl _, hn, by simpa using hx, ?_⟩⟩; rw [← hx]; simp
theorem Rd.drewN {w : World} {a : Option Addr} {vs : List Value} (h : Rd w a vs) (n : Nat) : Rd (w.drewN n) a vs := h
theorem wp_goto_fwd {P : Program} {a : Act} {w : World} {Q : Exit → Act → World → Prop} {c rest : Code} (l : Nat) (hf : findLabel c l = some rest)
  (h : ∀ J : Act → World → Prop, Hid (∀ a w, rest.wp P (Exit.jump l (fun _ _ => False) Q) a w → J a w) → c.wp P (Exit.jump l J Q) a w) : (Code.scope c).wp P Q a w := by
 refine wp_goto_k l (fun _ a w => rest.wp P (Exit.jump l (fun _ _ => False) Q) a w) hf (fun J hJ => h J fun a w h => hJ 0 a w h) ?_; intro n a w hI J _; refine wp_mono hI ?_; intro e a' w' hq
 cases e <;> first | exact hq | exact (hq.2 : False).elim
/-! A block of cells that is known whole, and may be written. -/
def Blk (w : World) (b : Nat) (vs : List Value) : Prop := ∃ T, w.heap[b]? = some (.cells vs.toArray T (0, 0))

section
variable {w w' : World} {b : Nat} {vs : List Value}
theorem Blk.lt (h : Blk w b vs) : b < w.heap.size := by obtain ⟨T, h⟩ := h; exact (Array.getElem?_eq_some_iff.1 h).1
theorem Blk.cell (h : Blk w b vs) (i : Nat) {v : Value} (hi : vs[i]? = some v) : w.cell? ⟨b, i, none⟩ = some v := by
 obtain ⟨T, h⟩ := h; simp [World.cell?, h, hi]
theorem Blk.free (h : Blk w b vs) (i : Nat) : w.frozen? ⟨b, i, none⟩ = false := by
 obtain ⟨T, h⟩ := h; simp [World.frozen?, h]
theorem Blk.of_block (h : Blk w b vs) (hb : w'.heap[b]? = w.heap[b]?) : Blk w' b vs := by
 obtain ⟨T, h⟩ := h; exact ⟨T, by rw [hb, h]⟩
theorem Blk.grown {r : Option Nat} (h : Blk w b vs) (hg : w.grownBy w' r) (hne : some b ≠ r) : Blk w' b vs := h.of_block (hg.block b h.lt hne)
theorem Blk.below {B : Nat} (h : Blk w b vs) (hb : Below B w w') (hB : b < B) : Blk w' b vs := h.of_block (hb.block b hB)
theorem Blk.keep (h : Blk w b vs) (hb : Below w.heap.size w w') : Blk w' b vs := h.below hb h.lt
theorem Blk.alloc (h : Blk w b vs) (o : Obj) : Blk (w.alloc o) b vs := h.of_block (heap_alloc_old w o h.lt)
theorem Blk.drewN (h : Blk w b vs) (n : Nat) : Blk (w.drewN n) b vs := h
theorem Blk.drew (h : Blk w b vs) : Blk w.drew b vs := h
theorem Blk.set (h : Blk w b vs) (i : Nat) (u : Value) : Blk (w.setCell ⟨b, i, none⟩ u) b (vs.set i u) := by
 obtain ⟨T, h⟩ := h; exact ⟨T, by simp [World.setCell, Array.getElem?_modify, h]⟩
theorem Blk.set_at (h : Blk w b vs) {b' o : Nat} (hp : b ≠ b') (u : Value) : Blk (w.setCell ⟨b', o, none⟩ u) b vs := h.of_block (Below.heap_setCell _ ⟨b', o, none⟩ _ _ hp)
theorem Blk.new (w : World) (vs : List Value) (T : TypeId) : Blk (w.alloc (.cells vs.toArray T)) w.heap.size vs := ⟨T, heap_alloc_new w _⟩
theorem Blk.lit (w : World) (b : Nat) (vs : List Value) (T : TypeId) (hb : w.heap.size = b) : Blk (w.alloc (.cells vs.toArray T)) b vs := by subst hb; exact Blk.new w vs T
end
theorem World.ownsRow.block {w : World} {base g : Nat} {e : TypeId} {size n : Nat} {xs : List Value} (h : w.ownsRow base e size (.slice (some ⟨g, 0, none⟩) n n) n xs) : w.heap[g]? = some (.cells xs.toArray e (0, 0)) := by
 obtain ⟨h1, h2⟩ := h
 rcases h2 with ⟨h2, _⟩ | ⟨g', cap, cur, hv, _, hg, _, _, hs, htake⟩
 ·cases h2
 ·cases hv
  rw [hg, ← htake, List.take_of_length_le (by simp; omega)]
theorem Rd.add {w : World} {ad : Addr} {vs : List Value} (h : Rd w (some ad) vs) : ∀ j v, vs[j]? = some v → w.cell? (ad.add j) = some v := by
 intro j u hu
 rcases h with rfl | ⟨b, off, ha, hc⟩
 ·simp at hu
 ·cases ha
  have := hc j u hu; unfold Addr.add
  split
  ·subst_vars; simpa using this
  ·exact this

theorem Rd.of_blk {w : World} {b : Nat} {vs : List Value} (h : Blk w b vs) : Rd w (some ⟨b, 0, none⟩) vs :=
 .inr ⟨b, 0, rfl, fun i v hv => by rw [Nat.zero_add]; exact h.cell i hv⟩
end Go
namespace Go
open Go.ChangeShapes Go.WideShapes Go.ChangeAt Go.RowKit

theorem cell_spot {w : World} {x : Addr} {v : Value} (h : w.cell? x = some v) : x.spot = none := by
 unfold World.cell? at h
 split at h
 ·split at h
  ·cases h
  ·rename_i hs; simpa using hs
 ·cases h

end Go
namespace Go
open Go.RowKit

theorem run_convert_rd {P : Program} (w : World) (src e dst : TypeId) (hs : P.underlying src = some (.slice e)) (he : P.underlying e = some (.int .u8)) (hd : P.underlying dst = some .string)
  (a : Option Addr) (c : Nat) (xs : List Int) (hr : Rd w a (xs.map (Value.int .u8))) :
  (convert src dst (.slice a xs.length c)).run P w = .ok (.string (strOfNums xs)) w := by
 rcases hr with h | ⟨b, off, rfl, h⟩
 ·have : xs = [] := by simpa using h
  subst this; rw [run_convert_bytes_string w src dst e _ _ c hs he hd]
  cases a <;> simp [Conv.bytesToString, loadCells]
  all_goals rfl
 ·refine run_convert_bytes_arg w src e hs he b off xs.length c xs rfl (fun i hi => ?_) dst hd; exact h i _ (by simp [List.getD, hi])

end Go
namespace Go.Vint

def vb (n : Int) : List Int := if n < 128 then [n] else (128 + n % 128) :: vb (n / 128)
termination_by n.toNat
decreasing_by omega

theorem vb_lo {n : Int} (h : n < 128) : vb n = [n] := by rw [vb, if_pos h]
theorem vb_hi {n : Int} (h : ¬ n < 128) : vb n = (128 + n % 128) :: vb (n / 128) := by rw [vb, if_neg h]

theorem vb_ne (n : Int) : vb n ≠ [] := by
 rw [vb]; split <;> simp

theorem vb_pos (n : Int) : 1 ≤ (vb n).length := by
 have := vb_ne n
 cases h : vb n with
 | nil => exact absurd h this
 | cons a l => simp

theorem vb_len (k : Nat) : ∀ n : Int, n < 128 ^ (k + 1) → (vb n).length ≤ k + 1 := by
 induction k with
 | zero => intro n h; rw [vb_lo (by simpa using h)]; simp
 | succ k ih =>
  intro n h
  by_cases h1 : n < 128
  ·rw [vb_lo h1]; simp
  ·rw [vb_hi h1, List.length_cons]; have h2 : n / 128 < 128 ^ (k + 1) := by
    refine Int.ediv_lt_of_lt_mul (by omega) ?_; rw [Int.pow_succ] at h; exact h
   have := ih _ h2; omega

theorem vb_len10 (n : Int) (h : n ≤ 18446744073709551615) : (vb n).length ≤ 10 :=
 vb_len 9 n (by simp; omega)

theorem vb_bd (n : Int) (h0 : 0 ≤ n) : ∀ x ∈ vb n, 0 ≤ x ∧ x ≤ 255 := by
 have key : ∀ k : Nat, ∀ n : Int, 0 ≤ n → n.toNat ≤ k → ∀ x ∈ vb n, 0 ≤ x ∧ x ≤ 255 := by
  intro k
  induction k with
  | zero => intro n h0 hk x hx; rw [vb_lo (by omega)] at hx; simp at hx; omega
  | succ k ih =>
   intro n h0 hk x hx
   by_cases h1 : n < 128
   ·rw [vb_lo h1] at hx; simp at hx; omega
   ·rw [vb_hi h1] at hx; simp only [List.mem_cons] at hx
    rcases hx with rfl | hx
    ·omega
    ·exact ih (n / 128) (by omega) (by omega) x hx
 exact key n.toNat n h0 (Nat.le_refl _)

def vbs (l : List Int) : List Int := l.flatMap vb

theorem vbs_append (a b : List Int) : vbs (a ++ b) = vbs a ++ vbs b := by simp [vbs]
theorem vbs_snoc (a : List Int) (x : Int) : vbs (a ++ [x]) = vbs a ++ vb x := by simp [vbs]

theorem vbs_len (l : List Int) (h : ∀ x ∈ l, x ≤ 18446744073709551615) : (vbs l).length ≤ 10 * l.length := by
 induction l with
 | nil => simp [vbs]
 | cons x l ih =>
  have h1 := vb_len10 x (h x (by simp)); have h2 := ih (fun y hy => h y (by simp [hy])); simp only [vbs, List.flatMap_cons, List.length_append, List.length_cons] at *; omega
end Go.Vint
namespace Go.Vint
def cont : List Int → Nat
 | [] => 0
 | x :: l => if 128 ≤ x then cont l + 1 else 0
def val : List Int → Int
 | [] => 0
 | x :: l => x % 128 + 128 * val l
def rd (b : List Int) : Int × Int × Int :=
 let k := cont b
 if 10 ≤ k then (0, 0, 5) else if k = b.length then (0, 0, 4) else if k = 9 ∧ 1 < b.getD 9 0 then (0, 0, 5) else if 0 < k ∧ b.getD k 0 = 0 then (0, 0, 3) else (val (b.take (k + 1)), (k : Int) + 1, 0)

theorem cont_le (b : List Int) : cont b ≤ b.length := by
 induction b with
 | nil => simp [cont]
 | cons x l ih => simp only [cont, List.length_cons]; split <;> omega

theorem cont_at (b : List Int) (k : Nat) (h : ∀ j, j < k → 128 ≤ b.getD j 0) (hk : k < b.length) (hx : b.getD k 0 < 128) : cont b = k := by
 induction b generalizing k with
 | nil => simp at hk
 | cons x l ih =>
  cases k with
  | zero => simp only [List.getD_cons_zero] at hx; simp only [cont]; rw [if_neg (by omega)]
  | succ k =>
   have h0 := h 0 (by omega); simp only [List.getD_cons_zero] at h0; simp only [cont]; rw [if_pos h0, ih k (fun j hj => by simpa using h (j + 1) (by omega)) (by simpa using hk) (by simpa using hx)]

theorem cont_all (b : List Int) (h : ∀ j, j < b.length → 128 ≤ b.getD j 0) : cont b = b.length := by
 induction b with
 | nil => simp [cont]
 | cons x l ih =>
  have h0 := h 0 (by simp); simp only [List.getD_cons_zero] at h0; simp only [cont, List.length_cons]; rw [if_pos h0, ih (fun j hj => by simpa using h (j + 1) (by simpa using hj))]

theorem cont_ge (b : List Int) (k : Nat) (hk : k ≤ b.length) (h : ∀ j, j < k → 128 ≤ b.getD j 0) : k ≤ cont b := by
 induction b generalizing k with
 | nil => simp at hk; omega
 | cons x l ih =>
  cases k with
  | zero => omega
  | succ k =>
   have h0 := h 0 (by omega); simp only [List.getD_cons_zero] at h0; simp only [cont]; rw [if_pos h0]; have := ih k (by simpa using hk) (fun j hj => by simpa using h (j + 1) (by omega)); omega

theorem cont_lt (b : List Int) (k : Nat) (h : k < cont b) : 128 ≤ b.getD k 0 := by
 induction b generalizing k with
 | nil => simp [cont] at h
 | cons x l ih =>
  simp only [cont] at h
  split at h
  ·rename_i hx
   cases k with
   | zero => simpa using hx
   | succ k => simpa using ih k (by omega)
  ·omega

theorem cont_end (b : List Int) (h : cont b < b.length) : b.getD (cont b) 0 < 128 := by
 induction b with
 | nil => simp [cont] at h
 | cons x l ih =>
  simp only [cont] at h ⊢
  split
  ·rename_i hx; rw [if_pos hx] at h; simp only [List.length_cons] at h
   simpa using ih (by omega)
  ·simp; omega

theorem val_snoc (l : List Int) (x : Int) : val (l ++ [x]) = val l + 128 ^ l.length * (x % 128) := by
 induction l with
 | nil => simp [val]
 | cons y l ih =>
  simp only [List.cons_append, val, ih, List.length_cons, Int.pow_succ]; rw [Int.mul_add, ← Int.mul_assoc, Int.mul_comm 128 (128 ^ l.length)]; omega

theorem val_bd (l : List Int) : 0 ≤ val l ∧ val l < 128 ^ l.length := by
 induction l with
 | nil => simp [val]
 | cons x l ih =>
  simp only [val, List.length_cons, Int.pow_succ]; omega

theorem rd_range (b : List Int) (hk : 10 ≤ b.length) (h : ∀ j, j < 10 → 128 ≤ b.getD j 0) : rd b = (0, 0, 5) := by
 have := cont_ge b 10 hk h; simp [rd, this]

theorem rd_end (b : List Int) (h : ∀ j, j < b.length → 128 ≤ b.getD j 0) (hk : b.length < 10) : rd b = (0, 0, 4) := by
 have := cont_all b h; simp [rd, this]; omega

theorem rd_at (b : List Int) (k : Nat) (hk9 : k < 10) (h : ∀ j, j < k → 128 ≤ b.getD j 0) (hk : k < b.length) (hx : b.getD k 0 < 128) :
  rd b = if k = 9 ∧ 1 < b.getD 9 0 then (0, 0, 5) else if 0 < k ∧ b.getD k 0 = 0 then (0, 0, 3) else (val (b.take (k + 1)), (k : Int) + 1, 0) := by
 have := cont_at b k h hk hx; simp only [rd, this]; rw [if_neg (by omega), if_neg (by omega)]
end Go.Vint
namespace Go.Vint
def zig (n : Int) : Int := if n < 0 then -2 * n - 1 else 2 * n
def zag (u : Int) : Int := if u % 2 = 1 then -(u / 2) - 1 else u / 2
theorem zag_zig (n : Int) : zag (zig n) = n := by unfold zag zig; split <;> split <;> omega
theorem zig_bd (n : Int) (h0 : -9223372036854775808 ≤ n) (h1 : n ≤ 9223372036854775807) : 0 ≤ zig n ∧ zig n ≤ 18446744073709551615 := by unfold zig; split <;> omega
end Go.Vint
namespace Go.Vint
end Go.Vint
namespace Go.Vint
theorem val_fits (b : List Int) (k : Nat) (hk : k < b.length) (h9 : k ≤ 9) (hx : k = 9 → b[k] ≤ 1) (h0 : 0 ≤ b[k]) : val (b.take (k + 1)) ≤ 18446744073709551615 := by
 rw [List.take_succ_eq_append_getElem hk, val_snoc]; have h1 := val_bd (b.take k); have hl : (b.take k).length = k := by simp; omega
 rw [hl] at h1 ⊢
 rcases (by omega : k = 0 ∨ k = 1 ∨ k = 2 ∨ k = 3 ∨ k = 4 ∨ k = 5 ∨ k = 6 ∨ k = 7 ∨ k = 8 ∨ k = 9) with rfl | rfl | rfl | rfl | rfl | rfl | rfl | rfl | rfl | rfl <;> simp at * <;> omega
end Go.Vint
namespace Go.Vint
theorem rd_ok (b : List Int) (h : (rd b).2.2 = 0) : ∃ k : Nat, k < b.length ∧ rd b = (val (b.take (k + 1)), (k : Int) + 1, 0) ∧ k = cont b ∧ k ≤ 9 ∧ (k = 9 → b.getD 9 0 ≤ 1) ∧ (0 < k → b.getD k 0 ≠ 0) := by
 have hc := cont_le b; unfold rd at h ⊢; simp only at h ⊢
 split at h
 ·simp at h
 ·split at h
  ·simp at h
  ·split at h
   ·simp at h
   ·split at h
    ·simp at h
    ·rename_i h1 h2 h3 h4; refine ⟨cont b, by omega, ?_, rfl, by omega, fun h => ?_, fun h => ?_⟩
     ·rw [if_neg h1, if_neg h2, if_neg h3, if_neg h4]
     ·have : ¬ 1 < b.getD 9 0 := fun hh => h3 ⟨h, hh⟩; omega
     ·exact fun hh => h4 ⟨h, hh⟩

theorem rd_bd (b : List Int) (hb : ∀ x ∈ b, 0 ≤ x ∧ x ≤ 255) (h : (rd b).2.2 = 0) : 0 ≤ (rd b).1 ∧ (rd b).1 ≤ 18446744073709551615 := by
 obtain ⟨k, hk, he, _, h9, h91, _⟩ := rd_ok b h; rw [he]; refine ⟨(val_bd _).1, val_fits b k hk h9 (fun h => ?_) (hb _ (by simp)).1⟩; subst h; have := h91 rfl; rw [List.getD_eq_getElem?_getD, List.getElem?_eq_getElem hk] at this
 simpa using this

def rowF : Nat → List Int → Nat → List Int → List Int × Int × Int
 | 0, _, _, _ => ([], 0, 0)
 | f + 1, b, p, acc => if p < b.length then (if (rd (b.drop p)).2.2 = 0 then rowF f b (p + (rd (b.drop p)).2.1.toNat) (acc ++ [(rd (b.drop p)).1]) else ([], p, (rd (b.drop p)).2.2)) else (acc, 0, 0)
def row (b : List Int) : List Int × Int × Int := rowF (b.length + 1) b 0 []

theorem rowF_end (f : Nat) (b : List Int) (p : Nat) (acc : List Int) (h : ¬ p < b.length) : rowF (f + 1) b p acc = (acc, 0, 0) := by rw [rowF, if_neg h]
theorem rowF_err (f : Nat) (b : List Int) (p : Nat) (acc : List Int) (h : p < b.length) (he : (rd (b.drop p)).2.2 ≠ 0) : rowF (f + 1) b p acc = ([], (p : Int), (rd (b.drop p)).2.2) := by rw [rowF, if_pos h, if_neg he]
theorem rowF_step (f : Nat) (b : List Int) (p : Nat) (acc : List Int) (h : p < b.length) (he : (rd (b.drop p)).2.2 = 0) : rowF (f + 1) b p acc = rowF f b (p + (rd (b.drop p)).2.1.toNat) (acc ++ [(rd (b.drop p)).1]) := by rw [rowF, if_pos h, if_pos he]
end Go.Vint
namespace Go.Vint
theorem vb_val : ∀ (T : List Int) (x : Int), (∀ y ∈ T, 128 ≤ y ∧ y ≤ 255) → 0 ≤ x → x < 128 → (T ≠ [] → x ≠ 0) → vb (val (T ++ [x])) = T ++ [x] ∧ (T ≠ [] ∨ x ≠ 0 → 1 ≤ val (T ++ [x])) := by
 intro T
 induction T with
 | nil =>
  intro x _ h0 h1 _; simp only [List.nil_append, val]; have : x % 128 + 128 * 0 = x := by omega
  rw [this, vb_lo h1]; exact ⟨rfl, fun h => by rcases h with h | h; exact absurd rfl h; omega⟩
 | cons y T ih =>
  intro x hT h0 h1 hx; have hy := hT y (by simp); obtain ⟨i1, i2⟩ := ih x (fun z hz => hT z (by simp [hz])) h0 h1 (fun _ => hx (by simp)); have h2 := i2 (.inr (hx (by simp))); simp only [List.cons_append, val]; generalize val (T ++ [x]) = v at *; rw [vb_hi (by omega)]; have e1 : 128 + (y % 128 + 128 * v) % 128 = y := by omega
  have e2 : (y % 128 + 128 * v) / 128 = v := by omega
  rw [e1, e2, i1]; exact ⟨rfl, fun _ => by omega⟩

theorem vb_rd (b : List Int) (hb : ∀ x ∈ b, 0 ≤ x ∧ x ≤ 255) (k : Nat) (hk : k < b.length) (hc : k = cont b) (h0 : 0 < k → b.getD k 0 ≠ 0) : vb (val (b.take (k + 1))) = b.take (k + 1) := by
 have hge : ∀ y ∈ b.take k, 128 ≤ y ∧ y ≤ 255 := by
  intro y hy; obtain ⟨j, hj, rfl⟩ := List.mem_iff_getElem.1 hy; have hjk : j < k := by simp at hj; omega
  have h1 := cont_lt b j (by omega); rw [List.getElem_take]; rw [List.getD_eq_getElem?_getD, List.getElem?_eq_getElem (by omega)] at h1; exact ⟨by simpa using h1, (hb _ (by simp)).2⟩
 have hlast : b[k] < 128 := by
  have := cont_end b (by omega); rw [← hc, List.getD_eq_getElem?_getD, List.getElem?_eq_getElem hk] at this
  simpa using this
 rw [List.take_succ_eq_append_getElem hk]; refine (vb_val (b.take k) b[k] hge (hb _ (by simp)).1 hlast ?_).1; intro hne; have hk0 : 0 < k := by
  rcases Nat.eq_zero_or_pos k with h | h
  ·subst h; simp at hne
  ·exact h
 have := h0 hk0
 rwa [List.getD_eq_getElem?_getD, List.getElem?_eq_getElem hk] at this

end Go.Vint
namespace Go.Vint
theorem vb_form : ∀ (n : Int), 0 ≤ n → ∃ T x, vb n = T ++ [x] ∧ (∀ y ∈ T, 128 ≤ y) ∧ 0 ≤ x ∧ x < 128 ∧ (T ≠ [] → x ≠ 0) ∧ val (T ++ [x]) = n := by
 have key : ∀ k : Nat, ∀ n : Int, n.toNat ≤ k → 0 ≤ n → ∃ T x, vb n = T ++ [x] ∧ (∀ y ∈ T, 128 ≤ y) ∧ 0 ≤ x ∧ x < 128 ∧ (T ≠ [] → x ≠ 0) ∧ val (T ++ [x]) = n := by
  intro k
  induction k with
  | zero => intro n hk h0; exact ⟨[], n, by rw [vb_lo (by omega)]; rfl, by simp, h0, by omega, by simp, by simp [val]; omega⟩
  | succ k ih =>
   intro n hk h0
   by_cases h1 : n < 128
   ·exact ⟨[], n, by rw [vb_lo h1]; rfl, by simp, h0, by omega, by simp, by simp [val]; omega⟩
   ·obtain ⟨T, x, e, hT, hx0, hx1, hne, hv⟩ := ih (n / 128) (by omega) (by omega); refine ⟨(128 + n % 128) :: T, x, by rw [vb_hi h1, e]; rfl, ?_, hx0, hx1, ?_, ?_⟩
    ·intro y hy; simp only [List.mem_cons] at hy
     rcases hy with rfl | hy
     ·omega
     ·exact hT y hy
    ·intro _
     by_cases hT0 : T = []
     ·subst hT0; simp [val] at hv; omega
     ·exact hne hT0
    ·simp only [List.cons_append, val, hv]; omega
 exact fun n => key n.toNat n (Nat.le_refl _)

theorem rd_vb (n : Int) (h0 : 0 ≤ n) (h1 : n ≤ 18446744073709551615) (t : List Int) : rd (vb n ++ t) = (n, ((vb n).length : Int), 0) := by
 obtain ⟨T, x, e, hT, hx0, hx1, hne, hv⟩ := vb_form n h0; have hl := vb_len10 n h1; rw [e] at hl ⊢; simp only [List.length_append, List.length_cons, List.length_nil] at hl; have hk : (T ++ [x] ++ t).getD T.length 0 = x := by simp [List.getD_eq_getElem?_getD]
 have h9 : T.length = 9 → x ≤ 1 := by
  intro h; rw [val_snoc, h] at hv; have := val_bd T; simp at hv; omega
 rw [rd_at (T ++ [x] ++ t) T.length (by omega) ?_ (by simp) (by rw [hk]; exact hx1)]
 ·rw [hk, if_neg ?_, if_neg ?_]
  ·have : (T ++ [x] ++ t).take (T.length + 1) = T ++ [x] := by
    have h := List.take_left (l₁ := T ++ [x]) (l₂ := t)
    simpa using h
   rw [this, hv]; simp
  ·rintro ⟨hp, hx⟩; exact hne (by intro h; subst h; simp at hp) hx
  ·rintro ⟨hp, hx⟩; rw [← hp, hk] at hx; have := h9 hp; omega
 ·intro j hj; have : (T ++ [x] ++ t).getD j 0 = T[j] := by simp [List.getD_eq_getElem?_getD, List.getElem?_append, hj]
  rw [this]; exact hT _ (by simp)

theorem rowF_vbs : ∀ (L acc : List Int) (f : Nat), L.length < f → (∀ x ∈ L, 0 ≤ x ∧ x ≤ 18446744073709551615) → rowF f (vbs acc ++ vbs L) (vbs acc).length acc = (acc ++ L, 0, 0) := by
 intro L
 induction L with
 | nil =>
  intro acc f hf _; obtain ⟨f, rfl⟩ : ∃ g, f = g + 1 := ⟨f - 1, by simp at hf; omega⟩; rw [rowF_end _ _ _ _ (by simp [vbs])]; simp
 | cons x L ih =>
  intro acc f hf hb; simp only [List.length_cons] at hf; obtain ⟨f, rfl⟩ : ∃ g, f = g + 1 := ⟨f - 1, by omega⟩; have hx := hb x (by simp); have hp := vb_pos x; have hc : vbs (x :: L) = vb x ++ vbs L := by simp [vbs]
  have hd : (vbs acc ++ vbs (x :: L)).drop (vbs acc).length = vb x ++ vbs L := by rw [List.drop_left, hc]
  have hr := rd_vb x hx.1 hx.2 (vbs L); have hlt : (vbs acc).length < (vbs acc ++ vbs (x :: L)).length := by rw [hc]; simp; omega
  rw [rowF_step _ _ _ _ hlt (by rw [hd, hr]), hd, hr]; simp only [Int.toNat_natCast]; have h1 : vbs acc ++ vbs (x :: L) = vbs (acc ++ [x]) ++ vbs L := by rw [vbs_snoc, hc, List.append_assoc]
  have h2 : (vbs acc).length + (vb x).length = (vbs (acc ++ [x])).length := by rw [vbs_snoc, List.length_append]
  rw [h1, h2, ih (acc ++ [x]) f (by omega) (fun y hy => hb y (by simp [hy]))]; simp

theorem vbs_len_ge (L : List Int) : L.length ≤ (vbs L).length := by
 induction L with
 | nil => simp
 | cons x L ih =>
  have hp := vb_pos x; have hc : vbs (x :: L) = vb x ++ vbs L := by simp [vbs]
  rw [hc, List.length_append, List.length_cons]; omega

theorem row_vbs (L : List Int) (hb : ∀ x ∈ L, 0 ≤ x ∧ x ≤ 18446744073709551615) : row (vbs L) = (L, 0, 0) := by
 have := rowF_vbs L [] ((vbs L).length + 1) (by have := vbs_len_ge L; omega) hb
 simpa [row, vbs] using this

theorem vbs_bd (L : List Int) (hb : ∀ x ∈ L, 0 ≤ x ∧ x ≤ 18446744073709551615) : ∀ x ∈ vbs L, 0 ≤ x ∧ x ≤ 255 := by
 intro x hx; simp only [vbs, List.mem_flatMap] at hx; obtain ⟨y, hy, hx⟩ := hx; exact vb_bd y (hb y hy).1 x hx
end Go.Vint
