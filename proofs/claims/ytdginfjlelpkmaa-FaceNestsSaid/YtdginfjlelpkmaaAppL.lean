/-
  append inside a region that draws its order: where the row lies behind it.
-/
import Derived.Test.YtdginfjlelpkmaaReg
import Derived.Maps.AppendAt
/- append inside a region that draws its order. -/
namespace Go
open Go.RowKit

theorem wp_app {P : Program} {w : World} {o : Oper} {a : Act} {K : Act → World → Prop} {Q : Exit → Act → World → Prop} (s x : Operand) (t : TypeId)
    (ho : o.op = .call { callee := .builtin .append, args := #[s, x], argTypes := #[t, t] })
    (base : Nat) (e : TypeId) (z : Value) (size bytes : Nat) (ht : P.underlying t = some (.slice e)) (hinfo : (P.info? e).map (fun i => (i.zero, i.size, i.bytes)) = some (some z, size, bytes))
    (hzs : z.cells.size = size) (hsz : 0 < size)
    (v : Value) (n : Nat) (xs : List Value) (hs : a.eval s = v) (hown : w.ownsRow base e size v n xs)
    (ax : Option Addr) (m c : Nat) (vs : List Value) (hx : a.eval x = .slice ax m c) (hc0 : ax = none → c = 0) (hvs : Rd w ax vs) (hl : vs.length = m * size) (h1 : ∀ u ∈ vs, u.oneCell' = true)
    (hbytes : (n + m) * bytes ≤ 140737488355328) (hb1 : 0 < bytes) (hbase : base ≤ w.heap.size)
    (h : ∀ v' w', w'.ownsRow base e size v' (n + m) (xs ++ vs) → w.grownBy w' v.ownBlock → K (a.put o.dst v') w') : o.wp P a w K Q := by
  obtain ⟨i, hi, hz, hsize, hby⟩ := info_parts hinfo
  have h63 : n + m ≤ maxLen := by
    have : (n + m) * 1 ≤ (n + m) * bytes := Nat.mul_le_mul_left _ hb1
    unfold maxLen; omega
  cases ax with
  | none =>
    have hv0 : vs = [] := by
      rcases hvs with h | ⟨_, _, h, _⟩
      · exact h
      · cases h
    subst hv0
    have hm : m = 0 := by
      have : m * size = 0 := by simpa using hl.symm
      rcases Nat.mul_eq_zero.1 this with h | h <;> omega
    subst hm
    obtain rfl := hc0 rfl
    have hrun := run_append_owned_none (P := P) (w := w) base t o.type e i size ht hi v n xs hown
    unfold Oper.wp
    simp [execOp, ho, resolve, invoke, builtin, hs, hx, hrun, Result.andThen]
    exact h v w (by simpa using hown) (World.grownBy.refl _ _)
  | some ad =>
    refine wp_append_own w s x t ho base e i z size bytes ht hi hz hsize hby hzs hsz v n xs hs hown ad m c vs hx hl hvs.add h1 h63 hbytes hbase ?_
    intro v' w' h2 h3 _
    exact h v' w' h2 h3

theorem txt_app {P : Program} {ops : Array Oper} {lt : Nat → Bool} {Q : Exit → Act → World → Prop} {S : World → Prop} {zz : Option Nat} {k : Nat} {rest : List Oper} {a : Act} {w : World} {o : Oper} (w0 : World) (hb : Below w0.heap.size w0 w) (hlt : lt k = false) (hgd : o.guard = none) (s x : Operand) (t : TypeId)
    (ho : o.op = .call { callee := .builtin .append, args := #[s, x], argTypes := #[t, t] })
    (e : TypeId) (z : Value) (size bytes : Nat) (ht : P.underlying t = some (.slice e)) (hinfo : (P.info? e).map (fun i => (i.zero, i.size, i.bytes)) = some (some z, size, bytes))
    (hzs : z.cells.size = size) (hsz : 0 < size)
    (v : Value) (n : Nat) (xs : List Value) (hs : a.eval s = v) (hown : w.ownsRow w0.heap.size e size v n xs)
    (ax : Option Addr) (m c : Nat) (vs : List Value) (hx : a.eval x = .slice ax m c) (hc0 : ax = none → c = 0) (hvs : Rd w ax vs) (hl : vs.length = m * size) (h1 : ∀ u ∈ vs, u.oneCell' = true)
    (hbytes : (n + m) * bytes ≤ 140737488355328) (hb1 : 0 < bytes)
    (h : ∀ v' w', w'.ownsRow w0.heap.size e size v' (n + m) (xs ++ vs) → w.grownBy w' v.ownBlock → Below w0.heap.size w0 w' → S w' ∧ wpTxtL P ops lt Q S zz (k + 1) rest (a.put o.dst v') w') :
    wpTxtL P ops lt Q S zz k (o :: rest) a w := by
  have hw : Region.wanted o (yielded ops a.tmps) = true := by simp [Region.wanted, hgd]
  refine txt_heavy hlt hw (fun K hK => ?_)
  refine wp_app s x t ho w0.heap.size e z size bytes ht hinfo hzs hsz v n xs hs hown ax m c vs hx hc0 hvs hl h1 hbytes hb1 hb.size ?_
  intro v' w' h2 h3
  have := h v' w' h2 h3 (hb.grown h3 hb.size (fun k hk => (hown.lt k hk).1))
  exact hK.out _ _ this.1 this.2
end Go
set_option linter.unusedVariables false
set_option linter.unusedSimpArgs false
namespace Go
open Go.RowKit
theorem wp_app_at {P : Program} {w : World} {o : Oper} {a : Act} {K : Act → World → Prop} {Q : Exit → Act → World → Prop} (s x : Operand) (t : TypeId)
    (ho : o.op = .call { callee := .builtin .append, args := #[s, x], argTypes := #[t, t] })
    (base : Nat) (e : TypeId) (z : Value) (size bytes : Nat) (ht : P.underlying t = some (.slice e)) (hinfo : (P.info? e).map (fun i => (i.zero, i.size, i.bytes)) = some (some z, size, bytes))
    (hzs : z.cells.size = size) (hsz : 0 < size)
    (v : Value) (n : Nat) (xs : List Value) (hs : a.eval s = v) (hown : w.ownsRow base e size v n xs)
    (ad : Addr) (m c : Nat) (vs : List Value) (hx : a.eval x = .slice (some ad) m c) (hvs : Rd w (some ad) vs) (hl : vs.length = m * size) (h1 : ∀ u ∈ vs, u.oneCell' = true)
    (hbytes : (n + m) * bytes ≤ 140737488355328) (hb1 : 0 < bytes) (hbase : base ≤ w.heap.size)
    (h : ∀ v' w', w'.ownsRow base e size v' (n + m) (xs ++ vs) → w.grownBy w' v.ownBlock → (v'.ownBlock = v.ownBlock ∨ v'.ownBlock = some w.heap.size) → K (a.put o.dst v') w') : o.wp P a w K Q := by
  obtain ⟨i, hi, hz, hsize, hby⟩ := info_parts hinfo
  have h63 : n + m ≤ maxLen := by
    have : (n + m) * 1 ≤ (n + m) * bytes := Nat.mul_le_mul_left _ hb1
    unfold maxLen; omega
  obtain ⟨v', w', hr, h2, h3, h4, h5⟩ := run_append_own_at (P := P) w base t o.type e i z size bytes ht hi hz hsize hby hzs hsz v n xs hown ad m c vs hl hvs.add h1 h63 hbytes hbase
  unfold Oper.wp execOp
  simp only [ho, resolve, invoke, builtin, Sem.run_bind, Sem.run_pure, Result.andThen_ok, List.map_toArray, List.map_cons, List.map_nil, hs, hx, hr]
  exact h v' w' h2 h3 h5
/-- Rows that share nothing. -/
def Disj (v u : Value) : Prop := ∀ k, v.ownBlock = some k → u.ownBlock ≠ some k
theorem Disj.symm {v u : Value} (h : Disj v u) : Disj u v := fun k h1 h2 => h k h2 h1
theorem Disj.kept {o u : Value} (h : Disj o u) : u.ownBlock = none ∨ u.ownBlock ≠ o.ownBlock := by
  cases hu : u.ownBlock with
  | none => exact .inl rfl
  | some x => exact .inr fun e => h x e.symm hu
theorem Disj.left {o u v : Value} {N : Nat} (h : Disj o u) (hl : v.ownBlock = o.ownBlock ∨ v.ownBlock = some N) (hu : ∀ k, u.ownBlock = some k → k < N) : Disj v u := by
  intro k h1 h2
  rcases hl with e | e
  · exact h k (e.symm.trans h1) h2
  · rw [e] at h1
    cases h1
    exact absurd (hu _ h2) (Nat.lt_irrefl _)
end Go
