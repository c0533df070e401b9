/-
  A region that draws its order, walked over each order in which its heavy operations may come up; the light ones are taken first.
-/
import Derived.Test.YtmmhkageehlknaaReg
set_option linter.unusedVariables false
set_option linter.unusedSimpArgs false
namespace Go
open Go.RowKit
section
variable {P : Program} {ops : Array Oper} {lt : Nat → Bool} {Q : Exit → Act → World → Prop} {S : World → Prop}

/-- Over each order of the heavy ones. -/
def wpSched (P : Program) (ops : Array Oper) (lt : Nat → Bool) (Q : Exit → Act → World → Prop) (S : World → Prop) : Nat → Array Bool → Act → World → Prop
  | 0, listed, a, w => Region.ready .any ops listed = [] ∧ Q .normal a w
  | f + 1, listed, a, w =>
    match (Region.ready .any ops listed).find? lt with
    | some j => Region.free .any ops listed j = true ∧ ∃ o v, ops[j]? = some o ∧ YieldsIf P ops S o v a ∧ S w ∧ wpSched P ops lt Q S f (listed.setIfInBounds j true) (a.put o.dst v) w
    | none => (Region.ready .any ops listed = [] → Q .normal a w) ∧
      ∀ i ∈ Region.ready .any ops listed, wpOp P ops Q i (fun a' w' => S w' ∧ wpSched P ops lt Q S f (listed.setIfInBounds i true) a' w') a w

theorem wpSched_sound (hs : Region.noSelect ops = true) (hQ : ∀ c a w, ¬ Q (.panic c) a w) : ∀ (f : Nat) (listed : Array Bool) (a : Act) (w : World),
    wpSched P ops lt Q S f listed a w → wpAnyZ P .any ops Q S none f listed a w := by
  intro f
  induction f with
  | zero => intro listed a w h; exact wpAnyZ_done h.1 h.2 0
  | succ f ih =>
    intro listed a w h
    unfold wpSched at h
    cases hf : (Region.ready .any ops listed).find? lt with
    | some j =>
      rw [hf] at h
      simp only at h
      obtain ⟨h1, o, v, ho, hy, hS, h2⟩ := h
      have hr : (Region.ready .any ops listed).contains j = true := by
        have := List.mem_of_find?_eq_some hf
        simpa using this
      exact wpAnyZ_take rfl ho hs (fun c a w h => absurd h (hQ c _ w)) f listed a w h1 hr hy hS (ih _ _ _ h2)
    | none =>
      rw [hf] at h
      simp only at h
      exact ⟨h.1, fun i hi => wpOp_mono (fun a' w' h' => ⟨fun _ => h'.1, ih _ _ _ h'.2⟩) (h.2 i hi)⟩

theorem sched_light {f : Nat} {listed : Array Bool} {a : Act} {w : World} (j : Nat) (o : Oper) (v : Value) (hr : (Region.ready .any ops listed).find? lt = some j) (hf : Region.free .any ops listed j = true) (ho : ops[j]? = some o)
    (hw : Region.wanted o (yielded ops a.tmps) = true) (hv : ∀ w', S w' → (execOp a.eval o).run P w' = .ok (.value v) w') (hS : S w) (h : wpSched P ops lt Q S f (listed.setIfInBounds j true) (a.put o.dst v) w) : wpSched P ops lt Q S (f + 1) listed a w := by
  unfold wpSched
  rw [hr]
  exact ⟨hf, o, v, ho, .inl ⟨hw, hv⟩, hS, h⟩
theorem sched_fork {f : Nat} {listed : Array Bool} {a : Act} {w : World} (rs : List Nat) (hr : Region.ready .any ops listed = rs) (hl : rs.find? lt = none) (hne : rs ≠ [])
    (h : ∀ i ∈ rs, wpOp P ops Q i (fun a' w' => S w' ∧ wpSched P ops lt Q S f (listed.setIfInBounds i true) a' w') a w) : wpSched P ops lt Q S (f + 1) listed a w := by
  unfold wpSched
  rw [hr, hl]
  exact ⟨fun h0 => absurd h0 hne, h⟩
theorem sched_heavy {f : Nat} {listed : Array Bool} {a : Act} {w : World} (i : Nat) (o : Oper) (ho : ops[i]? = some o) (hw : Region.wanted o (yielded ops a.tmps) = true)
    (h : ∀ K : Act → World → Prop, Hid (∀ a w, S w → wpSched P ops lt Q S f (listed.setIfInBounds i true) a w → K a w) → o.wp P a w K Q) :
    wpOp P ops Q i (fun a' w' => S w' ∧ wpSched P ops lt Q S f (listed.setIfInBounds i true) a' w') a w := by
  unfold wpOp
  simp only [ho]
  rw [if_pos hw]
  exact .inl (h _ (fun a w h1 h2 => ⟨h1, h2⟩))
theorem sched_done {listed : Array Bool} {a : Act} {w : World} (hr : Region.ready .any ops listed = []) (h : Q .normal a w) : wpSched P ops lt Q S 0 listed a w := ⟨hr, h⟩

theorem sched_end {listed : Array Bool} {a : Act} {w : World} (hr : Region.ready .any ops listed = []) (h : Q .normal a w) : wpSched P ops lt (OnlyQ Q) S 0 listed a w := sched_done hr h

/-- THE LAW. -/
theorem wp_region_sched {id : Nat} {a : Act} {w : World} (n : Nat) (lts : List Nat) (S : World → Prop) (hn : ops.size = n) (hm : P.follows .mixedOrders = true) (hs : Region.noSelect ops = true)
    (h : wpSched P ops (lts.contains ·) (OnlyQ Q) S n (Array.replicate n false) a w.drew) : (Code.region id ops true).wp P Q a w := by
  subst hn
  refine Code.wp_mono OnlyQ.imp ?_
  refine wp_region_any hm (wpAny_of_Z (S := S) (z := none) _ _ _ _ ?_)
  exact wpSched_sound hs (fun c a w h => h) _ _ _ _ h
end
attribute [irreducible] wpSched
end Go
