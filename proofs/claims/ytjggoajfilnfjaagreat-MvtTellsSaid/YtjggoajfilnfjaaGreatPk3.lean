/-
  A region that draws its order, holds calls and makes memory: walked once, in the text's order. 'Light' operations yield one value in every world that meets S; the others come up in one forced order (the check 'okText', a closed fact). All orders come to the same. Rows of the program's table of types.
-/
import Derived.Test.YtjggoajfilnfjaaGreatPk1
import Derived.OrdersHeld
import Derived.Deep.RegionHeld
import Derived.Laws.CopyOwn
import Derived.Test.YtjggoajfilnfjaaGreatProg
import Derived.KernelRfl
set_option linter.unusedVariables false
set_option linter.unusedSimpArgs false
namespace Go
open Go.RowKit

def NoQ : Exit → Act → World → Prop := fun _ _ _ => False
def OnlyQ (Q : Exit → Act → World → Prop) : Exit → Act → World → Prop
 | .normal, a, w => Q .normal a w
 | _, _, _ => False

theorem OnlyQ.imp {Q : Exit → Act → World → Prop} : ∀ (e : Exit) (a : Act) (w : World), OnlyQ Q e a w → Q e a w := fun e a w h => by
 cases e <;> first | exact h | exact (h : False).elim

section
variable {P : Program} {ops : Array Oper} {lt : Nat → Bool} {Q : Exit → Act → World → Prop} {S : World → Prop} {z : Option Nat}

def wpTxt (P : Program) (ops : Array Oper) (lt : Nat → Bool) (Q : Exit → Act → World → Prop) (S : World → Prop) (z : Option Nat) : List Nat → Act → World → Prop
  | [], a, w => Q .normal a w
  | i :: rest, a, w =>
    match ops[i]? with
    | none => False
    | some o =>
      if Region.wanted o (yielded ops a.tmps) then
        (if lt i then ∃ v, (∀ w', S w' → (execOp a.eval o).run P w' = .ok (.value v) w') ∧ wpTxt P ops lt Q S z rest (a.put o.dst v) w
         else o.wp P a w (fun a' w' => (some i ≠ z → S w') ∧ wpTxt P ops lt Q S z rest a' w') NoQ)
      else wpTxt P ops lt Q S z rest (a.put o.dst undef) w

theorem wpTxt_nil {a : Act} {w : World} (h : Q .normal a w) : wpTxt P ops lt Q S z [] a w := h

theorem wpTxt_light {i : Nat} {rest : List Nat} {a : Act} {w : World} {o : Oper} (v : Value) (ho : ops[i]? = some o) (hl : lt i = true) (hw : Region.wanted o (yielded ops a.tmps) = true)
  (hv : ∀ w', S w' → (execOp a.eval o).run P w' = .ok (.value v) w') (h : wpTxt P ops lt Q S z rest (a.put o.dst v) w) : wpTxt P ops lt Q S z (i :: rest) a w := by
 unfold wpTxt; simp only [ho, hw, if_true, hl]; exact ⟨v, hv, h⟩

theorem wpTxt_heavy {i : Nat} {rest : List Nat} {a : Act} {w : World} {o : Oper} (ho : ops[i]? = some o) (hl : lt i = false) (hw : Region.wanted o (yielded ops a.tmps) = true)
  (h : ∀ K : Act → World → Prop, Hid (∀ a w, S w → wpTxt P ops lt Q S z rest a w → K a w) → o.wp P a w K NoQ) : wpTxt P ops lt Q S z (i :: rest) a w := by
 unfold wpTxt; simp only [ho, hw, if_true, hl, Bool.false_eq_true, if_false]; exact h _ (fun a w h1 h2 => ⟨fun _ => h1, h2⟩)

theorem upon_some {o : Oper} {a : Act} {K : Act → World → Prop} {r : Result Next} (h : o.upon P a K NoQ r) : ∃ u ds w1, K (({ a with defers := ds } : Act).put o.dst u) w1 := by
 have lets : ¬ LetsOut NoQ := fun ⟨_, _, h⟩ => h
 cases r with
 | ok n w' =>
  cases n <;> simp only [Oper.upon] at h
  case value v => exact ⟨v, a.defers, w', h⟩
  case skip => exact ⟨undef, a.defers, w', h⟩
  case defer d => exact ⟨undef, d :: a.defers, w', h⟩
  case enter f args =>
   obtain ⟨e, w'', _, hR, _⟩ := h []
   cases e with
   | returned v => exact ⟨v, a.defers, w'', hR⟩
   | panicked c => exact (hR : False).elim
   | outgrown => exact (lets hR).elim
  case row row args =>
   obtain ⟨v, w'', hR, _⟩ := h default []; exact ⟨v, a.defers, w'', hR⟩
 | halt x w' => cases x <;> simp only [Oper.upon, NoQ] at h

theorem upon_map {o : Oper} {a a2 : Act} {K K2 : Act → World → Prop} {r : Result Next} (hd : a2.defers = a.defers)
  (hK : ∀ u ds w1, K (({ a with defers := ds } : Act).put o.dst u) w1 → K2 (({ a2 with defers := ds } : Act).put o.dst u) w1) (h : o.upon P a K NoQ r) : o.upon P a2 K2 NoQ r := by
 have e : ({ a2 with defers := a.defers } : Act) = a2 := by rw [← hd]
 have hK' : ∀ u w1, K (a.put o.dst u) w1 → K2 (a2.put o.dst u) w1 := fun u w1 h => by
  have := hK u a.defers w1 h
  rwa [e] at this
 cases r with
 | ok n w' =>
  cases n <;> simp only [Oper.upon] at h ⊢
  case value v => exact hK' _ _ h
  case skip => exact hK' _ _ h
  case defer d => rw [hd]; exact hK _ _ _ h
  case enter f args => exact Calls.mono h (fun e w'' he => by cases e <;> first | exact hK' _ _ he | exact he)
  case row row args => exact Rows.mono h (fun _ _ he => hK' _ _ he)
 | halt x w' => cases x <;> simp only [Oper.upon] at h ⊢ <;> exact h

theorem Act.put_with (a : Act) (dst : Option Tmp) (v : Value) (ds : List Deferred) : ({ a with defers := ds } : Act).put dst v = { a.put dst v with defers := ds } := by
 cases dst <;> rfl

theorem wpTxt_swap {i j : Nat} (hiz : some i ≠ z) {rest : List Nat} {a : Act} {w : World} {oi oj : Oper} (hi : ops[i]? = some oi) (hj : ops[j]? = some oj) (hl : lt j = true) (hap : oj.apart ops oi = true)
  (hsi : ∀ cs b, oi.op ≠ .select cs b) (hsj : ∀ cs b, oj.op ≠ .select cs b)
  (h : wpTxt P ops lt Q S z (i :: j :: rest) a w) : wpTxt P ops lt Q S z (j :: i :: rest) a w := by
 obtain ⟨h1, h2, h3⟩ := Oper.apart_spec hap
 -- of a state that differs at oi's place alone
 have ej : ∀ u ds, execOp ((({ a with defers := ds } : Act).put oi.dst u)).eval oj = execOp a.eval oj := fun u ds => by
  rw [execOp_put (ops := ops) oj hsj ({ a with defers := ds } : Act) oi.dst u h3]; exact congrArg (fun f => execOp f oj) (funext fun x => by cases x <;> rfl)
 have wj : ∀ u ds, Region.wanted oj (yielded ops ((({ a with defers := ds } : Act).put oi.dst u)).tmps) = Region.wanted oj (yielded ops a.tmps) := fun u ds =>
  wanted_put oj ({ a with defers := ds } : Act) oi.dst u h3
 have ei : ∀ v, execOp (a.put oj.dst v).eval oi = execOp a.eval oi := fun v => execOp_put (ops := ops) oi hsi a oj.dst v h1; have wi : ∀ v, Region.wanted oi (yielded ops (a.put oj.dst v).tmps) = Region.wanted oi (yielded ops a.tmps) := fun v => wanted_put oi a oj.dst v h1; have comm : ∀ u v ds, (({ a with defers := ds } : Act).put oi.dst u).put oj.dst v = (({ a.put oj.dst v with defers := ds } : Act)).put oi.dst u := fun u v ds => by
  rw [← Act.put_with, ← Act.put_comm _ v u h2]
 have comm' : ∀ u v, (a.put oi.dst u).put oj.dst v = (a.put oj.dst v).put oi.dst u := fun u v => (Act.put_comm a v u h2).symm; unfold wpTxt at h ⊢; simp only [hi, hj, hl, if_true] at h ⊢
 by_cases hwi : Region.wanted oi (yielded ops a.tmps) = true
 ·rw [if_pos hwi] at h
  by_cases hli : lt i = true
  ·rw [if_pos hli] at h; obtain ⟨u, hu, h⟩ := h; unfold wpTxt at h; simp only [hj, hl, if_true] at h; have e0 := wj u a.defers; have e1 := ej u a.defers
   by_cases hwj : Region.wanted oj (yielded ops a.tmps) = true
   ·rw [if_pos hwj]; rw [if_pos (e0.trans hwj)] at h; obtain ⟨v, hv, h⟩ := h; refine ⟨v, fun w' hS => by rw [← e1]; exact hv w' hS, ?_⟩; unfold wpTxt; simp only [hi]; rw [if_pos (by rw [wi]; exact hwi), if_pos hli]; refine ⟨u, fun w' hS => by rw [ei]; exact hu w' hS, ?_⟩; rw [← comm']; exact h
   ·rw [if_neg hwj]; rw [if_neg (by rw [show _ = _ from e0]; exact hwj)] at h; unfold wpTxt; simp only [hi]; rw [if_pos (by rw [wi]; exact hwi), if_pos hli]; refine ⟨u, fun w' hS => by rw [ei]; exact hu w' hS, ?_⟩; rw [← comm']; exact h
  ·rw [if_neg hli] at h; obtain ⟨u0, ds0, w0, hS0, hn0⟩ := upon_some h; unfold wpTxt at hn0; simp only [hj, hl, if_true] at hn0; rw [wj] at hn0
   by_cases hwj : Region.wanted oj (yielded ops a.tmps) = true
   ·rw [if_pos hwj] at hn0 ⊢; obtain ⟨v, hv, _⟩ := hn0; rw [ej] at hv; refine ⟨v, hv, ?_⟩; unfold wpTxt; simp only [hi]; rw [if_pos (by rw [wi]; exact hwi), if_neg hli]; unfold Oper.wp at h ⊢; rw [ei]; refine upon_map (Act.put_defers_same a oj.dst v) ?_ h; rintro u ds w1 ⟨hS1, hn1⟩; have hS1 := hS1 hiz; refine ⟨fun _ => hS1, ?_⟩; unfold wpTxt at hn1; simp only [hj, hl, if_true] at hn1; rw [wj, if_pos hwj] at hn1; obtain ⟨v', hv', hn1⟩ := hn1; rw [ej] at hv'; have : v' = v := by
     have a1 := hv' w1 hS1; rw [hv w1 hS1] at a1
     simpa using a1.symm
    subst this
    rwa [comm] at hn1
   ·rw [if_neg hwj]; unfold wpTxt; simp only [hi]; rw [if_pos (by rw [wi]; exact hwi), if_neg hli]; unfold Oper.wp at h ⊢; rw [ei]; refine upon_map (Act.put_defers_same a oj.dst undef) ?_ h; rintro u ds w1 ⟨hS1, hn1⟩; refine ⟨hS1, ?_⟩; unfold wpTxt at hn1; simp only [hj] at hn1; rw [wj, if_neg hwj] at hn1
    rwa [comm] at hn1
 ·rw [if_neg hwi] at h; unfold wpTxt at h; simp only [hj, hl, if_true] at h; have e0 := wj undef a.defers; have e1 := ej undef a.defers
  by_cases hwj : Region.wanted oj (yielded ops a.tmps) = true
  ·rw [if_pos hwj]; rw [if_pos (e0.trans hwj)] at h; obtain ⟨v, hv, h⟩ := h; refine ⟨v, fun w' hS => by rw [← e1]; exact hv w' hS, ?_⟩; unfold wpTxt; simp only [hi]; rw [if_neg (by rw [wi]; exact hwi), ← comm']; exact h
  ·rw [if_neg hwj]; rw [if_neg (by rw [show _ = _ from e0]; exact hwj)] at h; unfold wpTxt; simp only [hi]; rw [if_neg (by rw [wi]; exact hwi), ← comm']; exact h
where
 Act.put_defers_same (a : Act) (dst : Option Tmp) (v : Value) : (a.put dst v).defers = a.defers := by cases dst <;> rfl
end

section
variable {P : Program} {ops : Array Oper} {lt : Nat → Bool} {Q : Exit → Act → World → Prop} {S : World → Prop} {z : Option Nat}

theorem wpTxt_cons_mono {i : Nat} {l l' : List Nat} (hll : ∀ a w, wpTxt P ops lt Q S z l a w → wpTxt P ops lt Q S z l' a w) {a : Act} {w : World} (h : wpTxt P ops lt Q S z (i :: l) a w) : wpTxt P ops lt Q S z (i :: l') a w := by
 unfold wpTxt at h ⊢
 split at h
 ·exact h
 ·split
  ·rename_i hw; rw [if_pos hw] at h
   split
   ·rename_i hl; rw [if_pos hl] at h; obtain ⟨v, hv, h⟩ := h; exact ⟨v, hv, hll _ _ h⟩
   ·rename_i hl; rw [if_neg hl] at h; exact Oper.wp_mono (fun a w h => ⟨h.1, hll _ _ h.2⟩) h
  ·rename_i hw; rw [if_neg hw] at h; exact hll _ _ h

def apartAt (z : Option Nat) (ops : Array Oper) (j p : Nat) : Bool := some p != z &&
 match ops[j]?, ops[p]? with
 | some oj, some op => oj.apart ops op
 | _, _ => false

theorem wpTxt_bubble (hs : Region.noSelect ops = true) {j : Nat} (hl : lt j = true) (tl : List Nat) : ∀ (pre : List Nat), (∀ p ∈ pre, apartAt z ops j p = true) → ∀ (a : Act) (w : World), wpTxt P ops lt Q S z (pre ++ j :: tl) a w → wpTxt P ops lt Q S z (j :: (pre ++ tl)) a w := by
 intro pre
 induction pre with
 | nil => intro _ a w h; exact h
 | cons p pre ih =>
  intro hap a w h; have hp := hap p (by simp); unfold apartAt at hp; rw [Bool.and_eq_true] at hp; obtain ⟨hpz, hp⟩ := hp
  split at hp
  ·rename_i oj op hoj hop; have h1 : wpTxt P ops lt Q S z (p :: j :: (pre ++ tl)) a w := wpTxt_cons_mono (fun a w h => ih (fun q hq => hap q (by simp [hq])) a w h) h; exact wpTxt_swap (by simpa using hpz) hop hoj hl hp (fun cs b => Region.noSelect_spec hs p op cs b hop) (fun cs b => Region.noSelect_spec hs j oj cs b hoj) h1
  ·cases hp

end

def okTextZ (z : Option Nat) (md : Region.Mode) (ops : Array Oper) (lt : Nat → Bool) : Nat → List Nat → Array Bool → Bool
 | 0, rest, listed => rest.isEmpty && (Region.ready md ops listed).isEmpty
 | f + 1, rest, listed =>
  match (Region.ready md ops listed).find? lt with
  | some j => Region.free md ops listed j && rest.contains j && (rest.takeWhile (· != j)).all (apartAt z ops j) &&
    okTextZ z md ops lt f (rest.takeWhile (· != j) ++ (rest.dropWhile (· != j)).tail) (listed.setIfInBounds j true)
  | none => match rest with
   | [] => (Region.ready md ops listed).isEmpty
   | i :: tl => Region.ready md ops listed == [i] && (some i != z || tl.isEmpty) && okTextZ z md ops lt f tl (listed.setIfInBounds i true)

def lastOk (md : Region.Mode) (ops : Array Oper) (z : Option Nat) : Bool :=
 match z with
 | none => true
 | some z => (match ops[z]? with
  | none => true
  | some o => (List.range ops.size).all fun j => j == z || o.after.any fun e => Region.binds md e && e.on == j)

def okText (md : Region.Mode) (ops : Array Oper) (lt : Nat → Bool) (f : Nat) (rest : List Nat) (listed : Array Bool) : Bool := okTextZ none md ops lt f rest listed

section
variable {P : Program} {ops : Array Oper} {Q : Exit → Act → World → Prop} {md : Region.Mode} {S : World → Prop} {z : Option Nat}

def wpAnyZ (P : Program) (md : Region.Mode) (ops : Array Oper) (Q : Exit → Act → World → Prop) (S : World → Prop) (z : Option Nat) : Nat → Array Bool → Act → World → Prop
 | 0, listed, a, w => Region.ready md ops listed = [] ∧ Q .normal a w
 | f + 1, listed, a, w => (Region.ready md ops listed = [] → Q .normal a w) ∧
  ∀ i ∈ Region.ready md ops listed, wpOp P ops Q i (fun a' w' => (some i ≠ z → S w') ∧ wpAnyZ P md ops Q S z f (listed.setIfInBounds i true) a' w') a w

theorem wpAny_of_Z (f : Nat) : ∀ (listed : Array Bool) (a : Act) (w : World), wpAnyZ P md ops Q S z f listed a w → wpAny P md ops Q f listed a w := by
 induction f with
 | zero => intro _ _ _ h; exact h
 | succ f ih => intro listed a w h; exact ⟨h.1, fun i hi => wpOp_mono (fun a' w' h' => ih _ a' w' h'.2) (h.2 i hi)⟩

theorem wpAnyH_of_Z (f : Nat) : ∀ (listed : Array Bool) (a : Act) (w : World), wpAnyZ P md ops Q S none f listed a w → wpAnyH P md ops Q S f listed a w := by
 induction f with
 | zero => intro _ _ _ h; exact h
 | succ f ih => intro listed a w h; exact ⟨h.1, fun i hi => wpOp_mono (fun a' w' h' => ⟨h'.1 (by simp), ih _ a' w' h'.2⟩) (h.2 i hi)⟩

theorem wpAnyZ_take (hz : lastOk md ops z = true) {i : Nat} {oi : Oper} {v : Value} (hi : ops[i]? = some oi) (hs : Region.noSelect ops = true) (hQ : ∀ c a w, Q (.panic c) (a.put oi.dst v) w → Q (.panic c) a w) (f : Nat) :
  ∀ (listed : Array Bool) (a : Act) (w : World), Region.free md ops listed i = true → (Region.ready md ops listed).contains i = true → YieldsIf P ops S oi v a → S w →
   wpAnyZ P md ops Q S z f (listed.setIfInBounds i true) (a.put oi.dst v) w → wpAnyZ P md ops Q S z (f + 1) listed a w := by
 suffices H : ∀ (listed : Array Bool) (a : Act) (w : World),
   (∀ j oj, ops[j]? = some oj → j ≠ i → listed.getD j true = false → (∀ e ∈ oj.after, Region.binds md e = true → e.on ≠ i) → oi.apart ops oj = true) →
   i ∈ Region.ready md ops listed → YieldsIf P ops S oi v a → S w →
   wpAnyZ P md ops Q S z f (listed.setIfInBounds i true) (a.put oi.dst v) w → wpAnyZ P md ops Q S z (f + 1) listed a w by
  intro listed a w hf hr hy hS h; exact H listed a w (Region.free_spec hi hf) (by simpa using hr) hy hS h
 have hsel := Region.noSelect_spec hs
 induction f with
 | zero =>
  intro listed a w hfree hr hy hS H; refine ⟨fun h => (by rw [h] at hr; cases hr), fun j hj => ?_⟩
  by_cases hji : j = i
  ·subst hji; exact hy.wpOp hi hS ⟨fun _ => hS, H⟩
  ·have := ready_mono hj hji; rw [H.1] at this
   cases this
 | succ f ih =>
  intro listed a w hfree hr hy hS H; refine ⟨fun h => (by rw [h] at hr; cases hr), fun j hj => ?_⟩
  by_cases hji : j = i
  ·subst hji; exact hy.wpOp hi hS ⟨fun _ => hS, H⟩
  ·have h1 := H.2 j (ready_mono hj hji); obtain ⟨hjun, oj, hoj, hall⟩ := mem_ready.1 hj; have hnot : ∀ e ∈ oj.after, Region.binds md e = true → e.on ≠ i := by
    intro e he hb heq; have h1 := hall e he hb; have h0 := (mem_ready.1 hr).1; rw [heq] at h1
    rcases Nat.lt_or_ge i listed.size with h' | h'
    ·simp [h'] at h0 h1; rw [h0] at h1; cases h1
    ·simp [Array.getElem?_eq_none h'] at h1
   have hjz : some j ≠ z := by
    intro e; rw [← e] at hz; unfold lastOk at hz; simp only [hoj] at hz; have hil : i < ops.size := (Array.getElem?_eq_some_iff.1 hi).1; have := List.all_eq_true.1 hz i (List.mem_range.2 hil); rw [Bool.or_eq_true] at this
    rcases this with h | h
    ·exact hji (by simpa using h : i = j).symm
    ·obtain ⟨e, he, hb⟩ := Array.any_eq_true'.1 h; rw [Bool.and_eq_true] at hb; exact hnot e he hb.1 (by simpa using hb.2)
   have h2 := wpOp_putIf hoj (hfree j oj hoj hji hjun hnot) (fun cs b => hsel i oi cs b hi) (fun cs b => hsel j oj cs b hoj) hQ hy h1; have hri : i ∈ Region.ready md ops (listed.setIfInBounds j true) := ready_mono hr (Ne.symm hji); have hfree' : ∀ k ok, ops[k]? = some ok → k ≠ i → (listed.setIfInBounds j true).getD k true = false →
     (∀ e ∈ ok.after, Region.binds md e = true → e.on ≠ i) → oi.apart ops ok = true := by
    intro k ok hk hki hun hno; refine hfree k ok hk hki ?_ hno
    by_cases hjk : j = k
    ·subst hjk; exact hjun
    ·rw [getD_set_ne true hjk] at hun; exact hun
   refine wpOp_mono (fun a' w' h3 => ?_) h2; obtain ⟨h4, h5, h6⟩ := h3; have hS' := h5 hjz; refine ⟨fun _ => hS', ih (listed.setIfInBounds j true) a' w' hfree' hri h4 hS' ?_⟩; rw [Array.setIfInBounds_comm _ _ hji]; exact h6

theorem wpAnyZ_all {rs : List Nat} {f : Nat} {listed : Array Bool} {a : Act} {w : World} (hr : Region.ready md ops listed = rs) (hne : rs ≠ [])
  (h : ∀ i ∈ rs, wpOp P ops Q i (fun a' w' => (some i ≠ z → S w') ∧ wpAnyZ P md ops Q S z f (listed.setIfInBounds i true) a' w') a w) : wpAnyZ P md ops Q S z (f + 1) listed a w :=
 ⟨fun h0 => absurd (hr ▸ h0) hne, hr ▸ h⟩

theorem wpAnyZ_done {listed : Array Bool} {a : Act} {w : World} (hr : Region.ready md ops listed = []) (h : Q .normal a w) : ∀ f, wpAnyZ P md ops Q S z f listed a w
 | 0 => ⟨hr, h⟩
 | _ + 1 => ⟨fun _ => h, by rw [hr]; simp⟩
end

section
variable {P : Program} {ops : Array Oper} {lt : Nat → Bool} {Q : Exit → Act → World → Prop} {S : World → Prop} {z : Option Nat}

theorem dropWhile_ne {j : Nat} : ∀ (l : List Nat), l.contains j = true → ∃ tl, l.dropWhile (· != j) = j :: tl := by
 intro l
 induction l with
 | nil => intro h; simp at h
 | cons x l ih =>
  intro h
  by_cases hx : x = j
  ·subst hx; exact ⟨l, by simp⟩
  ·have : (x != j) = true := by simpa using hx
   rw [List.dropWhile_cons, if_pos this]; refine ih ?_; simp only [List.contains_cons, Bool.or_eq_true, beq_iff_eq] at h
   rcases h with h | h
   ·exact absurd h.symm hx
   ·exact h

theorem okText_soundZ (md : Region.Mode) (hs : Region.noSelect ops = true) (hQ : ∀ c a w, ¬ Q (.panic c) a w) (hz : lastOk md ops z = true) (hNo : ∀ e a w, NoQ e a w → Q e a w) : ∀ (f : Nat) (rest : List Nat) (listed : Array Bool) (a : Act) (w : World),
  okTextZ z md ops lt f rest listed = true → (rest ≠ [] → S w) → wpTxt P ops lt Q S z rest a w → wpAnyZ P md ops Q S z f listed a w := by
 intro f
 induction f with
 | zero =>
  intro rest listed a w hc hS h; simp only [okTextZ, Bool.and_eq_true, List.isEmpty_iff] at hc; obtain ⟨rfl, hr⟩ := hc; exact wpAnyZ_done hr h 0
 | succ f ih =>
  intro rest listed a w hc hS h; unfold okTextZ at hc
  cases hf : (Region.ready md ops listed).find? lt with
  | some j =>
   rw [hf] at hc; simp only [Bool.and_eq_true] at hc; obtain ⟨⟨⟨h1, h2⟩, h3⟩, h4⟩ := hc; have hl : lt j = true := List.find?_some hf; have hr : (Region.ready md ops listed).contains j = true := by
    have := List.mem_of_find?_eq_some hf
    simpa using this
   obtain ⟨tl, htl⟩ := dropWhile_ne rest h2; have hrest : rest = rest.takeWhile (· != j) ++ j :: tl := by rw [← htl, List.takeWhile_append_dropWhile]
   rw [htl] at h4; simp only [List.tail_cons] at h4; rw [hrest] at h; have hb := wpTxt_bubble hs hl tl (rest.takeWhile (· != j)) (fun p hp => List.all_eq_true.1 h3 p hp) a w h; unfold wpTxt at hb
   split at hb
   ·exact hb.elim
   ·rename_i o ho
    split at hb
    ·rename_i hw; obtain ⟨v, hv, hb⟩ := hb; have hS' : S w := hS (by rw [hrest]; simp); exact wpAnyZ_take hz ho hs (fun c a w h => absurd h (hQ c _ w)) f listed a w h1 hr (.inl ⟨hw, hv⟩) hS' (ih _ _ _ _ h4 (fun _ => hS') hb)
    ·rename_i hw; have hS' : S w := hS (by rw [hrest]; simp); exact wpAnyZ_take hz ho hs (fun c a w h => absurd h (hQ c _ w)) f listed a w h1 hr (.inr ⟨by simpa using hw, rfl⟩) hS' (ih _ _ _ _ h4 (fun _ => hS') hb)
  | none =>
   rw [hf] at hc; simp only at hc
   cases rest with
   | nil =>
    simp only [List.isEmpty_iff] at hc; exact wpAnyZ_done hc h _
   | cons i tl =>
    simp only [Bool.and_eq_true, beq_iff_eq] at hc; obtain ⟨⟨hr, hlz⟩, h4⟩ := hc; have hlz' : tl ≠ [] → some i ≠ z := by
     intro h1 h2; rw [Bool.or_eq_true] at hlz
     rcases hlz with h | h
     ·rw [h2] at h; simp at h
     ·exact h1 (by simpa using h)
    refine wpAnyZ_all hr (by simp) ?_; intro k hk; simp only [List.mem_singleton] at hk; subst hk; have hl : lt k = false := by
     have := List.find?_eq_none.1 hf k (by rw [hr]; simp)
     simpa using this
    unfold wpTxt at h; unfold wpOp
    split at h
    ·exact h.elim
    ·rename_i o ho; simp only [ho]
     split at h
     ·rename_i hw; rw [if_pos hw]; rw [if_neg (by rw [hl]; simp)] at h; refine .inl ?_; have h' : o.wp P a w (fun a' w' => (some k ≠ z → S w') ∧ wpTxt P ops lt Q S z tl a' w') Q := by
       unfold Oper.wp at h ⊢; generalize (execOp a.eval o).run P w = r at *
       cases r with
       | ok n w' =>
        cases n <;> simp only [Oper.upon] at h ⊢ <;> first
         | exact h
         | exact Calls.mono h (fun e w'' he => by
           cases e with
           | returned v => exact he
           | panicked c => exact (he : False).elim
           | outgrown => obtain ⟨_, _, h⟩ := he; exact (h : False).elim)
       | halt x w' => cases x <;> simp only [Oper.upon, NoQ] at h
      exact Oper.wp_mono (fun a' w' h => ⟨h.1, ih _ _ _ _ h4 (fun hn => h.1 (hlz' hn)) h.2⟩) h'
     ·rename_i hw; rw [if_neg hw]; exact ⟨fun _ => hS (by simp), ih _ _ _ _ h4 (fun _ => hS (by simp)) h⟩

theorem okText_sound (md : Region.Mode) (hs : Region.noSelect ops = true) (hQ : ∀ c a w, ¬ Q (.panic c) a w) (hNo : ∀ e a w, NoQ e a w → Q e a w) (f : Nat) (rest : List Nat) (listed : Array Bool) (a : Act) (w : World)
  (hc : okText md ops lt f rest listed = true) (hS : S w) (h : wpTxt P ops lt Q S none rest a w) : wpAnyH P md ops Q S f listed a w :=
 wpAnyH_of_Z f listed a w (okText_soundZ (z := none) md hs hQ rfl hNo f rest listed a w hc (fun _ => hS) h)

theorem wpTxt_only {lts : List Nat} : ∀ (l : List Nat) (a : Act) (w : World), wpTxt P ops (lts.contains ·) Q S z l a w → wpTxt P ops (lts.contains ·) (OnlyQ Q) S z l a w := by
 intro l
 induction l with
 | nil => intro a w h; exact h
 | cons i l ih =>
  intro a w h; unfold wpTxt at h ⊢
  split at h
  ·exact h
  ·split
   ·rename_i hw; rw [if_pos hw] at h
    split
    ·rename_i hl; rw [if_pos hl] at h; obtain ⟨v, hv, h⟩ := h; exact ⟨v, hv, ih _ _ h⟩
    ·rename_i hl; rw [if_neg hl] at h; exact Oper.wp_mono (fun a w h => ⟨h.1, ih _ _ h.2⟩) h
   ·rename_i hw; rw [if_neg hw] at h; exact ih _ _ h

theorem wp_region_txtZ {id : Nat} {a : Act} {w : World} (z : Option Nat) (lts : List Nat) (S : World → Prop) (hm : P.follows .mixedOrders = true) (hs : Region.noSelect ops = true) (hz : lastOk .any ops z = true)
  (hc : okTextZ z .any ops (lts.contains ·) ops.size (List.range ops.size) (Array.replicate ops.size false) = true) (hS : S w.drew)
  (h : wpTxt P ops (lts.contains ·) Q S z (List.range ops.size) a w.drew) : (Code.region id ops true).wp P Q a w := by
 refine Code.wp_mono OnlyQ.imp ?_; refine wp_region_any hm (wpAny_of_Z (S := S) (z := z) _ _ _ _ ?_); refine okText_soundZ (Q := OnlyQ Q) .any hs (fun c a w h => h) hz (fun e a w h => h.elim) ops.size _ _ _ _ hc (fun _ => hS) ?_; exact wpTxt_only _ _ _ h

end

section
variable {P : Program} {ops : Array Oper} {lt : Nat → Bool} {Q : Exit → Act → World → Prop} {S : World → Prop} {z : Option Nat}

def wpTxtL (P : Program) (ops : Array Oper) (lt : Nat → Bool) (Q : Exit → Act → World → Prop) (S : World → Prop) (z : Option Nat) : Nat → List Oper → Act → World → Prop
  | _, [], a, w => Q .normal a w
  | k, o :: rest, a, w =>
      if Region.wanted o (yielded ops a.tmps) then
        (if lt k then ∃ v, (∀ w', S w' → (execOp a.eval o).run P w' = .ok (.value v) w') ∧ wpTxtL P ops lt Q S z (k + 1) rest (a.put o.dst v) w
         else o.wp P a w (fun a' w' => (some k ≠ z → S w') ∧ wpTxtL P ops lt Q S z (k + 1) rest a' w') NoQ)
      else wpTxtL P ops lt Q S z (k + 1) rest (a.put o.dst undef) w

theorem wpTxtL_eq : ∀ (l : List Oper) (k : Nat), (∀ j, l[j]? = ops[k + j]?) → ∀ (a : Act) (w : World), wpTxtL P ops lt Q S z k l a w → wpTxt P ops lt Q S z (List.range' k l.length) a w := by
 intro l
 induction l with
 | nil => intro k _ a w h; exact h
 | cons o l ih =>
  intro k hk a w h; have h0 : ops[k]? = some o := by simpa using (hk 0).symm
  have ih' := ih (k + 1) (fun j => by have := hk (j + 1); simpa [Nat.add_assoc, Nat.add_comm 1 j] using this); simp only [List.length_cons, List.range'_succ]; unfold wpTxt; simp only [h0]; unfold wpTxtL at h
  split
  ·rename_i hw; rw [if_pos hw] at h
   split
   ·rename_i hl; rw [if_pos hl] at h; obtain ⟨v, hv, h⟩ := h; exact ⟨v, hv, ih' _ _ h⟩
   ·rename_i hl; rw [if_neg hl] at h; exact Oper.wp_mono (fun a w h => ⟨h.1, ih' _ _ h.2⟩) h
  ·rename_i hw; rw [if_neg hw] at h; exact ih' _ _ h

theorem txt_nil {k : Nat} {a : Act} {w : World} (h : Q .normal a w) : wpTxtL P ops lt Q S z k [] a w := h

theorem txt_light {k : Nat} {rest : List Oper} {a : Act} {w : World} {o : Oper} (v : Value) (hl : lt k = true) (hw : Region.wanted o (yielded ops a.tmps) = true)
  (hv : ∀ w', S w' → (execOp a.eval o).run P w' = .ok (.value v) w') (h : wpTxtL P ops lt Q S z (k + 1) rest (a.put o.dst v) w) : wpTxtL P ops lt Q S z k (o :: rest) a w := by
 unfold wpTxtL; simp only [hw, if_true, hl]; exact ⟨v, hv, h⟩

theorem txt_heavy {k : Nat} {rest : List Oper} {a : Act} {w : World} {o : Oper} (hl : lt k = false) (hw : Region.wanted o (yielded ops a.tmps) = true)
  (h : ∀ K : Act → World → Prop, Hid (∀ a w, S w → wpTxtL P ops lt Q S z (k + 1) rest a w → K a w) → o.wp P a w K NoQ) : wpTxtL P ops lt Q S z k (o :: rest) a w := by
 unfold wpTxtL; simp only [hw, if_true, hl, Bool.false_eq_true, if_false]; exact h _ (fun a w h1 h2 => ⟨fun _ => h1, h2⟩)

theorem txt_last {k : Nat} {rest : List Oper} {a : Act} {w : World} {o : Oper} (hl : lt k = false) (hk : some k = z) (hw : Region.wanted o (yielded ops a.tmps) = true)
  (h : ∀ K : Act → World → Prop, Hid (∀ a w, wpTxtL P ops lt Q S z (k + 1) rest a w → K a w) → o.wp P a w K NoQ) : wpTxtL P ops lt Q S z k (o :: rest) a w := by
 unfold wpTxtL; simp only [hw, if_true, hl, Bool.false_eq_true, if_false]; exact h _ (fun a w h2 => ⟨fun h => absurd hk h, h2⟩)

theorem run_callFunc {f : FuncId} {fn : Func} (args : Array Value) (w : World) (hfn : P.funcs[f]? = some fn) (hn : (fn.name == "runtime.NumGoroutine") = false) (hb : fn.body.isNone = false) : (callFunc f args).run P w = .ok (.enter f args) w := by
 have hn' : ¬ fn.name = "runtime.NumGoroutine" := by simpa using hn
 have hb' : ¬ fn.body = none := by
  intro h; rw [h] at hb; cases hb
 unfold callFunc; simp [hfn, hn', hb']

theorem txt_call {k : Nat} {rest : List Oper} {a : Act} {w : World} {dst : Option Tmp} {ty : TypeId} {pos : String} {after : Array Edge} {guard : Option (Nat × Bool)} {f : FuncId} {args : Array Operand} {ats : Array TypeId} (vs : List Value) (fn : Func) (hl : lt k = false)
  (hw : Region.wanted { dst := dst, op := .call { callee := .value (.func f), args := args, argTypes := ats }, type := ty, pos := pos, after := after, guard := guard } (yielded ops a.tmps) = true)
  (hfn : P.funcs[f]? = some fn) (hn : (fn.name == "runtime.NumGoroutine") = false) (hb : fn.body.isNone = false) (hvs : args.toList.map a.eval = vs)
  (h : Calls P f vs.toArray w fun e w' => ∃ v, e = .returned v ∧ S w' ∧ wpTxtL P ops lt Q S z (k + 1) rest (a.put dst v) w') :
  wpTxtL P ops lt Q S z k ({ dst := dst, op := .call { callee := .value (.func f), args := args, argTypes := ats }, type := ty, pos := pos, after := after, guard := guard } :: rest) a w := by
 refine txt_heavy hl hw (fun K hK => ?_); unfold Oper.wp; have e : #[] ++ args.map a.eval ++ #[] = vs.toArray := by
  rw [← hvs]; simp only [Array.empty_append, Array.append_empty]; apply Array.ext'; simp
 rw [execOp_call_go, run_callFunc _ _ hfn hn hb, e]; rw [Oper.upon_enter]; refine Calls.mono h ?_; rintro e w' ⟨v, rfl, hS, hn⟩; exact hK.out _ _ hS hn

theorem txt_copy {k : Nat} {rest : List Oper} {a : Act} {w : World} {o : Oper} (hl : lt k = false) (hgd : o.guard = none) (d s : Operand) (dT sT : TypeId)
  (ho : o.op = .call { callee := .builtin .copy, args := #[d, s], argTypes := #[dT, sT] }) (elem : TypeId) (hu : P.underlying dT = some (.slice elem)) (hsz : (P.info? elem).map (·.size) = some 1)
  (dp sp : Option Addr) (dLen dCap sLen sCap : Nat) (hd : a.eval d = .slice dp dLen dCap) (hs : a.eval s = .slice sp sLen sCap)
  (g off : Nat) (cur : List Value) (t : TypeId) (hg : w.heap[g]? = some (.cells cur.toArray t (0, 0))) (cs : List Value) (hn : cs.length = Nat.min sLen dLen)
  (hpos : 0 < cs.length → dp = some ⟨g, off, none⟩ ∧ ∃ ad, sp = some ad ∧ ∀ j v, cs[j]? = some v → w.cell? (ad.add j) = some v)
  (hfit : off + cs.length ≤ cur.length) (h1 : ∀ v ∈ cs, v.oneCell' = true) (B : Nat) (w0 : World) (hb : Below B w0 w) (hBg : B ≤ g)
  (h : ∀ w', Hid (w'.heap[g]? = some (.cells (splice cur off cs).toArray t (0, 0))) → Below B w0 w' → S w' ∧ wpTxtL P ops lt Q S z (k + 1) rest (a.put o.dst (goInt cs.length)) w') :
  wpTxtL P ops lt Q S z k (o :: rest) a w := by
 have hw : Region.wanted o (yielded ops a.tmps) = true := by simp [Region.wanted, hgd]
 refine txt_heavy hl hw (fun K hK => ?_); have := step_copy_splice (P := P) (ops := ops) (K := K) (Q := NoQ) (E := True) hgd d s dT sT ho elem hu hsz dp sp dLen dCap sLen sCap hd hs g off cur t hg cs hn hpos hfit h1 B w0 hb hBg (fun w' hg' hb' => hK.out _ _ (h w' hg' hb').1 (h w' hg' hb').2)
 rwa [if_pos hw] at this

theorem wp_region_lit_txtZ {id : Nat} {a : Act} {w : World} {l : List Oper} (z : Option Nat) (lts : List Nat) (S : World → Prop) (hm : P.follows .mixedOrders = true) (hs : Region.noSelect l.toArray = true) (hz : lastOk .any l.toArray z = true)
  (hc : okTextZ z .any l.toArray (lts.contains ·) l.length (List.range l.length) (Array.replicate l.length false) = true) (hS : S w.drew)
  (h : wpTxtL P l.toArray (lts.contains ·) Q S z 0 l a w.drew) : (Code.region id l.toArray true).wp P Q a w := by
 refine wp_region_txtZ z lts S hm hs hz (by simpa using hc) hS ?_; have := wpTxtL_eq (P := P) (ops := l.toArray) (lt := (lts.contains ·)) (Q := Q) (S := S) (z := z) l 0 (fun j => by simp) _ _ h; rw [← List.range_eq_range'] at this
 simpa using this

theorem wp_region_lit_txt {id : Nat} {a : Act} {w : World} {l : List Oper} (lts : List Nat) (S : World → Prop) (hm : P.follows .mixedOrders = true) (hs : Region.noSelect l.toArray = true)
  (hc : okText .any l.toArray (lts.contains ·) l.length (List.range l.length) (Array.replicate l.length false) = true) (hS : S w.drew)
  (h : wpTxtL P l.toArray (lts.contains ·) Q S none 0 l a w.drew) : (Code.region id l.toArray true).wp P Q a w :=
 wp_region_lit_txtZ none lts S hm hs rfl hc hS h
end
theorem splice_all {α : Type} (Z cs : List α) (h : Z.length = cs.length) : splice Z 0 cs = cs := by
 unfold splice; have hz : Z.drop (0 + cs.length) = [] := List.drop_of_length_le (by omega); rw [hz]; simp
attribute [irreducible] wpTxtL wpTxt
end Go
namespace Go.Proofs.YtjggoajfilnfjaaGreat
theorem Tryz.infoU8 : (Tryz.prog.info? 5).map (fun i => (i.zero, i.size, i.bytes)) = some (some (.int .u8 0), 1, 1) := by kernel_rfl
theorem Tryz.infoU64 : (Tryz.prog.info? 70).map (fun i => (i.zero, i.size, i.bytes)) = some (some (.int .u64 0), 1, 8) := by kernel_rfl
theorem Tryz.infoInt : (Tryz.prog.info? 3).map (fun i => (i.zero, i.size, i.bytes)) = some (some (.int .i64 0), 1, 8) := by kernel_rfl
end Go.Proofs.YtjggoajfilnfjaaGreat
