/-
  As XStage, with two rungs: lights that read S1 (all of H1 wait for them) and lights that read S2 (all of H2 wait for them). Told in another order: what CoverTurns looks at (plain). Valid and Near of few faces.
-/
import Derived.Test.YtkdibaphmkaaoaaPk3
import Derived.Test.YtkdibaphmkaaoaaPk28
import Derived.Test.YtkdibaphmkaaoaaPk27
/- As XStage, with two rungs: lights that read S1 (all of H1 wait for them) and lights that read S2 (all of H2 wait for them). -/
set_option linter.unusedVariables false
set_option linter.unusedSimpArgs false
namespace Go
open Go.RowKit
section
variable {P : Program} {ops : Array Oper} {Q : Exit → Act → World → Prop} {md : Region.Mode} {D : Nat → World → World → Prop} {lt : Nat → Bool}
/-- Whatever order is picked. -/
def wpAny2 (P : Program) (md : Region.Mode) (ops : Array Oper) (Q : Exit → Act → World → Prop) (D : Nat → World → World → Prop) : Nat → Array Bool → Act → World → Prop
  | 0, listed, a, w => Region.ready md ops listed = [] ∧ Q .normal a w
  | f + 1, listed, a, w => (Region.ready md ops listed = [] → Q .normal a w) ∧
    ∀ i ∈ Region.ready md ops listed, wpOp P ops Q i (fun a' w' => D i w w' ∧ wpAny2 P md ops Q D f (listed.setIfInBounds i true) a' w') a w

theorem wpAny_of_2 (f : Nat) : ∀ (listed : Array Bool) (a : Act) (w : World), wpAny2 P md ops Q D f listed a w → wpAny P md ops Q f listed a w := by
  induction f with
  | zero => intro _ _ _ h; exact h
  | succ f ih => intro listed a w h; exact ⟨h.1, fun i hi => wpOp_mono (fun a' w' h' => ih _ a' w' h'.2) (h.2 i hi)⟩

theorem wpAny2_done {listed : Array Bool} {a : Act} {w : World} (hr : Region.ready md ops listed = []) (h : Q .normal a w) : ∀ f, wpAny2 P md ops Q D f listed a w
  | 0 => ⟨hr, h⟩
  | _ + 1 => ⟨fun _ => h, by rw [hr]; simp⟩

theorem wpAny2_take {R : World → Prop} {i : Nat} {oi : Oper} {v : Value} (hR : ∀ j, waitsFor md ops j i = false → ∀ w w', R w → D j w w' → R w') (hi : ops[i]? = some oi) (hs : Region.noSelect ops = true) (hQ : ∀ c a w, Q (.panic c) (a.put oi.dst v) w → Q (.panic c) a w) (hRS : ∀ w', R w' → D i w' w') (f : Nat) :
    ∀ (listed : Array Bool) (a : Act) (w : World), Region.free md ops listed i = true → (Region.ready md ops listed).contains i = true → YieldsIf P ops R oi v a → R w →
      wpAny2 P md ops Q D f (listed.setIfInBounds i true) (a.put oi.dst v) w → wpAny2 P md ops Q D (f + 1) listed a w := by
  suffices HH : ∀ (listed : Array Bool) (a : Act) (w : World),
      (∀ j oj, ops[j]? = some oj → j ≠ i → listed.getD j true = false → (∀ e ∈ oj.after, Region.binds md e = true → e.on ≠ i) → oi.apart ops oj = true) →
      i ∈ Region.ready md ops listed → YieldsIf P ops R oi v a → R w →
      wpAny2 P md ops Q D f (listed.setIfInBounds i true) (a.put oi.dst v) w → wpAny2 P md ops Q D (f + 1) listed a w by
    intro listed a w hf hr hy hS h
    exact HH listed a w (Region.free_spec hi hf) (by simpa using hr) hy hS h
  have hsel := Region.noSelect_spec hs
  induction f with
  | zero =>
    intro listed a w hfree hr hy hS H1
    refine ⟨fun h => (by rw [h] at hr; cases hr), fun j hj => ?_⟩
    by_cases hji : j = i
    · subst hji; exact hy.wpOp hi hS ⟨hRS _ hS, H1⟩
    · have := ready_mono hj hji
      rw [H1.1] at this
      cases this
  | succ f ih =>
    intro listed a w hfree hr hy hS H1
    refine ⟨fun h => (by rw [h] at hr; cases hr), fun j hj => ?_⟩
    by_cases hji : j = i
    · subst hji; exact hy.wpOp hi hS ⟨hRS _ hS, H1⟩
    · have h1 := H1.2 j (ready_mono hj hji)
      obtain ⟨hjun, oj, hoj, hall⟩ := mem_ready.1 hj
      have hnot : ∀ e ∈ oj.after, Region.binds md e = true → e.on ≠ i := by
        intro e he hb heq
        have h1 := hall e he hb
        have h0 := (mem_ready.1 hr).1
        rw [heq] at h1
        rcases Nat.lt_or_ge i listed.size with h' | h'
        · simp [h'] at h0 h1; rw [h0] at h1; cases h1
        · simp [Array.getElem?_eq_none h'] at h1
      have hjw : waitsFor md ops j i = false := by
        cases hw : waitsFor md ops j i
        · rfl
        · unfold waitsFor at hw
          simp only [hoj] at hw
          obtain ⟨e, he, hb⟩ := Array.any_eq_true'.1 hw
          rw [Bool.and_eq_true] at hb
          exact absurd (by simpa using hb.2) (hnot e he hb.1)
      have h2 := wpOp_putIf hoj (hfree j oj hoj hji hjun hnot) (fun cs b => hsel i oi cs b hi) (fun cs b => hsel j oj cs b hoj) hQ hy h1
      have hri : i ∈ Region.ready md ops (listed.setIfInBounds j true) := ready_mono hr (Ne.symm hji)
      have hfree' : ∀ k ok, ops[k]? = some ok → k ≠ i → (listed.setIfInBounds j true).getD k true = false →
          (∀ e ∈ ok.after, Region.binds md e = true → e.on ≠ i) → oi.apart ops ok = true := by
        intro k ok hk hki hun hno
        refine hfree k ok hk hki ?_ hno
        by_cases hjk : j = k
        · subst hjk; exact hjun
        · rw [getD_set_ne true hjk] at hun; exact hun
      refine wpOp_mono (fun a' w' h3 => ?_) h2
      obtain ⟨h4, h5, h6⟩ := h3
      have hR' := hR j hjw _ w' hS h5
      refine ⟨h5, ih (listed.setIfInBounds j true) a' w' hfree' hri h4 hR' ?_⟩
      rw [Array.setIfInBounds_comm _ _ hji]
      exact h6

/-- Over each order of the heavy ones. -/
def wpStg2 (P : Program) (ops : Array Oper) (lt : Nat → Bool) (Q : Exit → Act → World → Prop) (D : Nat → World → World → Prop) : Nat → Array Bool → Act → World → Prop
  | 0, listed, a, w => Region.ready .any ops listed = [] ∧ Q .normal a w
  | f + 1, listed, a, w =>
    match (Region.ready .any ops listed).find? lt with
    | some j => Region.free .any ops listed j = true ∧ ∃ (o : Oper) (v : Value) (R : World → Prop), ops[j]? = some o ∧ YieldsIf P ops R o v a ∧ R w ∧ (∀ k, waitsFor .any ops k j = false → ∀ w w', R w → D k w w' → R w') ∧ (∀ w', R w' → D j w' w') ∧ wpStg2 P ops lt Q D f (listed.setIfInBounds j true) (a.put o.dst v) w
    | none => (Region.ready .any ops listed = [] → Q .normal a w) ∧
      ∀ i ∈ Region.ready .any ops listed, wpOp P ops Q i (fun a' w' => D i w w' ∧ wpStg2 P ops lt Q D f (listed.setIfInBounds i true) a' w') a w

theorem wpStg2_sound (hs : Region.noSelect ops = true) (hQ : ∀ c a w, ¬ Q (.panic c) a w) : ∀ (f : Nat) (listed : Array Bool) (a : Act) (w : World),
    wpStg2 P ops lt Q D f listed a w → wpAny2 P .any ops Q D f listed a w := by
  intro f
  induction f with
  | zero => intro listed a w h; exact wpAny2_done h.1 h.2 0
  | succ f ih =>
    intro listed a w h
    unfold wpStg2 at h
    cases hf : (Region.ready .any ops listed).find? lt with
    | some j =>
      rw [hf] at h
      simp only at h
      obtain ⟨h1, o, v, R, ho, hy, hR, hk, hRS, h2⟩ := h
      have hr : (Region.ready .any ops listed).contains j = true := by
        have := List.mem_of_find?_eq_some hf
        simpa using this
      exact wpAny2_take hk ho hs (fun c a w h => absurd h (hQ c _ w)) hRS f listed a w h1 hr hy hR (ih _ _ _ h2)
    | none =>
      rw [hf] at h
      simp only at h
      exact ⟨h.1, fun i hi => wpOp_mono (fun a' w' h' => ⟨h'.1, ih _ _ _ h'.2⟩) (h.2 i hi)⟩


def dem2 (S1 S2 I : World → Prop) (H1 H2 : List Nat) (i : Nat) (w w' : World) : Prop := I w' ∧ (H1.contains i = false → S1 w → S1 w') ∧ (H2.contains i = false → S2 w → S2 w')
end
section
variable {P : Program} {ops : Array Oper} {Q : Exit → Act → World → Prop} {S1 S2 I : World → Prop} {H1 H2 : List Nat} {lt : Nat → Bool}
theorem stg2_light1 {f : Nat} {listed : Array Bool} {a : Act} {w : World} (j : Nat) (o : Oper) (v : Value) (hr : (Region.ready .any ops listed).find? lt = some j) (hf : Region.free .any ops listed j = true) (hwt : (H1.all fun k => waitsFor .any ops k j) = true) (ho : ops[j]? = some o)
    (hw : Region.wanted o (yielded ops a.tmps) = true) (hv : ∀ w', S1 w' → I w' → (execOp a.eval o).run P w' = .ok (.value v) w') (hS : S1 w) (hI : I w) (h : wpStg2 P ops lt Q (dem2 S1 S2 I H1 H2) f (listed.setIfInBounds j true) (a.put o.dst v) w) : wpStg2 P ops lt Q (dem2 S1 S2 I H1 H2) (f + 1) listed a w := by
  unfold wpStg2
  rw [hr]
  refine ⟨hf, o, v, fun w => S1 w ∧ I w, ho, .inl ⟨hw, fun w' h => hv w' h.1 h.2⟩, ⟨hS, hI⟩, fun k hk w w' hw0 hS' => ⟨?_, hS'.1⟩, fun w' h => ⟨h.2, fun _ => id, fun _ => id⟩, h⟩
  cases hc : H1.contains k
  · exact hS'.2.1 hc hw0.1
  · have := List.all_eq_true.1 hwt k (by simpa using hc)
    rw [this] at hk; cases hk
theorem stg2_light2 {f : Nat} {listed : Array Bool} {a : Act} {w : World} (j : Nat) (o : Oper) (v : Value) (hr : (Region.ready .any ops listed).find? lt = some j) (hf : Region.free .any ops listed j = true) (hwt : (H2.all fun k => waitsFor .any ops k j) = true) (ho : ops[j]? = some o)
    (hw : Region.wanted o (yielded ops a.tmps) = true) (hv : ∀ w', S2 w' → I w' → (execOp a.eval o).run P w' = .ok (.value v) w') (hS : S2 w) (hI : I w) (h : wpStg2 P ops lt Q (dem2 S1 S2 I H1 H2) f (listed.setIfInBounds j true) (a.put o.dst v) w) : wpStg2 P ops lt Q (dem2 S1 S2 I H1 H2) (f + 1) listed a w := by
  unfold wpStg2
  rw [hr]
  refine ⟨hf, o, v, fun w => S2 w ∧ I w, ho, .inl ⟨hw, fun w' h => hv w' h.1 h.2⟩, ⟨hS, hI⟩, fun k hk w w' hw0 hS' => ⟨?_, hS'.1⟩, fun w' h => ⟨h.2, fun _ => id, fun _ => id⟩, h⟩
  cases hc : H2.contains k
  · exact hS'.2.2 hc hw0.1
  · have := List.all_eq_true.1 hwt k (by simpa using hc)
    rw [this] at hk; cases hk
theorem stg2_free {f : Nat} {listed : Array Bool} {a : Act} {w : World} (j : Nat) (o : Oper) (v : Value) (hr : (Region.ready .any ops listed).find? lt = some j) (hf : Region.free .any ops listed j = true) (ho : ops[j]? = some o)
    (hw : Region.wanted o (yielded ops a.tmps) = true) (hv : ∀ w', I w' → (execOp a.eval o).run P w' = .ok (.value v) w') (hI : I w) (h : wpStg2 P ops lt Q (dem2 S1 S2 I H1 H2) f (listed.setIfInBounds j true) (a.put o.dst v) w) : wpStg2 P ops lt Q (dem2 S1 S2 I H1 H2) (f + 1) listed a w := by
  unfold wpStg2
  rw [hr]
  exact ⟨hf, o, v, I, ho, .inl ⟨hw, hv⟩, hI, fun k _ w w' _ h => h.1, fun w' h => ⟨h, fun _ => id, fun _ => id⟩, h⟩
/-- One heavy one alone may come up. -/
theorem stg2_one {f : Nat} {listed : Array Bool} {a : Act} {w : World} (i : Nat) (o : Oper) (hr : Region.ready .any ops listed = [i]) (hl : lt i = false) (ho : ops[i]? = some o) (hw : Region.wanted o (yielded ops a.tmps) = true)
    (h : ∀ K : Act → World → Prop, Hid (∀ a' w', I w' → (H1.contains i = false → S1 w → S1 w') → (H2.contains i = false → S2 w → S2 w') → wpStg2 P ops lt Q (dem2 S1 S2 I H1 H2) f (listed.setIfInBounds i true) a' w' → K a' w') → o.wp P a w K Q) : wpStg2 P ops lt Q (dem2 S1 S2 I H1 H2) (f + 1) listed a w := by
  unfold wpStg2
  rw [hr]
  simp only [List.find?, hl]
  refine ⟨(fun h0 => by cases h0), fun k hk => ?_⟩
  obtain rfl : k = i := by simpa using hk
  unfold wpOp
  simp only [ho]
  rw [if_pos hw]
  exact .inl (h _ (fun a w h1 h2 h3 h4 => ⟨⟨h1, h2, h3⟩, h4⟩))
theorem stg2_end {listed : Array Bool} {a : Act} {w : World} (hr : Region.ready .any ops listed = []) (h : Q .normal a w) : wpStg2 P ops lt (OnlyQ Q) (dem2 S1 S2 I H1 H2) 0 listed a w := ⟨hr, h⟩
/-- THE LAW. -/
theorem wp_region_stage2 {id : Nat} {a : Act} {w : World} (n : Nat) (lts H1 H2 : List Nat) (S1 S2 I : World → Prop) (hn : ops.size = n) (hm : P.follows .mixedOrders = true) (hs : Region.noSelect ops = true)
    (h : wpStg2 P ops (lts.contains ·) (OnlyQ Q) (dem2 S1 S2 I H1 H2) n (Array.replicate n false) a w.drew) : (Code.region id ops true).wp P Q a w := by
  subst hn
  refine Code.wp_mono OnlyQ.imp ?_
  refine wp_region_any hm (wpAny_of_2 (D := dem2 S1 S2 I H1 H2) _ _ _ _ ?_)
  exact wpStg2_sound hs (fun c a w h => h) _ _ _ _ h
end
attribute [irreducible] wpStg2
end Go
/- Told in another order: what CoverTurns looks at (plain). -/
set_option linter.unusedVariables false
set_option linter.unusedSimpArgs false
namespace Go
open Go.RowKit
theorem u64_in (z : Int) : 0 ≤ IntKind.u64.wrap z ∧ IntKind.u64.wrap z ≤ 18446744073709551615 := by
  have h : IntKind.u64.wrap z = z % 18446744073709551616 := by simp [IntKind.wrap, IntKind.signed, IntKind.bits]
  rw [h]
  omega
theorem nodup_lenI : ∀ {l m : List Int}, l.Nodup → (∀ x ∈ l, x ∈ m) → l.length ≤ m.length
  | [], m, _, _ => by simp
  | x :: l, m, hn, hs => by
    have hn2 := List.nodup_cons.1 hn
    have h1 : ∀ y ∈ l, y ∈ m.erase x := fun y hy => by
      have hne : y ≠ x := fun e => hn2.1 (e ▸ hy)
      exact (List.mem_erase_of_ne hne).2 (hs y (List.mem_cons_of_mem _ hy))
    have h2 := nodup_lenI hn2.2 h1
    have h3 := List.length_erase_of_mem (hs x List.mem_cons_self)
    have h4 : 0 < m.length := List.length_pos_of_mem (hs x List.mem_cons_self)
    simp only [List.length_cons]
    omega
theorem rising_nodup {l : List Int} (h : l.Pairwise (· < ·)) : l.Nodup := h.imp fun hh => by omega
/-- A near face's number, turned back. -/
def sigN (k n : Nat) (x : Int) : Int := if 0 ≤ x then (x + k) % n else x
theorem sig_turn {k n f : Nat} (hk : k < n) (hf : f < n) : sigN k n ((turnN k (n - k) f : Nat) : Int) = f := by
  unfold sigN turnN
  rw [if_pos (by omega)]
  split
  · rw [show ((f + (n - k) : Nat) : Int) + k = (f : Int) + n by omega, Int.add_emod_right]
    exact Int.emod_eq_of_lt (by omega) (by omega)
  · rw [show ((f - k : Nat) : Int) + k = (f : Int) by omega]
    exact Int.emod_eq_of_lt (by omega) (by omega)
theorem turn_place {k n i : Nat} (hk : k < n) (hi : i < n) : (i + k) % n < n ∧ turnN k (n - k) ((i + k) % n) = i := by
  refine ⟨Nat.mod_lt _ (by omega), ?_⟩
  unfold turnN
  by_cases h : i + k < n
  · rw [Nat.mod_eq_of_lt h, if_neg (by omega)]; omega
  · have : (i + k) % n = i + k - n := by
      rw [Nat.mod_eq_sub_mod (by omega), Nat.mod_eq_of_lt (by omega)]
    rw [this, if_pos (by omega)]; omega
theorem turn_near {S S' : List Sd} {n k i : Nat} (hk : k < n) (hi : i < n) (hS : ∀ s ∈ S, s.f < n) (hp : S'.Perm (S.map (Sd.ren (turnN k (n - k))))) {A C : List Int} (hA : A.Pairwise (· < ·)) (hC : C.Pairwise (· < ·))
    (hAm : ∀ x, x ∈ A ↔ nearP S ((i + k) % n) x) (hCm : ∀ x, x ∈ C ↔ nearP S' i x) : C.length = A.length ∧ ∀ x ∈ C, sigN k n x ∈ A := by
  obtain ⟨ho, hpi⟩ := turn_place hk hi
  have hinj : ∀ f g, f < n → g < n → turnN k (n - k) f = turnN k (n - k) g → f = g := fun f g hf hg h => turn_inj k (n - k) (by omega) (by omega) h
  have hC2 : ∀ x, x ∈ C ↔ (x = -1 ∧ nearP S ((i + k) % n) (-1)) ∨ ∃ f, f < n ∧ x = (turnN k (n - k) f : Nat) ∧ nearP S ((i + k) % n) f := fun x => by
    rw [hCm, ← near_perm (turnN k (n - k)) hS hinj hp _ ho, hpi]
  have hmem : ∀ x ∈ C, sigN k n x ∈ A := fun x hx => by
    rcases (hC2 x).1 hx with ⟨rfl, h⟩ | ⟨f, hf, rfl, h⟩
    · exact (hAm _).2 h
    · rw [sig_turn hk hf]; exact (hAm _).2 h
  have hback : ∀ y ∈ A, ∃ x ∈ C, sigN k n x = y := fun y hy => by
    have h := (hAm y).1 hy
    obtain ⟨h1, h2⟩ := near_bd hS h
    by_cases e : y = -1
    · subst e; exact ⟨-1, (hC2 _).2 (.inl ⟨rfl, h⟩), rfl⟩
    · obtain ⟨f, rfl⟩ : ∃ f : Nat, y = f := ⟨y.toNat, by omega⟩
      exact ⟨_, (hC2 _).2 (.inr ⟨f, by omega, rfl, h⟩), sig_turn hk (by omega)⟩
  have hnd : (C.map (sigN k n)).Nodup := by
    have hcn := rising_nodup hC
    unfold List.Nodup at hcn ⊢
    rw [List.pairwise_map]
    refine hcn.imp_of_mem fun {x y} hx hy hne he => hne ?_
    rcases (hC2 x).1 hx with ⟨rfl, -⟩ | ⟨f, hf, rfl, -⟩ <;> rcases (hC2 y).1 hy with ⟨rfl, -⟩ | ⟨g, hg, rfl, -⟩
    · rfl
    · rw [sig_turn hk hg] at he
      have : sigN k n (-1) = -1 := rfl
      omega
    · rw [sig_turn hk hf] at he
      have : sigN k n (-1) = -1 := rfl
      omega
    · rw [sig_turn hk hf, sig_turn hk hg] at he
      have : f = g := by omega
      rw [this]
  refine ⟨?_, hmem⟩
  have l1 := nodup_lenI hnd (m := A) (fun y hy => by
    obtain ⟨x, hx, rfl⟩ := List.mem_map.1 hy
    exact hmem x hx)
  have l2 := nodup_lenI (rising_nodup hA) (m := C.map (sigN k n)) (fun y hy => by
    obtain ⟨x, hx, rfl⟩ := hback y hy
    exact List.mem_map.2 ⟨x, hx, rfl⟩)
  rw [List.length_map] at l1 l2
  omega
theorem range_rot {α : Type} [Inhabited α] (F : List α) (K : Nat) (hK : K < F.length) : (List.range F.length).map (fun j => F[(j + K) % F.length]!) = F.drop K ++ F.take K := by
  refine List.ext_getElem (by simp; omega) fun i h1 h2 => ?_
  simp only [List.length_map, List.length_range] at h1
  rw [List.getElem_map, List.getElem_range]
  by_cases h : i + K < F.length
  · rw [Nat.mod_eq_of_lt h, getElem!_pos F _ h, List.getElem_append_left (by simp; omega), List.getElem_drop]
    congr 1
    omega
  · have e : (i + K) % F.length = i + K - F.length := by
      rw [Nat.mod_eq_sub_mod (by omega), Nat.mod_eq_of_lt (by omega)]
    rw [e, getElem!_pos F _ (by omega), List.getElem_append_right (by simp; omega), List.getElem_take]
    congr 1
    simp
    omega
theorem All2.split {α β : Type} {R : α → β → Prop} : ∀ {l l' : List α} {m : List β}, All2 R (l ++ l') m → All2 R l (m.take l.length) ∧ All2 R l' (m.drop l.length)
  | [], l', m, h => ⟨trivial, h⟩
  | a :: l, l', b :: m, h => by
    obtain ⟨h1, h2⟩ := All2.split (l := l) h.2
    exact ⟨⟨h.1, h1⟩, h2⟩
  | _ :: _, _, [], h => h.elim
theorem All2.snoc {α β : Type} {R : α → β → Prop} {l : List α} {m : List β} {a : α} {b : β} (h : All2 R l m) (hab : R a b) : All2 R (l ++ [a]) (m ++ [b]) := All2.app h ⟨hab, trivial⟩
/-- Faces told in another order, with rings begun elsewhere. -/
theorem rot_all {F G : List (List (List Pt))} {K : Nat} (hK : K < F.length) (h : All2 RotF ((List.range F.length).map fun j => F[(j + K) % F.length]!) G) :
    validB G = validB F ∧ (allSd G).Perm ((allSd F).map (Sd.ren (turnN K (F.length - K)))) := by
  rw [range_rot F K hK] at h
  obtain ⟨hB, hA⟩ := All2.split h
  have hG : G = G.take (F.drop K).length ++ G.drop (F.drop K).length := (List.take_append_drop _ _).symm
  have hF : F = F.take K ++ F.drop K := (List.take_append_drop _ _).symm
  have h1 := turn_valid (A := F.take K) (B := F.drop K) hA hB
  have h2 := turn_sides (A := F.take K) (B := F.drop K) hA hB
  rw [← hG] at h1 h2
  rw [← hF] at h1 h2
  refine ⟨h1, ?_⟩
  have e1 : (F.take K).length = K := by rw [List.length_take]; omega
  have e2 : (F.drop K).length = F.length - K := by rw [List.length_drop]
  rw [e1, e2] at h2
  exact h2
theorem rot_len {r : List Pt} {s : Nat} : (rotR s r).length = r.length := by
  unfold rotR
  rw [List.length_append, List.length_drop, List.length_take]
  omega
theorem rot_mem {r : List Pt} {s : Nat} {p : Pt} (h : p ∈ rotR s r) : p ∈ r := by
  unfold rotR at h
  rcases List.mem_append.1 h with h | h
  · exact List.mem_of_mem_drop h
  · exact List.mem_of_mem_take h
theorem cntP_sides (F : List (List (List Pt))) : (allSd F).length = cntP F := by
  rw [← allEd_len, ← allEd_sd, List.length_map]
end Go
/- Valid and Near of few faces. -/
set_option linter.unusedVariables false
set_option linter.unusedSimpArgs false
set_option maxRecDepth 100000
namespace Go
open Go.RowKit
/-- A face that is not too great. -/
def FewF (f : Fc) : Prop := (f.rs.length ≤ 8 ∧ f.ls.length ≤ 10 ∧ ∀ r ∈ f.rs, r.l.length ≤ 40) ∧ ∀ r ∈ f.rs, ∀ x ∈ r.l, x.Wf
theorem cntR_80 {fs : List Fc} (h : ∀ f ∈ fs, FewF f) (hl : fs.length ≤ 10) : cntR (fs.map Fc.rings) ≤ 80 := by
  have hc : ∀ fs : List Fc, (∀ f ∈ fs, FewF f) → cntR (fs.map Fc.rings) ≤ fs.length * 8 := by
    intro fs
    induction fs with
    | nil => intro _; simp [cntR]
    | cons f fs ih =>
      intro hh
      have h1 := ih (fun g hg => hh g (List.mem_cons_of_mem _ hg))
      have h2 := (hh f List.mem_cons_self).1.1
      have h3 : f.rings.length = f.rs.length := by simp [Fc.rings]
      simp only [List.map_cons, cntR, List.length_cons, h3]
      omega
  have := hc fs h
  omega
end Go
namespace Go.Proofs.Ytkdibaphmkaaoaa
open Go.RowKit
theorem valid_fewF (a : Option Addr) (c : Nat) (fs : List Fc) (h10 : fs.length ≤ 10) (hF : ∀ f ∈ fs, FewF f) (hp : cntP (fs.map Fc.rings) ≤ 40) (w : World) (hr : Rd w a (fcs fs)) (hok : ∀ f ∈ fs, f.Ok w) :
    Calls Try.prog 12 #[.slice a fs.length c] w fun e w' => e = .returned (.int .i64 (validB (fs.map Fc.rings))) ∧ Below w.heap.size w w' := by
  have h80 := cntR_80 hF h10
  refine (valid_any a c fs (by omega) (by omega) (by rw [allEd_len]; omega) (by omega) (fun f hf r hr => by have := (hF f hf).1.2.2 r hr; omega) (fun f hf => by have := (hF f hf).1.1; omega) (fun f hf => (hF f hf).2) w hr hok).mono ?_
  rintro e w' ⟨⟨x, rfl, hx⟩, hb⟩
  rw [(validIs_iff _ _).1 hx]
  exact ⟨rfl, hb⟩
theorem near_fewF (a : Option Addr) (c : Nat) (fs : List Fc) (h10 : fs.length ≤ 10) (hF : ∀ f ∈ fs, FewF f) (hp : cntP (fs.map Fc.rings) ≤ 40) (w : World) (hr : Rd w a (fcs fs)) (hok : ∀ f ∈ fs, f.Ok w) :
    Calls Try.prog 20 #[.slice a fs.length c] w fun e w' => (∃ v, e = .returned v ∧ NearIs w' w.heap.size v fs.length (nearG (allSd (fs.map Fc.rings)) (allSd (fs.map Fc.rings)))) ∧ Below w.heap.size w w' := by
  refine near_any a c fs (by omega) (fun f hf => by have := (hF f hf).1.1; omega) (by rw [cntP_sides]; omega) (fun f hf r hr => by have := (hF f hf).1.2.2 r hr; omega) (fun s hs => ?_) (fun s hs => ?_) w hr hok
  · rw [← allEd_sd] at hs
    obtain ⟨e, he, rfl⟩ := List.mem_map.1 hs
    obtain ⟨f, hf, r, hrr, ha, hb, -⟩ := ed_in he
    obtain ⟨g, hg, rfl⟩ := List.mem_map.1 hf
    obtain ⟨q, hq, rfl⟩ := List.mem_map.1 hrr
    exact ⟨(hF g hg).2 q hq _ ha, (hF g hg).2 q hq _ hb⟩
  · rw [← allEd_sd] at hs
    obtain ⟨e, he, rfl⟩ := List.mem_map.1 hs
    obtain ⟨f, hf, r, hrr, ha, hb, hn, hm, hff⟩ := ed_in he
    rw [List.length_map] at hff
    exact hff
end Go.Proofs.Ytkdibaphmkaaoaa
