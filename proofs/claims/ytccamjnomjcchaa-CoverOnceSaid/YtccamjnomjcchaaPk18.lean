/-
  What Find holds while it looks (plain). A region that draws no order, inside a round: by its plain walk. append of a literal to a row of our own, inside a round; a set's put as an equation.
-/
import Derived.Test.YtccamjnomjcchaaPk6
import Derived.Test.YtccamjnomjcchaaPk7
import Derived.TacticsIn
import Derived.Scope
import Derived.ControlIn
import Derived.Test.YtccamjnomjcchaaPk5
import Derived.Test.YtccamjnomjcchaaPk12
import Derived.OwnWalkIn
import Derived.Test.YtccamjnomjcchaaPk4
/- What Find holds while it looks (plain). -/
set_option linter.unusedVariables false
set_option linter.unusedSimpArgs false
namespace Go
open Go.RowKit
theorem greatsF_nodup (bs : List Bx) : (greatsF bs).Nodup := by
  have main : ∀ n, (greatsF (bs.take n)).Nodup := by
    intro n
    induction n with
    | zero => simp [greatsF]
    | succ n ih =>
      by_cases hn : n < bs.length
      · rw [List.take_succ_eq_append_getElem hn, greatsF_snoc]
        split
        · refine (nodup_snoc _ _).2 ⟨ih, fun h => ?_⟩; obtain ⟨k, e, hk, -⟩ := (mem_greatsF _ _).1 h; omega
        · simpa using ih
      · rw [List.take_of_length_le (by omega)] at ih ⊢; exact ih
  have := main bs.length
  rwa [List.take_length] at this
theorem meets_at (b : Bx) (bs : List Bx) (k : Nat) (hk : k < bs.length) : MeetsAt b bs (k : Int) ↔ meetF b bs[k] = true := by
  unfold MeetsAt; constructor
  · rintro ⟨j, e, hj, hm⟩; obtain rfl : k = j := by omega
    exact hm
  · intro h; exact ⟨k, rfl, hk, h⟩
def FG (b : Bx) (bs : List Bx) (k : Nat) (O : List Int) : Prop := O.Nodup ∧ ∀ x, x ∈ O ↔ x ∈ (greatsF bs).take k ∧ MeetsAt b bs x
theorem FG.zero (b : Bx) (bs : List Bx) : FG b bs 0 [] := ⟨List.nodup_nil, by simp⟩
theorem FG.no {b : Bx} {bs : List Bx} {k : Nat} {O : List Int} (h : FG b bs k O) (hk : k < (greatsF bs).length) (hm : ¬ MeetsAt b bs (greatsF bs)[k]) : FG b bs (k + 1) O := by
  refine ⟨h.1, fun x => ?_⟩; rw [h.2, List.take_succ_eq_append_getElem hk, List.mem_append, List.mem_singleton]; constructor
  · rintro ⟨h1, h2⟩; exact ⟨.inl h1, h2⟩
  · rintro ⟨h1 | h1, h2⟩
    · exact ⟨h1, h2⟩
    · exact absurd (h1 ▸ h2) hm
theorem FG.yes {b : Bx} {bs : List Bx} {k : Nat} {O : List Int} (h : FG b bs k O) (hk : k < (greatsF bs).length) (hm : MeetsAt b bs (greatsF bs)[k]) : FG b bs (k + 1) (O ++ [(greatsF bs)[k]]) := by
  have hnd := greatsF_nodup bs; refine ⟨(nodup_snoc _ _).2 ⟨h.1, fun hx => ?_⟩, fun x => ?_⟩
  · have h1 := ((h.2 _).1 hx).1; have h2 : ((greatsF bs).take (k + 1)).Nodup := hnd.sublist (List.take_sublist _ _); rw [List.take_succ_eq_append_getElem hk] at h2; exact ((nodup_snoc _ _).1 h2).2 h1
  · rw [List.mem_append, h.2, List.take_succ_eq_append_getElem hk, List.mem_append, List.mem_singleton]; constructor
    · rintro (⟨h1, h2⟩ | h1)
      · exact ⟨.inl h1, h2⟩
      · exact ⟨.inr h1, h1 ▸ hm⟩
    · rintro ⟨h1 | h1, h2⟩
      · exact .inl ⟨h1, h2⟩
      · exact .inr h1
theorem FG.no' {b : Bx} {bs : List Bx} {k : Nat} {O : List Int} {x : Int} (h : FG b bs k O) (hk : (greatsF bs)[k]? = some x) (hm : ¬ MeetsAt b bs x) : FG b bs (k + 1) O := by
  obtain ⟨h1, rfl⟩ := List.getElem?_eq_some_iff.1 hk; exact h.no h1 hm
theorem FG.yes' {b : Bx} {bs : List Bx} {k : Nat} {O : List Int} {x : Int} (h : FG b bs k O) (hk : (greatsF bs)[k]? = some x) (hm : MeetsAt b bs x) : FG b bs (k + 1) (O ++ [x]) := by
  obtain ⟨h1, rfl⟩ := List.getElem?_eq_some_iff.1 hk; exact h.yes h1 hm
structure FI (b : Bx) (bs : List Bx) (S : Int → Prop) (O M : List Int) : Prop where
  nd : O.Nodup
  ok : ∀ i ∈ O, MeetsAt b bs i
  great : ∀ i ∈ greatsF bs, MeetsAt b bs i → i ∈ O
  how : ∀ i ∈ O, i ∈ greatsF bs ∨ i ∈ M
  seen : ∀ i, S i → MeetsAt b bs i → i ∈ O
  met : ∀ i ∈ M, i ∈ O
  len : M.length ≤ O.length
theorem FI.start {b : Bx} {bs : List Bx} {O : List Int} (h : FG b bs (greatsF bs).length O) : FI b bs (fun _ => False) O [] := by
  have h2 := h.2; simp only [List.take_length] at h2; exact ⟨h.1, fun i hi => ((h2 i).1 hi).2, fun i hi hm => (h2 i).2 ⟨hi, hm⟩, fun i hi => .inl ((h2 i).1 hi).1, fun i hi => hi.elim, by simp, by simp⟩
theorem FI.congr {b : Bx} {bs : List Bx} {S S' : Int → Prop} {O M : List Int} (h : FI b bs S O M) (e : ∀ x, S' x → S x) : FI b bs S' O M :=
  ⟨h.nd, h.ok, h.great, h.how, fun i hi => h.seen i (e i hi), h.met, h.len⟩
theorem FI.old {b : Bx} {bs : List Bx} {S : Int → Prop} {O M : List Int} (h : FI b bs S O M) (i : Int) (hi : i ∈ M) : FI b bs (fun x => S x ∨ x = i) O M :=
  ⟨h.nd, h.ok, h.great, h.how, fun x hx hm => hx.elim (fun k => h.seen x k hm) (fun e => e ▸ h.met i hi), h.met, h.len⟩
theorem FI.far {b : Bx} {bs : List Bx} {S : Int → Prop} {O M : List Int} (h : FI b bs S O M) (i : Int) (hi : ¬ MeetsAt b bs i) : FI b bs (fun x => S x ∨ x = i) O M :=
  ⟨h.nd, h.ok, h.great, h.how, fun x hx hm => hx.elim (fun k => h.seen x k hm) (fun e => absurd (e ▸ hm) hi), h.met, h.len⟩
theorem FI.put {b : Bx} {bs : List Bx} {S : Int → Prop} {O M : List Int} (h : FI b bs S O M) (i : Int) (h1 : i ∉ M) (h2 : i ∉ greatsF bs) (hm : MeetsAt b bs i) : FI b bs (fun x => S x ∨ x = i) (O ++ [i]) (M ++ [i]) := by
  refine ⟨(nodup_snoc _ _).2 ⟨h.nd, fun hx => (h.how i hx).elim h2 h1⟩, fun x hx => ?_, fun x hx hx2 => List.mem_append_left _ (h.great x hx hx2), fun x hx => ?_, fun x hx hx2 => ?_, fun x hx => ?_, by simp; exact h.len⟩
  · rcases List.mem_append.1 hx with k | k
    · exact h.ok x k
    · obtain rfl : x = i := by simpa using k
      exact hm
  · rcases List.mem_append.1 hx with k | k
    · exact (h.how x k).imp id (List.mem_append_left _)
    · exact .inr (List.mem_append_right _ k)
  · rcases hx with k | k
    · exact List.mem_append_left _ (h.seen x k hx2)
    · exact List.mem_append_right _ (by simp [k])
  · rcases List.mem_append.1 hx with k | k
    · exact List.mem_append_left _ (h.met x k)
    · exact List.mem_append_right _ k
theorem FI.length {b : Bx} {bs : List Bx} {S : Int → Prop} {O M : List Int} (h : FI b bs S O M) : O.length ≤ bs.length :=
  nodup_len _ _ h.nd (fun i hi => by obtain ⟨k, rfl, hk, -⟩ := h.ok i hi; omega)
theorem FI.done {b : Bx} {bs : List Bx} {S : Int → Prop} {O M : List Int} (h : FI b bs S O M) (hb : b.Ok) (hbs : ∀ x ∈ bs, x.Ok) (hS : ∀ f ∈ fieldsL b, ∀ i ∈ fieldG bs f, S i) (i : Int) : i ∈ O ↔ MeetsAt b bs i := by
  refine ⟨h.ok i, fun hm => ?_⟩; obtain ⟨k, rfl, hk, hmm⟩ := id hm
  cases hg : greatF bs[k] with
  | true => exact h.great _ ((mem_greatsF bs _).2 ⟨k, rfl, hk, hg⟩) hm
  | false =>
    obtain ⟨f, h1, h2⟩ := meet_field hb (hbs _ (List.getElem_mem hk)) hmm; exact h.seen _ (hS f h1 _ ((mem_fieldG bs f _).2 ⟨k, rfl, hk, hg, h2⟩)) hm
theorem field_small {bs : List Bx} {f : Int × Int} {i : Int} (h : i ∈ fieldG bs f) : i ∉ greatsF bs := by
  intro h2; obtain ⟨k, rfl, hk, h3, -⟩ := (mem_fieldG bs f i).1 h; obtain ⟨j, e, hj, h4⟩ := (mem_greatsF bs _).1 h2; obtain rfl : k = j := by omega
  rw [h3] at h4; cases h4
end Go
/- A region that draws no order, inside a round: by its plain walk. -/
set_option linter.unusedVariables false
set_option linter.unusedSimpArgs false
namespace Go
open Go.RowKit
theorem wpListIn_of {P : Program} {ops : Array Oper} {Q : Exit → Act → World → Prop} {l n : Nat} (hQ : ¬ LetsOut Q) : ∀ (L : List Oper) (a : Act) (w : World), (L.all fun o => match o.op with | .defer _ => false | _ => true) = true →
    wpList P ops Q L a w → wpListIn (Fence.wide.inRound l) n P ops Q L a w
  | [], a, w, _, h => h
  | o :: L, a, w, hd, h => by
    rw [List.all_cons, Bool.and_eq_true] at hd; unfold wpList at h; unfold wpListIn; have hdo : ∀ c, o.op ≠ .defer c := by
      intro c hc; have := hd.1; rw [hc] at this; simp at this
    split
    · rename_i hw; rw [if_pos hw] at h
      rcases h with h1 | ⟨_, h2⟩
      · exact oper_wpIn_round hdo (Oper.wp_mono (fun a w h => wpListIn_of hQ L a w hd.2 h) h1)
      · exact absurd h2 hQ
    · rename_i hw; rw [if_neg hw] at h; exact ⟨fun _ _ => trivial, wpListIn_of hQ L _ _ hd.2 h⟩
theorem wpIn_region_lit_plain {P : Program} {Q : Exit → Act → World → Prop} {l n id : Nat} {L : List Oper} {a : Act} {w : World} (hd : (L.all fun o => match o.op with | .defer _ => false | _ => true) = true)
    (h : wpList P L.toArray (OnlyQ Q) L a w) : (Code.region id L.toArray false).wpIn (Fence.wide.inRound l) n P Q a w :=
  wpIn_mono (wpIn_region_lit (wpListIn_of onlyQ_letsOut L a w hd h)) OnlyQ.imp
section
variable {P : Program} {b : Frame} {a : Act} {k : List Item} {cs : List Frame} {w : World} {Q : Exit → Act → World → Prop} {F : Fence} {n : Nat}
theorem stepR_scope' {c : Code} : step P (lone (b.atR a (.code (.scope c) :: k)) cs w) = .next (lone (b.atR a (.code c :: .inScope c :: k)) cs w) :=
  step_lone_go (by simp [stepG, stepG.exec, Frame.atR])
theorem stepR_inScope' {c : Code} : step P (lone (b.atR a (.inScope c :: k)) cs w) = .next (lone (b.atR a k) cs w) :=
  step_lone_go (by simp [stepG, stepG.exec, Frame.atR])
theorem wpIn_scope_straight {c : Code} (h : c.wpIn F n P (Exit.noGoto Q) a w) : (Code.scope c).wpIn F n P Q a w := by
  intro b k cs hro hb hr; have h0 : (lone (b.atR a (.code (.scope c) :: k)) cs w).fenced P F := fenced_calm hb hr rfl; obtain ⟨e, a₁, w₁, hq, harr⟩ := h b (.inScope c :: k) cs hro hb hr
  cases e with
  | normal => exact ⟨.normal, a₁, w₁, hq, .head h0 stepR_scope' (StepsIn.trans harr (.one (fenced_calm hb hr rfl) stepR_inScope'))⟩
  | exit id =>
    have hx : exitTo id (.inScope c :: k) = exitTo id k := by simp [exitTo]
    exact ⟨_, a₁, w₁, hq, fun k' hk => .head h0 stepR_scope' (harr.1 k' (by rw [hx]; exact hk)),
      fun hr' hk => let ⟨k₁, h1, h2⟩ := harr.2 hr' (by rw [hx]; exact hk); ⟨k₁, h1, .head h0 stepR_scope' h2⟩⟩
  | goto l => exact hq.elim
  | ret => exact ⟨_, a₁, w₁, hq, .of_steps (.one h0 stepR_scope') harr⟩
  | panic ch => exact ⟨_, a₁, w₁, hq, .of_steps (.one h0 stepR_scope') harr⟩
  | outgrown => exact ⟨_, a₁, w₁, hq, .of_steps (.one h0 stepR_scope') harr⟩
end
end Go
/- append of a literal to a row of our own, inside a round; a set's put as an equation. -/
set_option linter.unusedVariables false
set_option linter.unusedSimpArgs false
namespace Go
open Go.RowKit
open Go.Maps (Keyed IsMap Tidy)
theorem wpListIn_appL {F : Fence} {fn : Nat} {P : Program} {w : World} {ops : Array Oper} {rest : List Oper} {o : Oper} {a : Act} {Q : Exit → Act → World → Prop} (base : Nat) (hbase : base ≤ w.heap.size) (hgd : o.guard = none) (s x : Operand) (t : TypeId)
    (ho : o.op = .call { callee := .builtin .append, args := #[s, x], argTypes := #[t, t] })
    (e : TypeId) (z : Value) (size bytes : Nat) (ht : P.underlying t = some (.slice e)) (hinfo : (P.info? e).map (fun i => (i.zero, i.size, i.bytes)) = some (some z, size, bytes))
    (hzs : z.cells.size = size) (hsz : 0 < size) (hb1 : 0 < bytes)
    (v : Value) (n : Nat) (xs : List Value) (hs : a.eval s = v) (hown : w.ownsRow base e size v n xs)
    (m c B : Nat) (hB : w.heap.size = B) (vs : List Value) (te : TypeId) (hx : a.eval x = .slice (some ⟨B, 0, none⟩) m c) (hl : vs.length = m * size) (h1 : ∀ u ∈ vs, u.oneCell' = true)
    (hbytes : (n + m) * bytes ≤ 140737488355328)
    (h : ∀ v' w', w'.ownsRow base e size v' (n + m) (xs ++ vs) → w.grownBy w' v.ownBlock → wpListIn F fn P ops Q rest (a.put o.dst v') w') :
    wpListIn F fn P ops Q (o :: rest) a (w.alloc (.cells vs.toArray te)) := by
  subst hB; obtain ⟨i, hi, hz, hsize, hby⟩ := info_parts hinfo; have h63 : n + m ≤ maxLen := by
    have : (n + m) * 1 ≤ (n + m) * bytes := Nat.mul_le_mul_left _ hb1; unfold maxLen; omega
  have hw1 : w.grownBy (w.alloc (.cells vs.toArray te)) v.ownBlock := World.grownBy_alloc w _ _; exact wpListIn_append_own (w.alloc (.cells vs.toArray te)) hgd s x t ho base e i z size bytes ht hi hz hsize hby hzs hsz v n xs hs (hown.below (Below.new _ _)) ⟨w.heap.size, 0, none⟩ m c vs hx hl (Rd.new w vs te).add h1 h63 hbytes (by simp; omega) (fun v' w' h2 h3 _ => h v' w' h2 (hw1.trans h3))
section
variable {α : Type} [DecidableEq α] {P : Program} {K E T : TypeId} {key : α → Value} {b : Nat} {l : List α} {w : World}
omit [DecidableEq α] in
theorem VMap.nocells {f : α → Option Value} {m n : Nat} (h : VMap P K key w b f m n) : ∃ o, w.heap[b]? = some o ∧ o.isCells = false := by
  obtain ⟨D, ⟨es, clock, he, r⟩, hs, hk⟩ := h; exact ⟨_, he, rfl⟩
theorem VSet.put (h : VSet P K key w b l) (KK : Keyed P K) (inj : ∀ x y, key x = key y → x = y) (ht : P.underlying T = some (.map K E)) (hn : l.length < maxLen) (k : α) (hk : ∃ l, keyOf P K (key k) = some l) :
    ∃ w', (Instr.mapUpdate T (.map (some b)) (key k) (.bool true)).run P w = .ok () w' ∧ VSet P K key w' b (l ++ [k]) ∧ w.grownBy w' (some b) := by
  obtain ⟨m, h, hle, hiff⟩ := h; obtain ⟨w', hrun, h', hg⟩ := h.put (T := T) (E := E) KK inj ht hn hk (.bool true); refine ⟨w', hrun, ⟨if (setF l k).isSome then m else m + 1, ?_, ?_, ?_⟩, hg⟩
  · have := h'.congr (f' := setF (l ++ [k])) (setF_put l k); rw [List.length_append]; exact this
  · rw [List.length_append, List.length_singleton]; split <;> omega
  · rw [List.length_append, List.length_singleton, nodup_snoc, setF_isSome, ← hiff]
    by_cases hin : k ∈ l
    · simp only [hin, decide_true, if_true, not_true_eq_false, and_false, iff_false]; omega
    · simp only [hin, decide_false, Bool.false_eq_true, if_false, not_false_eq_true, and_true]; omega
end
end Go
