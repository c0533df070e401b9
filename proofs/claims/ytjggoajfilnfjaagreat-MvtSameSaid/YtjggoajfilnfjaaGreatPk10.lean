/-
  A region that draws its order, inside a round of a range over a function: walked once, in the text's order, by the laws outside rounds. ring.edges, ring.Area.
-/
import Derived.Test.YtjggoajfilnfjaaGreatPk3
import Derived.OrdersIn
import Derived.RangeFuncCalls
import Derived.CallsIn
import Derived.Test.YtjggoajfilnfjaaGreatPk9
import Derived.WalkSmall
/- A region that draws its order, inside a round of a range over a function: walked once, in the text's order, by the laws outside rounds. -/
set_option linter.unusedVariables false
set_option linter.unusedSimpArgs false
namespace Go
open Go.RowKit

def noDefer (ops : Array Oper) : Bool := ops.all fun o => match o.op with | .defer _ => false | _ => true

section
variable {P : Program} {ops : Array Oper} {lt : Nat → Bool} {Q : Exit → Act → World → Prop} {S : World → Prop} {l n : Nat}

theorem oper_wpIn_round {o : Oper} {a : Act} {w : World} {K : Act → World → Prop} (hd : ∀ c, o.op ≠ .defer c) (h : o.wp P a w K Q) : o.wpIn (Fence.wide.inRound l) n P a w K Q := by
  refine ⟨fun _ _ => trivial, ?_⟩; rw [Oper.semAt_eq _ _ _ hd]; unfold Oper.wp at h
  cases hr : (execOp a.eval o).run P w with
  | ok nx w' =>
    rw [hr] at h
    cases nx with
    | value v => exact h
    | skip => exact h
    | defer d => exact h
    | enter f args =>
      refine ⟨fun hh => (by cases hh), ?_⟩; exact CallsIn.inRound l (callsIn_wide.2 h)
    | row row args =>
      refine ⟨fun hh => (by cases hh), ?_⟩; intro c cs _; obtain ⟨v, w'', hR, hs⟩ := h c cs; exact ⟨v, w'', hR, stepsIn_wide.2 hs⟩
    | _ => exact (h : False).elim
  | halt hh w' =>
    rw [hr] at h
    cases hh with
    | panic v => exact h
    | _ => exact (h : False).elim

theorem wpAnyIn_of_any (hd : noDefer ops = true) (hQ : ¬ LetsOut Q) (md : Region.Mode) : ∀ (fuel : Nat) (listed : Array Bool) (a : Act) (w : World), wpAny P md ops Q fuel listed a w → wpAnyIn (Fence.wide.inRound l) n P md ops Q fuel listed a w := by
  intro fuel
  induction fuel with
  | zero => intro listed a w h; exact h
  | succ fuel ih =>
    intro listed a w h; refine ⟨h.1, fun i hi => ?_⟩; have := h.2 i hi; unfold wpOp at this; unfold wpOpIn
    cases ho : ops[i]? with
    | none => rw [ho] at this; exact ih _ _ _ this
    | some o =>
      rw [ho] at this; simp only at this ⊢; have hdo : ∀ c, o.op ≠ .defer c := by
        intro c hc; unfold noDefer at hd; rw [Array.all_eq_true] at hd; obtain ⟨hlt, he⟩ := Array.getElem?_eq_some_iff.1 ho; have := hd i hlt; rw [he, hc] at this; simp at this
      split
      · rename_i hw; rw [if_pos hw] at this
        rcases this with h1 | ⟨_, h2⟩
        · exact oper_wpIn_round hdo (Oper.wp_mono (fun a w h => ih _ _ _ h) h1)
        · exact absurd h2 hQ
      · rename_i hw; rw [if_neg hw] at this; exact ⟨fun _ _ => trivial, ih _ _ _ this⟩

theorem onlyQ_letsOut : ¬ LetsOut (OnlyQ Q) := fun ⟨_, _, h⟩ => h

theorem wpIn_region_txt {id : Nat} {a : Act} {w : World} (lts : List Nat) (S : World → Prop) (hm : P.follows .mixedOrders = true) (hs : Region.noSelect ops = true) (hd : noDefer ops = true)
    (hc : okText .any ops (lts.contains ·) ops.size (List.range ops.size) (Array.replicate ops.size false) = true) (hS : S w.drew)
    (h : wpTxt P ops (lts.contains ·) Q S none (List.range ops.size) a w.drew) : (Code.region id ops true).wpIn (Fence.wide.inRound l) n P Q a w := by
  refine wpIn_mono ?_ OnlyQ.imp; refine wpIn_region_any hm ?_; refine wpAnyIn_of_any hd onlyQ_letsOut .any _ _ _ _ ?_; refine wpAny_of_held (S := S) _ _ _ _ ?_; refine okText_sound (Q := OnlyQ Q) .any hs (fun c a w h => h) (fun e a w h => h.elim) ops.size _ _ _ _ hc hS ?_; exact wpTxt_only _ _ _ h

theorem wpIn_region_lit_txt {id : Nat} {a : Act} {w : World} {L : List Oper} (lts : List Nat) (S : World → Prop) (hm : P.follows .mixedOrders = true) (hs : Region.noSelect L.toArray = true) (hd : noDefer L.toArray = true)
    (hc : okText .any L.toArray (lts.contains ·) L.length (List.range L.length) (Array.replicate L.length false) = true) (hS : S w.drew)
    (h : wpTxtL P L.toArray (lts.contains ·) Q S none 0 L a w.drew) : (Code.region id L.toArray true).wpIn (Fence.wide.inRound l) n P Q a w := by
  refine wpIn_region_txt lts S hm hs hd (by simpa using hc) hS ?_; have := wpTxtL_eq (P := P) (ops := L.toArray) (lt := (lts.contains ·)) (Q := Q) (S := S) L 0 (fun j => by simp) _ _ h; rw [← List.range_eq_range'] at this
  simpa using this

theorem oper_noQ {o : Oper} {a : Act} {w : World} {K : Act → World → Prop} (h : o.wp P a w K NoQ) : o.wp P a w K Q := by
  unfold Oper.wp at h ⊢; generalize (execOp a.eval o).run P w = r at *
  cases r with
  | ok n w' =>
    cases n <;> simp only [Oper.upon] at h ⊢ <;> first
      | exact h
      | exact Calls.mono h (fun e w'' he => by
          cases e with
          | returned v => exact he
          | panicked c => exact (he : False).elim
          | outgrown => obtain ⟨_, _, h⟩ := he; exact (h : False).elim)
  | halt x w' => cases x <;> simp only [Oper.upon, NoQ] at h

theorem wp_callgo {a : Act} {w : World} {K : Act → World → Prop} {dst : Option Tmp} {ty : TypeId} {pos : String} {after : Array Edge} {guard : Option (Nat × Bool)} {f : FuncId} {args : Array Operand} {ats : Array TypeId} (vs : List Value) (fn : Func)
    (hfn : P.funcs[f]? = some fn) (hn : (fn.name == "runtime.NumGoroutine") = false) (hb : fn.body.isNone = false) (hvs : args.toList.map a.eval = vs)
    (h : Calls P f vs.toArray w fun e w' => ∃ v, e = .returned v ∧ K (a.put dst v) w') :
    Oper.wp P { dst := dst, op := .call { callee := .value (.func f), args := args, argTypes := ats }, type := ty, pos := pos, after := after, guard := guard } a w K NoQ := by
  unfold Oper.wp; have e : #[] ++ args.map a.eval ++ #[] = vs.toArray := by
    rw [← hvs]; simp only [Array.empty_append, Array.append_empty]; apply Array.ext'; simp
  rw [execOp_call_go, run_callFunc _ _ hfn hn hb, e]; rw [Oper.upon_enter]; refine Calls.mono h ?_; rintro e w' ⟨v, rfl, hK⟩; exact hK

/-! Two operations that may come up in either order (`s += f(v)`: the load of s and the call), the light ones of a prefix taken first. -/
def okPre (md : Region.Mode) (ops : Array Oper) : List Nat → Array Bool → Bool
  | [], _ => true
  | i :: r, listed => Region.free md ops listed i && (Region.ready md ops listed).contains i && okPre md ops r (listed.setIfInBounds i true)

def wpPre (P : Program) (ops : Array Oper) (S : World → Prop) : List Nat → Act → (Act → Prop) → Prop
  | [], a, K => K a
  | i :: r, a, K => ∃ o v, ops[i]? = some o ∧ Region.wanted o (yielded ops a.tmps) = true ∧ (∀ w', S w' → (execOp a.eval o).run P w' = .ok (.value v) w') ∧ wpPre P ops S r (a.put o.dst v) K

theorem wpPre_nil {a : Act} {K : Act → Prop} (h : K a) : wpPre P ops S [] a K := h
theorem wpPre_cons {i : Nat} {r : List Nat} {a : Act} {K : Act → Prop} {o : Oper} (v : Value) (ho : ops[i]? = some o) (hw : Region.wanted o (yielded ops a.tmps) = true)
    (hv : ∀ w', S w' → (execOp a.eval o).run P w' = .ok (.value v) w') (h : wpPre P ops S r (a.put o.dst v) K) : wpPre P ops S (i :: r) a K := ⟨o, v, ho, hw, hv, h⟩

theorem wpAnyH_pre {md : Region.Mode} (hs : Region.noSelect ops = true) (hQ : ∀ c a w, ¬ Q (.panic c) a w) : ∀ (pre : List Nat) (fuel : Nat) (listed : Array Bool) (a : Act) (w : World), okPre md ops pre listed = true → S w →
    wpPre P ops S pre a (fun a' => wpAnyH P md ops Q S fuel (pre.foldl (fun l i => l.setIfInBounds i true) listed) a' w) → wpAnyH P md ops Q S (fuel + pre.length) listed a w := by
  intro pre
  induction pre with
  | nil => intro fuel listed a w _ _ h; exact h
  | cons i r ih =>
    intro fuel listed a w hc hS h; obtain ⟨o, v, ho, hw, hv, h⟩ := h; simp only [okPre, Bool.and_eq_true] at hc; rw [List.length_cons, ← Nat.add_assoc]; exact wpAnyH_take ho hs hc.1.1 hc.1.2 (fun c a w h => absurd h (hQ c _ w)) (.inl ⟨hw, hv⟩) hS (ih _ _ _ _ hc.2 hS h)

theorem wpIn_region_two {id : Nat} {a : Act} {w : World} (lts pre : List Nat) (x y : Nat) (A B : List Nat) (f : Nat) (S : World → Prop) (ox oy : Oper) (hm : P.follows .mixedOrders = true) (hs : Region.noSelect ops = true) (hd : noDefer ops = true)
    (hsz : ops.size = f + 1 + pre.length) (hp : okPre .any ops pre (Array.replicate ops.size false) = true) (hx : ops[x]? = some ox) (hy : ops[y]? = some oy)
    (hr : Region.ready .any ops (pre.foldl (fun l i => l.setIfInBounds i true) (Array.replicate ops.size false)) = [x, y])
    (hA : okText .any ops (lts.contains ·) f A ((pre.foldl (fun l i => l.setIfInBounds i true) (Array.replicate ops.size false)).setIfInBounds x true) = true)
    (hB : okText .any ops (lts.contains ·) f B ((pre.foldl (fun l i => l.setIfInBounds i true) (Array.replicate ops.size false)).setIfInBounds y true) = true)
    (hS : S w.drew)
    (h : wpPre P ops S pre a (fun a' => (Region.wanted ox (yielded ops a'.tmps) = true ∧ ∀ K : Act → World → Prop, Hid (∀ a'' w'', S w'' → wpTxt P ops (lts.contains ·) Q S none A a'' w'' → K a'' w'') → ox.wp P a' w.drew K NoQ) ∧
      (Region.wanted oy (yielded ops a'.tmps) = true ∧ ∀ K : Act → World → Prop, Hid (∀ a'' w'', S w'' → wpTxt P ops (lts.contains ·) Q S none B a'' w'' → K a'' w'') → oy.wp P a' w.drew K NoQ))) :
    (Code.region id ops true).wpIn (Fence.wide.inRound l) n P Q a w := by
  refine wpIn_mono ?_ OnlyQ.imp; refine wpIn_region_any hm ?_; refine wpAnyIn_of_any hd onlyQ_letsOut .any _ _ _ _ ?_; refine wpAny_of_held (S := S) _ _ _ _ ?_; rw [hsz]; refine wpAnyH_pre (w := w.drew) hs (fun c a w h => h) pre (f + 1) _ a (by rw [← hsz]; exact hp) hS ?_; rw [← hsz]; have key : ∀ (pre : List Nat) (a : Act) (K K' : Act → Prop), (∀ a, K a → K' a) → wpPre P ops S pre a K → wpPre P ops S pre a K' := by
    intro pre
    induction pre with
    | nil => intro a K K' hk h; exact hk a h
    | cons i r ih =>
      intro a K K' hk h; obtain ⟨o, v, h1, h2, h3, h4⟩ := h; exact ⟨o, v, h1, h2, h3, ih _ _ _ hk h4⟩
  refine key pre a _ _ (fun a' h => ?_) h; obtain ⟨⟨wx, kx0⟩, wy, ky0⟩ := h; have kx := kx0 (fun a'' w'' => S w'' ∧ wpTxt P ops (lts.contains ·) Q S none A a'' w'') (Lib.hid fun a w h1 h2 => ⟨h1, h2⟩); have ky := ky0 (fun a'' w'' => S w'' ∧ wpTxt P ops (lts.contains ·) Q S none B a'' w'') (Lib.hid fun a w h1 h2 => ⟨h1, h2⟩); refine wpAnyH_all hr (by simp) ?_; intro i hi; simp only [List.mem_cons, List.not_mem_nil, or_false] at hi; have hno : ∀ e a w, NoQ e a w → OnlyQ Q e a w := fun e a w h => h.elim
  rcases hi with rfl | rfl
  · unfold wpOp; rw [hx]; simp only; rw [if_pos wx]
    left
    refine oper_noQ ?_; exact Oper.wp_mono (fun a w h => ⟨h.1, okText_sound (Q := OnlyQ Q) .any hs (fun c a w h => h) hno f A _ _ _ hA h.1 (wpTxt_only _ _ _ h.2)⟩) kx
  · unfold wpOp; rw [hy]; simp only; rw [if_pos wy]
    left
    refine oper_noQ ?_; exact Oper.wp_mono (fun a w h => ⟨h.1, okText_sound (Q := OnlyQ Q) .any hs (fun c a w h => h) hno f B _ _ _ hB h.1 (wpTxt_only _ _ _ h.2)⟩) ky
end
end Go
/- ring.edges, ring.Area. -/
set_option linter.unusedVariables false
set_option linter.unusedSimpArgs false
namespace Go
def fan (l : List Pt) : List (Pt × Pt) → Int
  | [] => 0
  | e :: r => crs l[0]! e.1 e.2 + fan l r
theorem fan_snoc (l : List Pt) (r : List (Pt × Pt)) (e : Pt × Pt) : fan l (r ++ [e]) = fan l r + crs l[0]! e.1 e.2 := by
  induction r with
  | nil => simp [fan]
  | cons x r ih => simp only [List.cons_append, fan, ih]; omega
def areaF (l : List Pt) : Int := if l.length < 3 ∨ l.all okPt = false then 0 else fan l (edges l)

theorem fan_bd (l : List Pt) (h : l.all okPt = true) (h0 : 0 < l.length) (r : List (Pt × Pt)) (hr : ∀ e ∈ r, okPt e.1 = true ∧ okPt e.2 = true) : -(2251799813685248 * r.length) ≤ fan l r ∧ fan l r ≤ 2251799813685248 * r.length := by
  induction r with
  | nil => simp [fan]
  | cons e r ih =>
    have h1 := crs_bd l[0]! e.1 e.2 (ok_get l h 0 h0) (hr e (by simp)).1 (hr e (by simp)).2; have h2 := ih (fun x hx => hr x (by simp [hx])); simp only [fan, List.length_cons]; omega
theorem edges_ok (l : List Pt) (h : l.all okPt = true) : ∀ e ∈ edges l, okPt e.1 = true ∧ okPt e.2 = true := by
  intro e he; unfold edges at he; obtain ⟨i, hi, rfl⟩ := List.mem_map.1 he; have hi := List.mem_range.1 hi; exact ⟨ok_get l h i hi, ok_get l h _ (Nat.mod_lt _ (by omega))⟩
end Go
namespace Go.Proofs.YtjggoajfilnfjaaGreat
open Go.RowKit
attribute [local go_sem] Oper.semAt_some

set_option maxHeartbeats 1000000 in
theorem edges_in (n : Nat) (a : Option Addr) (m c : Nat) (w : World) :
    CallsIn Fence.wide n Tryz.prog 121 #[.slice a m c] w fun e w' => e = .returned (.func (.func 128) #[] #[.pointer (some ⟨w.heap.size, 0, none⟩)]) ∧ w' = w.alloc (.cells #[.slice a m c] 80) := by
  refine callsIn_of_wp Tryz.func121 rfl trivial ?_ rfl; simp only [Tryz.ntmps121, List.size_toArray, List.length_cons, List.length_nil, Nat.reduceAdd, Nat.reduceSub, Array.replicate_succ, Array.replicate_zero, List.push_toArray, List.append_toArray, List.nil_append, List.cons_append]
  gi_wp2
  go_ret; exact ⟨rfl, rfl⟩

theorem edges_ahead (n : Nat) (Bn : Nat) (a : Option Addr) (c : Nat) (L : List Pt) (hlen : L.length ≤ 1000000) (w : World) (hr : Rd w a (pts L))
    (W0 : World) (hB0 : Below w.heap.size w W0) (fr : Nat × Nat) (hBn : W0.heap[Bn]? = some (.cells #[.slice a L.length c] 80 fr)) :
    SeqAhead Fence.wide n Tryz.prog 128 #[.pointer (some ⟨Bn, 0, none⟩)] (fun x : Pt × Pt => #[x.1.val, x.2.val]) (fun pre x _ => pre.length < L.length ∧ x = (L[pre.length]!, L[(pre.length + 1) % L.length]!)) (KpP w.heap.size) (fun xs _ => xs = edges L) W0 := by
  intro l J W hb0 hJ hY h0; exact edges1_in n l Bn a c L hlen w hr J W (hB0.trans (hb0.mono hB0.size)) hJ fr ((hb0.block Bn (Array.getElem?_eq_some_iff.1 hBn).1).trans hBn) hY h0

set_option maxRecDepth 100000 in
set_option maxHeartbeats 1000000 in
theorem rarea_any (a : Option Addr) (c : Nat) (L : List Pt) (hlen : L.length ≤ 1000) (w : World) (hr : Rd w a (pts L)) :
    Calls Tryz.prog 105 #[.slice a L.length c] w fun e w' => e = .returned (.int .i64 (areaF L)) ∧ Below w.heap.size w w' := by
  refine (callsIn_wide (n := 5)).1 ?_; refine callsIn_of_wp_marks Tryz.func105 rfl trivial ?_ rfl; simp only [Tryz.ntmps105, List.size_toArray, List.length_cons, List.length_nil, Nat.reduceAdd, Nat.reduceSub, Array.replicate_succ, Array.replicate_zero, List.push_toArray, List.append_toArray, List.nil_append, List.cons_append]; have hri := fun W h => xright_any a c L (by unfold maxLen; omega) W h; have HRI := Lib.hid hri; clear hri
  by_cases h3 : L.length < 3
  · have h3' : (L.length : Int) < 3 := by omega
    have hz : Hid (areaF L = 0) := Lib.hid (by unfold areaF; rw [if_pos (.inl h3)])
    gi_wp2
    refine ⟨trivial, ?_⟩
    gi_wp2
    exact ⟨.int .i64 0, by simp [results, Tryz.results105, go_sem], ret_int hz.out.symm, Below.new _ _⟩
  · have h3' : ¬ (L.length : Int) < 3 := by omega
    gi_wp2_with fail
    refine ⟨trivial, (callsIn_wide.2 (HRI.out _ (hr.alloc _))).mono ?_⟩; rintro e w1 ⟨rfl, hb1⟩; clear HRI
    by_cases hok : L.all okPt = true
    · have hok' : (L.all okPt) = true := hok; rw [hok]; have HOK := Lib.hid hok; have hA : Hid (areaF L = fan L (edges L)) := Lib.hid (by unfold areaF; rw [if_neg (by rw [hok]; simp; omega)]); have bL0 := (Boxed.new w 80 (.slice a L.length c)); have bL1 : Boxed w1 w.heap.size 80 (.slice a L.length c) := (hb1.block _ bL0.lt).trans bL0; have hbl1 : Below w.heap.size w w1 := (Below.new w _).trans (hb1.mono (by simp)); have hs1 := hbl1.size; have hlt1 := bL1.lt; have cL := bL1.cell; have hneH : ¬ w.heap.size = w1.heap.size := by omega
      clear hok hok' hb1 bL0
      gi_wp2_with (first | (refine ⟨trivial, ?_⟩; gi_at_call 121; refine (edges_in _ _ _ _ _).mono ?_; rintro e w' ⟨rfl, rfl⟩) | (gi_at_call 121; refine (edges_in _ _ _ _ _).mono ?_; rintro e w' ⟨rfl, rfl⟩))
      have bS := (Boxed.new w1 3 (.int .i64 0)).alloc (.cells #[.slice a L.length c] 80); have bN := Boxed.new (w1.alloc (.cells #[.int .i64 0] 3)) 80 (.slice a L.length c); have bL2 := (bL1.alloc (.cells #[.int .i64 0] 3)).alloc (.cells #[.slice a L.length c] 80); simp only [World.size_alloc] at bN; have hB0 : Below w.heap.size w ((w1.alloc (.cells #[.int .i64 0] 3)).alloc (.cells #[.slice a L.length c] 80)) := (hbl1.alloc hs1 _).alloc (by simp; omega) _; have hsz : ((w1.alloc (.cells #[.int .i64 0] 3)).alloc (.cells #[.slice a L.length c] 80)).heap.size = w1.heap.size + 2 := by simp
      obtain ⟨W0, hW0⟩ : ∃ W0, ((w1.alloc (.cells #[.int .i64 0] 3)).alloc (.cells #[.slice a L.length c] 80)) = W0 := ⟨_, rfl⟩; rw [hW0] at bS bN bL2 hB0 hsz ⊢; clear hW0 bL1 cL; refine wpIn_rangeFunc_ahead rfl (by decide) (gf := 128) (lb := #[.pointer (some ⟨w1.heap.size + 1, 0, none⟩)]) rfl trivial (enters_of Tryz.func128 (by kernel_rfl) rfl)
        (edges_ahead (5 - 1) (w1.heap.size + 1) a c L (by omega) w hr W0 hB0 (0, 0) bN) (fun h k => ⟨h.1.trans k.1, h.2.trans k.2⟩)
        (fun W l o o' hl h1 h2 => ⟨(Below.refl _ W).grown (grownBy_putObj' W l o') (by have := (Array.getElem?_eq_some_iff.1 h1).1; omega) (fun k e => by cases e; omega), KeepT.putObj W l o o' h1 h2⟩) (Below.refl _ _) (fun _ => rfl)
        (fun (pre : List (Pt × Pt)) W => ((Boxed W w1.heap.size 3 (.int .i64 (fan L pre)) ∧ Boxed W w.heap.size 80 (.slice a L.length c)) ∧ pre = (edges L).take pre.length) ∧ Below w.heap.size w W)
        (OwnFrom.and (OwnFrom.and (OwnFrom.and (Own.from (boxed_own _ _ (fun (pre : List (Pt × Pt)) => Value.int .i64 (fan L pre))) _) (Own.from (boxed_own _ _ _) _)) (ownFrom_pure _ _)) (ownFrom_below (Nat.le_refl _) (by omega)))
        (ownFrom_pure _ _)
        ⟨⟨⟨bS, bL2⟩, rfl⟩, hB0⟩
        (fun (pre : List (Pt × Pt)) (x : Pt × Pt) a' W => (((Boxed W w1.heap.size 3 (.int .i64 (fan L pre)) ∧ Boxed W w.heap.size 80 (.slice a L.length c)) ∧ pre = (edges L).take pre.length) ∧ Below w.heap.size w W) ∧ (pre.length < L.length ∧ x = (L[pre.length]!, L[(pre.length + 1) % L.length]!)) ∧
          ∃ Ba Bb, w1.heap.size < Ba ∧ w1.heap.size < Bb ∧ Blk W Ba x.1.cells ∧ Blk W Bb x.2.cells ∧ a' = { tmps := #[.slice a L.length c, .pointer (some ⟨w.heap.size, 0, none⟩), .int .i64 0, .pointer (some ⟨w1.heap.size, 0, none⟩), .pointer (some ⟨Ba, 0, none⟩), .pointer (some ⟨Bb, 0, none⟩), .slice a L.length c, .int .i64 (L.length : Nat), .bool false, .bool false, .slice a L.length c, .bool true, .bool false, .bool false, .slice a L.length c, .func (.func 128) #[] #[.pointer (some ⟨w1.heap.size + 1, 0, none⟩)], x.1.val, x.2.val, undef, undef, undef, undef, undef, undef, undef, undef, undef], defers := [] })
        ?hM ?assign ?body ?done
      case hM =>
        rintro pre x a' _ X Y row ⟨⟨⟨⟨hE, hL2⟩, hpre⟩, hbw⟩, hx, Ba, Bb, ha, hb, bA, bB, rfl⟩ hg hrow; have hr' : ∀ r, row = some r → ∃ o : Obj, X.heap[r]? = some o ∧ o.isCells = false := fun r e => (hrow r e).2; have hne : ∀ (B : Nat) vs, Blk X B vs → some B ≠ row := by
          intro B vs ⟨T, hT⟩ e; obtain ⟨o, ho, hc⟩ := hr' B e.symm; rw [hT] at ho
          cases ho
          cases hc
        exact ⟨⟨⟨⟨boxed_own _ _ (fun (_ : Unit) => _) () X Y row hE hg hr', boxed_own _ _ (fun (_ : Unit) => _) () X Y row hL2 hg hr'⟩, hpre⟩, hbw.grown hg (by have := hbw.size; omega) (fun k e => by have := (hrow k e).1; omega)⟩, hx, Ba, Bb, ha, hb, bA.grown hg (hne _ _ bA), bB.grown hg (hne _ _ bB), rfl⟩
      case assign =>
        rintro l pre ⟨⟨x1, y1⟩, ⟨x2, y2⟩⟩ W ⟨⟨⟨hE, hL2⟩, hpre⟩, hbw⟩ hx; dsimp only [Pt.val]; have HPRE := Lib.hid hpre; clear hpre
        gi_wp2
        have hb2 : Below W.heap.size W ((W.alloc (.cells #[.int .i64 x1, .int .i64 y1] 79)).alloc (.cells #[.int .i64 x2, .int .i64 y2] 79)) := (Below.new W _).alloc (by simp) _; exact ⟨(KeepsOthers.alloc _ _).trans (KeepsOthers.alloc _ _), ⟨hb2.mono hbw.size, KeepT.of_below hb2⟩, ⟨⟨⟨(hE.alloc _).alloc _, (hL2.alloc _).alloc _⟩, HPRE.out⟩, hbw.trans (hb2.mono hbw.size)⟩, hx, W.heap.size, W.heap.size + 1, hE.lt, by have := hE.lt; omega,
          (Blk.new W [.int .i64 x1, .int .i64 y1] 79).alloc _, Blk.lit (W.alloc (.cells #[.int .i64 x1, .int .i64 y1] 79)) (W.heap.size + 1) [.int .i64 x2, .int .i64 y2] 79 (by simp), rfl⟩
      case body =>
        rintro l pre ⟨⟨x1, y1⟩, ⟨x2, y2⟩⟩ a' W ⟨⟨⟨⟨hE, hL2⟩, hpre⟩, hbw⟩, ⟨hpl, hxe⟩, Ba, Bb, ha, hb, bA, bB, rfl⟩; obtain ⟨b, off, rfl, hbs, -, -⟩ := hr.pt 0 (by omega); obtain ⟨b', off', hbe, -, c0, c1⟩ := (hr.keep hbw).pt 0 (by omega)
        cases hbe
        have hp0 : L[0]! = L[0] := getElem!_pos L 0 (by omega); have ok0 : okPt L[0] = true := by rw [← hp0]; exact ok_get L HOK.out 0 (by omega)
        simp only [Prod.mk.injEq] at hxe; have ok1 : okPt ⟨x1, y1⟩ = true := by rw [hxe.1]; exact ok_get L HOK.out _ hpl
        have ok2 : okPt ⟨x2, y2⟩ = true := by rw [hxe.2]; exact ok_get L HOK.out _ (Nat.mod_lt _ (by omega))
        have hsn := fan_snoc L pre (⟨x1, y1⟩, ⟨x2, y2⟩); have hfb := fan_bd L HOK.out (by omega) pre (fun e he => edges_ok L HOK.out e (by rw [hpre] at he; exact List.mem_of_mem_take he)); have hzb := crs_bd L[0] ⟨x1, y1⟩ ⟨x2, y2⟩ ok0 ok1 ok2; rw [hp0] at hsn; have hnp : (edges L).take (pre.length + 1) = pre ++ [(⟨x1, y1⟩, ⟨x2, y2⟩)] := by
          have hel : (edges L).length = L.length := by simp [edges]
          have hek : (edges L)[pre.length]? = some (⟨x1, y1⟩, ⟨x2, y2⟩) := by
            unfold edges; rw [List.getElem?_map, List.getElem?_range hpl, hxe.1, hxe.2]
            rfl
          rw [List.take_add_one, hek, ← hpre]; rfl
        have hxr := fun W' => xcross_any L[0] ⟨x1, y1⟩ ⟨x2, y2⟩ ok0 ok1 ok2 W'; dsimp only at hsn; generalize crs L[0] ⟨x1, y1⟩ ⟨x2, y2⟩ = z at *; generalize L[0] = p0 at *; obtain ⟨x0, y0⟩ := p0; obtain ⟨F, hF⟩ : ∃ F, fan L pre = F := ⟨_, rfl⟩; rw [hF] at hsn hfb hE; have HSN := Lib.hid hsn; have HXR := Lib.hid hxr; have HNP := Lib.hid hnp; have hF64 : -2251799813685248000 ≤ F ∧ F ≤ 2251799813685248000 := by omega
        dsimp only at c0 c1; rw [Nat.zero_mul, Nat.add_zero] at c0 c1; clear hsn hxr hnp hp0 ok0 ok1 ok2 hxe hfb hF hpre; have cE := hE.cell; have fE := hE.frozen; have cL := hL2.cell; have a0 := bA.cell 0 rfl; have a1 := bA.cell 1 rfl; have b0 := bB.cell 0 rfl; have b1 := bB.cell 1 rfl
        gi_wp2
        have hbs2 : b < w1.heap.size := by omega
        have hH := hL2.lt; have hL0 : 0 < L.length := by omega
        have hwr : IntKind.i64.wrap (F + z) = F + z := IntWalk.i64_in _ (by omega); refine wpIn_region_two [1, 2, 3, 4, 5, 7] [1, 2, 3, 4, 5] 0 6 [6, 7, 8] [0, 7, 8] 3 (fun W' => W'.cell? ⟨w.heap.size, 0, none⟩ = some (.slice (some ⟨b, off, none⟩) L.length c) ∧ W'.cell? ⟨b, off, none⟩ = some (.int .i64 x0) ∧ W'.cell? ⟨b, off + 1, none⟩ = some (.int .i64 y0) ∧ W'.cell? ⟨Ba, 0, none⟩ = some (.int .i64 x1) ∧ W'.cell? ⟨Ba, 1, none⟩ = some (.int .i64 y1) ∧ W'.cell? ⟨Bb, 0, none⟩ = some (.int .i64 x2) ∧ W'.cell? ⟨Bb, 1, none⟩ = some (.int .i64 y2)) _ _ (by kernel_rfl) (by kernel_rfl) (by kernel_rfl) (by kernel_rfl) (by kernel_rfl) rfl rfl (by kernel_rfl) (by kernel_rfl) (by kernel_rfl) ⟨cL, c0, c1, a0, a1, b0, b1⟩ ?_; refine wpPre_cons ?_ rfl rfl ?_ ?_
        rotate_left
        · (intro w' hS; obtain ⟨s0, s1, s2, s3, s4, s5, s6⟩ := hS; go_simp; with_reducible rfl)
        try simp only [Act.put, List.setIfInBounds_toArray, List.set_cons_zero, List.set_cons_succ]
        refine wpPre_cons ?_ rfl rfl ?_ ?_
        rotate_left
        · (intro w' hS; obtain ⟨s0, s1, s2, s3, s4, s5, s6⟩ := hS; go_simp; with_reducible rfl)
        try simp only [Act.put, List.setIfInBounds_toArray, List.set_cons_zero, List.set_cons_succ]
        refine wpPre_cons ?_ rfl rfl ?_ ?_
        rotate_left
        · (intro w' hS; obtain ⟨s0, s1, s2, s3, s4, s5, s6⟩ := hS; go_simp; with_reducible rfl)
        try simp only [Act.put, List.setIfInBounds_toArray, List.set_cons_zero, List.set_cons_succ]
        refine wpPre_cons ?_ rfl rfl ?_ ?_
        rotate_left
        · (intro w' hS; obtain ⟨s0, s1, s2, s3, s4, s5, s6⟩ := hS; go_simp; with_reducible rfl)
        try simp only [Act.put, List.setIfInBounds_toArray, List.set_cons_zero, List.set_cons_succ]
        refine wpPre_cons ?_ rfl rfl ?_ ?_
        rotate_left
        · (intro w' hS; obtain ⟨s0, s1, s2, s3, s4, s5, s6⟩ := hS; go_simp; with_reducible rfl)
        try simp only [Act.put, List.setIfInBounds_toArray, List.set_cons_zero, List.set_cons_succ]
        refine wpPre_nil ?_; have hF : ∀ (A w2 : World), A = W.drew → Below A.heap.size A w2 → (fun W' : World => W'.cell? ⟨w.heap.size, 0, none⟩ = some (.slice (some ⟨b, off, none⟩) L.length c) ∧ W'.cell? ⟨b, off, none⟩ = some (.int .i64 x0) ∧ W'.cell? ⟨b, off + 1, none⟩ = some (.int .i64 y0) ∧ W'.cell? ⟨Ba, 0, none⟩ = some (.int .i64 x1) ∧ W'.cell? ⟨Ba, 1, none⟩ = some (.int .i64 y1) ∧ W'.cell? ⟨Bb, 0, none⟩ = some (.int .i64 x2) ∧ W'.cell? ⟨Bb, 1, none⟩ = some (.int .i64 y2)) w2 := by
          rintro A w2 rfl hb2; exact ⟨(hb2.cell (p := ⟨w.heap.size, 0, none⟩) (show w.heap.size < W.drew.heap.size from hH)).trans cL, (hb2.cell (p := ⟨b, off, none⟩) (show b < W.drew.heap.size by show b < W.heap.size; omega)).trans c0, (hb2.cell (p := ⟨b, off + 1, none⟩) (show b < W.drew.heap.size by show b < W.heap.size; omega)).trans c1, (hb2.cell (p := ⟨Ba, 0, none⟩) (show Ba < W.drew.heap.size from bA.lt)).trans a0, (hb2.cell (p := ⟨Ba, 1, none⟩) (show Ba < W.drew.heap.size from bA.lt)).trans a1, (hb2.cell (p := ⟨Bb, 0, none⟩) (show Bb < W.drew.heap.size from bB.lt)).trans b0, (hb2.cell (p := ⟨Bb, 1, none⟩) (show Bb < W.drew.heap.size from bB.lt)).trans b1⟩
        have hfin : ∀ w2, Below W.drew.heap.size W.drew w2 → postAhead (KpP w.heap.size) (fun (pre : List (Pt × Pt)) W => ((Boxed W w1.heap.size 3 (.int .i64 (fan L pre)) ∧ Boxed W w.heap.size 80 (.slice (some ⟨b, off, none⟩) L.length c)) ∧ pre = (edges L).take pre.length) ∧ Below w.heap.size w W) (pre ++ [(⟨x1, y1⟩, ⟨x2, y2⟩)]) W .normal { tmps := #[], defers := [] } (w2.setCell ⟨w1.heap.size, 0, none⟩ (.int .i64 (F + z))) := by
          intro w2 hb2; have hbx : Below W.heap.size W w2 := (Below.refl _ W).drew.trans hb2; have hsW := hbw.size; have bE2 : Boxed w2 w1.heap.size 3 (.int .i64 F) := (hbx.block _ hE.lt).trans hE; have bL3 : Boxed w2 w.heap.size 80 _ := (hbx.block _ hL2.lt).trans hL2; have hbz : Below w.heap.size W (w2.setCell ⟨w1.heap.size, 0, none⟩ (.int .i64 (F + z))) := (hbx.mono hsW).set_at hs1 _; refine ⟨(KeepsOthers.of_below hbx).trans (KeepsOthers.setCell _ _ _), ⟨hbz, (KeepT.of_below hbx).trans (KeepT.store bE2 (by decide) (by decide) _)⟩, ⟨⟨?_, bL3.other (by omega) _⟩, ?_⟩, hbw.trans hbz⟩
          · rw [HSN.out]; exact bE2.set _
          · rw [List.length_append]; exact HNP.out.symm
        refine ⟨⟨rfl, fun K hK => ?_⟩, ⟨rfl, fun K hK => ?_⟩⟩
        · go_step; refine hK.out _ _ ⟨cL, c0, c1, a0, a1, b0, b1⟩ ?_; clear hK K
          try simp only [Act.put, List.setIfInBounds_toArray, List.set_cons_zero, List.set_cons_succ]
          refine wpTxt_heavy rfl rfl rfl (fun K hK => ?_); refine wp_callgo [.agg #[.int .i64 x0, .int .i64 y0], .agg #[.int .i64 x1, .int .i64 y1], .agg #[.int .i64 x2, .int .i64 y2]] Tryz.f122 Tryz.func122 (by kernel_rfl) (by kernel_rfl) rfl ((HXR.out _).mono ?_); rintro e w2 ⟨rfl, hb2⟩; have hF2 := hF W.drew w2 rfl hb2; have cE2 : w2.cell? ⟨w1.heap.size, 0, none⟩ = some (.int .i64 F) := (hb2.cell (p := ⟨w1.heap.size, 0, none⟩) (show w1.heap.size < W.drew.heap.size from hE.lt)).trans cE; have bE2 : Boxed w2 w1.heap.size 3 (.int .i64 F) := (hb2.block _ hE.lt).trans hE; have fE2 := bE2.frozen; refine ⟨_, rfl, hK.out _ _ hF2 ?_⟩; clear hK K
          try simp only [Act.put, List.setIfInBounds_toArray, List.set_cons_zero, List.set_cons_succ]
          refine wpTxt_light ?_ rfl rfl rfl ?_ ?_
          rotate_left
          · (intro w' hS; obtain ⟨s0, s1, s2, s3, s4, s5, s6⟩ := hS; go_simp; with_reducible rfl)
          try simp only [Act.put, List.setIfInBounds_toArray, List.set_cons_zero, List.set_cons_succ]
          refine wpTxt_heavy rfl rfl rfl (fun K hK => ?_); go_step; refine hK.out _ _ ?_ ?_
          · obtain ⟨s0, s1, s2, s3, s4, s5, s6⟩ := hF2; exact ⟨(World.cell?_setCell_far _ _ _ _ (by simp; omega)).trans s0, (World.cell?_setCell_far _ _ _ _ (by simp; omega)).trans s1, (World.cell?_setCell_far _ _ _ _ (by simp; omega)).trans s2, (World.cell?_setCell_far _ _ _ _ (by simp; omega)).trans s3, (World.cell?_setCell_far _ _ _ _ (by simp; omega)).trans s4, (World.cell?_setCell_far _ _ _ _ (by simp; omega)).trans s5, (World.cell?_setCell_far _ _ _ _ (by simp; omega)).trans s6⟩
          clear hK K
          try simp only [Act.put, List.setIfInBounds_toArray, List.set_cons_zero, List.set_cons_succ]
          refine wpTxt_nil ?_
          gi_wp2
          exact hfin w2 hb2
        · skip
          refine wp_callgo [.agg #[.int .i64 x0, .int .i64 y0], .agg #[.int .i64 x1, .int .i64 y1], .agg #[.int .i64 x2, .int .i64 y2]] Tryz.f122 Tryz.func122 (by kernel_rfl) (by kernel_rfl) rfl ((HXR.out _).mono ?_); rintro e w2 ⟨rfl, hb2⟩; have hF2 := hF W.drew w2 rfl hb2; have cE2 : w2.cell? ⟨w1.heap.size, 0, none⟩ = some (.int .i64 F) := (hb2.cell (p := ⟨w1.heap.size, 0, none⟩) (show w1.heap.size < W.drew.heap.size from hE.lt)).trans cE; have bE2 : Boxed w2 w1.heap.size 3 (.int .i64 F) := (hb2.block _ hE.lt).trans hE; have fE2 := bE2.frozen; refine ⟨_, rfl, hK.out _ _ hF2 ?_⟩; clear hK K
          try simp only [Act.put, List.setIfInBounds_toArray, List.set_cons_zero, List.set_cons_succ]
          refine wpTxt_heavy rfl rfl rfl (fun K hK => ?_); go_step; refine hK.out _ _ hF2 ?_; clear hK K
          try simp only [Act.put, List.setIfInBounds_toArray, List.set_cons_zero, List.set_cons_succ]
          refine wpTxt_light ?_ rfl rfl rfl ?_ ?_
          rotate_left
          · (intro w' hS; obtain ⟨s0, s1, s2, s3, s4, s5, s6⟩ := hS; go_simp; with_reducible rfl)
          try simp only [Act.put, List.setIfInBounds_toArray, List.set_cons_zero, List.set_cons_succ]
          refine wpTxt_heavy rfl rfl rfl (fun K hK => ?_); go_step; refine hK.out _ _ ?_ ?_
          · obtain ⟨s0, s1, s2, s3, s4, s5, s6⟩ := hF2; exact ⟨(World.cell?_setCell_far _ _ _ _ (by simp; omega)).trans s0, (World.cell?_setCell_far _ _ _ _ (by simp; omega)).trans s1, (World.cell?_setCell_far _ _ _ _ (by simp; omega)).trans s2, (World.cell?_setCell_far _ _ _ _ (by simp; omega)).trans s3, (World.cell?_setCell_far _ _ _ _ (by simp; omega)).trans s4, (World.cell?_setCell_far _ _ _ _ (by simp; omega)).trans s5, (World.cell?_setCell_far _ _ _ _ (by simp; omega)).trans s6⟩
          clear hK K
          try simp only [Act.put, List.setIfInBounds_toArray, List.set_cons_zero, List.set_cons_succ]
          refine wpTxt_nil ?_
          gi_wp2
          exact hfin w2 hb2
      case done =>
        rintro D xs W hD rfl ⟨⟨⟨hE, hL2⟩, -⟩, hbw⟩ hK; have cE := hE.cell
        gi_wp2
        refine ⟨by simp, .inl ⟨_, _, rfl, run_takeDeferred hK, ?_⟩⟩; exact ⟨.int .i64 (fan L (edges L)), by simp [results, Tryz.results105, go_sem], ret_int hA.out.symm, hbw.trans (belowK_b (w := w) (Nat.le_refl _) W D _ _ (by omega) hK rfl rfl)⟩
    · have hok' : (L.all okPt) = false := by simpa using hok
      rw [hok']; have hz : Hid (areaF L = 0) := Lib.hid (by unfold areaF; rw [if_pos (.inr hok')]); have hbl1 : Below w.heap.size w w1 := (Below.new w _).trans (hb1.mono (by simp)); clear hok hok' hb1
      gi_wp2
      exact ⟨.int .i64 0, by simp [results, Tryz.results105, go_sem], ret_int hz.out.symm, hbl1⟩
end Go.Proofs.YtjggoajfilnfjaaGreat
