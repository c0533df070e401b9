/-
  A region that draws its order, inside a round of a range over a function: walked once, in the text's order, by the laws outside rounds. World facts for a range over a function whose body appends to a boxed row, and calls. face.sides: the sides of faces, as an iterator whose body may leave. face.Count. append of a literal: where it lies, and where the new row lies.
-/
import Derived.Test.YtccamjnomjcchaaPk2
import Derived.OrdersIn
import Derived.RangeFuncCalls
import Derived.CallsIn
import Derived.Test.YtccamjnomjcchaaPk6
import Derived.Test.YtccamjnomjcchaaPk4
import Derived.Test.YtccamjnomjcchaaPk1
import Derived.Test.YtccamjnomjcchaaPk5
import Derived.Shelf.Abstract
import Derived.Shelf.RegionOpen
import Derived.OwnWalkIn
import Derived.TacticsInMore
import Derived.LoopNIn
import Derived.LoopIn
import Derived.BigRegionIn
import Derived.Stop.RegionWithIn
import Derived.Maps.AppendAt
/- A region that draws its order, inside a round of a range over a function: walked once, in the text's order, by the laws outside rounds. -/
set_option linter.unusedVariables false
set_option linter.unusedSimpArgs false
namespace Go
open Go.RowKit

def noDefer (ops : Array Oper) : Bool := ops.all fun o => match o.op with | .defer _ => false | _ => true

section
variable {P : Program} {ops : Array Oper} {lt : Nat → Bool} {Q : Exit → Act → World → Prop} {S : World → Prop} {l n : Nat}

theorem oper_wpIn_round {o : Oper} {a : Act} {w : World} {K : Act → World → Prop} (hd : ∀ c, o.op ≠ .defer c) (h : o.wp P a w K Q) : o.wpIn (Fence.wide.inRound l) n P a w K Q := by
  refine ⟨fun _ _ => trivial, ?_⟩; rw [Oper.semAt_eq _ _ _ hd]; unfold Oper.wp at h
  cases hr : (execOp a.eval o).run P w with
  | ok nx w' =>
    rw [hr] at h
    cases nx with
    | value v => exact h
    | skip => exact h
    | defer d => exact h
    | enter f args =>
      refine ⟨fun hh => (by cases hh), ?_⟩; exact CallsIn.inRound l (callsIn_wide.2 h)
    | row row args =>
      refine ⟨fun hh => (by cases hh), ?_⟩; intro c cs _; obtain ⟨v, w'', hR, hs⟩ := h c cs; exact ⟨v, w'', hR, stepsIn_wide.2 hs⟩
    | _ => exact (h : False).elim
  | halt hh w' =>
    rw [hr] at h
    cases hh with
    | panic v => exact h
    | _ => exact (h : False).elim

theorem wpAnyIn_of_any (hd : noDefer ops = true) (hQ : ¬ LetsOut Q) (md : Region.Mode) : ∀ (fuel : Nat) (listed : Array Bool) (a : Act) (w : World), wpAny P md ops Q fuel listed a w → wpAnyIn (Fence.wide.inRound l) n P md ops Q fuel listed a w := by
  intro fuel
  induction fuel with
  | zero => intro listed a w h; exact h
  | succ fuel ih =>
    intro listed a w h; refine ⟨h.1, fun i hi => ?_⟩; have := h.2 i hi; unfold wpOp at this; unfold wpOpIn
    cases ho : ops[i]? with
    | none => rw [ho] at this; exact ih _ _ _ this
    | some o =>
      rw [ho] at this; simp only at this ⊢; have hdo : ∀ c, o.op ≠ .defer c := by
        intro c hc; unfold noDefer at hd; rw [Array.all_eq_true] at hd; obtain ⟨hlt, he⟩ := Array.getElem?_eq_some_iff.1 ho; have := hd i hlt; rw [he, hc] at this; simp at this
      split
      · rename_i hw; rw [if_pos hw] at this
        rcases this with h1 | ⟨_, h2⟩
        · exact oper_wpIn_round hdo (Oper.wp_mono (fun a w h => ih _ _ _ h) h1)
        · exact absurd h2 hQ
      · rename_i hw; rw [if_neg hw] at this; exact ⟨fun _ _ => trivial, ih _ _ _ this⟩

theorem onlyQ_letsOut : ¬ LetsOut (OnlyQ Q) := fun ⟨_, _, h⟩ => h

theorem wpIn_region_txt {id : Nat} {a : Act} {w : World} (lts : List Nat) (S : World → Prop) (hm : P.follows .mixedOrders = true) (hs : Region.noSelect ops = true) (hd : noDefer ops = true)
    (hc : okText .any ops (lts.contains ·) ops.size (List.range ops.size) (Array.replicate ops.size false) = true) (hS : S w.drew)
    (h : wpTxt P ops (lts.contains ·) Q S none (List.range ops.size) a w.drew) : (Code.region id ops true).wpIn (Fence.wide.inRound l) n P Q a w := by
  refine wpIn_mono ?_ OnlyQ.imp; refine wpIn_region_any hm ?_; refine wpAnyIn_of_any hd onlyQ_letsOut .any _ _ _ _ ?_; refine wpAny_of_held (S := S) _ _ _ _ ?_; refine okText_sound (Q := OnlyQ Q) .any hs (fun c a w h => h) (fun e a w h => h.elim) ops.size _ _ _ _ hc hS ?_; exact wpTxt_only _ _ _ h

theorem wpIn_region_lit_txt {id : Nat} {a : Act} {w : World} {L : List Oper} (lts : List Nat) (S : World → Prop) (hm : P.follows .mixedOrders = true) (hs : Region.noSelect L.toArray = true) (hd : noDefer L.toArray = true)
    (hc : okText .any L.toArray (lts.contains ·) L.length (List.range L.length) (Array.replicate L.length false) = true) (hS : S w.drew)
    (h : wpTxtL P L.toArray (lts.contains ·) Q S none 0 L a w.drew) : (Code.region id L.toArray true).wpIn (Fence.wide.inRound l) n P Q a w := by
  refine wpIn_region_txt lts S hm hs hd (by simpa using hc) hS ?_; have := wpTxtL_eq (P := P) (ops := L.toArray) (lt := (lts.contains ·)) (Q := Q) (S := S) L 0 (fun j => by simp) _ _ h; rw [← List.range_eq_range'] at this
  simpa using this

theorem oper_noQ {o : Oper} {a : Act} {w : World} {K : Act → World → Prop} (h : o.wp P a w K NoQ) : o.wp P a w K Q := by
  unfold Oper.wp at h ⊢; generalize (execOp a.eval o).run P w = r at *
  cases r with
  | ok n w' =>
    cases n <;> simp only [Oper.upon] at h ⊢ <;> first
      | exact h
      | exact Calls.mono h (fun e w'' he => by
          cases e with
          | returned v => exact he
          | panicked c => exact (he : False).elim
          | outgrown => obtain ⟨_, _, h⟩ := he; exact (h : False).elim)
  | halt x w' => cases x <;> simp only [Oper.upon, NoQ] at h

theorem wp_callgo {a : Act} {w : World} {K : Act → World → Prop} {dst : Option Tmp} {ty : TypeId} {pos : String} {after : Array Edge} {guard : Option (Nat × Bool)} {f : FuncId} {args : Array Operand} {ats : Array TypeId} (vs : List Value) (fn : Func)
    (hfn : P.funcs[f]? = some fn) (hn : (fn.name == "runtime.NumGoroutine") = false) (hb : fn.body.isNone = false) (hvs : args.toList.map a.eval = vs)
    (h : Calls P f vs.toArray w fun e w' => ∃ v, e = .returned v ∧ K (a.put dst v) w') :
    Oper.wp P { dst := dst, op := .call { callee := .value (.func f), args := args, argTypes := ats }, type := ty, pos := pos, after := after, guard := guard } a w K NoQ := by
  unfold Oper.wp; have e : #[] ++ args.map a.eval ++ #[] = vs.toArray := by
    rw [← hvs]; simp only [Array.empty_append, Array.append_empty]; apply Array.ext'; simp
  rw [execOp_call_go, run_callFunc _ _ hfn hn hb, e]; rw [Oper.upon_enter]; refine Calls.mono h ?_; rintro e w' ⟨v, rfl, hK⟩; exact hK

/-! Two operations that may come up in either order (`s += f(v)`: the load of s and the call), the light ones of a prefix taken first. -/
def okPre (md : Region.Mode) (ops : Array Oper) : List Nat → Array Bool → Bool
  | [], _ => true
  | i :: r, listed => Region.free md ops listed i && (Region.ready md ops listed).contains i && okPre md ops r (listed.setIfInBounds i true)

def wpPre (P : Program) (ops : Array Oper) (S : World → Prop) : List Nat → Act → (Act → Prop) → Prop
  | [], a, K => K a
  | i :: r, a, K => ∃ o v, ops[i]? = some o ∧ Region.wanted o (yielded ops a.tmps) = true ∧ (∀ w', S w' → (execOp a.eval o).run P w' = .ok (.value v) w') ∧ wpPre P ops S r (a.put o.dst v) K

theorem wpPre_nil {a : Act} {K : Act → Prop} (h : K a) : wpPre P ops S [] a K := h
theorem wpPre_cons {i : Nat} {r : List Nat} {a : Act} {K : Act → Prop} {o : Oper} (v : Value) (ho : ops[i]? = some o) (hw : Region.wanted o (yielded ops a.tmps) = true)
    (hv : ∀ w', S w' → (execOp a.eval o).run P w' = .ok (.value v) w') (h : wpPre P ops S r (a.put o.dst v) K) : wpPre P ops S (i :: r) a K := ⟨o, v, ho, hw, hv, h⟩

theorem wpAnyH_pre {md : Region.Mode} (hs : Region.noSelect ops = true) (hQ : ∀ c a w, ¬ Q (.panic c) a w) : ∀ (pre : List Nat) (fuel : Nat) (listed : Array Bool) (a : Act) (w : World), okPre md ops pre listed = true → S w →
    wpPre P ops S pre a (fun a' => wpAnyH P md ops Q S fuel (pre.foldl (fun l i => l.setIfInBounds i true) listed) a' w) → wpAnyH P md ops Q S (fuel + pre.length) listed a w := by
  intro pre
  induction pre with
  | nil => intro fuel listed a w _ _ h; exact h
  | cons i r ih =>
    intro fuel listed a w hc hS h; obtain ⟨o, v, ho, hw, hv, h⟩ := h; simp only [okPre, Bool.and_eq_true] at hc; rw [List.length_cons, ← Nat.add_assoc]; exact wpAnyH_take ho hs hc.1.1 hc.1.2 (fun c a w h => absurd h (hQ c _ w)) (.inl ⟨hw, hv⟩) hS (ih _ _ _ _ hc.2 hS h)

theorem wpIn_region_two {id : Nat} {a : Act} {w : World} (lts pre : List Nat) (x y : Nat) (A B : List Nat) (f : Nat) (S : World → Prop) (ox oy : Oper) (hm : P.follows .mixedOrders = true) (hs : Region.noSelect ops = true) (hd : noDefer ops = true)
    (hsz : ops.size = f + 1 + pre.length) (hp : okPre .any ops pre (Array.replicate ops.size false) = true) (hx : ops[x]? = some ox) (hy : ops[y]? = some oy)
    (hr : Region.ready .any ops (pre.foldl (fun l i => l.setIfInBounds i true) (Array.replicate ops.size false)) = [x, y])
    (hA : okText .any ops (lts.contains ·) f A ((pre.foldl (fun l i => l.setIfInBounds i true) (Array.replicate ops.size false)).setIfInBounds x true) = true)
    (hB : okText .any ops (lts.contains ·) f B ((pre.foldl (fun l i => l.setIfInBounds i true) (Array.replicate ops.size false)).setIfInBounds y true) = true)
    (hS : S w.drew)
    (h : wpPre P ops S pre a (fun a' => (Region.wanted ox (yielded ops a'.tmps) = true ∧ ∀ K : Act → World → Prop, Hid (∀ a'' w'', S w'' → wpTxt P ops (lts.contains ·) Q S none A a'' w'' → K a'' w'') → ox.wp P a' w.drew K NoQ) ∧
      (Region.wanted oy (yielded ops a'.tmps) = true ∧ ∀ K : Act → World → Prop, Hid (∀ a'' w'', S w'' → wpTxt P ops (lts.contains ·) Q S none B a'' w'' → K a'' w'') → oy.wp P a' w.drew K NoQ))) :
    (Code.region id ops true).wpIn (Fence.wide.inRound l) n P Q a w := by
  refine wpIn_mono ?_ OnlyQ.imp; refine wpIn_region_any hm ?_; refine wpAnyIn_of_any hd onlyQ_letsOut .any _ _ _ _ ?_; refine wpAny_of_held (S := S) _ _ _ _ ?_; rw [hsz]; refine wpAnyH_pre (w := w.drew) hs (fun c a w h => h) pre (f + 1) _ a (by rw [← hsz]; exact hp) hS ?_; rw [← hsz]; have key : ∀ (pre : List Nat) (a : Act) (K K' : Act → Prop), (∀ a, K a → K' a) → wpPre P ops S pre a K → wpPre P ops S pre a K' := by
    intro pre
    induction pre with
    | nil => intro a K K' hk h; exact hk a h
    | cons i r ih =>
      intro a K K' hk h; obtain ⟨o, v, h1, h2, h3, h4⟩ := h; exact ⟨o, v, h1, h2, h3, ih _ _ _ hk h4⟩
  refine key pre a _ _ (fun a' h => ?_) h; obtain ⟨⟨wx, kx0⟩, wy, ky0⟩ := h; have kx := kx0 (fun a'' w'' => S w'' ∧ wpTxt P ops (lts.contains ·) Q S none A a'' w'') (Lib.hid fun a w h1 h2 => ⟨h1, h2⟩); have ky := ky0 (fun a'' w'' => S w'' ∧ wpTxt P ops (lts.contains ·) Q S none B a'' w'') (Lib.hid fun a w h1 h2 => ⟨h1, h2⟩); refine wpAnyH_all hr (by simp) ?_; intro i hi; simp only [List.mem_cons, List.not_mem_nil, or_false] at hi; have hno : ∀ e a w, NoQ e a w → OnlyQ Q e a w := fun e a w h => h.elim
  rcases hi with rfl | rfl
  · unfold wpOp; rw [hx]; simp only; rw [if_pos wx]
    left
    refine oper_noQ ?_; exact Oper.wp_mono (fun a w h => ⟨h.1, okText_sound (Q := OnlyQ Q) .any hs (fun c a w h => h) hno f A _ _ _ hA h.1 (wpTxt_only _ _ _ h.2)⟩) kx
  · unfold wpOp; rw [hy]; simp only; rw [if_pos wy]
    left
    refine oper_noQ ?_; exact Oper.wp_mono (fun a w h => ⟨h.1, okText_sound (Q := OnlyQ Q) .any hs (fun c a w h => h) hno f B _ _ _ hB h.1 (wpTxt_only _ _ _ h.2)⟩) ky
end
end Go
/- World facts for a range over a function whose body appends to a boxed row, and calls. -/
set_option linter.unusedVariables false
set_option linter.unusedSimpArgs false
namespace Go
open Go.RowKit
theorem Rd.putObj {W : World} {a : Option Addr} {vs : List Value} (h : Rd W a vs) {l : Nat} {o : Obj} (o' : Obj) (h1 : W.heap[l]? = some o) (h2 : o.isCells = false) : Rd (W.putObj l o') a vs := by
  rcases h with h | ⟨b, off, rfl, hc⟩
  · exact .inl h
  · refine .inr ⟨b, off, rfl, fun i v hv => ?_⟩; have hx := hc i v hv; refine (grownBy_putObj' W l o').cell hx ?_; intro e
    cases e
    simp only [World.cell?, h1] at hx
    cases o <;> simp_all [Obj.isCells]
theorem Rd.box {W W' : World} {B : Nat} {t : TypeId} {x : Option Addr} {n c : Nat} {a : Option Addr} {vs : List Value} (h : Rd W a vs) (hb : Boxed W B t (.slice x n c)) (hg : W.grownBy W' (some B)) (hv : ∀ v ∈ vs, ∃ k z, v = .int k z) : Rd W' a vs := by
  rcases h with h | ⟨b, off, rfl, hc⟩
  · exact .inl h
  · refine .inr ⟨b, off, rfl, fun i v hi => ?_⟩; have hx := hc i v hi; refine hg.cell hx ?_; intro e
    cases e
    obtain ⟨k, z, rfl⟩ := hv v (List.mem_of_getElem? hi); unfold Boxed at hb; dsimp only at hb; simp only [World.cell?, hb] at hx
    cases ho : off + i with
    | zero => rw [ho] at hx; simp at hx
    | succ m => rw [ho] at hx; simp at hx
theorem grown_step {W0 A A' : World} {B : Nat} {r : Option Nat} (h : W0.grownBy A (some B)) (hg : A.grownBy A' r) (hr : ∀ k, r = some k → W0.heap.size ≤ k ∨ k = B) : W0.grownBy A' (some B) :=
  ⟨hg.os.trans h.os, hg.tape.trans h.tape, hg.output.trans h.output, Nat.le_trans h.size hg.size, fun k hk hne => (hg.block k (Nat.lt_of_lt_of_le hk h.size) (fun e => by
    rcases hr k e.symm with h1 | h1
    · omega
    · exact hne (by rw [h1]))).trans (h.block k hk hne)⟩
theorem ownFrom_grown {β : Type} {W0 : World} (B : Nat) : OwnFrom W0.heap.size (fun (_ : β) W => W0.grownBy W (some B)) :=
  fun _ _ _ _ hs hg hr => grown_step hs hg (fun k e => .inl (hr k e).1)
theorem KeepsOthers.of_row {A B : World} {n₀ : Nat} {e : TypeId} {size : Nat} {v : Value} {k : Nat} {xs : List Value} (hrow : A.ownsRow n₀ e size v k xs) (hg : A.grownBy B v.ownBlock) : KeepsOthers A B := by
  refine KeepsOthers.of_grownBy hg fun j o e ho => ?_
  rcases hrow.2 with ⟨rfl, _⟩ | ⟨g, cap, cur, rfl, _, hgb, _⟩
  · cases e
  · obtain rfl : g = j := by simpa [Value.ownBlock] using e
    rw [hgb] at ho
    cases ho
    rfl
end Go
/- face.sides: the sides of faces, as an iterator whose body may leave. -/
set_option linter.unusedVariables false
set_option linter.unusedSimpArgs false
set_option maxRecDepth 100000
namespace Go
open Go.RowKit
structure Sd where
  f : Nat
  r : Nat
  a : Pt
  b : Pt
instance : Inhabited Sd := ⟨⟨0, 0, default, default⟩⟩
def Sd.val (s : Sd) : Value := .agg #[.int .i64 s.f, .int .i64 s.r, .int .i64 s.a.x, .int .i64 s.a.y, .int .i64 s.b.x, .int .i64 s.b.y]
def Sd.cells (s : Sd) : List Value := [.int .i64 s.f, .int .i64 s.r, .int .i64 s.a.x, .int .i64 s.a.y, .int .i64 s.b.x, .int .i64 s.b.y]
def ringSd (i k : Nat) (r : List Pt) : List Sd := (edges r).map fun e => ⟨i, k, e.1, e.2⟩
def faceSd (i : Nat) (f : List (List Pt)) (n : Nat) : List Sd := (List.range n).flatMap fun k => ringSd i k f[k]!
def someSd (l : List (List (List Pt))) (n : Nat) : List Sd := (List.range n).flatMap fun i => faceSd i l[i]! (l[i]!).length
def allSd (l : List (List (List Pt))) : List Sd := someSd l l.length
theorem faceSd_succ (i : Nat) (f : List (List Pt)) (n : Nat) : faceSd i f (n + 1) = faceSd i f n ++ ringSd i n f[n]! := by
  simp [faceSd, List.range_succ, List.flatMap_append]
theorem someSd_succ (l : List (List (List Pt))) (n : Nat) : someSd l (n + 1) = someSd l n ++ faceSd n l[n]! (l[n]!).length := by
  simp [someSd, List.range_succ, List.flatMap_append]
theorem faceSd_pre (i : Nat) (f : List (List Pt)) {n m : Nat} (h : n ≤ m) : faceSd i f n <+: faceSd i f m := by
  induction m with
  | zero => obtain rfl : n = 0 := by omega
            exact List.prefix_refl _
  | succ m ih =>
    by_cases e : n = m + 1
    · rw [e]; exact List.prefix_refl _
    · rw [faceSd_succ]; exact (ih (by omega)).trans (List.prefix_append _ _)
theorem someSd_pre (l : List (List (List Pt))) {n m : Nat} (h : n ≤ m) : someSd l n <+: someSd l m := by
  induction m with
  | zero => obtain rfl : n = 0 := by omega
            exact List.prefix_refl _
  | succ m ih =>
    by_cases e : n = m + 1
    · rw [e]; exact List.prefix_refl _
    · rw [someSd_succ]; exact (ih (by omega)).trans (List.prefix_append _ _)
theorem sd_ahead (l : List (List (List Pt))) (i k n : Nat) (hi : i < l.length) (hk : k < (l[i]!).length) (hn : n < ((l[i]!)[k]!).length) :
    (someSd l i ++ (faceSd i l[i]! k ++ (ringSd i k (l[i]!)[k]!).take n)) ++ [⟨i, k, ((l[i]!)[k]!)[n]!, ((l[i]!)[k]!)[(n + 1) % ((l[i]!)[k]!).length]!⟩] = someSd l i ++ (faceSd i l[i]! k ++ (ringSd i k (l[i]!)[k]!).take (n + 1)) ∧
    someSd l i ++ (faceSd i l[i]! k ++ (ringSd i k (l[i]!)[k]!).take (n + 1)) <+: allSd l := by
  constructor
  · have : (ringSd i k (l[i]!)[k]!)[n]? = some ⟨i, k, ((l[i]!)[k]!)[n]!, ((l[i]!)[k]!)[(n + 1) % ((l[i]!)[k]!).length]!⟩ := by
      unfold ringSd edges; rw [List.getElem?_map, List.getElem?_map, List.getElem?_range hn]
      rfl
    rw [List.take_add_one, this]; simp
  · refine List.IsPrefix.trans ?_ (someSd_pre l (show i + 1 ≤ l.length by omega)); rw [someSd_succ]; refine (List.prefix_append_right_inj _).2 ?_; refine List.IsPrefix.trans ?_ (faceSd_pre i l[i]! (show k + 1 ≤ (l[i]!).length by omega)); rw [faceSd_succ]; exact (List.prefix_append_right_inj _).2 (List.take_prefix _ _)
end Go
namespace Go.Proofs.Ytccamjnomjcchaa
open Go.RowKit
attribute [local go_sem] Oper.semAt_some

set_option maxHeartbeats 3200000 in
theorem sides1_in (n : Nat) (l Bn : Nat) (a : Option Addr) (c : Nat) (L : List Fc) (hlen : L.length ≤ 1000000) (hl1 : ∀ f ∈ L, f.rs.length ≤ 1000000) (hl2 : ∀ f ∈ L, ∀ r ∈ f.rs, r.l.length ≤ 1000000)
    (W0 : World) (hr0 : Rd W0 a (fcs L)) (hok : ∀ f ∈ L, f.Ok W0) (fr : Nat × Nat) (hBn : W0.heap[Bn]? = some (.cells #[.slice a L.length c] 22 fr))
    (J Jx : List Sd → World → Prop) (W : World) (hb0 : Below W0.heap.size W0 W) (hJ : AbidesFrom W.heap.size J) (hJx : AbidesFrom W.heap.size Jx)
    (hY : ∀ pre x W1, J pre W1 → pre ++ [x] <+: allSd (L.map Fc.rings) → YieldAt Fence.wide (n - 1) Try.prog l #[x.val] W1 fun e W' => (e = .returned (.bool true) ∧ J (pre ++ [x]) W' ∧ Below W0.heap.size W1 W') ∨ (e = .returned (.bool false) ∧ Jx (pre ++ [x]) W'))
    (h0 : J [] W) :
    CallsIn Fence.wide n Try.prog 100 #[.func (.yield l) #[] #[], .pointer (some ⟨Bn, 0, none⟩)] W fun e W' => (∃ v, e = .returned v) ∧ ((∃ xs, xs = allSd (L.map Fc.rings) ∧ J xs W') ∨ ∃ pre, Jx pre W') := by
  refine callsIn_of_wp Try.func100 rfl trivial ?_ rfl; simp only [Try.ntmps100, List.size_toArray, List.length_cons, List.length_nil, Nat.reduceAdd, Nat.reduceSub, Array.replicate_succ, Array.replicate_zero, List.push_toArray, List.append_toArray, List.nil_append, List.cons_append]; have hBl : Bn < W0.heap.size := (Array.getElem?_eq_some_iff.1 hBn).1; have hBW := (hb0.block Bn hBl).trans hBn; have hbc : W.cell? ⟨Bn, 0, none⟩ = some (.slice a L.length c) := by simp [World.cell?, hBW]
  have HY := Lib.hid hY; have HJ := Lib.hid hJ; have HR := Lib.hid hr0; have HOK := Lib.hid hok; have HL1 := Lib.hid hl1; have HL2 := Lib.hid hl2; obtain ⟨N, hN⟩ : ∃ N, L.length = N := ⟨_, rfl⟩; have HN := Lib.hid hN; rw [hN] at hlen hbc; obtain ⟨RL, hRL⟩ : ∃ R, L.map Fc.rings = R := ⟨_, rfl⟩; have HRL := Lib.hid hRL; rw [hRL] at HY ⊢; clear hY hJ hJx hr0 hok hl1 hl2 hN hRL hBn hBW
  gi_wp2
  gi_loopw [11] (fun i wr => ∃ k : Nat, i = .int .i64 k ∧ k ≤ N ∧ J (someSd RL k) wr ∧ Below W0.heap.size W0 wr ∧ W.heap.size ≤ wr.heap.size) (fun i _ => N - (intOf i).toNat)
  case atStart => exact ⟨0, rfl, Nat.zero_le _, h0, hb0, Nat.le_refl _⟩
  case round =>
    obtain ⟨i, rfl, hi, hj, hbw, hsw⟩ := hrel
    by_cases hlt : i < N
    · have hlt' : (i : Int) < (N : Int) := by omega
      have hil : i < L.length := by rw [HN.out]; exact hlt
      obtain ⟨b1, o1, rfl, hbb, c0, c1⟩ := (HR.out.keep hbw).fc i hil; have hiR : i < RL.length := by rw [← HRL.out, List.length_map]; exact hil
      have HRI : Hid (RL[i]! = L[i].rs.map PC.l) := Lib.hid (by rw [getElem!_pos RL i hiR]; simp only [← HRL.out, List.getElem_map, Fc.rings]); have HFO := Lib.hid (HOK.out _ (List.getElem_mem hil)); have hf1 := HL1.out _ (List.getElem_mem hil); have HF2 := Lib.hid (HL2.out _ (List.getElem_mem hil)); generalize L[i] = f at *; obtain ⟨rs, ra, rc, ls, aa, ac⟩ := f; dsimp only [Fc.rval, Fc.aval] at c0 c1 hf1 HF2 HRI; obtain ⟨RN, hRN⟩ : ∃ R, rs.length = R := ⟨_, rfl⟩; have HRN := Lib.hid hRN; rw [hRN] at c0 hf1; clear hRN; have hnb : b1 ≠ wr.heap.size := by omega
      gi_wp2
      have hbA := Below.new wr (.cells #[.slice ra RN rc, .slice aa ls.length ac] 38); have hjA := HJ.out _ _ _ none hj (grownBy_of_below hbA none) (fun r h => by cases h); have hA0 := hbw.trans (hbA.mono hbw.size); have hsA : W.heap.size ≤ (wr.alloc (.cells #[.slice ra RN rc, .slice aa ls.length ac] 38)).heap.size := by simp; omega
      have HAH := Lib.hid (fun k n => sd_ahead RL i k n hiR); have HSU := Lib.hid (someSd_succ RL i); obtain ⟨FR, hFR⟩ : ∃ R, RL[i]! = R := ⟨_, rfl⟩; rw [hFR] at HAH HRI HSU; have hFRl : FR.length = RN := by rw [HRI.out, List.length_map, HRN.out]
      rw [hFRl] at HSU HAH; clear hFR hbA hj; generalize wr.alloc (.cells #[.slice ra RN rc, .slice aa ls.length ac] 38) = wA at *
      gi_loopw [19] (fun k wr => ∃ j : Nat, k = .int .i64 j ∧ j ≤ RN ∧ J (someSd RL i ++ faceSd i FR j) wr ∧ Below W0.heap.size W0 wr ∧ W.heap.size ≤ wr.heap.size) (fun k _ => RN - (intOf k).toNat)
      case atStart => exact ⟨0, rfl, Nat.zero_le _, by simpa [faceSd] using hjA, hA0, hsA⟩
      case round =>
        obtain ⟨k, rfl, hk, hj2, hb2, hs2⟩ := hrel
        by_cases hkt : k < RN
        · have hkt' : (k : Int) < (RN : Int) := by omega
          have hkl : k < rs.length := by rw [HRN.out]; exact hkt
          obtain ⟨b2, o2, rfl, hbb2, d0⟩ := (HFO.out.1.1.keep hb2).rc k hkl; have hkF : k < FR.length := by rw [hFRl]; exact hkt
          have HRK : Hid (FR[k]! = rs[k].l) := Lib.hid (by rw [getElem!_pos FR k hkF]; simp only [HRI.out, List.getElem_map]); have HRO := Lib.hid (HFO.out.2.1 _ (List.getElem_mem hkl)); have hl2 := HF2.out _ (List.getElem_mem hkl); have HAK := Lib.hid (fun n => HAH.out k n hkt); have HFU := Lib.hid (faceSd_succ i FR k); rw [HRK.out] at HAK HFU; clear HRK; generalize rs[k] = R at *; obtain ⟨LL, Rp, Rc⟩ := R; dsimp only [PC.val] at d0 hl2 HAK HFU; obtain ⟨LN, hLN⟩ : ∃ R, LL.length = R := ⟨_, rfl⟩; have HLN := Lib.hid hLN; rw [hLN] at d0 hl2 HAK; clear hLN
          gi_wp2
          gi_loopw [26] (fun n wr => ∃ j : Nat, n = .int .i64 j ∧ j ≤ LN ∧ J (someSd RL i ++ (faceSd i FR k ++ (ringSd i k LL).take j)) wr ∧ Below W0.heap.size W0 wr ∧ W.heap.size ≤ wr.heap.size) (fun n _ => LN - (intOf n).toNat)
          case atStart => exact ⟨0, rfl, Nat.zero_le _, by simpa using hj2, hb2, hs2⟩
          case round =>
            obtain ⟨n, rfl, hn, hj3, hb3, hs3⟩ := hrel
            by_cases hnt : n < LN
            · have hnt' : (n : Int) < (LN : Int) := by omega
              have hnl : n < LL.length := by rw [HLN.out]; exact hnt
              obtain ⟨q, hq⟩ : ∃ q, (n + 1) % LN = q := ⟨_, rfl⟩; have hqn : q < LN := by rw [← hq]; exact Nat.mod_lt _ (by omega)
              have hql : q < LL.length := by rw [HLN.out]; exact hqn
              obtain ⟨b, off, rfl, hb, c0, c1⟩ := (HRO.out.1.keep hb3).pt n hnl; obtain ⟨b', off', e, hb', e0, e1⟩ := (HRO.out.1.keep hb3).pt q hql
              cases e
              obtain ⟨HSN, HPX⟩ := HAK.out n hnt; rw [hq, getElem!_pos LL n hnl, getElem!_pos LL q hql] at HSN; have hyy := fun W1 hj1 => HY.out _ ⟨i, k, LL[n], LL[q]⟩ W1 hj1 (by rw [HSN]; exact HPX); rw [HSN] at hyy; have hrem : ((n : Int) + 1) % (LN : Int) = (q : Int) := by rw [← hq]; simp
              obtain ⟨⟨x1, y1⟩, hp1⟩ : ∃ p, LL[n] = p := ⟨_, rfl⟩; obtain ⟨⟨x2, y2⟩, hp2⟩ : ∃ p, LL[q] = p := ⟨_, rfl⟩; rw [hp1] at c0 c1; rw [hp2] at e0 e1; rw [hp1, hp2] at hyy; dsimp only [Pt.val, Sd.val] at c0 c1 e0 e1 hyy; have hbB := Below.new wr (.cells #[.int .i64 x1, .int .i64 y1] 46); have hjB := HJ.out _ _ _ none hj3 (grownBy_of_below hbB none) (fun r h => by cases h); have hjD : J (someSd RL i ++ (faceSd i FR k ++ (ringSd i k LL).take n)) (wr.alloc (.cells #[.int .i64 x1, .int .i64 y1] 46)).drew := HJ.out _ _ _ none hjB ⟨rfl, rfl, rfl, Nat.le_refl _, fun _ _ _ => rfl⟩ (fun r h => by cases h); obtain ⟨fn, tmps, assign, body, hy, hR⟩ := hyy _ hjD; have HRR := Lib.hid hR; have hbD : Below W0.heap.size W0 (wr.alloc (.cells #[.int .i64 x1, .int .i64 y1] 46)).drew := (hb3.alloc hb3.size _).drew; have hsD : W.heap.size ≤ (wr.alloc (.cells #[.int .i64 x1, .int .i64 y1] 46)).drew.heap.size := by show W.heap.size ≤ (wr.alloc _).heap.size; simp; omega
              have hlz : (LN : Int) ≠ 0 := by omega
              have hrem2 : (IntKind.i64.wrap ((n : Int) + 1)).tmod (LN : Int) = (q : Int) := by
                rw [IntWalk.i64_in _ (by omega), Int.tmod_eq_emod_of_nonneg (by omega)]; exact hrem
              have hq0 : (0 : Int) ≤ (q : Int) ∧ (q : Int) < (LN : Int) := by omega
              have hnb2 : b ≠ wr.heap.size := by omega
              have hln : ¬ LN = 0 := by omega
              clear hyy hq hp1 hp2 hR hjB hjD hj3 HSN HPX hrem
              gi_wp2
              gi_region_with (refine ⟨(fun h => by cases h), HRR.out.mono ?_⟩; rintro e W3 hW3; obtain ⟨bb, rfl, hcs⟩ := yield_bool hW3; replace hcs := Lib.hid hcs)
              all_goals
                rcases hcs.out with ⟨rfl, hJ3, hk3⟩ | ⟨rfl, hJ3⟩
                · gi_wp2
                  go_roundw
                  case rel =>
                    exact ⟨n + 1, by go_num, by omega, hJ3, hbD.trans hk3, Nat.le_trans hsD hk3.size⟩
                  case measure => simp [intOf]; omega
                · gi_wp2
                  exact ⟨rfl, .tuple #[], by simp [results, Try.results100, go_sem], ⟨_, rfl⟩, .inr ⟨_, hJ3⟩⟩
            · have hnt' : ¬ (n : Int) < (LN : Int) := by omega
              have hall : (ringSd i k LL).take n = ringSd i k LL := List.take_of_length_le (by simp [ringSd, edges, HLN.out]; omega); rw [hall, ← HFU.out] at hj3
              gi_wp2
              go_roundw
              case rel => exact ⟨k + 1, by go_num, by omega, hj3, hb3, hs3⟩
              case measure => simp [intOf]; omega
        · have hkt' : ¬ (k : Int) < (RN : Int) := by omega
          obtain rfl : k = RN := by omega
          rw [← HSU.out] at hj2
          gi_wp2
          go_roundw
          case rel => exact ⟨i + 1, by go_num, by omega, hj2, hb2, hs2⟩
          case measure => simp [intOf]; omega
    · have hlt' : ¬ (i : Int) < (N : Int) := by omega
      have hiN : i = RL.length := by rw [← HRL.out, List.length_map, HN.out]; omega
      gi_wp2
      go_end0
      first
        | exact ⟨⟨_, rfl⟩, .inl ⟨allSd RL, rfl, by unfold allSd; rw [← hiN]; exact hj⟩⟩
        | exact .inl (by unfold allSd; rw [← hiN]; exact hj)
        | exact ⟨⟨_, rfl⟩, .inl (by unfold allSd; rw [← hiN]; exact hj)⟩

theorem sides_in (n : Nat) (a : Option Addr) (m c : Nat) (w : World) :
    CallsIn Fence.wide n Try.prog 73 #[.slice a m c] w fun e w' => e = .returned (.func (.func 100) #[] #[.pointer (some ⟨w.heap.size, 0, none⟩)]) ∧ w' = w.alloc (.cells #[.slice a m c] 22) := by
  refine callsIn_of_wp Try.func73 rfl trivial ?_ rfl; simp only [Try.ntmps73, List.size_toArray, List.length_cons, List.length_nil, Nat.reduceAdd, Nat.reduceSub, Array.replicate_succ, Array.replicate_zero, List.push_toArray, List.append_toArray, List.nil_append, List.cons_append]
  gi_wp2
  go_ret; exact ⟨rfl, rfl⟩

theorem sides_leave (n : Nat) (Bn : Nat) (a : Option Addr) (c : Nat) (L : List Fc) (hlen : L.length ≤ 1000000) (hl1 : ∀ f ∈ L, f.rs.length ≤ 1000000) (hl2 : ∀ f ∈ L, ∀ r ∈ f.rs, r.l.length ≤ 1000000)
    (W0 : World) (hr : Rd W0 a (fcs L)) (hok : ∀ f ∈ L, f.Ok W0) (fr : Nat × Nat) (hBn : W0.heap[Bn]? = some (.cells #[.slice a L.length c] 22 fr)) :
    SeqLeave Fence.wide n Try.prog 100 #[.pointer (some ⟨Bn, 0, none⟩)] (fun x : Sd => #[x.val]) (fun pre x _ => pre ++ [x] <+: allSd (L.map Fc.rings)) (Below W0.heap.size) (fun xs _ => xs = allSd (L.map Fc.rings)) W0 := by
  intro l J Jx W hb0 hJ hJx hY h0; exact sides1_in n l Bn a c L hlen hl1 hl2 W0 hr hok fr hBn J Jx W hb0 hJ hJx hY h0
end Go.Proofs.Ytccamjnomjcchaa
/- face.Count. -/
set_option linter.unusedVariables false
set_option linter.unusedSimpArgs false
set_option maxRecDepth 100000
namespace Go
open Go.RowKit
def lenS : List (List Pt) → Nat
  | [] => 0
  | r :: l => r.length + lenS l
def cntR : List (List (List Pt)) → Nat
  | [] => 0
  | f :: l => f.length + cntR l
def cntP : List (List (List Pt)) → Nat
  | [] => 0
  | f :: l => lenS f + cntP l
theorem lenS_append (a b : List (List Pt)) : lenS (a ++ b) = lenS a + lenS b := by
  induction a with
  | nil => simp [lenS]
  | cons r a ih => simp only [List.cons_append, lenS, ih]; omega
theorem cntR_append (a b : List (List (List Pt))) : cntR (a ++ b) = cntR a + cntR b := by
  induction a with
  | nil => simp [cntR]
  | cons r a ih => simp only [List.cons_append, cntR, ih]; omega
theorem cntP_append (a b : List (List (List Pt))) : cntP (a ++ b) = cntP a + cntP b := by
  induction a with
  | nil => simp [cntP]
  | cons r a ih => simp only [List.cons_append, cntP, ih]; omega
theorem lenS_take (l : List (List Pt)) (k : Nat) : lenS (l.take k) ≤ lenS l := by
  have := lenS_append (l.take k) (l.drop k); rw [List.take_append_drop] at this; omega
theorem cntR_take (l : List (List (List Pt))) (k : Nat) : cntR (l.take k) ≤ cntR l := by
  have := cntR_append (l.take k) (l.drop k); rw [List.take_append_drop] at this; omega
theorem cntP_take (l : List (List (List Pt))) (k : Nat) : cntP (l.take k) ≤ cntP l := by
  have := cntP_append (l.take k) (l.drop k); rw [List.take_append_drop] at this; omega
theorem lenS_snoc (l : List (List Pt)) (k : Nat) (h : k < l.length) : lenS (l.take (k + 1)) = lenS (l.take k) + l[k].length := by
  rw [List.take_succ_eq_append_getElem h, lenS_append]; simp [lenS]
theorem cntR_snoc (l : List (List (List Pt))) (k : Nat) (h : k < l.length) : cntR (l.take (k + 1)) = cntR (l.take k) + l[k].length := by
  rw [List.take_succ_eq_append_getElem h, cntR_append]; simp [cntR]
theorem cntP_snoc (l : List (List (List Pt))) (k : Nat) (h : k < l.length) : cntP (l.take (k + 1)) = cntP (l.take k) + lenS l[k] := by
  rw [List.take_succ_eq_append_getElem h, cntP_append]; simp [cntP]
end Go
namespace Go.Proofs.Ytccamjnomjcchaa
open Go.RowKit

set_option maxHeartbeats 3200000 in
theorem fcount_any (a : Option Addr) (c : Nat) (L : List Fc) (hlen : L.length ≤ 1000000) (h1 : cntR (L.map Fc.rings) ≤ 1000000) (h2 : cntP (L.map Fc.rings) ≤ 1000000) (w : World) (hr : Rd w a (fcs L)) (hok : ∀ f ∈ L, f.Ok w) :
    Calls Try.prog 16 #[.slice a L.length c] w fun e w' => e = .returned (.tuple #[.int .i64 (cntR (L.map Fc.rings)), .int .i64 (cntP (L.map Fc.rings))]) ∧ Below w.heap.size w w' := by
  have HR := Lib.hid hr; have HOK := Lib.hid hok; obtain ⟨RL, hRL⟩ : ∃ R, L.map Fc.rings = R := ⟨_, rfl⟩; have HRL := Lib.hid hRL; rw [hRL] at h1 h2 ⊢; have hRn : RL.length = L.length := by rw [← hRL, List.length_map]
  have HTR := Lib.hid (cntR_take RL); have HTP := Lib.hid (cntP_take RL); obtain ⟨N, hN⟩ : ∃ N, L.length = N := ⟨_, rfl⟩; have HN := Lib.hid hN; rw [hN] at hlen hRn ⊢; clear hr hok hRL hN
  go_enter Try.func16, Try.ntmps16
  go_wp2
  go_loopw [4, 5, 12] (fun x y i wr => ∃ (k : Nat) (X Y : Nat), i = .int .i64 k ∧ k ≤ N ∧ x = .int .i64 X ∧ y = .int .i64 Y ∧ Hid (X = cntR (RL.take k)) ∧ Hid (Y = cntP (RL.take k)) ∧ Below w.heap.size w wr) (fun _ _ i _ => N - (intOf i).toNat)
  case atStart => exact ⟨0, 0, 0, rfl, Nat.zero_le _, rfl, rfl, Lib.hid rfl, Lib.hid rfl, Below.refl _ _⟩
  case round =>
    obtain ⟨i, X, Y, rfl, hi, rfl, rfl, HX, HY, hbl⟩ := hrel
    by_cases hlt : i < N
    · have hlt' : (i : Int) < (N : Int) := by omega
      have hil : i < L.length := by rw [HN.out]; exact hlt
      have hiR : i < RL.length := by omega
      obtain ⟨b1, o1, rfl, hbb, c0, c1⟩ := (HR.out.keep hbl).fc i hil; have HRI : Hid (RL[i] = L[i].rs.map PC.l) := Lib.hid (by simp only [← HRL.out, List.getElem_map, Fc.rings]); have HFO := Lib.hid (HOK.out _ (List.getElem_mem hil)); have HSR := Lib.hid (cntR_snoc RL i hiR); have HSP := Lib.hid (cntP_snoc RL i hiR); have b1 := HTR.out (i + 1); have b2 := HTP.out (i + 1); rw [HSR.out, ← HX.out] at b1; rw [HSP.out, ← HY.out] at b2; have HLT := Lib.hid (lenS_take RL[i]); generalize L[i] = f at *; generalize RL[i] = FR at *; obtain ⟨rs, ra, rc, ls, aa, ac⟩ := f; dsimp only [Fc.rval, Fc.aval] at c0 c1 HRI; obtain ⟨RN, hRN⟩ : ∃ R, rs.length = R := ⟨_, rfl⟩; have HRN := Lib.hid hRN; have hFR : FR.length = RN := by rw [HRI.out, List.length_map, HRN.out]
      rw [hRN] at c0; rw [hFR] at b1; clear hRN; have hbA := Below.new wr (.cells #[.slice ra RN rc, .slice aa ls.length ac] 38); have hA0 := hbl.trans (hbA.mono hbl.size); have kA := heap_alloc_new wr (.cells #[.slice ra RN rc, .slice aa ls.length ac] 38); go_wp2; clear c0 c1 hbA
      go_loopw [5, 24] (fun y i wr2 => ∃ (j : Nat) (Z : Nat), i = .int .i64 j ∧ j ≤ RN ∧ y = .int .i64 Z ∧ Hid (Z = Y + lenS (FR.take j)) ∧ Below w.heap.size w wr2) (fun _ i _ => RN - (intOf i).toNat)
      case atStart => exact ⟨0, Y, rfl, Nat.zero_le _, rfl, Lib.hid rfl, hA0⟩
      case round =>
        obtain ⟨j, Z, rfl, hj, rfl, HZ, hb2⟩ := hrel
        by_cases hjt : j < RN
        · have hjt' : (j : Int) < (RN : Int) := by omega
          have hjl : j < rs.length := by rw [HRN.out]; exact hjt
          have hjF : j < FR.length := by omega
          obtain ⟨b3, o3, rfl, hbb3, d0⟩ := (HFO.out.1.1.keep hb2).rc j hjl; have HSJ := Lib.hid (lenS_snoc FR j hjF); have b4 := HLT.out (j + 1); have HFJ : Hid (FR[j].length = rs[j].l.length) := Lib.hid (by simp only [HRI.out, List.getElem_map]); rw [HSJ.out, HFJ.out] at b4; have HZ2 : Hid (Z + rs[j].l.length = Y + lenS (FR.take (j + 1))) := Lib.hid (by rw [HSJ.out, HFJ.out, HZ.out]; omega); have hzb : Z + rs[j].l.length ≤ 1000000 := by rw [HZ.out]; omega
          generalize rs[j] = R at *; obtain ⟨LL, Rp, Rc⟩ := R; dsimp only [PC.val] at d0 HZ2 hzb; go_wp2; exact ⟨⟨j + 1, Z + LL.length, by go_num, by omega, by go_num, HZ2, hb2⟩, by simp [intOf]; omega⟩
        · have hjt' : ¬ (j : Int) < (RN : Int) := by omega
          have hft : FR.take j = FR := List.take_of_length_le (by omega); have HZ2 : Hid (Z = cntP (RL.take (i + 1))) := Lib.hid (by rw [HSP.out, HZ.out, HY.out, hft]); have HX2 : Hid (X + RN = cntR (RL.take (i + 1))) := Lib.hid (by rw [HSR.out, HX.out, hFR]); go_wp2; exact ⟨⟨i + 1, X + RN, Z, by go_num, by omega, by go_num, rfl, HX2, HZ2, hb2⟩, by simp [intOf]; omega⟩
    · have hlt' : ¬ (i : Int) < (N : Int) := by omega
      have hall : RL.take i = RL := List.take_of_length_le (by omega); rw [hall] at HX HY; go_wp2; refine bodyPost_ret (v := .tuple #[.int .i64 X, .int .i64 Y]) ?_ rfl ⟨by rw [HX.out, HY.out], hbl⟩; simp [results, Try.results16, go_sem]
end Go.Proofs.Ytccamjnomjcchaa
/- append of a literal: where it lies, and where the new row lies. -/
set_option linter.unusedVariables false
set_option linter.unusedSimpArgs false
namespace Go
open Go.RowKit
theorem wpList_appLitAt {P : Program} {w : World} {ops : Array Oper} {rest : List Oper} {o : Oper} {a : Act} {Q : Exit → Act → World → Prop} (w0 : World) (hb : Below w0.heap.size w0 w) (hgd : o.guard = none) (s x : Operand) (t : TypeId)
    (ho : o.op = .call { callee := .builtin .append, args := #[s, x], argTypes := #[t, t] })
    (e : TypeId) (z : Value) (size bytes : Nat) (ht : P.underlying t = some (.slice e)) (hinfo : (P.info? e).map (fun i => (i.zero, i.size, i.bytes)) = some (some z, size, bytes))
    (hzs : z.cells.size = size) (hsz : 0 < size) (hb1 : 0 < bytes)
    (v : Value) (n : Nat) (xs : List Value) (hs : a.eval s = v) (hown : w.ownsRow w0.heap.size e size v n xs)
    (m c B : Nat) (hB : w.heap.size = B) (vs : List Value) (te : TypeId) (hx : a.eval x = .slice (some ⟨B, 0, none⟩) m c) (hl : vs.length = m * size) (h1 : ∀ u ∈ vs, u.oneCell' = true)
    (hbytes : (n + m) * bytes ≤ 140737488355328)
    (h : ∀ v' w', w'.ownsRow w0.heap.size e size v' (n + m) (xs ++ vs) → w.grownBy w' v.ownBlock → Below w0.heap.size w0 w' → (v'.ownBlock = v.ownBlock ∨ v'.ownBlock = some (B + 1)) → wpList P ops Q rest (a.put o.dst v') w') :
    wpList P ops Q (o :: rest) a (w.alloc (.cells vs.toArray te)) := by
  subst hB; obtain ⟨i, hi, hz, hsize, hby⟩ := info_parts hinfo; have h63 : n + m ≤ maxLen := by
    have : (n + m) * 1 ≤ (n + m) * bytes := Nat.mul_le_mul_left _ hb1; unfold maxLen; omega
  have hw1 : w.grownBy (w.alloc (.cells vs.toArray te)) v.ownBlock := World.grownBy_alloc w _ _; refine wpList_append_own_at (w.alloc (.cells vs.toArray te)) hgd s x t ho w0.heap.size e i z size bytes ht hi hz hsize hby hzs hsz v n xs hs (hown.below (Below.new _ _)) ⟨w.heap.size, 0, none⟩ m c vs hx hl ?_ h1 h63 hbytes (by have := hb.size; simp; omega) ?_
  · exact (Rd.new w vs te).add
  · intro v' w' h2 h3 _ h5; have h4 := hw1.trans h3; exact h v' w' h2 h4 (hb.grown h4 hb.size (fun k hk => (hown.lt k hk).1)) (by simpa using h5)
end Go
