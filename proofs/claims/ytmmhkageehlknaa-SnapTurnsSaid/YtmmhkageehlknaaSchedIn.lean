/-
  A region that draws its order, inside a round of a range over a function, walked over each order of its heavy operations.
-/
import Derived.Test.YtmmhkageehlknaaRegIn
import Derived.Test.YtmmhkageehlknaaSched
set_option linter.unusedVariables false
set_option linter.unusedSimpArgs false
namespace Go
open Go.RowKit
/-- THE LAW, inside a round. -/
theorem wpIn_region_sched {P : Program} {ops : Array Oper} {Q : Exit → Act → World → Prop} {l m : Nat} {id : Nat} {a : Act} {w : World} (n : Nat) (lts : List Nat) (S : World → Prop) (hn : ops.size = n) (hm : P.follows .mixedOrders = true) (hs : Region.noSelect ops = true) (hd : noDefer ops = true)
    (h : wpSched P ops (lts.contains ·) (OnlyQ Q) S n (Array.replicate n false) a w.drew) : (Code.region id ops true).wpIn (Fence.wide.inRound l) m P Q a w := by
  subst hn
  refine wpIn_mono ?_ OnlyQ.imp
  refine wpIn_region_any hm ?_
  refine wpAnyIn_of_any hd onlyQ_letsOut .any _ _ _ _ ?_
  refine wpAny_of_Z (S := S) (z := none) _ _ _ _ ?_
  exact wpSched_sound hs (fun c a w h => h) _ _ _ _ h
/-- THE LAW for one forced order, inside a round; z: the operation that waits for all others. -/
theorem wpIn_region_txtZ {P : Program} {ops : Array Oper} {Q : Exit → Act → World → Prop} {l n : Nat} {id : Nat} {a : Act} {w : World} (z : Option Nat) (lts : List Nat) (S : World → Prop) (hm : P.follows .mixedOrders = true) (hs : Region.noSelect ops = true) (hz : lastOk .any ops z = true) (hd : noDefer ops = true)
    (hc : okTextZ z .any ops (lts.contains ·) ops.size (List.range ops.size) (Array.replicate ops.size false) = true) (hS : S w.drew)
    (h : wpTxt P ops (lts.contains ·) Q S z (List.range ops.size) a w.drew) : (Code.region id ops true).wpIn (Fence.wide.inRound l) n P Q a w := by
  refine wpIn_mono ?_ OnlyQ.imp
  refine wpIn_region_any hm ?_
  refine wpAnyIn_of_any hd onlyQ_letsOut .any _ _ _ _ ?_
  refine wpAny_of_Z (S := S) (z := z) _ _ _ _ ?_
  refine okText_soundZ (Q := OnlyQ Q) .any hs (fun c a w h => h) hz (fun e a w h => h.elim) ops.size _ _ _ _ hc (fun _ => hS) ?_
  exact wpTxt_only _ _ _ h
theorem wpIn_region_lit_txtZ {P : Program} {L : List Oper} {Q : Exit → Act → World → Prop} {l n : Nat} {id : Nat} {a : Act} {w : World} (z : Option Nat) (lts : List Nat) (S : World → Prop) (hm : P.follows .mixedOrders = true) (hs : Region.noSelect L.toArray = true) (hz : lastOk .any L.toArray z = true) (hd : noDefer L.toArray = true)
    (hc : okTextZ z .any L.toArray (lts.contains ·) L.length (List.range L.length) (Array.replicate L.length false) = true) (hS : S w.drew)
    (h : wpTxtL P L.toArray (lts.contains ·) Q S z 0 L a w.drew) : (Code.region id L.toArray true).wpIn (Fence.wide.inRound l) n P Q a w := by
  refine wpIn_region_txtZ z lts S hm hs hz hd (by simpa using hc) hS ?_
  have := wpTxtL_eq (P := P) (ops := L.toArray) (lt := (lts.contains ·)) (Q := Q) (S := S) (z := z) L 0 (fun j => by simp) _ _ h
  rw [← List.range_eq_range'] at this
  simpa using this
end Go
