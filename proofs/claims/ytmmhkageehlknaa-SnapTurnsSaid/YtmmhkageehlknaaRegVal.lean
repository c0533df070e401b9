/-
  A call of a function value, inside a region that draws its order.
-/
import Derived.Test.YtmmhkageehlknaaReg
set_option linter.unusedVariables false
set_option linter.unusedSimpArgs false
namespace Go
open Go.RowKit
section
variable {P : Program} {ops : Array Oper} {lt : Nat → Bool} {Q : Exit → Act → World → Prop} {S : World → Prop} {z : Option Nat}
theorem txt_callv {k : Nat} {rest : List Oper} {a : Act} {w : World} {dst : Option Tmp} {ty : TypeId} {pos : String} {after : Array Edge} {guard : Option (Nat × Bool)} {x : Operand} {f : FuncId} {args : Array Operand} {ats : Array TypeId} (bs : List Value) (vs : List Value) (fn : Func) (hl : lt k = false)
    (hw : Region.wanted { dst := dst, op := .call { callee := .value x, args := args, argTypes := ats }, type := ty, pos := pos, after := after, guard := guard } (yielded ops a.tmps) = true)
    (hx : a.eval x = .func (.func f) #[] bs.toArray) (hfn : P.funcs[f]? = some fn) (hn : (fn.name == "runtime.NumGoroutine") = false) (hb : fn.body.isNone = false) (hvs : args.toList.map a.eval = vs)
    (h : Calls P f (vs ++ bs).toArray w fun e w' => ∃ v, e = .returned v ∧ S w' ∧ wpTxtL P ops lt Q S z (k + 1) rest (a.put dst v) w') :
    wpTxtL P ops lt Q S z k ({ dst := dst, op := .call { callee := .value x, args := args, argTypes := ats }, type := ty, pos := pos, after := after, guard := guard } :: rest) a w := by
  refine txt_heavy hl hw (fun K hK => ?_)
  unfold Oper.wp
  have e : execOp a.eval { dst := dst, op := .call { callee := .value x, args := args, argTypes := ats }, type := ty, pos := pos, after := after, guard := guard } = callFunc f (vs ++ bs).toArray := by
    have e1 : args.map a.eval = vs.toArray := by rw [← hvs]; apply Array.ext'; simp
    unfold execOp
    simp only [resolve, hx, Deferred.ofValue, invoke, e1]
    simp
  rw [e, run_callFunc _ _ hfn hn hb]
  rw [Oper.upon_enter]
  refine Calls.mono h ?_
  rintro e w' ⟨v, rfl, hS, hn⟩
  exact hK.out _ _ hS hn
end
end Go
