/-
  seg.Cuts' comparison; insertion sort of cuts.
-/
import Derived.Test.YtmmhkageehlknaaOwnSet
import Derived.Test.YtmmhkageehlknaaOpenS
import Derived.Test.YtmmhkageehlknaaSat
set_option linter.unusedVariables false
set_option linter.unusedSimpArgs false
set_option maxRecDepth 100000
namespace Go
theorem cus_len (l : List Cu) : (cus l).length = l.length * 4 := flatMap_len Cu.cells 4 (fun _ => rfl) l
theorem cus_get (l : List Cu) (i j : Nat) (hi : i < l.length) (hj : j < 4) : (cus l)[i * 4 + j]? = (l[i]).cells[j]? := flatMap_get Cu.cells 4 (fun _ => rfl) l i j hi hj
theorem cus_set (l : List Cu) (i : Nat) (hi : i < l.length) (c : Cu) : ((((cus l).set (i * 4) (.int .i64 c.x)).set (i * 4 + 1) (.int .i64 c.y)).set (i * 4 + 2) (.int .i64 c.p)).set (i * 4 + 3) (.int .i64 c.w) = cus (l.set i c) := by
  induction l generalizing i with
  | nil => simp at hi
  | cons a l ih =>
    cases i with
    | zero => simp [cus, Cu.cells]
    | succ i =>
      have := ih i (by simpa using hi)
      simp only [cus, List.flatMap_cons, List.set_cons_succ] at *
      rw [← this]
      have e : ∀ (X : List Value) (k : Nat) (v : Value), (a.cells ++ X).set ((i + 1) * 4 + k) v = a.cells ++ X.set (i * 4 + k) v := fun X k v => by
        have hl : a.cells.length = 4 := rfl
        rw [List.set_append, if_neg (by rw [hl]; omega), hl, show (i + 1) * 4 + k - 4 = i * 4 + k by omega]
      have e0 := e (l.flatMap Cu.cells) 0
      simp only [Nat.add_zero] at e0
      rw [e0, e, e, e]
end Go
namespace Go.Proofs.Ytmmhkageehlknaa
open Go.RowKit

set_option maxHeartbeats 800000 in
theorem ccmp_any (a b : Cu) (ha : CuOk a) (hb : CuOk b) (w : World) :
    Calls Try.prog 51 #[a.val, b.val] w fun e w' => e = .returned (.int .i64 (cmpC a b)) ∧ Below w.heap.size w w' := by
  obtain ⟨ax, ay, ap, aw⟩ := a
  obtain ⟨bx, bY, bp, bw⟩ := b
  obtain ⟨h1, h2⟩ := ha
  obtain ⟨h3, h4⟩ := hb
  dsimp only [Cu.val, cmpC] at *
  have m1 := mul_bd ap bw 67108864 67108864 (by omega) (by omega) (by omega) (by omega)
  have m2 := mul_bd bp aw 67108864 67108864 (by omega) (by omega) (by omega) (by omega)
  simp only [Int.reduceMul, Int.reduceNeg] at m1 m2
  have w1 : IntKind.i64.wrap (ap * bw) = ap * bw := IntWalk.i64_in _ (by omega)
  have w2 : IntKind.i64.wrap (bp * aw) = bp * aw := IntWalk.i64_in _ (by omega)
  have hbl := (Below.new w (.cells #[.int .i64 ax, .int .i64 ay, .int .i64 ap, .int .i64 aw] 71)).alloc (by simp) (.cells #[.int .i64 bx, .int .i64 bY, .int .i64 bp, .int .i64 bw] 71)
  go_enter Try.func51, Try.ntmps51
  go_wp2
  go_ret
  exact ⟨ret_int rfl, hbl⟩
end Go.Proofs.Ytmmhkageehlknaa
