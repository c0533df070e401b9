/-
  order.Uniq, of numbers that are in order already.
-/
import Derived.Test.YtmmhkageehlknaaZsort
import Derived.Lib.SlBuf
set_option linter.unusedVariables false
set_option linter.unusedSimpArgs false
set_option maxRecDepth 100000
namespace Go
open Go.RowKit
theorem heap_setCells (b : Nat) (T : TypeId) : ∀ (vs : List Value) (o : Nat) (w : World) (cur : List Value), w.heap[b]? = some (.cells cur.toArray T (0, 0)) → o + vs.length ≤ cur.length →
    ∃ c2 : List Value, (w.setCells b o vs).heap[b]? = some (.cells c2.toArray T (0, 0)) ∧ c2 = cur.take o ++ vs ++ cur.drop (o + vs.length)
  | [], o, w, cur, h, hl => ⟨cur, h, by simp⟩
  | v :: vs, o, w, cur, h, hl => by
    have h1 : (w.setCell ⟨b, o, none⟩ v).heap[b]? = some (.cells (cur.set o v).toArray T (0, 0)) := by
      simp [World.setCell, Array.getElem?_modify, h]
    obtain ⟨c2, h2, h3⟩ := heap_setCells b T vs (o + 1) (w.setCell ⟨b, o, none⟩ v) (cur.set o v) h1 (by simp at hl ⊢; omega)
    refine ⟨c2, h2, h3.trans ?_⟩
    have ho : o < cur.length := by simp at hl; omega
    have e1 : (cur.set o v).take (o + 1) = cur.take o ++ [v] := by
      rw [List.take_succ_eq_append_getElem (by simp; exact ho)]
      rw [List.take_set, List.set_eq_of_length_le (by rw [List.length_take]; omega)]; simp
    have e2 : (cur.set o v).drop (o + 1 + vs.length) = cur.drop (o + (v :: vs).length) := by
      rw [List.drop_set_of_lt (by omega)]; congr 1; simp; omega
    rw [e1, e2]; simp
end Go
namespace Go.Proofs.Ytmmhkageehlknaa
open Go.RowKit

theorem compactI_any (n : Nat) (v : Value) (l : List Int) (hn : l.length ≤ 1000) (w : World) (base : Nat) (ho : w.ownsRow base 3 1 v l.length (ins l)) :
    Calls Try.prog 36 #[v] w fun e w' => ∃ v, e = .returned v ∧ w'.ownsRow base 3 1 v (Lib.compact l).length (ins (Lib.compact l)) ∧ Below base w w' := by
  have h' := ho
  obtain ⟨h1, h2⟩ := ho
  rcases h2 with ⟨rfl, h0⟩ | ⟨g, cap, cur, rfl, hbg, hg, hnc, hcm, hcs, htk⟩
  · have hl : l = [] := List.length_eq_zero_iff.1 h0
    subst hl
    refine (Try.slices_Compact_int_empty none 0 w).mono ?_
    rintro e w' ⟨rfl, rfl⟩
    exact ⟨_, rfl, World.ownsRow_nil _ _ _ _, Below.refl _ _⟩
  · obtain ⟨CU, rfl⟩ : ∃ CU : List Value, cur = CU.toArray := ⟨cur.toList, by simp⟩
    have hblk : Blk w g CU := ⟨_, hg⟩
    have hcl : CU.length = cap := by simpa using hcs
    have htk' : CU.take l.length = ins l := by simpa using htk
    refine (Try.slices_Compact_int_cells g 0 l.length cap l w (Nat.le_refl _) (by omega) hnc ?_ ?_).mono ?_
    · intro j hj
      refine hblk.cell (0 + j) ?_
      have e1 : (CU.take l.length)[j]? = some (.int .i64 (l.getD j 0)) := by rw [htk']; simp [ins, List.getD_eq_getElem?_getD, hj]
      rw [List.getElem?_take_of_lt hj] at e1
      rw [Nat.zero_add]; exact e1
    · intro j hj
      exact hblk.free _
    · rintro e w' ⟨rfl, q, rfl⟩
      rw [List.take_length]
      have hle := Lib.compact_length_le l
      generalize Lib.compact l = C at *
      obtain ⟨c2, hg2, hc2⟩ := heap_setCells g 3 ((C ++ List.replicate (l.length - C.length) 0).map (Value.int .i64)) 0 (w.drewN q) CU hg (by simp; omega)
      have hlen : c2.length = cap := by rw [hc2]; simp; omega
      refine ⟨_, rfl, ⟨ins_len _, .inr ⟨g, cap, c2.toArray, rfl, hbg, hg2, by omega, hcm, by simp [hlen], ?_⟩⟩, ?_⟩
      · rw [hc2]
        simp [ins, List.take_append]
      · exact Lib.below_setCells g hbg _ _ (below_drewN (Below.refl _ _) q)

set_option maxHeartbeats 800000 in
theorem uniq_any (a : Option Addr) (c : Nat) (l : List Int) (hp : l.Pairwise (· ≤ ·)) (hn : l.length ≤ 1000) (w : World) (hr : Rd w a (ins l)) :
    Calls Try.prog 23 #[.slice a l.length c] w fun e w' => ∃ v, e = .returned v ∧ w'.ownsRow w.heap.size 3 1 v (Lib.compact l).length (ins (Lib.compact l)) ∧ Below w.heap.size w w' := by
  have hs := sorted_any a c l hp hn w hr
  have hc := fun v w1 h => compactI_any 0 v l hn w1 w.heap.size h
  generalize Lib.compact l = C at *
  clear hp hr
  go_enter Try.func23, Try.ntmps23
  go_wp2_with fail
  refine hs.mono ?_
  rintro e w1 ⟨v, rfl, ho, hb⟩
  go_wp2_with fail
  refine (hc v w1 ho).mono ?_
  rintro e w2 ⟨v2, rfl, ho2, hb2⟩
  go_wp2
  go_ret
  exact ⟨_, rfl, ho2, hb.trans hb2⟩
end Go.Proofs.Ytmmhkageehlknaa
