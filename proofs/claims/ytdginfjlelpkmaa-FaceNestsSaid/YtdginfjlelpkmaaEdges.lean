/-
  ring.edges: the iterator.
-/
import Derived.Test.YtdginfjlelpkmaaExact
import Derived.Test.YtdginfjlelpkmaaKeep
import Derived.Test.YtdginfjlelpkmaaAhead
import Derived.Shelf.Abstract
import Derived.Shelf.RegionOpen
import Derived.OwnWalkIn
import Derived.TacticsInMore
import Derived.LoopNIn
import Derived.LoopIn
import Derived.BigRegionIn
import Derived.Stop.RegionWithIn
set_option linter.unusedVariables false
set_option linter.unusedSimpArgs false
namespace Go
/-- A ring's edges. -/
def edges (l : List Pt) : List (Pt × Pt) := (List.range l.length).map fun i => (l[i]!, l[(i + 1) % l.length]!)
end Go
namespace Go.Proofs.Ytdginfjlelpkmaa
open Go.RowKit
attribute [local go_sem] Oper.semAt_some

def KpP (n₀ : Nat) (A B : World) : Prop := Below n₀ A B ∧ KeepT 66 66 A B

set_option maxRecDepth 100000 in
set_option maxHeartbeats 1000000 in
theorem edges1_in (n : Nat) (l Bn : Nat) (a : Option Addr) (c : Nat) (L : List Pt) (hlen : L.length ≤ 1000000) (w0 : World) (hr0 : Rd w0 a (pts L))
    (J : List (Pt × Pt) → World → Prop) (W : World) (hbl : Below w0.heap.size w0 W) (hJ : AbidesFrom W.heap.size J) (fr : Nat × Nat) (hBn : W.heap[Bn]? = some (.cells #[.slice a L.length c] 66 fr))
    (hY : ∀ pre x W1, J pre W1 → (pre.length < L.length ∧ x = (L[pre.length]!, L[(pre.length + 1) % L.length]!)) → YieldAt Fence.wide (n - 1) Try.prog l #[x.1.val, x.2.val] W1 fun e W' => e = .returned (.bool true) ∧ J (pre ++ [x]) W' ∧ KpP w0.heap.size W1 W')
    (h0 : J [] W) :
    CallsIn Fence.wide n Try.prog 67 #[.func (.yield l) #[] #[], .pointer (some ⟨Bn, 0, none⟩)] W fun e W' => (∃ v, e = .returned v) ∧ ∃ xs, xs = edges L ∧ J xs W' := by
  refine callsIn_of_wp Try.func67 rfl trivial ?_ rfl
  simp only [Try.ntmps67, List.size_toArray, List.length_cons, List.length_nil, Nat.reduceAdd, Nat.reduceSub, Array.replicate_succ, Array.replicate_zero, List.push_toArray, List.append_toArray, List.nil_append, List.cons_append]
  have hbc : W.cell? ⟨Bn, 0, none⟩ = some (.slice a L.length c) := by simp [World.cell?, hBn]
  gi_wp2
  gi_loopw [7] (fun i wr => ∃ k : Nat, i = .int .i64 k ∧ k ≤ L.length ∧ J ((edges L).take k) wr ∧ Below w0.heap.size w0 wr ∧ wr.heap[Bn]? = some (.cells #[.slice a L.length c] 66 fr)) (fun i _ => L.length - (intOf i).toNat)
  case atStart => exact ⟨0, rfl, Nat.zero_le _, h0, hbl, hBn⟩
  case round =>
    obtain ⟨k, rfl, hk, hj, hb1, hBx⟩ := hrel
    have hbc' : wr.cell? ⟨Bn, 0, none⟩ = some (.slice a L.length c) := by simp [World.cell?, hBx]
    have HY := Lib.hid hY
    have HJ := Lib.hid hJ
    clear hY hBn hbc hJ
    by_cases hlt : k < L.length
    · obtain ⟨q, hq⟩ : ∃ q, (k + 1) % L.length = q := ⟨_, rfl⟩
      have hql : q < L.length := by rw [← hq]; exact Nat.mod_lt _ (by omega)
      obtain ⟨b, off, rfl, hb, c0, c1⟩ := (hr0.keep hb1).pt k hlt
      obtain ⟨b', off', e, hb', d0, d1⟩ := (hr0.keep hb1).pt q hql
      cases e
      have hek : (edges L)[k]? = some (L[k], L[q]) := by
        unfold edges
        rw [List.getElem?_map, List.getElem?_range hlt]
        simp only [Option.map_some, hq]
        rw [getElem!_pos L k hlt, getElem!_pos L q hql]
      have hel : (edges L).length = L.length := by simp [edges]
      have htk : ((edges L).take k).length = k := by rw [List.length_take, hel]; omega
      have hsn : (edges L).take (k + 1) = (edges L).take k ++ [(L[k], L[q])] := by
        rw [List.take_add_one, hek]; rfl
      have hxe : (L[((edges L).take k).length]!, L[(((edges L).take k).length + 1) % L.length]!) = (L[k], L[q]) := by
        rw [htk, hq, getElem!_pos L k hlt, getElem!_pos L q hql]
      have hyy := fun W1 hj1 => HY.out ((edges L).take k) (L[k], L[q]) W1 hj1 ⟨by rw [htk]; exact hlt, hxe.symm⟩
      have hrem : ((k : Int) + 1) % (L.length : Int) = (q : Int) := by rw [← hq]; simp
      obtain ⟨⟨x1, y1⟩, hp1⟩ : ∃ p, L[k] = p := ⟨_, rfl⟩
      obtain ⟨⟨x2, y2⟩, hp2⟩ : ∃ p, L[q] = p := ⟨_, rfl⟩
      rw [hp1] at c0 c1
      rw [hp2] at d0 d1
      rw [hp1, hp2] at hsn hyy
      dsimp only [Pt.val] at c0 c1 d0 d1 hyy
      have HSN := Lib.hid hsn
      have hbA := Below.new wr (.cells #[.int .i64 x1, .int .i64 y1] 37)
      have hjA := HJ.out _ _ _ none hj (grownBy_of_below hbA none) (fun r h => by cases h)
      have hjB : J ((edges L).take k) (wr.alloc (.cells #[.int .i64 x1, .int .i64 y1] 37)).drew := HJ.out _ _ _ none hjA ⟨rfl, rfl, rfl, Nat.le_refl _, fun _ _ _ => rfl⟩ (fun r h => by cases h)
      obtain ⟨fn, tmps, assign, body, hy, hR⟩ := hyy _ hjB
      have HR := Lib.hid hR
      have hlz : (L.length : Int) ≠ 0 := by omega
      clear hyy hq hek hel htk hxe hp1 hp2 hR hjA hjB hsn
      have hrem2 : (IntKind.i64.wrap ((k : Int) + 1)).tmod (L.length : Int) = (q : Int) := by
        rw [IntWalk.i64_in _ (by omega), Int.tmod_eq_emod_of_nonneg (by omega)]
        exact hrem
      have hq0 : (0 : Int) ≤ (q : Int) ∧ (q : Int) < (L.length : Int) := by omega
      have hnb : b ≠ wr.heap.size := by omega
      have hBl : Bn < wr.heap.size := (Array.getElem?_eq_some_iff.1 hBx).1
      have hnB : Bn ≠ wr.heap.size := by omega
      have hnil : ¬ L = [] := by intro h; rw [h] at hlt; simp at hlt
      have hln : ¬ L.length = 0 := by omega
      gi_wp2
      gi_region_with (refine ⟨(fun h => by cases h), HR.out.mono ?_⟩; rintro e W3 ⟨rfl, hJ3, hk3⟩)
      all_goals
        gi_wp2
        go_roundw
        case rel =>
          refine ⟨k + 1, by go_num, by omega, ?_, ?_, ?_⟩
          · rw [HSN.out]; exact hJ3
          · exact (hb1.trans ((hbA.drew).mono hb1.size)).trans hk3.1
          · exact (hk3.2.2 Bn _ _ _ ((heap_alloc_old wr _ hBl).trans hBx) (.inl rfl)).trans ((heap_alloc_old wr _ hBl).trans hBx)
        case measure => simp [intOf]; omega
    · obtain rfl : k = L.length := by omega
      have hall : (edges L).take L.length = edges L := List.take_of_length_le (by simp [edges])
      rw [hall] at hj
      gi_wp2
      go_end0
      exact ⟨⟨_, rfl⟩, edges L, rfl, hj⟩
end Go.Proofs.Ytdginfjlelpkmaa
