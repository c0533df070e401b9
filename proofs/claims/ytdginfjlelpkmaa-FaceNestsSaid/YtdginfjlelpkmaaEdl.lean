/-
  ring.edges: the iterator, whose caller may leave.
-/
import Derived.Test.YtdginfjlelpkmaaPts
import Derived.Test.YtdginfjlelpkmaaProg
import Derived.Test.YtdginfjlelpkmaaKeep
import Derived.Test.YtdginfjlelpkmaaLeave
import Derived.Test.YtdginfjlelpkmaaEdges
import Derived.Test.YtdginfjlelpkmaaRngw
import Derived.Shelf.Abstract
import Derived.Shelf.RegionOpen
import Derived.OwnWalkIn
import Derived.TacticsInMore
import Derived.LoopNIn
import Derived.LoopIn
import Derived.BigRegionIn
import Derived.Stop.RegionWithIn
set_option linter.unusedVariables false
set_option linter.unusedSimpArgs false
namespace Go
theorem yield_bool {e : Ending} {A B C : Prop} (h : (e = .returned (.bool true) ∧ A ∧ B) ∨ (e = .returned (.bool false) ∧ C)) : ∃ b, e = .returned (.bool b) ∧ ((b = true ∧ A ∧ B) ∨ (b = false ∧ C)) := by
  rcases h with ⟨h, a⟩ | ⟨h, c⟩
  · exact ⟨true, h, .inl ⟨rfl, a⟩⟩
  · exact ⟨false, h, .inr ⟨rfl, c⟩⟩
end Go
namespace Go.Proofs.Ytdginfjlelpkmaa
open Go.RowKit
attribute [local go_sem] Oper.semAt_some

/-- What a round keeps: the row, and the block Bn. -/
def KpR (a : Option Addr) (L : List Pt) (Bn : Nat) (A B : World) : Prop := (Rd A a (pts L) → Rd B a (pts L)) ∧ B.heap[Bn]? = A.heap[Bn]?

set_option maxRecDepth 100000 in
set_option maxHeartbeats 1000000 in
theorem edges1_lv (n : Nat) (l Bn : Nat) (a : Option Addr) (c : Nat) (L : List Pt) (hlen : L.length ≤ 1000000)
    (J Jx : List (Pt × Pt) → World → Prop) (W : World) (hr0 : Rd W a (pts L)) (hJ : AbidesFrom W.heap.size J) (hJx : AbidesFrom W.heap.size Jx) (fr : Nat × Nat) (hBn : W.heap[Bn]? = some (.cells #[.slice a L.length c] 66 fr))
    (hY : ∀ pre x W1, J pre W1 → (pre.length < L.length ∧ x = (L[pre.length]!, L[(pre.length + 1) % L.length]!)) → YieldAt Fence.wide (n - 1) Try.prog l #[x.1.val, x.2.val] W1 fun e W' => (e = .returned (.bool true) ∧ J (pre ++ [x]) W' ∧ KpR a L Bn W1 W') ∨ (e = .returned (.bool false) ∧ Jx (pre ++ [x]) W'))
    (h0 : J [] W) :
    CallsIn Fence.wide n Try.prog 67 #[.func (.yield l) #[] #[], .pointer (some ⟨Bn, 0, none⟩)] W fun e W' => (∃ v, e = .returned v) ∧ ((∃ xs, xs = edges L ∧ J xs W') ∨ ∃ pre, Jx pre W') := by
  refine callsIn_of_wp Try.func67 rfl trivial ?_ rfl
  simp only [Try.ntmps67, List.size_toArray, List.length_cons, List.length_nil, Nat.reduceAdd, Nat.reduceSub, Array.replicate_succ, Array.replicate_zero, List.push_toArray, List.append_toArray, List.nil_append, List.cons_append]
  have hbc : W.cell? ⟨Bn, 0, none⟩ = some (.slice a L.length c) := by simp [World.cell?, hBn]
  gi_wp2
  gi_loopw [7] (fun i wr => ∃ k : Nat, i = .int .i64 k ∧ k ≤ L.length ∧ J ((edges L).take k) wr ∧ Rd wr a (pts L) ∧ wr.heap[Bn]? = some (.cells #[.slice a L.length c] 66 fr)) (fun i _ => L.length - (intOf i).toNat)
  case atStart => exact ⟨0, rfl, Nat.zero_le _, h0, hr0, hBn⟩
  case round =>
    obtain ⟨k, rfl, hk, hj, hb1, hBx⟩ := hrel
    have hbc' : wr.cell? ⟨Bn, 0, none⟩ = some (.slice a L.length c) := by simp [World.cell?, hBx]
    have HY := Lib.hid hY
    have HJ := Lib.hid hJ
    have HJX := Lib.hid hJx
    clear hY hBn hbc hJ hJx
    by_cases hlt : k < L.length
    · obtain ⟨q, hq⟩ : ∃ q, (k + 1) % L.length = q := ⟨_, rfl⟩
      have hql : q < L.length := by rw [← hq]; exact Nat.mod_lt _ (by omega)
      obtain ⟨b, off, rfl, hb, c0, c1⟩ := hb1.pt k hlt
      obtain ⟨b', off', e, hb', d0, d1⟩ := hb1.pt q hql
      cases e
      have hek : (edges L)[k]? = some (L[k], L[q]) := by
        unfold edges
        rw [List.getElem?_map, List.getElem?_range hlt]
        simp only [Option.map_some, hq]
        rw [getElem!_pos L k hlt, getElem!_pos L q hql]
      have hel : (edges L).length = L.length := by simp [edges]
      have htk : ((edges L).take k).length = k := by rw [List.length_take, hel]; omega
      have hsn : (edges L).take (k + 1) = (edges L).take k ++ [(L[k], L[q])] := by
        rw [List.take_add_one, hek]; rfl
      have hxe : (L[((edges L).take k).length]!, L[(((edges L).take k).length + 1) % L.length]!) = (L[k], L[q]) := by
        rw [htk, hq, getElem!_pos L k hlt, getElem!_pos L q hql]
      have hyy := fun W1 hj1 => HY.out ((edges L).take k) (L[k], L[q]) W1 hj1 ⟨by rw [htk]; exact hlt, hxe.symm⟩
      have hrem : ((k : Int) + 1) % (L.length : Int) = (q : Int) := by rw [← hq]; simp
      obtain ⟨⟨x1, y1⟩, hp1⟩ : ∃ p, L[k] = p := ⟨_, rfl⟩
      obtain ⟨⟨x2, y2⟩, hp2⟩ : ∃ p, L[q] = p := ⟨_, rfl⟩
      rw [hp1] at c0 c1
      rw [hp2] at d0 d1
      rw [hp1, hp2] at hsn hyy
      dsimp only [Pt.val] at c0 c1 d0 d1 hyy
      have HSN := Lib.hid hsn
      have hbA := Below.new wr (.cells #[.int .i64 x1, .int .i64 y1] 37)
      have hjA := HJ.out _ _ _ none hj (grownBy_of_below hbA none) (fun r h => by cases h)
      have hjB : J ((edges L).take k) (wr.alloc (.cells #[.int .i64 x1, .int .i64 y1] 37)).drew := HJ.out _ _ _ none hjA ⟨rfl, rfl, rfl, Nat.le_refl _, fun _ _ _ => rfl⟩ (fun r h => by cases h)
      obtain ⟨fn, tmps, assign, body, hy, hR⟩ := hyy _ hjB
      have HR := Lib.hid hR
      have HRD := Lib.hid hb1
      clear hb1
      have hlz : (L.length : Int) ≠ 0 := by omega
      clear hyy hq hek hel htk hxe hp1 hp2 hR hjA hjB hsn
      have hrem2 : (IntKind.i64.wrap ((k : Int) + 1)).tmod (L.length : Int) = (q : Int) := by
        rw [IntWalk.i64_in _ (by omega), Int.tmod_eq_emod_of_nonneg (by omega)]
        exact hrem
      have hq0 : (0 : Int) ≤ (q : Int) ∧ (q : Int) < (L.length : Int) := by omega
      have hnb : b ≠ wr.heap.size := by omega
      have hBl : Bn < wr.heap.size := (Array.getElem?_eq_some_iff.1 hBx).1
      have hnB : Bn ≠ wr.heap.size := by omega
      have hnil : ¬ L = [] := by intro h; rw [h] at hlt; simp at hlt
      have hln : ¬ L.length = 0 := by omega
      gi_wp2
      gi_region_with (refine ⟨(fun h => by cases h), HR.out.mono ?_⟩; rintro e W3 hW3; obtain ⟨bb, rfl, hcs⟩ := yield_bool hW3; replace hcs := Lib.hid hcs)
      all_goals
        rcases hcs.out with ⟨rfl, hJ3, hk3⟩ | ⟨rfl, hJ3⟩
        · gi_wp2
          go_roundw
          case rel =>
            refine ⟨k + 1, by go_num, by omega, ?_, ?_, ?_⟩
            · rw [HSN.out]; exact hJ3
            · exact hk3.1 (HRD.out.alloc _).drew
            · exact hk3.2.trans ((heap_alloc_old wr _ hBl).trans hBx)
          case measure => simp [intOf]; omega
        · gi_wp2
          exact ⟨rfl, .tuple #[], by simp [results, Try.results67, go_sem], ⟨_, rfl⟩, .inr ⟨_, hJ3⟩⟩
    · obtain rfl : k = L.length := by omega
      have hall : (edges L).take L.length = edges L := List.take_of_length_le (by simp [edges])
      rw [hall] at hj
      gi_wp2
      go_end0
      exact ⟨⟨_, rfl⟩, .inl ⟨edges L, rfl, hj⟩⟩
theorem edges_inL (n : Nat) (a : Option Addr) (m c : Nat) (w : World) :
    CallsIn Fence.wide n Try.prog 52 #[.slice a m c] w fun e w' => e = .returned (.func (.func 67) #[] #[.pointer (some ⟨w.heap.size, 0, none⟩)]) ∧ w' = w.alloc (.cells #[.slice a m c] 66) := by
  refine callsIn_of_wp Try.func52 rfl trivial ?_ rfl
  simp only [Try.ntmps52, List.size_toArray, List.length_cons, List.length_nil, Nat.reduceAdd, Nat.reduceSub, Array.replicate_succ, Array.replicate_zero, List.push_toArray, List.append_toArray, List.nil_append, List.cons_append]
  gi_wp2
  go_ret
  exact ⟨rfl, rfl⟩

theorem edges_leave (n : Nat) (Bn : Nat) (a : Option Addr) (c : Nat) (L : List Pt) (hlen : L.length ≤ 1000000)
    (W0 : World) (hr : Rd W0 a (pts L)) (fr : Nat × Nat) (hBn : W0.heap[Bn]? = some (.cells #[.slice a L.length c] 66 fr)) :
    SeqLeave Fence.wide n Try.prog 67 #[.pointer (some ⟨Bn, 0, none⟩)] (fun x : Pt × Pt => #[x.1.val, x.2.val]) (fun pre x _ => pre.length < L.length ∧ x = (L[pre.length]!, L[(pre.length + 1) % L.length]!)) (KpR a L Bn) (fun xs _ => xs = edges L) W0 := by
  intro l J Jx W hb0 hJ hJx hY h0
  exact edges1_lv n l Bn a c L hlen J Jx W (hr.keep hb0) hJ hJx fr ((hb0.block Bn (Array.getElem?_eq_some_iff.1 hBn).1).trans hBn) hY h0

theorem KpR.putObj {a : Option Addr} {L : List Pt} {Bn : Nat} {w : World} (hB : Bn < w.heap.size) (W : World) (l : Nat) (o o' : Obj) (hl : w.heap.size ≤ l) (h1 : W.heap[l]? = some o) (h2 : o.isCells = false) : KpR a L Bn W (W.putObj l o') :=
  ⟨fun h => h.putObj o' h1 h2, World.putObj_heap_other (fun e => by omega)⟩
theorem KpR.trans {a : Option Addr} {L : List Pt} {Bn : Nat} {A B C : World} (h : KpR a L Bn A B) (k : KpR a L Bn B C) : KpR a L Bn A C := ⟨fun x => k.1 (h.1 x), k.2.trans h.2⟩
end Go.Proofs.Ytdginfjlelpkmaa
