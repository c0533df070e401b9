/-
  face.sides: the sides of faces, as an iterator whose body may leave. face.Sides: slices.Collect of the sides. append inside a region that draws its order.
-/
import Derived.Test.YtebplobagmjfeaaPk2
import Derived.Test.YtebplobagmjfeaaPk5
import Derived.Shelf.Abstract
import Derived.Shelf.RegionOpen
import Derived.OwnWalkIn
import Derived.TacticsInMore
import Derived.LoopNIn
import Derived.LoopIn
import Derived.BigRegionIn
import Derived.Stop.RegionWithIn
import Derived.RangeFuncBox
import Derived.Test.YtebplobagmjfeaaPk3
/- face.sides: the sides of faces, as an iterator whose body may leave. -/
set_option linter.unusedVariables false
set_option linter.unusedSimpArgs false
set_option maxRecDepth 100000
namespace Go
open Go.RowKit
/-- A side. -/
structure Sd where
  f : Nat
  r : Nat
  a : Pt
  b : Pt
instance : Inhabited Sd := ⟨⟨0, 0, default, default⟩⟩
def Sd.val (s : Sd) : Value := .agg #[.int .i64 s.f, .int .i64 s.r, .int .i64 s.a.x, .int .i64 s.a.y, .int .i64 s.b.x, .int .i64 s.b.y]
def Sd.cells (s : Sd) : List Value := [.int .i64 s.f, .int .i64 s.r, .int .i64 s.a.x, .int .i64 s.a.y, .int .i64 s.b.x, .int .i64 s.b.y]
def ringSd (i k : Nat) (r : List Pt) : List Sd := (edges r).map fun e => ⟨i, k, e.1, e.2⟩
def faceSd (i : Nat) (f : List (List Pt)) (n : Nat) : List Sd := (List.range n).flatMap fun k => ringSd i k f[k]!
def someSd (l : List (List (List Pt))) (n : Nat) : List Sd := (List.range n).flatMap fun i => faceSd i l[i]! (l[i]!).length
/-- The sides of faces. -/
def allSd (l : List (List (List Pt))) : List Sd := someSd l l.length
theorem faceSd_succ (i : Nat) (f : List (List Pt)) (n : Nat) : faceSd i f (n + 1) = faceSd i f n ++ ringSd i n f[n]! := by
  simp [faceSd, List.range_succ, List.flatMap_append]
theorem someSd_succ (l : List (List (List Pt))) (n : Nat) : someSd l (n + 1) = someSd l n ++ faceSd n l[n]! (l[n]!).length := by
  simp [someSd, List.range_succ, List.flatMap_append]
theorem faceSd_pre (i : Nat) (f : List (List Pt)) {n m : Nat} (h : n ≤ m) : faceSd i f n <+: faceSd i f m := by
  induction m with
  | zero => obtain rfl : n = 0 := by omega
            exact List.prefix_refl _
  | succ m ih =>
    by_cases e : n = m + 1
    · rw [e]; exact List.prefix_refl _
    · rw [faceSd_succ]; exact (ih (by omega)).trans (List.prefix_append _ _)
theorem someSd_pre (l : List (List (List Pt))) {n m : Nat} (h : n ≤ m) : someSd l n <+: someSd l m := by
  induction m with
  | zero => obtain rfl : n = 0 := by omega
            exact List.prefix_refl _
  | succ m ih =>
    by_cases e : n = m + 1
    · rw [e]; exact List.prefix_refl _
    · rw [someSd_succ]; exact (ih (by omega)).trans (List.prefix_append _ _)
theorem sd_ahead (l : List (List (List Pt))) (i k n : Nat) (hi : i < l.length) (hk : k < (l[i]!).length) (hn : n < ((l[i]!)[k]!).length) :
    (someSd l i ++ (faceSd i l[i]! k ++ (ringSd i k (l[i]!)[k]!).take n)) ++ [⟨i, k, ((l[i]!)[k]!)[n]!, ((l[i]!)[k]!)[(n + 1) % ((l[i]!)[k]!).length]!⟩] = someSd l i ++ (faceSd i l[i]! k ++ (ringSd i k (l[i]!)[k]!).take (n + 1)) ∧
    someSd l i ++ (faceSd i l[i]! k ++ (ringSd i k (l[i]!)[k]!).take (n + 1)) <+: allSd l := by
  constructor
  · have : (ringSd i k (l[i]!)[k]!)[n]? = some ⟨i, k, ((l[i]!)[k]!)[n]!, ((l[i]!)[k]!)[(n + 1) % ((l[i]!)[k]!).length]!⟩ := by
      unfold ringSd edges
      rw [List.getElem?_map, List.getElem?_map, List.getElem?_range hn]
      rfl
    rw [List.take_add_one, this]
    simp
  · refine List.IsPrefix.trans ?_ (someSd_pre l (show i + 1 ≤ l.length by omega))
    rw [someSd_succ]
    refine (List.prefix_append_right_inj _).2 ?_
    refine List.IsPrefix.trans ?_ (faceSd_pre i l[i]! (show k + 1 ≤ (l[i]!).length by omega))
    rw [faceSd_succ]
    exact (List.prefix_append_right_inj _).2 (List.take_prefix _ _)
end Go
namespace Go.Proofs.Ytebplobagmjfeaa
open Go.RowKit
attribute [local go_sem] Oper.semAt_some

set_option maxHeartbeats 3200000 in
theorem sides1_in (n : Nat) (l Bn : Nat) (a : Option Addr) (c : Nat) (L : List Fc) (hlen : L.length ≤ 1000000) (hl1 : ∀ f ∈ L, f.rs.length ≤ 1000000) (hl2 : ∀ f ∈ L, ∀ r ∈ f.rs, r.l.length ≤ 1000000)
    (W0 : World) (hr0 : Rd W0 a (fcs L)) (hok : ∀ f ∈ L, f.Ok W0) (fr : Nat × Nat) (hBn : W0.heap[Bn]? = some (.cells #[.slice a L.length c] 22 fr))
    (J Jx : List Sd → World → Prop) (W : World) (hb0 : Below W0.heap.size W0 W) (hJ : AbidesFrom W.heap.size J) (hJx : AbidesFrom W.heap.size Jx)
    (hY : ∀ pre x W1, J pre W1 → pre ++ [x] <+: allSd (L.map Fc.rings) → YieldAt Fence.wide (n - 1) Try.prog l #[x.val] W1 fun e W' => (e = .returned (.bool true) ∧ J (pre ++ [x]) W' ∧ Below W0.heap.size W1 W') ∨ (e = .returned (.bool false) ∧ Jx (pre ++ [x]) W'))
    (h0 : J [] W) :
    CallsIn Fence.wide n Try.prog 52 #[.func (.yield l) #[] #[], .pointer (some ⟨Bn, 0, none⟩)] W fun e W' => (∃ v, e = .returned v) ∧ ((∃ xs, xs = allSd (L.map Fc.rings) ∧ J xs W') ∨ ∃ pre, Jx pre W') := by
  refine callsIn_of_wp Try.func52 rfl trivial ?_ rfl
  simp only [Try.ntmps52, List.size_toArray, List.length_cons, List.length_nil, Nat.reduceAdd, Nat.reduceSub, Array.replicate_succ, Array.replicate_zero, List.push_toArray, List.append_toArray, List.nil_append, List.cons_append]
  have hBl : Bn < W0.heap.size := (Array.getElem?_eq_some_iff.1 hBn).1
  have hBW := (hb0.block Bn hBl).trans hBn
  have hbc : W.cell? ⟨Bn, 0, none⟩ = some (.slice a L.length c) := by simp [World.cell?, hBW]
  have HY := Lib.hid hY
  have HJ := Lib.hid hJ
  have HR := Lib.hid hr0
  have HOK := Lib.hid hok
  have HL1 := Lib.hid hl1
  have HL2 := Lib.hid hl2
  obtain ⟨N, hN⟩ : ∃ N, L.length = N := ⟨_, rfl⟩
  have HN := Lib.hid hN
  rw [hN] at hlen hbc
  obtain ⟨RL, hRL⟩ : ∃ R, L.map Fc.rings = R := ⟨_, rfl⟩
  have HRL := Lib.hid hRL
  rw [hRL] at HY ⊢
  clear hY hJ hJx hr0 hok hl1 hl2 hN hRL hBn hBW
  gi_wp2
  gi_loopw [11] (fun i wr => ∃ k : Nat, i = .int .i64 k ∧ k ≤ N ∧ J (someSd RL k) wr ∧ Below W0.heap.size W0 wr ∧ W.heap.size ≤ wr.heap.size) (fun i _ => N - (intOf i).toNat)
  case atStart => exact ⟨0, rfl, Nat.zero_le _, h0, hb0, Nat.le_refl _⟩
  case round =>
    obtain ⟨i, rfl, hi, hj, hbw, hsw⟩ := hrel
    by_cases hlt : i < N
    · have hlt' : (i : Int) < (N : Int) := by omega
      have hil : i < L.length := by rw [HN.out]; exact hlt
      obtain ⟨b1, o1, rfl, hbb, c0, c1⟩ := (HR.out.keep hbw).fc i hil
      have hiR : i < RL.length := by rw [← HRL.out, List.length_map]; exact hil
      have HRI : Hid (RL[i]! = L[i].rs.map PC.l) := Lib.hid (by rw [getElem!_pos RL i hiR]; simp only [← HRL.out, List.getElem_map, Fc.rings])
      have HFO := Lib.hid (HOK.out _ (List.getElem_mem hil))
      have hf1 := HL1.out _ (List.getElem_mem hil)
      have HF2 := Lib.hid (HL2.out _ (List.getElem_mem hil))
      generalize L[i] = f at *
      obtain ⟨rs, ra, rc, ls, aa, ac⟩ := f
      dsimp only [Fc.rval, Fc.aval] at c0 c1 hf1 HF2 HRI
      obtain ⟨RN, hRN⟩ : ∃ R, rs.length = R := ⟨_, rfl⟩
      have HRN := Lib.hid hRN
      rw [hRN] at c0 hf1
      clear hRN
      have hnb : b1 ≠ wr.heap.size := by omega
      gi_wp2
      have hbA := Below.new wr (.cells #[.slice ra RN rc, .slice aa ls.length ac] 49)
      have hjA := HJ.out _ _ _ none hj (grownBy_of_below hbA none) (fun r h => by cases h)
      have hA0 := hbw.trans (hbA.mono hbw.size)
      have hsA : W.heap.size ≤ (wr.alloc (.cells #[.slice ra RN rc, .slice aa ls.length ac] 49)).heap.size := by simp; omega
      have HAH := Lib.hid (fun k n => sd_ahead RL i k n hiR)
      have HSU := Lib.hid (someSd_succ RL i)
      obtain ⟨FR, hFR⟩ : ∃ R, RL[i]! = R := ⟨_, rfl⟩
      rw [hFR] at HAH HRI HSU
      have hFRl : FR.length = RN := by rw [HRI.out, List.length_map, HRN.out]
      rw [hFRl] at HSU HAH
      clear hFR hbA hj
      generalize wr.alloc (.cells #[.slice ra RN rc, .slice aa ls.length ac] 49) = wA at *
      gi_loopw [19] (fun k wr => ∃ j : Nat, k = .int .i64 j ∧ j ≤ RN ∧ J (someSd RL i ++ faceSd i FR j) wr ∧ Below W0.heap.size W0 wr ∧ W.heap.size ≤ wr.heap.size) (fun k _ => RN - (intOf k).toNat)
      case atStart => exact ⟨0, rfl, Nat.zero_le _, by simpa [faceSd] using hjA, hA0, hsA⟩
      case round =>
        obtain ⟨k, rfl, hk, hj2, hb2, hs2⟩ := hrel
        by_cases hkt : k < RN
        · have hkt' : (k : Int) < (RN : Int) := by omega
          have hkl : k < rs.length := by rw [HRN.out]; exact hkt
          obtain ⟨b2, o2, rfl, hbb2, d0⟩ := (HFO.out.1.1.keep hb2).rc k hkl
          have hkF : k < FR.length := by rw [hFRl]; exact hkt
          have HRK : Hid (FR[k]! = rs[k].l) := Lib.hid (by rw [getElem!_pos FR k hkF]; simp only [HRI.out, List.getElem_map])
          have HRO := Lib.hid (HFO.out.2.1 _ (List.getElem_mem hkl))
          have hl2 := HF2.out _ (List.getElem_mem hkl)
          have HAK := Lib.hid (fun n => HAH.out k n hkt)
          have HFU := Lib.hid (faceSd_succ i FR k)
          rw [HRK.out] at HAK HFU
          clear HRK
          generalize rs[k] = R at *
          obtain ⟨LL, Rp, Rc⟩ := R
          dsimp only [PC.val] at d0 hl2 HAK HFU
          obtain ⟨LN, hLN⟩ : ∃ R, LL.length = R := ⟨_, rfl⟩
          have HLN := Lib.hid hLN
          rw [hLN] at d0 hl2 HAK
          clear hLN
          gi_wp2
          gi_loopw [26] (fun n wr => ∃ j : Nat, n = .int .i64 j ∧ j ≤ LN ∧ J (someSd RL i ++ (faceSd i FR k ++ (ringSd i k LL).take j)) wr ∧ Below W0.heap.size W0 wr ∧ W.heap.size ≤ wr.heap.size) (fun n _ => LN - (intOf n).toNat)
          case atStart => exact ⟨0, rfl, Nat.zero_le _, by simpa using hj2, hb2, hs2⟩
          case round =>
            obtain ⟨n, rfl, hn, hj3, hb3, hs3⟩ := hrel
            by_cases hnt : n < LN
            · have hnt' : (n : Int) < (LN : Int) := by omega
              have hnl : n < LL.length := by rw [HLN.out]; exact hnt
              obtain ⟨q, hq⟩ : ∃ q, (n + 1) % LN = q := ⟨_, rfl⟩
              have hqn : q < LN := by rw [← hq]; exact Nat.mod_lt _ (by omega)
              have hql : q < LL.length := by rw [HLN.out]; exact hqn
              obtain ⟨b, off, rfl, hb, c0, c1⟩ := (HRO.out.1.keep hb3).pt n hnl
              obtain ⟨b', off', e, hb', e0, e1⟩ := (HRO.out.1.keep hb3).pt q hql
              cases e
              obtain ⟨HSN, HPX⟩ := HAK.out n hnt
              rw [hq, getElem!_pos LL n hnl, getElem!_pos LL q hql] at HSN
              have hyy := fun W1 hj1 => HY.out _ ⟨i, k, LL[n], LL[q]⟩ W1 hj1 (by rw [HSN]; exact HPX)
              rw [HSN] at hyy
              have hrem : ((n : Int) + 1) % (LN : Int) = (q : Int) := by rw [← hq]; simp
              obtain ⟨⟨x1, y1⟩, hp1⟩ : ∃ p, LL[n] = p := ⟨_, rfl⟩
              obtain ⟨⟨x2, y2⟩, hp2⟩ : ∃ p, LL[q] = p := ⟨_, rfl⟩
              rw [hp1] at c0 c1
              rw [hp2] at e0 e1
              rw [hp1, hp2] at hyy
              dsimp only [Pt.val, Sd.val] at c0 c1 e0 e1 hyy
              have hbB := Below.new wr (.cells #[.int .i64 x1, .int .i64 y1] 37)
              have hjB := HJ.out _ _ _ none hj3 (grownBy_of_below hbB none) (fun r h => by cases h)
              have hjD : J (someSd RL i ++ (faceSd i FR k ++ (ringSd i k LL).take n)) (wr.alloc (.cells #[.int .i64 x1, .int .i64 y1] 37)).drew := HJ.out _ _ _ none hjB ⟨rfl, rfl, rfl, Nat.le_refl _, fun _ _ _ => rfl⟩ (fun r h => by cases h)
              obtain ⟨fn, tmps, assign, body, hy, hR⟩ := hyy _ hjD
              have HRR := Lib.hid hR
              have hbD : Below W0.heap.size W0 (wr.alloc (.cells #[.int .i64 x1, .int .i64 y1] 37)).drew := (hb3.alloc hb3.size _).drew
              have hsD : W.heap.size ≤ (wr.alloc (.cells #[.int .i64 x1, .int .i64 y1] 37)).drew.heap.size := by show W.heap.size ≤ (wr.alloc _).heap.size; simp; omega
              have hlz : (LN : Int) ≠ 0 := by omega
              have hrem2 : (IntKind.i64.wrap ((n : Int) + 1)).tmod (LN : Int) = (q : Int) := by
                rw [IntWalk.i64_in _ (by omega), Int.tmod_eq_emod_of_nonneg (by omega)]
                exact hrem
              have hq0 : (0 : Int) ≤ (q : Int) ∧ (q : Int) < (LN : Int) := by omega
              have hnb2 : b ≠ wr.heap.size := by omega
              have hln : ¬ LN = 0 := by omega
              clear hyy hq hp1 hp2 hR hjB hjD hj3 HSN HPX hrem
              gi_wp2
              gi_region_with (refine ⟨(fun h => by cases h), HRR.out.mono ?_⟩; rintro e W3 hW3; obtain ⟨bb, rfl, hcs⟩ := yield_bool hW3; replace hcs := Lib.hid hcs)
              all_goals
                rcases hcs.out with ⟨rfl, hJ3, hk3⟩ | ⟨rfl, hJ3⟩
                · gi_wp2
                  go_roundw
                  case rel =>
                    exact ⟨n + 1, by go_num, by omega, hJ3, hbD.trans hk3, Nat.le_trans hsD hk3.size⟩
                  case measure => simp [intOf]; omega
                · gi_wp2
                  exact ⟨rfl, .tuple #[], by simp [results, Try.results52, go_sem], ⟨_, rfl⟩, .inr ⟨_, hJ3⟩⟩
            · have hnt' : ¬ (n : Int) < (LN : Int) := by omega
              have hall : (ringSd i k LL).take n = ringSd i k LL := List.take_of_length_le (by simp [ringSd, edges, HLN.out]; omega)
              rw [hall, ← HFU.out] at hj3
              gi_wp2
              go_roundw
              case rel => exact ⟨k + 1, by go_num, by omega, hj3, hb3, hs3⟩
              case measure => simp [intOf]; omega
        · have hkt' : ¬ (k : Int) < (RN : Int) := by omega
          obtain rfl : k = RN := by omega
          rw [← HSU.out] at hj2
          gi_wp2
          go_roundw
          case rel => exact ⟨i + 1, by go_num, by omega, hj2, hb2, hs2⟩
          case measure => simp [intOf]; omega
    · have hlt' : ¬ (i : Int) < (N : Int) := by omega
      have hiN : i = RL.length := by rw [← HRL.out, List.length_map, HN.out]; omega
      gi_wp2
      go_end0
      first
        | exact ⟨⟨_, rfl⟩, .inl ⟨allSd RL, rfl, by unfold allSd; rw [← hiN]; exact hj⟩⟩
        | exact .inl (by unfold allSd; rw [← hiN]; exact hj)
        | exact ⟨⟨_, rfl⟩, .inl (by unfold allSd; rw [← hiN]; exact hj)⟩

theorem sides_in (n : Nat) (a : Option Addr) (m c : Nat) (w : World) :
    CallsIn Fence.wide n Try.prog 27 #[.slice a m c] w fun e w' => e = .returned (.func (.func 52) #[] #[.pointer (some ⟨w.heap.size, 0, none⟩)]) ∧ w' = w.alloc (.cells #[.slice a m c] 22) := by
  refine callsIn_of_wp Try.func27 rfl trivial ?_ rfl
  simp only [Try.ntmps27, List.size_toArray, List.length_cons, List.length_nil, Nat.reduceAdd, Nat.reduceSub, Array.replicate_succ, Array.replicate_zero, List.push_toArray, List.append_toArray, List.nil_append, List.cons_append]
  gi_wp2
  go_ret
  exact ⟨rfl, rfl⟩

theorem sides_leave (n : Nat) (Bn : Nat) (a : Option Addr) (c : Nat) (L : List Fc) (hlen : L.length ≤ 1000000) (hl1 : ∀ f ∈ L, f.rs.length ≤ 1000000) (hl2 : ∀ f ∈ L, ∀ r ∈ f.rs, r.l.length ≤ 1000000)
    (W0 : World) (hr : Rd W0 a (fcs L)) (hok : ∀ f ∈ L, f.Ok W0) (fr : Nat × Nat) (hBn : W0.heap[Bn]? = some (.cells #[.slice a L.length c] 22 fr)) :
    SeqLeave Fence.wide n Try.prog 52 #[.pointer (some ⟨Bn, 0, none⟩)] (fun x : Sd => #[x.val]) (fun pre x _ => pre ++ [x] <+: allSd (L.map Fc.rings)) (Below W0.heap.size) (fun xs _ => xs = allSd (L.map Fc.rings)) W0 := by
  intro l J Jx W hb0 hJ hJx hY h0
  exact sides1_in n l Bn a c L hlen hl1 hl2 W0 hr hok fr hBn J Jx W hb0 hJ hJx hY h0
end Go.Proofs.Ytebplobagmjfeaa
/- face.Sides: slices.Collect of the sides. -/
set_option linter.unusedVariables false
set_option linter.unusedSimpArgs false
set_option maxRecDepth 100000
namespace Go
open Go.RowKit
def sds (l : List Sd) : List Value := l.flatMap Sd.cells
theorem sds_snoc (l : List Sd) (s : Sd) : sds (l ++ [s]) = sds l ++ s.cells := by simp [sds]
theorem Sd.cells_one (s : Sd) : ∀ u ∈ s.cells, u.oneCell' = true := by
  intro u hu
  simp [Sd.cells] at hu
  rcases hu with rfl | rfl | rfl | rfl | rfl | rfl <;> rfl
theorem putObj_below (N : Nat) (W : World) (l : Nat) (o' : Obj) (h : N ≤ l) : Below N W (W.putObj l o') :=
  ⟨rfl, rfl, rfl, by simp [World.putObj], fun k hk => World.putObj_heap_other (fun e => by omega)⟩
/-- What AppendSeq keeps: in block Bs the slice, which owns its row. -/
def ApI (w : World) (Bs : Nat) (T e : TypeId) (pre : List Sd) (W : World) : Prop :=
  ∃ v, Boxed W Bs T v ∧ W.ownsRow w.heap.size e 6 v pre.length (sds pre) ∧ Below w.heap.size w W
theorem ApI.own {w : World} {Bs : Nat} {T e : TypeId} {B : Nat} (hB : w.heap.size ≤ B) : OwnFrom B (ApI w Bs T e) := by
  intro pre X Y row hs hg hr
  obtain ⟨v, h1, h2, h3⟩ := hs
  refine ⟨v, boxed_own Bs T (fun (_ : Unit) => v) () X Y row h1 hg (fun r e => (hr r e).2), h2.kept hg ?_, h3.grown hg h3.size (fun k e => Nat.le_trans hB (hr k e).1)⟩
  rcases h2.2 with ⟨rfl, _⟩ | ⟨g, cap, cur, rfl, _, hgb, _⟩
  · exact .inl rfl
  · refine .inr fun e' => ?_
    obtain ⟨o, ho, hc⟩ := (hr g (by simpa [Value.ownBlock] using e'.symm)).2
    rw [hgb] at ho
    cases ho
    cases hc
end Go
namespace Go
open Go.RowKit
/-- The cells of one side of many. -/
theorem Rd.sd {w : World} {a : Option Addr} {l : List Sd} (h : Rd w a (sds l)) (i : Nat) (hi : i < l.length) :
    ∃ b off, a = some ⟨b, off, none⟩ ∧ b < w.heap.size ∧ w.cell? ⟨b, off + i * 6, none⟩ = some (.int .i64 l[i].f) ∧ w.cell? ⟨b, off + i * 6 + 1, none⟩ = some (.int .i64 l[i].r) ∧ w.cell? ⟨b, off + i * 6 + 2, none⟩ = some (.int .i64 l[i].a.x) ∧ w.cell? ⟨b, off + i * 6 + 3, none⟩ = some (.int .i64 l[i].a.y) ∧ w.cell? ⟨b, off + i * 6 + 4, none⟩ = some (.int .i64 l[i].b.x) ∧ w.cell? ⟨b, off + i * 6 + 5, none⟩ = some (.int .i64 l[i].b.y) := by
  have g : ∀ j, j < 6 → (sds l)[i * 6 + j]? = (l[i]).cells[j]? := fun j hj => flatMap_get Sd.cells 6 (fun _ => rfl) l i j hi hj
  obtain ⟨b, off, rfl, h0, hb⟩ := h.at (i := i * 6 + 0) (v := .int .i64 l[i].f) (by rw [g 0 (by omega)]; rfl)
  obtain ⟨b', off', e, h1, -⟩ := h.at (i := i * 6 + 1) (v := .int .i64 l[i].r) (by rw [g 1 (by omega)]; rfl)
  cases e
  obtain ⟨b', off', e, h2, -⟩ := h.at (i := i * 6 + 2) (v := .int .i64 l[i].a.x) (by rw [g 2 (by omega)]; rfl)
  cases e
  obtain ⟨b', off', e, h3, -⟩ := h.at (i := i * 6 + 3) (v := .int .i64 l[i].a.y) (by rw [g 3 (by omega)]; rfl)
  cases e
  obtain ⟨b', off', e, h4, -⟩ := h.at (i := i * 6 + 4) (v := .int .i64 l[i].b.x) (by rw [g 4 (by omega)]; rfl)
  cases e
  obtain ⟨b', off', e, h5, -⟩ := h.at (i := i * 6 + 5) (v := .int .i64 l[i].b.y) (by rw [g 5 (by omega)]; rfl)
  cases e
  exact ⟨b, off, rfl, hb, h0, by rw [Nat.add_assoc]; exact h1, by rw [Nat.add_assoc]; exact h2, by rw [Nat.add_assoc]; exact h3, by rw [Nat.add_assoc]; exact h4, by rw [Nat.add_assoc]; exact h5⟩
end Go
namespace Go.Proofs.Ytebplobagmjfeaa
open Go.RowKit
attribute [local go_sem] Oper.semAt_some
theorem Try.infoSd : (Try.prog.info? 39).map (fun i => (i.zero, i.size, i.bytes)) = some (some (.agg #[.int .i64 0, .int .i64 0, .int .i64 0, .int .i64 0, .int .i64 0, .int .i64 0]), 6, 48) := by kernel_rfl

set_option maxHeartbeats 3200000 in
theorem appseq_any (Bn : Nat) (a : Option Addr) (c : Nat) (L : List Fc) (hlen : L.length ≤ 1000000) (hl1 : ∀ f ∈ L, f.rs.length ≤ 1000000) (hl2 : ∀ f ∈ L, ∀ r ∈ f.rs, r.l.length ≤ 1000000) (hall : (allSd (L.map Fc.rings)).length ≤ 1000000)
    (w : World) (hr : Rd w a (fcs L)) (hok : ∀ f ∈ L, f.Ok w) (fr : Nat × Nat) (hBn : w.heap[Bn]? = some (.cells #[.slice a L.length c] 22 fr)) :
    Calls Try.prog 51 #[.slice none 0 0, .func (.func 52) #[] #[.pointer (some ⟨Bn, 0, none⟩)]] w fun e w' => ∃ v, e = .returned v ∧ w'.ownsRow w.heap.size 39 6 v (allSd (L.map Fc.rings)).length (sds (allSd (L.map Fc.rings))) ∧ Below w.heap.size w w' := by
  refine (callsIn_wide (n := 5)).1 ?_
  refine callsIn_of_wp_marks Try.func51 rfl trivial ?_ rfl
  simp only [Try.ntmps51, List.size_toArray, List.length_cons, List.length_nil, Nat.reduceAdd, Nat.reduceSub, Array.replicate_succ, Array.replicate_zero, List.push_toArray, List.append_toArray, List.nil_append, List.cons_append]
  refine wpIn_wide.2 ?_
  have HSL := Lib.hid (sides_leave (5 - 1) Bn a c L hlen hl1 hl2 w hr hok fr hBn)
  obtain ⟨i0, hi, hz0, hz1, hz2⟩ := info_parts Try.infoSd
  obtain ⟨ALL, hALL⟩ : ∃ l, allSd (L.map Fc.rings) = l := ⟨_, rfl⟩
  rw [hALL] at HSL hall ⊢
  clear hALL
  have kB := Boxed.new w 29 (.slice none 0 0)
  have hB0 := Below.new w (.cells #[.slice none 0 0] 29)
  go_wp2_with fail
  obtain ⟨W0, hW0⟩ : ∃ W, w.alloc (.cells #[.slice none 0 0] 29) = W := ⟨_, rfl⟩
  have hsz : W0.heap.size = w.heap.size + 1 := by rw [← hW0]; simp
  rw [hW0] at kB hB0 ⊢
  clear hW0
  refine (wpIn_wide (n := 5)).1 ?_
  refine wpIn_rangeFunc_leave rfl (by decide) (gf := 52) (lb := #[.pointer (some ⟨Bn, 0, none⟩)]) rfl trivial (enters_of Try.func52 (by kernel_rfl) rfl)
    HSL.out (fun h k => h.trans k) (fun W l o o' hl h1 h2 => putObj_below _ W l o' (by omega)) hB0 (fun _ => rfl)
    (ApI w w.heap.size 29 39) (fun _ _ _ => False) (ApI.own (by omega)) (fun _ => ownFrom_pure _ _) (ownFrom_pure _ _)
    ⟨_, kB, World.ownsRow_nil _ _ _ _, hB0⟩
    (fun (pre : List Sd) (x : Sd) a' W => ApI w w.heap.size 29 39 pre W ∧ pre ++ [x] <+: ALL ∧ ∃ Bv, w.heap.size + 1 ≤ Bv ∧ Blk W Bv x.cells ∧ a' = { tmps := List.toArray (Value.slice none 0 0 :: (Value.func (Fn.func 52) #[] #[Value.pointer (some ⟨Bn, 0, none⟩)]) :: Value.pointer (some ⟨w.heap.size, 0, none⟩) :: undef :: Value.slice none 0 0 :: Value.pointer (some ⟨Bv, 0, none⟩) :: (Value.func (Fn.func 52) #[] #[Value.pointer (some ⟨Bn, 0, none⟩)]) :: x.val :: undef :: undef :: undef :: undef :: undef :: []), defers := [] })
    ?hM ?assign ?body ?done ?stop
  case hM =>
    rintro pre x a' _ X Y row ⟨hI, hx, Bv, hb, bV, rfl⟩ hg hrow
    have hne : some Bv ≠ row := by
      intro e
      obtain ⟨o, ho, hc⟩ := (hrow Bv e.symm).2
      obtain ⟨U, hU⟩ := bV
      rw [hU] at ho
      cases ho
      cases hc
    exact ⟨ApI.own (B := W0.heap.size) (by omega) pre X Y row hI hg hrow, hx, Bv, hb, bV.grown hg hne, rfl⟩
  case assign =>
    rintro l' pre ⟨fi, ri, ⟨x1, y1⟩, ⟨x2, y2⟩⟩ W hI hx
    dsimp only [Sd.val]
    have HI := Lib.hid hI
    obtain ⟨v, h1, h2, h3⟩ := hI
    have hlt := h1.lt
    clear h1 h2 h3
    gi_wp2
    exact ⟨KeepsOthers.alloc _ _, (Below.refl _ _).alloc (by omega) _, (ApI.own (B := W0.heap.size) (by omega)).alloc _ HI.out, hx, W.heap.size, by omega, Blk.new W [.int .i64 fi, .int .i64 ri, .int .i64 x1, .int .i64 y1, .int .i64 x2, .int .i64 y2] 39, rfl⟩
  case body =>
    rintro l' pre ⟨fi, ri, ⟨x1, y1⟩, ⟨x2, y2⟩⟩ a' W ⟨⟨v, kv, ho, hbl⟩, hpx, Bv, hb, bV, rfl⟩
    have hpl : pre.length + 1 ≤ 1000000 := by
      have := hpx.length_le
      simp at this
      omega
    have HRR := Lib.hid bV
    dsimp only [Sd.cells, Sd.val] at bV ⊢
    have v0 := bV.cell 0 rfl
    have v1 := bV.cell 1 rfl
    have v2 := bV.cell 2 rfl
    have v3 := bV.cell 3 rfl
    have v4 := bV.cell 4 rfl
    have v5 := bV.cell 5 rfl
    have cB := kv.cell
    have fB := kv.frozen
    have hsW : w.heap.size ≤ W.heap.size := hbl.size
    gi_wp2_with (gi_at_builtin; go_must (refine wpListIn_append_own _ rfl (.tmp 8) (.tmp 10) 29 rfl w.heap.size 39 i0 (.agg #[.int .i64 0, .int .i64 0, .int .i64 0, .int .i64 0, .int .i64 0, .int .i64 0]) 6 48 Try.underlying29 hi hz0 hz1 hz2 rfl (by decide) v pre.length (sds pre) rfl (ho.below (Below.new _ _)) ⟨W.heap.size, 0, none⟩ 1 1 (Sd.cells ⟨fi, ri, ⟨x1, y1⟩, ⟨x2, y2⟩⟩) rfl rfl (Rd.lit _ _ _ _ (by simp)).add (Sd.cells_one _) (by unfold maxLen; omega) (by omega) (by simp; omega) ?_); intro v' w3 hown' hgrow _; obtain ⟨g', cap', rfl⟩ := ownsRow_succ hown'; obtain ⟨hv1, hv2, hr2, hk2, hb3⟩ := kv.appended (by decide) ho hsW (Nat.le_refl _) hown' hgrow; have hc1 := hv1.cell; have hf1 := hv1.frozen)
    refine ⟨hk2, hb3, _, hv2, ?_, hbl.trans hb3⟩
    rw [sds_snoc, List.length_append]
    exact hr2
  case done =>
    rintro D xs W hD rfl ⟨v, kv, ho, hbl⟩ hK
    have cB := kv.cell
    have hDl : D < W.heap.size := (Array.getElem?_eq_some_iff.1 hK).1
    go_wp2
    refine ⟨by simp, .inl ⟨_, _, rfl, run_takeDeferred hK, ?_⟩⟩
    refine ⟨v, by simp [results, Try.results51, go_sem], v, rfl, ownsRow_putObj ho _ hK rfl, hbl.trans (putObj_below _ W D _ (by omega))⟩
  case stop =>
    rintro D cc pre W hD hF hK
    exact hF.elim

theorem collect_any (Bn : Nat) (a : Option Addr) (c : Nat) (L : List Fc) (hlen : L.length ≤ 1000000) (hl1 : ∀ f ∈ L, f.rs.length ≤ 1000000) (hl2 : ∀ f ∈ L, ∀ r ∈ f.rs, r.l.length ≤ 1000000) (hall : (allSd (L.map Fc.rings)).length ≤ 1000000)
    (w : World) (hr : Rd w a (fcs L)) (hok : ∀ f ∈ L, f.Ok w) (fr : Nat × Nat) (hBn : w.heap[Bn]? = some (.cells #[.slice a L.length c] 22 fr)) :
    Calls Try.prog 26 #[.func (.func 52) #[] #[.pointer (some ⟨Bn, 0, none⟩)]] w fun e w' => ∃ v, e = .returned v ∧ w'.ownsRow w.heap.size 39 6 v (allSd (L.map Fc.rings)).length (sds (allSd (L.map Fc.rings))) ∧ Below w.heap.size w w' := by
  have H := Lib.hid (appseq_any Bn a c L hlen hl1 hl2 hall w hr hok fr hBn)
  go_enter Try.func26, Try.ntmps26
  go_wp2_with fail
  refine H.out.mono ?_
  rintro e w1 ⟨v, rfl, ho, hb⟩
  go_wp2
  go_ret
  exact ⟨v, rfl, ho, hb⟩

/-- The sides of faces, as a row of their own. -/
theorem fsides_any (a : Option Addr) (c : Nat) (L : List Fc) (hlen : L.length ≤ 1000000) (hl1 : ∀ f ∈ L, f.rs.length ≤ 1000000) (hl2 : ∀ f ∈ L, ∀ r ∈ f.rs, r.l.length ≤ 1000000) (hall : (allSd (L.map Fc.rings)).length ≤ 1000000)
    (w : World) (hr : Rd w a (fcs L)) (hok : ∀ f ∈ L, f.Ok w) :
    Calls Try.prog 10 #[.slice a L.length c] w fun e w' => ∃ v, e = .returned v ∧ w'.ownsRow w.heap.size 39 6 v (allSd (L.map Fc.rings)).length (sds (allSd (L.map Fc.rings))) ∧ Below w.heap.size w w' := by
  have hb := Below.new w (.cells #[.slice a L.length c] 22)
  have H := Lib.hid (collect_any w.heap.size a c L hlen hl1 hl2 hall (w.alloc (.cells #[.slice a L.length c] 22)) (hr.keep hb) (fun f hf => (hok f hf).keep hb) (0, 0) (heap_alloc_new w _))
  go_enter Try.func10, Try.ntmps10
  go_wp2_with fail
  refine (callsIn_wide.1 (sides_in 5 a L.length c _)).mono ?_
  rintro e w1 ⟨rfl, rfl⟩
  go_wp2_with fail
  refine H.out.mono ?_
  rintro e w2 ⟨v, rfl, ho, hb2⟩
  go_wp2
  go_ret
  exact ⟨v, rfl, ho.mono (by simp), hb.trans (hb2.mono (by simp))⟩
end Go.Proofs.Ytebplobagmjfeaa
/- append inside a region that draws its order. -/
namespace Go
open Go.RowKit

theorem wp_app {P : Program} {w : World} {o : Oper} {a : Act} {K : Act → World → Prop} {Q : Exit → Act → World → Prop} (s x : Operand) (t : TypeId)
    (ho : o.op = .call { callee := .builtin .append, args := #[s, x], argTypes := #[t, t] })
    (base : Nat) (e : TypeId) (z : Value) (size bytes : Nat) (ht : P.underlying t = some (.slice e)) (hinfo : (P.info? e).map (fun i => (i.zero, i.size, i.bytes)) = some (some z, size, bytes))
    (hzs : z.cells.size = size) (hsz : 0 < size)
    (v : Value) (n : Nat) (xs : List Value) (hs : a.eval s = v) (hown : w.ownsRow base e size v n xs)
    (ax : Option Addr) (m c : Nat) (vs : List Value) (hx : a.eval x = .slice ax m c) (hc0 : ax = none → c = 0) (hvs : Rd w ax vs) (hl : vs.length = m * size) (h1 : ∀ u ∈ vs, u.oneCell' = true)
    (hbytes : (n + m) * bytes ≤ 140737488355328) (hb1 : 0 < bytes) (hbase : base ≤ w.heap.size)
    (h : ∀ v' w', w'.ownsRow base e size v' (n + m) (xs ++ vs) → w.grownBy w' v.ownBlock → K (a.put o.dst v') w') : o.wp P a w K Q := by
  obtain ⟨i, hi, hz, hsize, hby⟩ := info_parts hinfo
  have h63 : n + m ≤ maxLen := by
    have : (n + m) * 1 ≤ (n + m) * bytes := Nat.mul_le_mul_left _ hb1
    unfold maxLen; omega
  cases ax with
  | none =>
    have hv0 : vs = [] := by
      rcases hvs with h | ⟨_, _, h, _⟩
      · exact h
      · cases h
    subst hv0
    have hm : m = 0 := by
      have : m * size = 0 := by simpa using hl.symm
      rcases Nat.mul_eq_zero.1 this with h | h <;> omega
    subst hm
    obtain rfl := hc0 rfl
    have hrun := run_append_owned_none (P := P) (w := w) base t o.type e i size ht hi v n xs hown
    unfold Oper.wp
    simp [execOp, ho, resolve, invoke, builtin, hs, hx, hrun, Result.andThen]
    exact h v w (by simpa using hown) (World.grownBy.refl _ _)
  | some ad =>
    refine wp_append_own w s x t ho base e i z size bytes ht hi hz hsize hby hzs hsz v n xs hs hown ad m c vs hx hl hvs.add h1 h63 hbytes hbase ?_
    intro v' w' h2 h3 _
    exact h v' w' h2 h3

theorem txt_app {P : Program} {ops : Array Oper} {lt : Nat → Bool} {Q : Exit → Act → World → Prop} {S : World → Prop} {zz : Option Nat} {k : Nat} {rest : List Oper} {a : Act} {w : World} {o : Oper} (w0 : World) (hb : Below w0.heap.size w0 w) (hlt : lt k = false) (hgd : o.guard = none) (s x : Operand) (t : TypeId)
    (ho : o.op = .call { callee := .builtin .append, args := #[s, x], argTypes := #[t, t] })
    (e : TypeId) (z : Value) (size bytes : Nat) (ht : P.underlying t = some (.slice e)) (hinfo : (P.info? e).map (fun i => (i.zero, i.size, i.bytes)) = some (some z, size, bytes))
    (hzs : z.cells.size = size) (hsz : 0 < size)
    (v : Value) (n : Nat) (xs : List Value) (hs : a.eval s = v) (hown : w.ownsRow w0.heap.size e size v n xs)
    (ax : Option Addr) (m c : Nat) (vs : List Value) (hx : a.eval x = .slice ax m c) (hc0 : ax = none → c = 0) (hvs : Rd w ax vs) (hl : vs.length = m * size) (h1 : ∀ u ∈ vs, u.oneCell' = true)
    (hbytes : (n + m) * bytes ≤ 140737488355328) (hb1 : 0 < bytes)
    (h : ∀ v' w', w'.ownsRow w0.heap.size e size v' (n + m) (xs ++ vs) → w.grownBy w' v.ownBlock → Below w0.heap.size w0 w' → S w' ∧ wpTxtL P ops lt Q S zz (k + 1) rest (a.put o.dst v') w') :
    wpTxtL P ops lt Q S zz k (o :: rest) a w := by
  have hw : Region.wanted o (yielded ops a.tmps) = true := by simp [Region.wanted, hgd]
  refine txt_heavy hlt hw (fun K hK => ?_)
  refine wp_app s x t ho w0.heap.size e z size bytes ht hinfo hzs hsz v n xs hs hown ax m c vs hx hc0 hvs hl h1 hbytes hb1 hb.size ?_
  intro v' w' h2 h3
  have := h v' w' h2 h3 (hb.grown h3 hb.size (fun k hk => (hown.lt k hk).1))
  exact hK.out _ _ this.1 this.2
end Go
