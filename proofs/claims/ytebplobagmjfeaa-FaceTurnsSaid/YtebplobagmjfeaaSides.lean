/-
  face.sides: the sides of faces, as an iterator whose body may leave.
-/
import Derived.Test.YtebplobagmjfeaaFc
import Derived.Test.YtebplobagmjfeaaEdl
import Derived.Shelf.Abstract
import Derived.Shelf.RegionOpen
import Derived.OwnWalkIn
import Derived.TacticsInMore
import Derived.LoopNIn
import Derived.LoopIn
import Derived.BigRegionIn
import Derived.Stop.RegionWithIn
set_option linter.unusedVariables false
set_option linter.unusedSimpArgs false
set_option maxRecDepth 100000
namespace Go
open Go.RowKit
/-- A side. -/
structure Sd where
  f : Nat
  r : Nat
  a : Pt
  b : Pt
instance : Inhabited Sd := ⟨⟨0, 0, default, default⟩⟩
def Sd.val (s : Sd) : Value := .agg #[.int .i64 s.f, .int .i64 s.r, .int .i64 s.a.x, .int .i64 s.a.y, .int .i64 s.b.x, .int .i64 s.b.y]
def Sd.cells (s : Sd) : List Value := [.int .i64 s.f, .int .i64 s.r, .int .i64 s.a.x, .int .i64 s.a.y, .int .i64 s.b.x, .int .i64 s.b.y]
def ringSd (i k : Nat) (r : List Pt) : List Sd := (edges r).map fun e => ⟨i, k, e.1, e.2⟩
def faceSd (i : Nat) (f : List (List Pt)) (n : Nat) : List Sd := (List.range n).flatMap fun k => ringSd i k f[k]!
def someSd (l : List (List (List Pt))) (n : Nat) : List Sd := (List.range n).flatMap fun i => faceSd i l[i]! (l[i]!).length
/-- The sides of faces. -/
def allSd (l : List (List (List Pt))) : List Sd := someSd l l.length
theorem faceSd_succ (i : Nat) (f : List (List Pt)) (n : Nat) : faceSd i f (n + 1) = faceSd i f n ++ ringSd i n f[n]! := by
  simp [faceSd, List.range_succ, List.flatMap_append]
theorem someSd_succ (l : List (List (List Pt))) (n : Nat) : someSd l (n + 1) = someSd l n ++ faceSd n l[n]! (l[n]!).length := by
  simp [someSd, List.range_succ, List.flatMap_append]
theorem faceSd_pre (i : Nat) (f : List (List Pt)) {n m : Nat} (h : n ≤ m) : faceSd i f n <+: faceSd i f m := by
  induction m with
  | zero => obtain rfl : n = 0 := by omega
            exact List.prefix_refl _
  | succ m ih =>
    by_cases e : n = m + 1
    · rw [e]; exact List.prefix_refl _
    · rw [faceSd_succ]; exact (ih (by omega)).trans (List.prefix_append _ _)
theorem someSd_pre (l : List (List (List Pt))) {n m : Nat} (h : n ≤ m) : someSd l n <+: someSd l m := by
  induction m with
  | zero => obtain rfl : n = 0 := by omega
            exact List.prefix_refl _
  | succ m ih =>
    by_cases e : n = m + 1
    · rw [e]; exact List.prefix_refl _
    · rw [someSd_succ]; exact (ih (by omega)).trans (List.prefix_append _ _)
theorem sd_ahead (l : List (List (List Pt))) (i k n : Nat) (hi : i < l.length) (hk : k < (l[i]!).length) (hn : n < ((l[i]!)[k]!).length) :
    (someSd l i ++ (faceSd i l[i]! k ++ (ringSd i k (l[i]!)[k]!).take n)) ++ [⟨i, k, ((l[i]!)[k]!)[n]!, ((l[i]!)[k]!)[(n + 1) % ((l[i]!)[k]!).length]!⟩] = someSd l i ++ (faceSd i l[i]! k ++ (ringSd i k (l[i]!)[k]!).take (n + 1)) ∧
    someSd l i ++ (faceSd i l[i]! k ++ (ringSd i k (l[i]!)[k]!).take (n + 1)) <+: allSd l := by
  constructor
  · have : (ringSd i k (l[i]!)[k]!)[n]? = some ⟨i, k, ((l[i]!)[k]!)[n]!, ((l[i]!)[k]!)[(n + 1) % ((l[i]!)[k]!).length]!⟩ := by
      unfold ringSd edges
      rw [List.getElem?_map, List.getElem?_map, List.getElem?_range hn]
      rfl
    rw [List.take_add_one, this]
    simp
  · refine List.IsPrefix.trans ?_ (someSd_pre l (show i + 1 ≤ l.length by omega))
    rw [someSd_succ]
    refine (List.prefix_append_right_inj _).2 ?_
    refine List.IsPrefix.trans ?_ (faceSd_pre i l[i]! (show k + 1 ≤ (l[i]!).length by omega))
    rw [faceSd_succ]
    exact (List.prefix_append_right_inj _).2 (List.take_prefix _ _)
end Go
namespace Go.Proofs.Ytebplobagmjfeaa
open Go.RowKit
attribute [local go_sem] Oper.semAt_some

set_option maxHeartbeats 3200000 in
theorem sides1_in (n : Nat) (l Bn : Nat) (a : Option Addr) (c : Nat) (L : List Fc) (hlen : L.length ≤ 1000000) (hl1 : ∀ f ∈ L, f.rs.length ≤ 1000000) (hl2 : ∀ f ∈ L, ∀ r ∈ f.rs, r.l.length ≤ 1000000)
    (W0 : World) (hr0 : Rd W0 a (fcs L)) (hok : ∀ f ∈ L, f.Ok W0) (fr : Nat × Nat) (hBn : W0.heap[Bn]? = some (.cells #[.slice a L.length c] 22 fr))
    (J Jx : List Sd → World → Prop) (W : World) (hb0 : Below W0.heap.size W0 W) (hJ : AbidesFrom W.heap.size J) (hJx : AbidesFrom W.heap.size Jx)
    (hY : ∀ pre x W1, J pre W1 → pre ++ [x] <+: allSd (L.map Fc.rings) → YieldAt Fence.wide (n - 1) Try.prog l #[x.val] W1 fun e W' => (e = .returned (.bool true) ∧ J (pre ++ [x]) W' ∧ Below W0.heap.size W1 W') ∨ (e = .returned (.bool false) ∧ Jx (pre ++ [x]) W'))
    (h0 : J [] W) :
    CallsIn Fence.wide n Try.prog 52 #[.func (.yield l) #[] #[], .pointer (some ⟨Bn, 0, none⟩)] W fun e W' => (∃ v, e = .returned v) ∧ ((∃ xs, xs = allSd (L.map Fc.rings) ∧ J xs W') ∨ ∃ pre, Jx pre W') := by
  refine callsIn_of_wp Try.func52 rfl trivial ?_ rfl
  simp only [Try.ntmps52, List.size_toArray, List.length_cons, List.length_nil, Nat.reduceAdd, Nat.reduceSub, Array.replicate_succ, Array.replicate_zero, List.push_toArray, List.append_toArray, List.nil_append, List.cons_append]
  have hBl : Bn < W0.heap.size := (Array.getElem?_eq_some_iff.1 hBn).1
  have hBW := (hb0.block Bn hBl).trans hBn
  have hbc : W.cell? ⟨Bn, 0, none⟩ = some (.slice a L.length c) := by simp [World.cell?, hBW]
  have HY := Lib.hid hY
  have HJ := Lib.hid hJ
  have HR := Lib.hid hr0
  have HOK := Lib.hid hok
  have HL1 := Lib.hid hl1
  have HL2 := Lib.hid hl2
  obtain ⟨N, hN⟩ : ∃ N, L.length = N := ⟨_, rfl⟩
  have HN := Lib.hid hN
  rw [hN] at hlen hbc
  obtain ⟨RL, hRL⟩ : ∃ R, L.map Fc.rings = R := ⟨_, rfl⟩
  have HRL := Lib.hid hRL
  rw [hRL] at HY ⊢
  clear hY hJ hJx hr0 hok hl1 hl2 hN hRL hBn hBW
  gi_wp2
  gi_loopw [11] (fun i wr => ∃ k : Nat, i = .int .i64 k ∧ k ≤ N ∧ J (someSd RL k) wr ∧ Below W0.heap.size W0 wr ∧ W.heap.size ≤ wr.heap.size) (fun i _ => N - (intOf i).toNat)
  case atStart => exact ⟨0, rfl, Nat.zero_le _, h0, hb0, Nat.le_refl _⟩
  case round =>
    obtain ⟨i, rfl, hi, hj, hbw, hsw⟩ := hrel
    by_cases hlt : i < N
    · have hlt' : (i : Int) < (N : Int) := by omega
      have hil : i < L.length := by rw [HN.out]; exact hlt
      obtain ⟨b1, o1, rfl, hbb, c0, c1⟩ := (HR.out.keep hbw).fc i hil
      have hiR : i < RL.length := by rw [← HRL.out, List.length_map]; exact hil
      have HRI : Hid (RL[i]! = L[i].rs.map PC.l) := Lib.hid (by rw [getElem!_pos RL i hiR]; simp only [← HRL.out, List.getElem_map, Fc.rings])
      have HFO := Lib.hid (HOK.out _ (List.getElem_mem hil))
      have hf1 := HL1.out _ (List.getElem_mem hil)
      have HF2 := Lib.hid (HL2.out _ (List.getElem_mem hil))
      generalize L[i] = f at *
      obtain ⟨rs, ra, rc, ls, aa, ac⟩ := f
      dsimp only [Fc.rval, Fc.aval] at c0 c1 hf1 HF2 HRI
      obtain ⟨RN, hRN⟩ : ∃ R, rs.length = R := ⟨_, rfl⟩
      have HRN := Lib.hid hRN
      rw [hRN] at c0 hf1
      clear hRN
      have hnb : b1 ≠ wr.heap.size := by omega
      gi_wp2
      have hbA := Below.new wr (.cells #[.slice ra RN rc, .slice aa ls.length ac] 49)
      have hjA := HJ.out _ _ _ none hj (grownBy_of_below hbA none) (fun r h => by cases h)
      have hA0 := hbw.trans (hbA.mono hbw.size)
      have hsA : W.heap.size ≤ (wr.alloc (.cells #[.slice ra RN rc, .slice aa ls.length ac] 49)).heap.size := by simp; omega
      have HAH := Lib.hid (fun k n => sd_ahead RL i k n hiR)
      have HSU := Lib.hid (someSd_succ RL i)
      obtain ⟨FR, hFR⟩ : ∃ R, RL[i]! = R := ⟨_, rfl⟩
      rw [hFR] at HAH HRI HSU
      have hFRl : FR.length = RN := by rw [HRI.out, List.length_map, HRN.out]
      rw [hFRl] at HSU HAH
      clear hFR hbA hj
      generalize wr.alloc (.cells #[.slice ra RN rc, .slice aa ls.length ac] 49) = wA at *
      gi_loopw [19] (fun k wr => ∃ j : Nat, k = .int .i64 j ∧ j ≤ RN ∧ J (someSd RL i ++ faceSd i FR j) wr ∧ Below W0.heap.size W0 wr ∧ W.heap.size ≤ wr.heap.size) (fun k _ => RN - (intOf k).toNat)
      case atStart => exact ⟨0, rfl, Nat.zero_le _, by simpa [faceSd] using hjA, hA0, hsA⟩
      case round =>
        obtain ⟨k, rfl, hk, hj2, hb2, hs2⟩ := hrel
        by_cases hkt : k < RN
        · have hkt' : (k : Int) < (RN : Int) := by omega
          have hkl : k < rs.length := by rw [HRN.out]; exact hkt
          obtain ⟨b2, o2, rfl, hbb2, d0⟩ := (HFO.out.1.1.keep hb2).rc k hkl
          have hkF : k < FR.length := by rw [hFRl]; exact hkt
          have HRK : Hid (FR[k]! = rs[k].l) := Lib.hid (by rw [getElem!_pos FR k hkF]; simp only [HRI.out, List.getElem_map])
          have HRO := Lib.hid (HFO.out.2.1 _ (List.getElem_mem hkl))
          have hl2 := HF2.out _ (List.getElem_mem hkl)
          have HAK := Lib.hid (fun n => HAH.out k n hkt)
          have HFU := Lib.hid (faceSd_succ i FR k)
          rw [HRK.out] at HAK HFU
          clear HRK
          generalize rs[k] = R at *
          obtain ⟨LL, Rp, Rc⟩ := R
          dsimp only [PC.val] at d0 hl2 HAK HFU
          obtain ⟨LN, hLN⟩ : ∃ R, LL.length = R := ⟨_, rfl⟩
          have HLN := Lib.hid hLN
          rw [hLN] at d0 hl2 HAK
          clear hLN
          gi_wp2
          gi_loopw [26] (fun n wr => ∃ j : Nat, n = .int .i64 j ∧ j ≤ LN ∧ J (someSd RL i ++ (faceSd i FR k ++ (ringSd i k LL).take j)) wr ∧ Below W0.heap.size W0 wr ∧ W.heap.size ≤ wr.heap.size) (fun n _ => LN - (intOf n).toNat)
          case atStart => exact ⟨0, rfl, Nat.zero_le _, by simpa using hj2, hb2, hs2⟩
          case round =>
            obtain ⟨n, rfl, hn, hj3, hb3, hs3⟩ := hrel
            by_cases hnt : n < LN
            · have hnt' : (n : Int) < (LN : Int) := by omega
              have hnl : n < LL.length := by rw [HLN.out]; exact hnt
              obtain ⟨q, hq⟩ : ∃ q, (n + 1) % LN = q := ⟨_, rfl⟩
              have hqn : q < LN := by rw [← hq]; exact Nat.mod_lt _ (by omega)
              have hql : q < LL.length := by rw [HLN.out]; exact hqn
              obtain ⟨b, off, rfl, hb, c0, c1⟩ := (HRO.out.1.keep hb3).pt n hnl
              obtain ⟨b', off', e, hb', e0, e1⟩ := (HRO.out.1.keep hb3).pt q hql
              cases e
              obtain ⟨HSN, HPX⟩ := HAK.out n hnt
              rw [hq, getElem!_pos LL n hnl, getElem!_pos LL q hql] at HSN
              have hyy := fun W1 hj1 => HY.out _ ⟨i, k, LL[n], LL[q]⟩ W1 hj1 (by rw [HSN]; exact HPX)
              rw [HSN] at hyy
              have hrem : ((n : Int) + 1) % (LN : Int) = (q : Int) := by rw [← hq]; simp
              obtain ⟨⟨x1, y1⟩, hp1⟩ : ∃ p, LL[n] = p := ⟨_, rfl⟩
              obtain ⟨⟨x2, y2⟩, hp2⟩ : ∃ p, LL[q] = p := ⟨_, rfl⟩
              rw [hp1] at c0 c1
              rw [hp2] at e0 e1
              rw [hp1, hp2] at hyy
              dsimp only [Pt.val, Sd.val] at c0 c1 e0 e1 hyy
              have hbB := Below.new wr (.cells #[.int .i64 x1, .int .i64 y1] 37)
              have hjB := HJ.out _ _ _ none hj3 (grownBy_of_below hbB none) (fun r h => by cases h)
              have hjD : J (someSd RL i ++ (faceSd i FR k ++ (ringSd i k LL).take n)) (wr.alloc (.cells #[.int .i64 x1, .int .i64 y1] 37)).drew := HJ.out _ _ _ none hjB ⟨rfl, rfl, rfl, Nat.le_refl _, fun _ _ _ => rfl⟩ (fun r h => by cases h)
              obtain ⟨fn, tmps, assign, body, hy, hR⟩ := hyy _ hjD
              have HRR := Lib.hid hR
              have hbD : Below W0.heap.size W0 (wr.alloc (.cells #[.int .i64 x1, .int .i64 y1] 37)).drew := (hb3.alloc hb3.size _).drew
              have hsD : W.heap.size ≤ (wr.alloc (.cells #[.int .i64 x1, .int .i64 y1] 37)).drew.heap.size := by show W.heap.size ≤ (wr.alloc _).heap.size; simp; omega
              have hlz : (LN : Int) ≠ 0 := by omega
              have hrem2 : (IntKind.i64.wrap ((n : Int) + 1)).tmod (LN : Int) = (q : Int) := by
                rw [IntWalk.i64_in _ (by omega), Int.tmod_eq_emod_of_nonneg (by omega)]
                exact hrem
              have hq0 : (0 : Int) ≤ (q : Int) ∧ (q : Int) < (LN : Int) := by omega
              have hnb2 : b ≠ wr.heap.size := by omega
              have hln : ¬ LN = 0 := by omega
              clear hyy hq hp1 hp2 hR hjB hjD hj3 HSN HPX hrem
              gi_wp2
              gi_region_with (refine ⟨(fun h => by cases h), HRR.out.mono ?_⟩; rintro e W3 hW3; obtain ⟨bb, rfl, hcs⟩ := yield_bool hW3; replace hcs := Lib.hid hcs)
              all_goals
                rcases hcs.out with ⟨rfl, hJ3, hk3⟩ | ⟨rfl, hJ3⟩
                · gi_wp2
                  go_roundw
                  case rel =>
                    exact ⟨n + 1, by go_num, by omega, hJ3, hbD.trans hk3, Nat.le_trans hsD hk3.size⟩
                  case measure => simp [intOf]; omega
                · gi_wp2
                  exact ⟨rfl, .tuple #[], by simp [results, Try.results52, go_sem], ⟨_, rfl⟩, .inr ⟨_, hJ3⟩⟩
            · have hnt' : ¬ (n : Int) < (LN : Int) := by omega
              have hall : (ringSd i k LL).take n = ringSd i k LL := List.take_of_length_le (by simp [ringSd, edges, HLN.out]; omega)
              rw [hall, ← HFU.out] at hj3
              gi_wp2
              go_roundw
              case rel => exact ⟨k + 1, by go_num, by omega, hj3, hb3, hs3⟩
              case measure => simp [intOf]; omega
        · have hkt' : ¬ (k : Int) < (RN : Int) := by omega
          obtain rfl : k = RN := by omega
          rw [← HSU.out] at hj2
          gi_wp2
          go_roundw
          case rel => exact ⟨i + 1, by go_num, by omega, hj2, hb2, hs2⟩
          case measure => simp [intOf]; omega
    · have hlt' : ¬ (i : Int) < (N : Int) := by omega
      have hiN : i = RL.length := by rw [← HRL.out, List.length_map, HN.out]; omega
      gi_wp2
      go_end0
      first
        | exact ⟨⟨_, rfl⟩, .inl ⟨allSd RL, rfl, by unfold allSd; rw [← hiN]; exact hj⟩⟩
        | exact .inl (by unfold allSd; rw [← hiN]; exact hj)
        | exact ⟨⟨_, rfl⟩, .inl (by unfold allSd; rw [← hiN]; exact hj)⟩

theorem sides_in (n : Nat) (a : Option Addr) (m c : Nat) (w : World) :
    CallsIn Fence.wide n Try.prog 27 #[.slice a m c] w fun e w' => e = .returned (.func (.func 52) #[] #[.pointer (some ⟨w.heap.size, 0, none⟩)]) ∧ w' = w.alloc (.cells #[.slice a m c] 22) := by
  refine callsIn_of_wp Try.func27 rfl trivial ?_ rfl
  simp only [Try.ntmps27, List.size_toArray, List.length_cons, List.length_nil, Nat.reduceAdd, Nat.reduceSub, Array.replicate_succ, Array.replicate_zero, List.push_toArray, List.append_toArray, List.nil_append, List.cons_append]
  gi_wp2
  go_ret
  exact ⟨rfl, rfl⟩

theorem sides_leave (n : Nat) (Bn : Nat) (a : Option Addr) (c : Nat) (L : List Fc) (hlen : L.length ≤ 1000000) (hl1 : ∀ f ∈ L, f.rs.length ≤ 1000000) (hl2 : ∀ f ∈ L, ∀ r ∈ f.rs, r.l.length ≤ 1000000)
    (W0 : World) (hr : Rd W0 a (fcs L)) (hok : ∀ f ∈ L, f.Ok W0) (fr : Nat × Nat) (hBn : W0.heap[Bn]? = some (.cells #[.slice a L.length c] 22 fr)) :
    SeqLeave Fence.wide n Try.prog 52 #[.pointer (some ⟨Bn, 0, none⟩)] (fun x : Sd => #[x.val]) (fun pre x _ => pre ++ [x] <+: allSd (L.map Fc.rings)) (Below W0.heap.size) (fun xs _ => xs = allSd (L.map Fc.rings)) W0 := by
  intro l J Jx W hb0 hJ hJx hY h0
  exact sides1_in n l Bn a c L hlen hl1 hl2 W0 hr hok fr hBn J Jx W hb0 hJ hJx hY h0
end Go.Proofs.Ytebplobagmjfeaa
