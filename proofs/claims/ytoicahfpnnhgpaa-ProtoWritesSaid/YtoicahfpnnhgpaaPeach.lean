/-
  proto.each, its closure: the contract. (Under way: does not build yet.)
-/
import Derived.Test.YtoicahfpnnhgpaaFlds
import Derived.Test.YtoicahfpnnhgpaaAhead
import Derived.RangeFuncBox
import Derived.Shelf.Abstract
import Derived.Shelf.RegionOpen
import Derived.OwnWalkIn
import Derived.TacticsInMore
import Derived.LoopNIn
import Derived.LoopIn
namespace Go
open Go.RowKit Go.Proto

/-- What a round keeps: blocks of two element types. -/
def KeepT (T U : TypeId) (A B : World) : Prop := A.heap.size ≤ B.heap.size ∧ ∀ (k : Nat) (cs : Array Value) (V : TypeId) (fr : Nat × Nat), A.heap[k]? = some (Obj.cells cs V fr) → (V = T ∨ V = U) → B.heap[k]? = A.heap[k]?

theorem KeepT.trans {T U : TypeId} {A B C : World} (h : KeepT T U A B) (k : KeepT T U B C) : KeepT T U A C :=
  ⟨Nat.le_trans h.1 k.1, fun i cs V fr hi hv => by
    have h1 := h.2 i cs V fr hi hv
    rw [k.2 i cs V fr (h1.trans hi) hv, h1]⟩
theorem KeepT.of_below {T U : TypeId} {A B : World} (h : Below A.heap.size A B) : KeepT T U A B :=
  ⟨h.size, fun k _ _ _ hk _ => h.block k (Array.getElem?_eq_some_iff.1 hk).1⟩
theorem KeepT.putObj {T U : TypeId} (W : World) (l : Nat) (o o' : Obj) (h : W.heap[l]? = some o) (ho : o.isCells = false) : KeepT T U W (W.putObj l o') := by
  have hg := grownBy_putObj' W l o'
  refine ⟨hg.size, fun k cs V fr hk _ => hg.block k (Array.getElem?_eq_some_iff.1 hk).1 fun e => ?_⟩
  cases e
  rw [h] at hk
  cases hk
  cases ho
end Go
namespace Go.Proofs.Ytoicahfpnnhgpaa
open Go.RowKit Go.Vint Go.Proto
attribute [local go_sem] Oper.semAt_some

/-- The place behind what has come. -/
def behind (L : List Int) (pre : List (Nat × FC)) : Int := match pre.getLast? with
  | none => 0
  | some x => (x.1 : Int) + (prd (L.drop x.1)).2.1

theorem behind_snoc (L : List Int) (pre : List (Nat × FC)) (x : Nat × FC) : behind L (pre ++ [x]) = (x.1 : Int) + (prd (L.drop x.1)).2.1 := by simp [behind]

/-- A field in memory, its bytes in a block of bytes. -/
def Lies (W : World) (x : FC) : Prop := x.Ok W ∧ ∀ b, x.p.map (·.block) = some b → Typed 5 W b

def AtYield (L : List Int) (pre : List (Nat × FC)) (x : Nat × FC) (W : World) : Prop :=
  pre.length ≤ x.1 ∧ x.1 < L.length ∧ (prd (L.drop x.1)).2.2 = 0 ∧ (prd (L.drop x.1)).1 = x.2.f ∧ Lies W x.2

def AtEnd (L : List Int) (xs : List (Nat × FC)) (W : World) : Prop :=
  (∃ p g : Nat, behind L xs = p ∧ p ≤ L.length ∧ xs.length ≤ p ∧ pall L = pallF (g + 1) L p (xs.map (·.2.f)) ∧ (p = L.length ∨ (prd (L.drop p)).2.2 ≠ 0)) ∧ ∀ x ∈ xs, Lies W x.2

def KpE (n₀ : Nat) (A B : World) : Prop := Below n₀ A B ∧ KeepT 5 22 A B

theorem Lies.kept {A B : World} {x : FC} (h : Lies A x) (hk : KeepT 5 22 A B) : Lies B x := by
  obtain ⟨⟨hr, h2⟩, ht⟩ := h
  refine ⟨⟨?_, h2⟩, fun b hb => ?_⟩
  · rcases hr with hr | ⟨b, off, hp, hc⟩
    · exact .inl hr
    · refine .inr ⟨b, off, hp, fun i v hv => ?_⟩
      obtain ⟨cs, fr, hb⟩ := ht b (by rw [hp]; rfl)
      rw [World.cell?_of_block (w := A) (hk.2 b cs _ fr hb (.inl rfl))]
      exact hc i v hv
  · obtain ⟨cs, fr, hb2⟩ := ht b hb
    exact ⟨cs, fr, (hk.2 b cs _ fr hb2 (.inl rfl)).trans hb2⟩

theorem grownBy_of_below {A B : World} (h : Below A.heap.size A B) (r : Option Nat) : A.grownBy B r := ⟨h.os, h.tape, h.output, h.size, fun k hk _ => h.block k hk⟩

set_option maxRecDepth 100000 in
set_option maxHeartbeats 4000000 in
theorem each1_in (n : Nat) (l Bn : Nat) (a : Option Addr) (c : Nat) (L : List Int) (hb : ∀ x ∈ L, 0 ≤ x ∧ x ≤ 255) (hlen : L.length ≤ 1000000) (hlc : L.length ≤ c) (hcm : c ≤ maxLen) (w0 : World) (hr0 : Rd w0 a (L.map (Value.int .u8)))
    (J : List (Nat × FC) → World → Prop) (W : World) (hbl : Below w0.heap.size w0 W) (hJ : AbidesFrom W.heap.size J) (fr : Nat × Nat) (hBn : W.heap[Bn]? = some (.cells #[.slice a L.length c] 22 fr))
    (hY : ∀ pre x W1, J pre W1 → AtYield L pre x W1 → YieldAt Fence.wide (n - 1) Try.prog l #[.int .i64 (x.1 : Int), x.2.val] W1 fun e W' => e = .returned (.bool true) ∧ J (pre ++ [x]) W' ∧ KpE w0.heap.size W1 W')
    (h0 : J [] W) :
    CallsIn Fence.wide n Try.prog 32 #[.func (.yield l) #[] #[], .pointer (some ⟨Bn, 0, none⟩)] W fun e W' => (∃ v, e = .returned v) ∧ ∃ xs, AtEnd L xs W' ∧ J xs W' := by
  refine callsIn_of_wp Try.func32 rfl trivial ?_ rfl
  simp only [Try.ntmps32, List.size_toArray, List.length_cons, List.length_nil, Nat.reduceAdd, Nat.reduceSub, Array.replicate_succ, Array.replicate_zero, List.push_toArray, List.append_toArray, List.nil_append, List.cons_append]
  gi_wp2
  gi_loopw [3] (fun i wr => ∃ (p g : Nat) (pre : List (Nat × FC)), i = .int .i64 p ∧ behind L pre = p ∧ p ≤ L.length ∧ L.length < p + (g + 1) ∧ pre.length ≤ p ∧ pall L = pallF (g + 1) L p (pre.map (·.2.f)) ∧ (∀ x ∈ pre, Lies wr x.2) ∧ J pre wr ∧
    Below w0.heap.size w0 wr ∧ wr.heap[Bn]? = some (.cells #[.slice a L.length c] 22 fr)) (fun i _ => L.length - (intOf i).toNat)
  case atStart => exact ⟨0, L.length, [], rfl, rfl, Nat.zero_le _, by omega, Nat.le_refl _, rfl, by simp, h0, hbl, hBn⟩
  case round =>
    obtain ⟨p, g, pre, rfl, hbe, hp, hg, hpl, hpa, hli, hj, hb1, hBx⟩ := hrel
    have hbc : wr.cell? ⟨Bn, 0, none⟩ = some (.slice a L.length c) := by simp [World.cell?, hBx]
    have HPA := Lib.hid hpa
    have HBE := Lib.hid hbe
    have HLI := Lib.hid hli
    have HY := Lib.hid hY
    clear hpa hbe hli hBn hY
    by_cases hlt : p < L.length
    · obtain ⟨b0, off0, rfl, -, -⟩ := hr0.at (i := p) (v := .int .u8 L[p]) (by simp [hlt])
      have hD : ∀ x ∈ L.drop p, 0 ≤ x ∧ x ≤ 255 := fun x hx => hb x (List.mem_of_mem_drop hx)
      have hDl : (L.drop p).length = L.length - p := by simp
      have hrw := (hr0.keep hb1).drop p
      rw [← List.map_drop] at hrw
      have hcl := pread_any _ (c - p) (L.drop p) hD (by omega) (by omega) (by omega) wr hrw
      rw [hDl] at hcl
      have HCL := Lib.hid (callsIn_wide (n := n - 1).2 hcl)
      have hcp : ¬ c = p := by omega
      clear hcl hrw
      by_cases he : (prd (L.drop p)).2.2 = 0
      · obtain ⟨m, hm, n1, n2, -, -, -, -, -, -⟩ := prd_ok _ hD he
        have HE := Lib.hid he
        have HM := Lib.hid hm
        rw [hDl] at n2
        obtain ⟨g', rfl⟩ : ∃ g', g = g' + 1 := ⟨g - 1, by omega⟩
        have hst := HPA.out.trans (pallF_step (g' + 1) L p _ hlt he)
        rw [hm, Int.toNat_natCast] at hst
        have HST := Lib.hid hst
        clear HPA hst
        have HJ := Lib.hid hJ
        clear he hm hD hDl hJ
        gi_wp2_with fail
        refine ⟨trivial, (fun h => by cases h), HCL.out.mono ?_⟩
        rintro e w1 ⟨⟨ao, co, rfl, hrd, hl1, hl2, hl3, hl4⟩, hb2⟩
        rw [HE.out, HM.out]
        have hkp : KpE w0.heap.size wr w1 := ⟨hb2.mono hb1.size, KeepT.of_below hb2⟩
        have hj1 := HJ.out _ _ _ none hj (grownBy_of_below hb2 none) (fun r h => by cases h)
        obtain ⟨fl, hfl⟩ : ∃ fl, fl = (prd (L.drop p)).1 := ⟨_, rfl⟩
        rw [← hfl] at hrd hl1 ⊢
        have hx1 : Lies w1 ⟨fl, ao, co⟩ := ⟨⟨hrd, hl1, hl2, hl3⟩, hl4⟩
        have hb3 : Below w1.heap.size w1 (w1.alloc (.cells #[.int .i64 fl.num, .int .i64 fl.kind, .int .u64 fl.n, .slice ao fl.bs.length co] 25)) := Below.new _ _
        have hkp3 : KpE w0.heap.size w1 (w1.alloc (.cells #[.int .i64 fl.num, .int .i64 fl.kind, .int .u64 fl.n, .slice ao fl.bs.length co] 25)) := ⟨hb3.mono (Nat.le_trans hb1.size hb2.size), KeepT.of_below hb3⟩
        have hj3 := HJ.out _ _ _ none hj1 (grownBy_of_below hb3 none) (fun r h => by cases h)
        obtain ⟨fn, tmps, assign, body, hy, hR⟩ := HY.out pre (p, ⟨fl, ao, co⟩) _ hj3 ⟨hpl, hlt, HE.out, hfl.symm, hx1.kept hkp3.2⟩
        dsimp only [FC.val] at hy
        have hk4 := (hb1.trans hkp.1).trans hkp3.1
        have HR := Lib.hid hR
        have HX := Lib.hid (hx1.kept hkp3.2)
        have HK := Lib.hid (hkp.2.trans hkp3.2)
        have HB := Lib.hid hk4
        have HFL := Lib.hid hfl
        clear hR hj3 hj1 hkp hkp3 hb2 hb3 hx1 hrd hk4 hfl
        gi_wp2
        refine ⟨(fun h => by cases h), HR.out.mono ?_⟩
        rintro e W3 ⟨rfl, hJ3, hk3⟩
        gi_wp2
        clear HCL
        go_roundw
        case rel =>
          have hst := HST.out
          rw [← HFL.out] at hst
          refine ⟨p + m, g', pre ++ [(p, ⟨fl, ao, co⟩)], by go_num, by rw [behind_snoc, HM.out]; simp, by omega, by omega, by simp; omega, by simpa using hst, ?_, hJ3, HB.out.trans hk3.1, ?_⟩
          · intro x hx
            rcases List.mem_append.1 hx with hx | hx
            · exact (HLI.out x hx).kept (HK.out.trans hk3.2)
            · obtain rfl : x = _ := by simpa using hx
              exact HX.out.kept hk3.2
          · exact ((HK.out.trans hk3.2).2 Bn _ _ _ hBx (.inr rfl)).trans hBx
        case measure => simp [intOf]; omega
      · have HE : Hid (pall L = ([], (p : Int), (prd (L.drop p)).2.2)) := HPA.out.trans (pallF_err g L p _ hlt he)
        have hne : ((prd (L.drop p)).2.2 != 0) = true := by simpa using he
        have hHE := Lib.hid he
        clear he hD hDl
        gi_wp2_with fail
        refine ⟨trivial, (fun h => by cases h), HCL.out.mono ?_⟩
        rintro e w1 ⟨⟨ao, co, rfl, hrd, hl1, hl2, hl3, hl4⟩, hb2⟩
        have HJ1 := Lib.hid (hJ _ _ _ none hj (grownBy_of_below hb2 none) (fun r h => by cases h))
        have HJ := Lib.hid hJ
        have HB := Lib.hid hb2
        clear hJ hb2 hrd hl1 hl2 hl3 hl4 hj
        gi_wp2
        refine ⟨fun _ h => (by cases h), ?_⟩
        gi_wp2
        refine bodyPost_ret (results_none rfl _ _ _) rfl ?_
        have hb3 := Below.new w1 (.cells #[.int .i64 (prd (L.drop p)).1.num, .int .i64 (prd (L.drop p)).1.kind, .int .u64 (prd (L.drop p)).1.n, .slice ao (prd (L.drop p)).1.bs.length co] 25)
        refine ⟨⟨_, rfl⟩, pre, ⟨⟨p, g, HBE.out, hp, hpl, HPA.out, .inr hHE.out⟩, fun x hx => (HLI.out x hx).kept ((KeepT.of_below HB.out).trans (KeepT.of_below hb3))⟩, ?_⟩
        exact HJ.out _ _ _ none HJ1.out (grownBy_of_below hb3 none) (fun r h => by cases h)
    · gi_wp2
      go_end0
      exact ⟨⟨_, rfl⟩, pre, ⟨⟨p, g, HBE.out, hp, hpl, HPA.out, .inl (by omega)⟩, HLI.out⟩, hj⟩
end Go.Proofs.Ytoicahfpnnhgpaa
