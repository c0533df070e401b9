/-
  Opening a law's arguments: faces. What all laws of chapter 13 import first (so that their claims have the same files). ring.edges: the iterator. ring.edges: the iterator, whose caller may leave. exact.Turn, between, On. What a point is gone round by (plain).
-/
import Derived.Test.YtccamjnomjcchaaPk1
import Derived.Test.YtccamjnomjcchaaPk6
import Derived.Test.YtccamjnomjcchaaPk26
import Derived.Test.YtccamjnomjcchaaPk25
import Derived.Test.YtccamjnomjcchaaPk9
import Derived.Test.YtccamjnomjcchaaPk4
import Derived.Shelf.Abstract
import Derived.Shelf.RegionOpen
import Derived.OwnWalkIn
import Derived.TacticsInMore
import Derived.LoopNIn
import Derived.LoopIn
import Derived.BigRegionIn
import Derived.Stop.RegionWithIn
import Derived.Test.YtccamjnomjcchaaProg
import Derived.Test.YtccamjnomjcchaaPk5
import Derived.Test.YtccamjnomjcchaaPk7
/- Opening a law's arguments: faces. -/
set_option linter.unusedVariables false
set_option linter.unusedSimpArgs false
set_option maxRecDepth 100000
namespace Go
open Go.RowKit
def AtIn (a : At) : Prop := AtOk a ∧ (Lit.int .i64 a.kind).wf = true ∧ (Lit.int .i64 a.n).wf = true
def FcIn (W : World) (f : Fc) : Prop := f.Ok W ∧ (∀ x ∈ f.ls, AtIn x) ∧ ∀ r ∈ f.rs, ∀ p ∈ r.l, (Lit.int .i64 p.x).wf = true ∧ (Lit.int .i64 p.y).wf = true
theorem FcIn.in {W : World} {f : Fc} (h : FcIn W f) : f.In W := ⟨h.1, fun x hx => (h.2.1 x hx).1⟩
end Go
namespace Go.Proofs.Ytccamjnomjcchaa
open Go.RowKit Go.ChangeShapes Go.WideShapes Go.ChangeAt
theorem one_attr {H : Type} {enc : TypeId × Value → H} {W : World} {base : Nat} {spare : Nat → Bool} {held : Bool} (n : Nat) (cs : List Value) (z : DataW H × List MemPlace) (hcl : cs.length = 4)
    (ht : DataW.trod enc Try.prog W base spare held n 93 cs = some z) : ∃ y : At, cs = y.cells ∧ AtIn y := by
  have c3 : Try.prog.cellsOf 3 = 1 := by kernel_rfl
  have c1 : Try.prog.cellsOf 9 = 1 := by kernel_rfl
  have cv : Try.prog.cellsOf 91 = 3 := by kernel_rfl
  obtain ⟨ys, k, hk, hxy, _, hxl, hf⟩ := DataW.trod_struct Try.underlying93 ht
  match ys, hxl, cs, hcl with
  | [y0, y1], _, [v0, v1, v2, v3], _ =>
    have g0 := hf 0 _ rfl; have g1 := hf 1 _ rfl; simp [c1, cv] at g0 g1; obtain ⟨s0, e0, -, w0⟩ := DataW.trod_string Try.underlying9 g0; simp at e0; subst e0; obtain ⟨zs, k2, hk2, hxy2, _, hzl, hf2⟩ := DataW.trod_struct Try.underlying91 g1
    match zs, hzl with
    | [u0, u1, u2], _ =>
      have g2 := hf2 0 _ rfl; have g3 := hf2 1 _ rfl; have g4 := hf2 2 _ rfl; simp [c1, c3] at g2 g3 g4; obtain ⟨n1, e1, -, w1⟩ := DataW.trod_int Try.underlying3 g2; obtain ⟨s2, e2, -, w2⟩ := DataW.trod_string Try.underlying9 g3; obtain ⟨n3, e3, -, w3⟩ := DataW.trod_int Try.underlying3 g4; simp at e1 e2 e3; subst e1 e2 e3; exact ⟨⟨s0, n1, s2, n3⟩, rfl, ⟨w0, w2⟩, w1, w3⟩

theorem one_ringW {H : Type} {enc : TypeId × Value → H} {W : World} {base : Nat} {spare : Nat → Bool} {held : Bool} (hsp : ∀ b, spare b = true) (n : Nat) (cs' : List Value) (z : DataW H × List MemPlace) (hl : cs'.length = 1)
    (h : DataW.trod enc Try.prog W base spare held n 39 cs' = some z) : ∃ y : PC, cs' = y.cells ∧ y.Ok W ∧ ∀ p ∈ y.l, PtIn p := by
  match cs', hl with
  | [v], _ =>
    obtain ⟨a, l, c, rfl⟩ : ∃ a l c, v = .slice a l c := by
      rcases DataW.trod_slice Try.underlying39 h with ⟨hc, _⟩ | ⟨a, l, c, _, _, _, _, hc, _⟩
      · simp at hc; exact ⟨_, _, _, hc⟩
      · simp at hc; exact ⟨_, _, _, hc⟩
    obtain ⟨xs, rfl, h1, h2, h3, h4, h5⟩ := open_pts hsp h; exact ⟨⟨xs, a, c⟩, rfl, ⟨h4, h1, h2, h3⟩, h5⟩
theorem one_slice {cs : List Value} {H : Type} {enc : TypeId × Value → H} {W : World} {base : Nat} {spare : Nat → Bool} {held : Bool} {n : Nat} {v : Value} {z : DataW H × List MemPlace} {t e : TypeId} (ht : Try.prog.underlying t = some (.slice e))
    (h : DataW.trod enc Try.prog W base spare held n t [v] = some z) : ∃ a l c, v = .slice a l c := by
  rcases DataW.trod_slice ht h with ⟨hc, _⟩ | ⟨a, l, c, _, _, _, _, hc, _⟩
  · simp at hc; exact ⟨_, _, _, hc⟩
  · simp at hc; exact ⟨_, _, _, hc⟩

theorem one_face {H : Type} {enc : TypeId × Value → H} {W : World} {base : Nat} {spare : Nat → Bool} {held : Bool} (hsp : ∀ b, spare b = true) (n : Nat) (cs' : List Value) (z : DataW H × List MemPlace) (hl : cs'.length = 2)
    (h : DataW.trod enc Try.prog W base spare held n 38 cs' = some z) : ∃ y : Fc, cs' = y.cells ∧ FcIn W y := by
  have c1 : Try.prog.cellsOf 35 = 1 := by kernel_rfl
  have c2 : Try.prog.cellsOf 36 = 1 := by kernel_rfl
  obtain ⟨ys, k, hk, hxy, _, hxl, hf⟩ := DataW.trod_struct Try.underlying38 h
  match ys, hxl, cs', hl with
  | [y0, y1], _, [v0, v1], _ =>
    have g0 := hf 0 _ rfl; have g1 := hf 1 _ rfl; simp [c1, c2] at g0 g1; obtain ⟨a, l, c, rfl⟩ := one_slice (cs := []) Try.underlying35 g0; obtain ⟨b, m, d, rfl⟩ := one_slice (cs := []) Try.underlying36 g1; obtain ⟨xs, rfl, h1, h2, h3, h4, h5⟩ := open_flat 1 (by decide) PC.cells (fun y => y.Ok W ∧ ∀ p ∈ y.l, PtIn p) (fun _ => rfl) Try.underlying35 (by kernel_rfl) (fun n cs' z hl hz => one_ringW hsp n cs' z hl hz) g0; obtain ⟨ys, rfl, k1, k2, k3, k4, k5⟩ := open_flat 4 (by decide) At.cells AtIn (fun _ => rfl) Try.underlying36 (by kernel_rfl) (fun n cs' z hl hz => one_attr n cs' z hl hz) g1; exact ⟨⟨xs, a, c, ys, b, d⟩, rfl, ⟨⟨h4, h1, h2, h3⟩, fun r hr => (h5 r hr).1, ⟨k4, k1, k2, k3⟩⟩, k5, fun r hr => (h5 r hr).2⟩

theorem open_faces {H : Type} {enc : TypeId × Value → H} {W : World} {base : Nat} {spare : Nat → Bool} {fuel : Nat} {a : Option Addr} {len cap : Nat} {x : DataW H × List MemPlace} {held : Bool} (hsp : ∀ b, spare b = true)
    (h : DataW.trod enc Try.prog W base spare held fuel 22 [.slice a len cap] = some x) :
    ∃ xs : List Fc, len = xs.length ∧ len ≤ cap ∧ cap ≤ maxLen ∧ (a = none → cap = 0) ∧ Rd W a (fcs xs) ∧ ∀ y ∈ xs, FcIn W y :=
  open_flat 2 (by decide) Fc.cells (FcIn W) (fun _ => rfl) Try.underlying22 (by kernel_rfl) (fun n cs' z hl hz => one_face hsp n cs' z hl hz) h
theorem open_face {H : Type} {enc : TypeId × Value → H} {W : World} {base b0 : Nat} {spare : Nat → Bool} {held : Bool} {r : Reach} {v : Value} {d : DataW H} {ps : List MemPlace} (hv : Value.okWide Try.prog W r b0 38 v) (hsp : ∀ b, spare b = true)
    (hd : DataW.Trod enc Try.prog W base spare held 38 v d ps) : ∃ f : Fc, v = f.val ∧ FcIn W f := by
  obtain ⟨cs, rfl, hsz⟩ := okWide_struct Try.underlying38 hv; obtain ⟨n, hd⟩ := hd; have hc : (Value.agg cs).cells.toList = cs.toList := by simp [Value.cells]
  rw [hc] at hd; have c2 : Try.prog.cellsOf 38 = 2 := by kernel_rfl
  rw [c2] at hsz; obtain ⟨l⟩ := cs; obtain ⟨f, e, hf⟩ := one_face hsp n l _ hsz hd; exact ⟨f, by subst e; rfl, hf⟩
end Go.Proofs.Ytccamjnomjcchaa
/- What all laws of chapter 13 import first (so that their claims have the same files). -/

/- ring.edges: the iterator. -/
set_option linter.unusedVariables false
set_option linter.unusedSimpArgs false
namespace Go
end Go
namespace Go.Proofs.Ytccamjnomjcchaa
open Go.RowKit
attribute [local go_sem] Oper.semAt_some

def KpP (n₀ : Nat) (A B : World) : Prop := Below n₀ A B ∧ KeepT 39 39 A B

set_option maxRecDepth 100000 in
set_option maxHeartbeats 1000000 in
theorem edges1_in (n : Nat) (l Bn : Nat) (a : Option Addr) (c : Nat) (L : List Pt) (hlen : L.length ≤ 1000000) (w0 : World) (hr0 : Rd w0 a (pts L))
    (J : List (Pt × Pt) → World → Prop) (W : World) (hbl : Below w0.heap.size w0 W) (hJ : AbidesFrom W.heap.size J) (fr : Nat × Nat) (hBn : W.heap[Bn]? = some (.cells #[.slice a L.length c] 39 fr))
    (hY : ∀ pre x W1, J pre W1 → (pre.length < L.length ∧ x = (L[pre.length]!, L[(pre.length + 1) % L.length]!)) → YieldAt Fence.wide (n - 1) Try.prog l #[x.1.val, x.2.val] W1 fun e W' => e = .returned (.bool true) ∧ J (pre ++ [x]) W' ∧ KpP w0.heap.size W1 W')
    (h0 : J [] W) :
    CallsIn Fence.wide n Try.prog 103 #[.func (.yield l) #[] #[], .pointer (some ⟨Bn, 0, none⟩)] W fun e W' => (∃ v, e = .returned v) ∧ ∃ xs, xs = edges L ∧ J xs W' := by
  refine callsIn_of_wp Try.func103 rfl trivial ?_ rfl; simp only [Try.ntmps103, List.size_toArray, List.length_cons, List.length_nil, Nat.reduceAdd, Nat.reduceSub, Array.replicate_succ, Array.replicate_zero, List.push_toArray, List.append_toArray, List.nil_append, List.cons_append]; have hbc : W.cell? ⟨Bn, 0, none⟩ = some (.slice a L.length c) := by simp [World.cell?, hBn]
  gi_wp2
  gi_loopw [7] (fun i wr => ∃ k : Nat, i = .int .i64 k ∧ k ≤ L.length ∧ J ((edges L).take k) wr ∧ Below w0.heap.size w0 wr ∧ wr.heap[Bn]? = some (.cells #[.slice a L.length c] 39 fr)) (fun i _ => L.length - (intOf i).toNat)
  case atStart => exact ⟨0, rfl, Nat.zero_le _, h0, hbl, hBn⟩
  case round =>
    obtain ⟨k, rfl, hk, hj, hb1, hBx⟩ := hrel; have hbc' : wr.cell? ⟨Bn, 0, none⟩ = some (.slice a L.length c) := by simp [World.cell?, hBx]
    have HY := Lib.hid hY; have HJ := Lib.hid hJ; clear hY hBn hbc hJ
    by_cases hlt : k < L.length
    · obtain ⟨q, hq⟩ : ∃ q, (k + 1) % L.length = q := ⟨_, rfl⟩; have hql : q < L.length := by rw [← hq]; exact Nat.mod_lt _ (by omega)
      obtain ⟨b, off, rfl, hb, c0, c1⟩ := (hr0.keep hb1).pt k hlt; obtain ⟨b', off', e, hb', d0, d1⟩ := (hr0.keep hb1).pt q hql
      cases e
      have hek : (edges L)[k]? = some (L[k], L[q]) := by
        unfold edges; rw [List.getElem?_map, List.getElem?_range hlt]; simp only [Option.map_some, hq]; rw [getElem!_pos L k hlt, getElem!_pos L q hql]
      have hel : (edges L).length = L.length := by simp [edges]
      have htk : ((edges L).take k).length = k := by rw [List.length_take, hel]; omega
      have hsn : (edges L).take (k + 1) = (edges L).take k ++ [(L[k], L[q])] := by
        rw [List.take_add_one, hek]; rfl
      have hxe : (L[((edges L).take k).length]!, L[(((edges L).take k).length + 1) % L.length]!) = (L[k], L[q]) := by
        rw [htk, hq, getElem!_pos L k hlt, getElem!_pos L q hql]
      have hyy := fun W1 hj1 => HY.out ((edges L).take k) (L[k], L[q]) W1 hj1 ⟨by rw [htk]; exact hlt, hxe.symm⟩; have hrem : ((k : Int) + 1) % (L.length : Int) = (q : Int) := by rw [← hq]; simp
      obtain ⟨⟨x1, y1⟩, hp1⟩ : ∃ p, L[k] = p := ⟨_, rfl⟩; obtain ⟨⟨x2, y2⟩, hp2⟩ : ∃ p, L[q] = p := ⟨_, rfl⟩; rw [hp1] at c0 c1; rw [hp2] at d0 d1; rw [hp1, hp2] at hsn hyy; dsimp only [Pt.val] at c0 c1 d0 d1 hyy; have HSN := Lib.hid hsn; have hbA := Below.new wr (.cells #[.int .i64 x1, .int .i64 y1] 46); have hjA := HJ.out _ _ _ none hj (grownBy_of_below hbA none) (fun r h => by cases h); have hjB : J ((edges L).take k) (wr.alloc (.cells #[.int .i64 x1, .int .i64 y1] 46)).drew := HJ.out _ _ _ none hjA ⟨rfl, rfl, rfl, Nat.le_refl _, fun _ _ _ => rfl⟩ (fun r h => by cases h); obtain ⟨fn, tmps, assign, body, hy, hR⟩ := hyy _ hjB; have HR := Lib.hid hR; have hlz : (L.length : Int) ≠ 0 := by omega
      clear hyy hq hek hel htk hxe hp1 hp2 hR hjA hjB hsn; have hrem2 : (IntKind.i64.wrap ((k : Int) + 1)).tmod (L.length : Int) = (q : Int) := by
        rw [IntWalk.i64_in _ (by omega), Int.tmod_eq_emod_of_nonneg (by omega)]; exact hrem
      have hq0 : (0 : Int) ≤ (q : Int) ∧ (q : Int) < (L.length : Int) := by omega
      have hnb : b ≠ wr.heap.size := by omega
      have hBl : Bn < wr.heap.size := (Array.getElem?_eq_some_iff.1 hBx).1; have hnB : Bn ≠ wr.heap.size := by omega
      have hnil : ¬ L = [] := by intro h; rw [h] at hlt; simp at hlt
      have hln : ¬ L.length = 0 := by omega
      gi_wp2
      gi_region_with (refine ⟨(fun h => by cases h), HR.out.mono ?_⟩; rintro e W3 ⟨rfl, hJ3, hk3⟩)
      all_goals
        gi_wp2
        go_roundw
        case rel =>
          refine ⟨k + 1, by go_num, by omega, ?_, ?_, ?_⟩
          · rw [HSN.out]; exact hJ3
          · exact (hb1.trans ((hbA.drew).mono hb1.size)).trans hk3.1
          · exact (hk3.2.2 Bn _ _ _ ((Below.heap_alloc wr _ _ hBl).trans hBx) (.inl rfl)).trans ((Below.heap_alloc wr _ _ hBl).trans hBx)
        case measure => simp [intOf]; omega
    · obtain rfl : k = L.length := by omega
      have hall : (edges L).take L.length = edges L := List.take_of_length_le (by simp [edges]); rw [hall] at hj
      gi_wp2
      go_end0
      exact ⟨⟨_, rfl⟩, edges L, rfl, hj⟩
end Go.Proofs.Ytccamjnomjcchaa
/- ring.edges: the iterator, whose caller may leave. -/
set_option linter.unusedVariables false
set_option linter.unusedSimpArgs false
namespace Go.Proofs.Ytccamjnomjcchaa
open Go.RowKit
attribute [local go_sem] Oper.semAt_some

def KpR (a : Option Addr) (L : List Pt) (Bn : Nat) (A B : World) : Prop := (Rd A a (pts L) → Rd B a (pts L)) ∧ B.heap[Bn]? = A.heap[Bn]?

set_option maxRecDepth 100000 in
set_option maxHeartbeats 1000000 in
theorem edges1_lv (n : Nat) (l Bn : Nat) (a : Option Addr) (c : Nat) (L : List Pt) (hlen : L.length ≤ 1000000)
    (J Jx : List (Pt × Pt) → World → Prop) (W : World) (hr0 : Rd W a (pts L)) (hJ : AbidesFrom W.heap.size J) (hJx : AbidesFrom W.heap.size Jx) (fr : Nat × Nat) (hBn : W.heap[Bn]? = some (.cells #[.slice a L.length c] 39 fr))
    (hY : ∀ pre x W1, J pre W1 → (pre.length < L.length ∧ x = (L[pre.length]!, L[(pre.length + 1) % L.length]!)) → YieldAt Fence.wide (n - 1) Try.prog l #[x.1.val, x.2.val] W1 fun e W' => (e = .returned (.bool true) ∧ J (pre ++ [x]) W' ∧ KpR a L Bn W1 W') ∨ (e = .returned (.bool false) ∧ Jx (pre ++ [x]) W'))
    (h0 : J [] W) :
    CallsIn Fence.wide n Try.prog 103 #[.func (.yield l) #[] #[], .pointer (some ⟨Bn, 0, none⟩)] W fun e W' => (∃ v, e = .returned v) ∧ ((∃ xs, xs = edges L ∧ J xs W') ∨ ∃ pre, Jx pre W') := by
  refine callsIn_of_wp Try.func103 rfl trivial ?_ rfl; simp only [Try.ntmps103, List.size_toArray, List.length_cons, List.length_nil, Nat.reduceAdd, Nat.reduceSub, Array.replicate_succ, Array.replicate_zero, List.push_toArray, List.append_toArray, List.nil_append, List.cons_append]; have hbc : W.cell? ⟨Bn, 0, none⟩ = some (.slice a L.length c) := by simp [World.cell?, hBn]
  gi_wp2
  gi_loopw [7] (fun i wr => ∃ k : Nat, i = .int .i64 k ∧ k ≤ L.length ∧ J ((edges L).take k) wr ∧ Rd wr a (pts L) ∧ wr.heap[Bn]? = some (.cells #[.slice a L.length c] 39 fr)) (fun i _ => L.length - (intOf i).toNat)
  case atStart => exact ⟨0, rfl, Nat.zero_le _, h0, hr0, hBn⟩
  case round =>
    obtain ⟨k, rfl, hk, hj, hb1, hBx⟩ := hrel; have hbc' : wr.cell? ⟨Bn, 0, none⟩ = some (.slice a L.length c) := by simp [World.cell?, hBx]
    have HY := Lib.hid hY; have HJ := Lib.hid hJ; have HJX := Lib.hid hJx; clear hY hBn hbc hJ hJx
    by_cases hlt : k < L.length
    · obtain ⟨q, hq⟩ : ∃ q, (k + 1) % L.length = q := ⟨_, rfl⟩; have hql : q < L.length := by rw [← hq]; exact Nat.mod_lt _ (by omega)
      obtain ⟨b, off, rfl, hb, c0, c1⟩ := hb1.pt k hlt; obtain ⟨b', off', e, hb', d0, d1⟩ := hb1.pt q hql
      cases e
      have hek : (edges L)[k]? = some (L[k], L[q]) := by
        unfold edges; rw [List.getElem?_map, List.getElem?_range hlt]; simp only [Option.map_some, hq]; rw [getElem!_pos L k hlt, getElem!_pos L q hql]
      have hel : (edges L).length = L.length := by simp [edges]
      have htk : ((edges L).take k).length = k := by rw [List.length_take, hel]; omega
      have hsn : (edges L).take (k + 1) = (edges L).take k ++ [(L[k], L[q])] := by
        rw [List.take_add_one, hek]; rfl
      have hxe : (L[((edges L).take k).length]!, L[(((edges L).take k).length + 1) % L.length]!) = (L[k], L[q]) := by
        rw [htk, hq, getElem!_pos L k hlt, getElem!_pos L q hql]
      have hyy := fun W1 hj1 => HY.out ((edges L).take k) (L[k], L[q]) W1 hj1 ⟨by rw [htk]; exact hlt, hxe.symm⟩; have hrem : ((k : Int) + 1) % (L.length : Int) = (q : Int) := by rw [← hq]; simp
      obtain ⟨⟨x1, y1⟩, hp1⟩ : ∃ p, L[k] = p := ⟨_, rfl⟩; obtain ⟨⟨x2, y2⟩, hp2⟩ : ∃ p, L[q] = p := ⟨_, rfl⟩; rw [hp1] at c0 c1; rw [hp2] at d0 d1; rw [hp1, hp2] at hsn hyy; dsimp only [Pt.val] at c0 c1 d0 d1 hyy; have HSN := Lib.hid hsn; have hbA := Below.new wr (.cells #[.int .i64 x1, .int .i64 y1] 46); have hjA := HJ.out _ _ _ none hj (grownBy_of_below hbA none) (fun r h => by cases h); have hjB : J ((edges L).take k) (wr.alloc (.cells #[.int .i64 x1, .int .i64 y1] 46)).drew := HJ.out _ _ _ none hjA ⟨rfl, rfl, rfl, Nat.le_refl _, fun _ _ _ => rfl⟩ (fun r h => by cases h); obtain ⟨fn, tmps, assign, body, hy, hR⟩ := hyy _ hjB; have HR := Lib.hid hR; have HRD := Lib.hid hb1; clear hb1; have hlz : (L.length : Int) ≠ 0 := by omega
      clear hyy hq hek hel htk hxe hp1 hp2 hR hjA hjB hsn; have hrem2 : (IntKind.i64.wrap ((k : Int) + 1)).tmod (L.length : Int) = (q : Int) := by
        rw [IntWalk.i64_in _ (by omega), Int.tmod_eq_emod_of_nonneg (by omega)]; exact hrem
      have hq0 : (0 : Int) ≤ (q : Int) ∧ (q : Int) < (L.length : Int) := by omega
      have hnb : b ≠ wr.heap.size := by omega
      have hBl : Bn < wr.heap.size := (Array.getElem?_eq_some_iff.1 hBx).1; have hnB : Bn ≠ wr.heap.size := by omega
      have hnil : ¬ L = [] := by intro h; rw [h] at hlt; simp at hlt
      have hln : ¬ L.length = 0 := by omega
      gi_wp2
      gi_region_with (refine ⟨(fun h => by cases h), HR.out.mono ?_⟩; rintro e W3 hW3; obtain ⟨bb, rfl, hcs⟩ := yield_bool hW3; replace hcs := Lib.hid hcs)
      all_goals
        rcases hcs.out with ⟨rfl, hJ3, hk3⟩ | ⟨rfl, hJ3⟩
        · gi_wp2
          go_roundw
          case rel =>
            refine ⟨k + 1, by go_num, by omega, ?_, ?_, ?_⟩
            · rw [HSN.out]; exact hJ3
            · exact hk3.1 (HRD.out.alloc _).drew
            · exact hk3.2.trans ((Below.heap_alloc wr _ _ hBl).trans hBx)
          case measure => simp [intOf]; omega
        · gi_wp2
          exact ⟨rfl, .tuple #[], by simp [results, Try.results103, go_sem], ⟨_, rfl⟩, .inr ⟨_, hJ3⟩⟩
    · obtain rfl : k = L.length := by omega
      have hall : (edges L).take L.length = edges L := List.take_of_length_le (by simp [edges]); rw [hall] at hj
      gi_wp2
      go_end0
      exact ⟨⟨_, rfl⟩, .inl ⟨edges L, rfl, hj⟩⟩
theorem edges_inL (n : Nat) (a : Option Addr) (m c : Nat) (w : World) :
    CallsIn Fence.wide n Try.prog 78 #[.slice a m c] w fun e w' => e = .returned (.func (.func 103) #[] #[.pointer (some ⟨w.heap.size, 0, none⟩)]) ∧ w' = w.alloc (.cells #[.slice a m c] 39) := by
  refine callsIn_of_wp Try.func78 rfl trivial ?_ rfl; simp only [Try.ntmps78, List.size_toArray, List.length_cons, List.length_nil, Nat.reduceAdd, Nat.reduceSub, Array.replicate_succ, Array.replicate_zero, List.push_toArray, List.append_toArray, List.nil_append, List.cons_append]
  gi_wp2
  go_ret; exact ⟨rfl, rfl⟩

theorem edges_leave (n : Nat) (Bn : Nat) (a : Option Addr) (c : Nat) (L : List Pt) (hlen : L.length ≤ 1000000)
    (W0 : World) (hr : Rd W0 a (pts L)) (fr : Nat × Nat) (hBn : W0.heap[Bn]? = some (.cells #[.slice a L.length c] 39 fr)) :
    SeqLeave Fence.wide n Try.prog 103 #[.pointer (some ⟨Bn, 0, none⟩)] (fun x : Pt × Pt => #[x.1.val, x.2.val]) (fun pre x _ => pre.length < L.length ∧ x = (L[pre.length]!, L[(pre.length + 1) % L.length]!)) (KpR a L Bn) (fun xs _ => xs = edges L) W0 := by
  intro l J Jx W hb0 hJ hJx hY h0; exact edges1_lv n l Bn a c L hlen J Jx W (hr.keep hb0) hJ hJx fr ((hb0.block Bn (Array.getElem?_eq_some_iff.1 hBn).1).trans hBn) hY h0

theorem KpR.putObj {a : Option Addr} {L : List Pt} {Bn : Nat} {w : World} (hB : Bn < w.heap.size) (W : World) (l : Nat) (o o' : Obj) (hl : w.heap.size ≤ l) (h1 : W.heap[l]? = some o) (h2 : o.isCells = false) : KpR a L Bn W (W.putObj l o') :=
  ⟨fun h => h.putObj o' h1 h2, World.putObj_heap_other (fun e => by omega)⟩
theorem KpR.trans {a : Option Addr} {L : List Pt} {Bn : Nat} {A B C : World} (h : KpR a L Bn A B) (k : KpR a L Bn B C) : KpR a L Bn A C := ⟨fun x => k.1 (h.1 x), k.2.trans h.2⟩
end Go.Proofs.Ytccamjnomjcchaa
/- exact.Turn, between, On. -/
set_option linter.unusedVariables false
set_option linter.unusedSimpArgs false
set_option maxRecDepth 100000
namespace Go
def boxB (a b p : Pt) : Bool := decide (min a.x b.x ≤ p.x ∧ p.x ≤ max a.x b.x) && decide (min a.y b.y ≤ p.y ∧ p.y ≤ max a.y b.y)
def onX (a b p : Pt) : Bool := decide (crs a b p = 0) && boxB a b p
end Go
namespace Go.Proofs.Ytccamjnomjcchaa
open Go.RowKit
theorem three_lit (w : World) (T : TypeId) (a b c : Pt) :
    Blk (((w.alloc (.cells #[.int .i64 a.x, .int .i64 a.y] T)).alloc (.cells #[.int .i64 b.x, .int .i64 b.y] T)).alloc (.cells #[.int .i64 c.x, .int .i64 c.y] T)) w.heap.size a.cells ∧
    Blk (((w.alloc (.cells #[.int .i64 a.x, .int .i64 a.y] T)).alloc (.cells #[.int .i64 b.x, .int .i64 b.y] T)).alloc (.cells #[.int .i64 c.x, .int .i64 c.y] T)) (w.heap.size + 1) b.cells ∧
    Blk (((w.alloc (.cells #[.int .i64 a.x, .int .i64 a.y] T)).alloc (.cells #[.int .i64 b.x, .int .i64 b.y] T)).alloc (.cells #[.int .i64 c.x, .int .i64 c.y] T)) (w.heap.size + 1 + 1) c.cells ∧
    Below w.heap.size w (((w.alloc (.cells #[.int .i64 a.x, .int .i64 a.y] T)).alloc (.cells #[.int .i64 b.x, .int .i64 b.y] T)).alloc (.cells #[.int .i64 c.x, .int .i64 c.y] T)) :=
  ⟨((Blk.lit w w.heap.size a.cells T rfl).alloc _).alloc _, (Blk.lit _ (w.heap.size + 1) b.cells T (by simp)).alloc _, Blk.lit _ (w.heap.size + 1 + 1) c.cells T (by simp),
   ((Below.new w _).alloc (by simp) _).alloc (by simp; omega) _⟩

set_option maxHeartbeats 1600000 in
theorem xbetween_any (a b c : Pt) (w : World) :
    Calls Try.prog 105 #[a.val, b.val, c.val] w fun e w' => e = .returned (.bool (boxB a b c)) ∧ Below w.heap.size w w' := by
  have HW := Lib.hid (fun n lo hi w => xwithin_any n lo hi w); obtain ⟨kA, kB, kC, hbl⟩ := three_lit w 46 a b c; have HB : Hid (boxB a b c = (decide (min a.x b.x ≤ c.x ∧ c.x ≤ max a.x b.x) && decide (min a.y b.y ≤ c.y ∧ c.y ≤ max a.y b.y))) := Lib.hid rfl; generalize boxB a b c = BB at *; obtain ⟨ax, ay⟩ := a; obtain ⟨bx, bY⟩ := b; obtain ⟨cx, cy⟩ := c; dsimp only [Pt.val, Pt.cells] at *; have a0 := kA.cell 0 rfl; have a1 := kA.cell 1 rfl; have b0 := kB.cell 0 rfl; have b1 := kB.cell 1 rfl; have c0 := kC.cell 0 rfl; have c1 := kC.cell 1 rfl; obtain ⟨lx, hlx⟩ : ∃ z : Int, (if bx < ax then bx else ax) = z := ⟨_, rfl⟩; obtain ⟨ly, hly⟩ : ∃ z : Int, (if bY < ay then bY else ay) = z := ⟨_, rfl⟩; obtain ⟨mx, hmx⟩ : ∃ z : Int, (if ax < bx then bx else ax) = z := ⟨_, rfl⟩; obtain ⟨my, hmy⟩ : ∃ z : Int, (if ay < bY then bY else ay) = z := ⟨_, rfl⟩; have e1 : min ax bx = lx := by rw [← hlx]; split <;> omega
  have e2 : min ay bY = ly := by rw [← hly]; split <;> omega
  have e3 : max ax bx = mx := by rw [← hmx]; split <;> omega
  have e4 : max ay bY = my := by rw [← hmy]; split <;> omega
  rw [e1, e2, e3, e4] at HB
  go_enter Try.func105, Try.ntmps105
  go_wp2_with fail
  refine (HW.out _ _ _ _).mono ?_; rintro e w1 ⟨rfl, rfl⟩
  cases hB1 : decide (lx ≤ cx ∧ cx ≤ mx) with
  | false =>
    rw [hB1] at HB; go_wp2; go_ret; exact ⟨ret_bool (by rw [HB.out]; rfl), hbl⟩
  | true =>
    rw [hB1] at HB
    go_wp2_with fail
    refine (HW.out _ _ _ _).mono ?_; rintro e w1 ⟨rfl, rfl⟩
    cases hB2 : decide (ly ≤ cy ∧ cy ≤ my) with
    | false =>
      rw [hB2] at HB; go_wp2; go_ret; exact ⟨ret_bool (by rw [HB.out]; rfl), hbl⟩
    | true =>
      rw [hB2] at HB; go_wp2; go_ret; exact ⟨ret_bool (by rw [HB.out]; rfl), hbl⟩

set_option maxHeartbeats 1600000 in
theorem xon_any (a b c : Pt) (ha : okPt a = true) (hb : okPt b = true) (hc : okPt c = true) (w : World) :
    Calls Try.prog 80 #[a.val, b.val, c.val] w fun e w' => e = .returned (.bool (onX a b c)) ∧ Below w.heap.size w w' := by
  have HT := Lib.hid (fun w => xturn_any a b c ha hb hc w); have HBT := Lib.hid (fun w => xbetween_any a b c w); have hall : ([a, b, c].all okPt) = true := by simp [ha, hb, hc]
  obtain ⟨kA, kB, kC, hbl⟩ := three_lit w 46 a b c; have HON : Hid (onX a b c = (decide (sg (crs a b c) = 0) && boxB a b c)) := Lib.hid (by unfold onX; simp only [sg_zero]); have hri := fun W h => xright_any (some ⟨w.heap.size + 1 + 1 + 1, 0, none⟩) 3 [a, b, c] (by simp [maxLen]) W h; rw [hall] at hri; have HRI := Lib.hid hri; clear hri hall; generalize onX a b c = ON at *; generalize sg (crs a b c) = SG at *; generalize boxB a b c = BB at *; obtain ⟨ax, ay⟩ := a; obtain ⟨bx, bY⟩ := b; obtain ⟨cx, cy⟩ := c; dsimp only [Pt.val, Pt.cells] at *; have a0 := kA.cell 0 rfl; have a1 := kA.cell 1 rfl; have b0 := kB.cell 0 rfl; have b1 := kB.cell 1 rfl; have c0 := kC.cell 0 rfl; have c1 := kC.cell 1 rfl; clear ha hb hc
  go_enter Try.func80, Try.ntmps80
  go_wp2_with fail
  refine (HRI.out _ (Rd.lit _ _ [.int .i64 ax, .int .i64 ay, .int .i64 bx, .int .i64 bY, .int .i64 cx, .int .i64 cy] _ (by simp))).mono ?_; rintro e w1 ⟨rfl, hx1⟩; have hlw : (((w.alloc (.cells #[.int .i64 ax, .int .i64 ay] 46)).alloc (.cells #[.int .i64 bx, .int .i64 bY] 46)).alloc (.cells #[.int .i64 cx, .int .i64 cy] 46)).heap.size = w.heap.size + 1 + 1 + 1 := by simp
  have hx2 := (Below.new (((w.alloc (.cells #[.int .i64 ax, .int .i64 ay] 46)).alloc (.cells #[.int .i64 bx, .int .i64 bY] 46)).alloc (.cells #[.int .i64 cx, .int .i64 cy] 46)) (.cells #[.int .i64 ax, .int .i64 ay, .int .i64 bx, .int .i64 bY, .int .i64 cx, .int .i64 cy] 46)).trans (hx1.mono (by simp)); have kA := kA.keep hx2; have kB := kB.keep hx2; have kC := kC.keep hx2; have hbl := hbl.trans (hx2.mono hbl.size); clear a0 a1 b0 b1 c0 c1 hx1 hx2 hlw HRI; have a0 := kA.cell 0 rfl; have a1 := kA.cell 1 rfl; have b0 := kB.cell 0 rfl; have b1 := kB.cell 1 rfl; have c0 := kC.cell 0 rfl; have c1 := kC.cell 1 rfl
  go_wp2_with fail
  refine (HT.out _).mono ?_; rintro e w2 ⟨rfl, hx1⟩; have kA := kA.keep hx1; have kB := kB.keep hx1; have kC := kC.keep hx1; have hbl := hbl.trans (hx1.mono hbl.size); clear a0 a1 b0 b1 c0 c1 hx1 HT
  by_cases hz : SG = 0
  · subst hz; have a0 := kA.cell 0 rfl; have a1 := kA.cell 1 rfl; have b0 := kB.cell 0 rfl; have b1 := kB.cell 1 rfl; have c0 := kC.cell 0 rfl; have c1 := kC.cell 1 rfl
    go_wp2_with fail
    refine (HBT.out _).mono ?_; rintro e w3 ⟨rfl, hx1⟩; have hbl := hbl.trans (hx1.mono hbl.size); clear a0 a1 b0 b1 c0 c1 hx1 HBT kA kB kC; go_wp2; go_ret; exact ⟨ret_bool (by rw [HON.out]; simp), hbl⟩
  · go_wp2; go_ret; exact ⟨ret_bool (by rw [HON.out]; simp; omega), hbl⟩
end Go.Proofs.Ytccamjnomjcchaa
/- What a point is gone round by (plain). -/
set_option linter.unusedVariables false
set_option linter.unusedSimpArgs false
set_option maxRecDepth 100000
namespace Go
open Go.RowKit
def windE (p : Pt) (e : Pt × Pt) : Int :=
  if e.1.y ≤ p.y ∧ p.y < e.2.y ∧ 0 < sg (crs e.1 e.2 p) then 1 else if e.2.y ≤ p.y ∧ p.y < e.1.y ∧ sg (crs e.1 e.2 p) < 0 then -1 else 0
def windS (p : Pt) : List (Pt × Pt) → Int
  | [] => 0
  | e :: r => windE p e + windS p r
theorem windS_append (p : Pt) (l r : List (Pt × Pt)) : windS p (l ++ r) = windS p l + windS p r := by
  induction l with
  | nil => simp [windS]
  | cons e l ih => simp only [List.cons_append, windS, ih]; omega
theorem windS_snoc (p : Pt) (l : List (Pt × Pt)) (e : Pt × Pt) : windS p (l ++ [e]) = windS p l + windE p e := by
  rw [windS_append]; simp [windS]
theorem windE_bd (p : Pt) (e : Pt × Pt) : -1 ≤ windE p e ∧ windE p e ≤ 1 := by
  unfold windE; split
  · omega
  · split <;> omega
theorem windS_bd (p : Pt) (l : List (Pt × Pt)) : -(l.length : Int) ≤ windS p l ∧ windS p l ≤ l.length := by
  induction l with
  | nil => simp [windS]
  | cons e l ih => have := windE_bd p e; simp only [windS, List.length_cons]; omega
def offB (p : Pt) (e : Pt × Pt) : Bool := !onX e.1 e.2 p
def OffAll (p : Pt) (l : List (Pt × Pt)) : Prop := l.all (offB p) = true
def windOk (l : List Pt) (p : Pt) : Bool := okPt p && (l.all okPt && (edges l).all (offB p))
def windF (l : List Pt) (p : Pt) : Int := if windOk l p then windS p (edges l) else 0
theorem edges_okX (l : List Pt) (h : l.all okPt = true) : ∀ e ∈ edges l, okPt e.1 = true ∧ okPt e.2 = true := by
  intro e he; unfold edges at he; obtain ⟨i, hi, rfl⟩ := List.mem_map.1 he; rw [List.mem_range] at hi; rw [List.all_eq_true] at h; have hm := Nat.mod_lt (i + 1) (show 0 < l.length by omega); dsimp only; rw [getElem!_pos l i hi, getElem!_pos l _ hm]; exact ⟨h _ (List.getElem_mem hi), h _ (List.getElem_mem hm)⟩
end Go
