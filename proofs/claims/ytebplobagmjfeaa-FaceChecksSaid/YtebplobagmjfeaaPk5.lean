/-
  ring.edges, ring.Area. A range over a function whose iterator promises something of the world at each call of yield, and of the world behind all rounds; the body may leave. World facts for a range over a function whose body appends to a boxed row, and calls. ring.edges: the iterator, whose caller may leave.
-/
import Derived.Test.YtebplobagmjfeaaPk4
import Derived.WalkSmall
import Derived.RangeFuncNested
import Derived.RangeFuncBound
import Derived.RangeFuncCalls
import Derived.RangeFuncLeaves
import Derived.WalkKit
import Derived.Test.YtebplobagmjfeaaPk1
import Derived.Test.YtebplobagmjfeaaProg
import Derived.Shelf.Abstract
import Derived.Shelf.RegionOpen
import Derived.OwnWalkIn
import Derived.TacticsInMore
import Derived.LoopNIn
import Derived.LoopIn
import Derived.BigRegionIn
import Derived.Stop.RegionWithIn
/- ring.edges, ring.Area. -/
set_option linter.unusedVariables false
set_option linter.unusedSimpArgs false
namespace Go
/-- The doubled area of a ring, told from its first point. -/
def fan (l : List Pt) : List (Pt × Pt) → Int
  | [] => 0
  | e :: r => crs l[0]! e.1 e.2 + fan l r
theorem fan_snoc (l : List Pt) (r : List (Pt × Pt)) (e : Pt × Pt) : fan l (r ++ [e]) = fan l r + crs l[0]! e.1 e.2 := by
  induction r with
  | nil => simp [fan]
  | cons x r ih => simp only [List.cons_append, fan, ih]; omega
def areaF (l : List Pt) : Int := if l.length < 3 ∨ l.all okPt = false then 0 else fan l (edges l)

theorem ok_get (l : List Pt) (h : l.all okPt = true) (i : Nat) (hi : i < l.length) : okPt l[i]! = true := by
  rw [getElem!_pos l i hi]
  exact List.all_eq_true.1 h _ (List.getElem_mem _)

theorem fan_bd (l : List Pt) (h : l.all okPt = true) (h0 : 0 < l.length) (r : List (Pt × Pt)) (hr : ∀ e ∈ r, okPt e.1 = true ∧ okPt e.2 = true) : -(2251799813685248 * r.length) ≤ fan l r ∧ fan l r ≤ 2251799813685248 * r.length := by
  induction r with
  | nil => simp [fan]
  | cons e r ih =>
    have h1 := crs_bd l[0]! e.1 e.2 (ok_get l h 0 h0) (hr e (by simp)).1 (hr e (by simp)).2
    have h2 := ih (fun x hx => hr x (by simp [hx]))
    simp only [fan, List.length_cons]
    omega
theorem edges_ok (l : List Pt) (h : l.all okPt = true) : ∀ e ∈ edges l, okPt e.1 = true ∧ okPt e.2 = true := by
  intro e he
  unfold edges at he
  obtain ⟨i, hi, rfl⟩ := List.mem_map.1 he
  have hi := List.mem_range.1 hi
  exact ⟨ok_get l h i hi, ok_get l h _ (Nat.mod_lt _ (by omega))⟩
end Go
namespace Go.Proofs.Ytebplobagmjfeaa
open Go.RowKit
attribute [local go_sem] Oper.semAt_some

set_option maxHeartbeats 1000000 in
theorem edges_in (n : Nat) (a : Option Addr) (m c : Nat) (w : World) :
    CallsIn Fence.wide n Try.prog 48 #[.slice a m c] w fun e w' => e = .returned (.func (.func 67) #[] #[.pointer (some ⟨w.heap.size, 0, none⟩)]) ∧ w' = w.alloc (.cells #[.slice a m c] 65) := by
  refine callsIn_of_wp Try.func48 rfl trivial ?_ rfl
  simp only [Try.ntmps48, List.size_toArray, List.length_cons, List.length_nil, Nat.reduceAdd, Nat.reduceSub, Array.replicate_succ, Array.replicate_zero, List.push_toArray, List.append_toArray, List.nil_append, List.cons_append]
  gi_wp2
  go_ret
  exact ⟨rfl, rfl⟩

theorem edges_ahead (n : Nat) (Bn : Nat) (a : Option Addr) (c : Nat) (L : List Pt) (hlen : L.length ≤ 1000000) (w : World) (hr : Rd w a (pts L))
    (W0 : World) (hB0 : Below w.heap.size w W0) (fr : Nat × Nat) (hBn : W0.heap[Bn]? = some (.cells #[.slice a L.length c] 65 fr)) :
    SeqAhead Fence.wide n Try.prog 67 #[.pointer (some ⟨Bn, 0, none⟩)] (fun x : Pt × Pt => #[x.1.val, x.2.val]) (fun pre x _ => pre.length < L.length ∧ x = (L[pre.length]!, L[(pre.length + 1) % L.length]!)) (KpP w.heap.size) (fun xs _ => xs = edges L) W0 := by
  intro l J W hb0 hJ hY h0
  exact edges1_in n l Bn a c L hlen w hr J W (hB0.trans (hb0.mono hB0.size)) hJ fr ((hb0.block Bn (Array.getElem?_eq_some_iff.1 hBn).1).trans hBn) hY h0

set_option maxRecDepth 100000 in
set_option maxHeartbeats 1000000 in
theorem rarea_any (a : Option Addr) (c : Nat) (L : List Pt) (hlen : L.length ≤ 1000) (w : World) (hr : Rd w a (pts L)) :
    Calls Try.prog 24 #[.slice a L.length c] w fun e w' => e = .returned (.int .i64 (areaF L)) ∧ Below w.heap.size w w' := by
  refine (callsIn_wide (n := 5)).1 ?_
  refine callsIn_of_wp_marks Try.func24 rfl trivial ?_ rfl
  simp only [Try.ntmps24, List.size_toArray, List.length_cons, List.length_nil, Nat.reduceAdd, Nat.reduceSub, Array.replicate_succ, Array.replicate_zero, List.push_toArray, List.append_toArray, List.nil_append, List.cons_append]
  have hri := fun W h => xright_any a c L (by unfold maxLen; omega) W h
  have HRI := Lib.hid hri
  clear hri
  by_cases h3 : L.length < 3
  · have h3' : (L.length : Int) < 3 := by omega
    have hz : Hid (areaF L = 0) := Lib.hid (by unfold areaF; rw [if_pos (.inl h3)])
    gi_wp2
    refine ⟨trivial, ?_⟩
    gi_wp2
    exact ⟨.int .i64 0, by simp [results, Try.results24, go_sem], ret_int hz.out.symm, Below.new _ _⟩
  · have h3' : ¬ (L.length : Int) < 3 := by omega
    gi_wp2_with fail
    refine ⟨trivial, (callsIn_wide.2 (HRI.out _ (hr.alloc _))).mono ?_⟩
    rintro e w1 ⟨rfl, hb1⟩
    clear HRI
    by_cases hok : L.all okPt = true
    · have hok' : (L.all okPt) = true := hok
      rw [hok]
      have HOK := Lib.hid hok
      have hA : Hid (areaF L = fan L (edges L)) := Lib.hid (by unfold areaF; rw [if_neg (by rw [hok]; simp; omega)])
      have bL0 := (Boxed.new w 65 (.slice a L.length c))
      have bL1 : Boxed w1 w.heap.size 65 (.slice a L.length c) := (hb1.block _ bL0.lt).trans bL0
      have hbl1 : Below w.heap.size w w1 := (Below.new w _).trans (hb1.mono (by simp))
      have hs1 := hbl1.size
      have hlt1 := bL1.lt
      have cL := bL1.cell
      have hneH : ¬ w.heap.size = w1.heap.size := by omega
      clear hok hok' hb1 bL0
      gi_wp2_with (first | (refine ⟨trivial, ?_⟩; gi_at_call 48; refine (edges_in _ _ _ _ _).mono ?_; rintro e w' ⟨rfl, rfl⟩) | (gi_at_call 48; refine (edges_in _ _ _ _ _).mono ?_; rintro e w' ⟨rfl, rfl⟩))
      have bS := (Boxed.new w1 3 (.int .i64 0)).alloc (.cells #[.slice a L.length c] 65)
      have bN := Boxed.new (w1.alloc (.cells #[.int .i64 0] 3)) 65 (.slice a L.length c)
      have bL2 := (bL1.alloc (.cells #[.int .i64 0] 3)).alloc (.cells #[.slice a L.length c] 65)
      simp only [World.size_alloc] at bN
      have hB0 : Below w.heap.size w ((w1.alloc (.cells #[.int .i64 0] 3)).alloc (.cells #[.slice a L.length c] 65)) := (hbl1.alloc hs1 _).alloc (by simp; omega) _
      have hsz : ((w1.alloc (.cells #[.int .i64 0] 3)).alloc (.cells #[.slice a L.length c] 65)).heap.size = w1.heap.size + 2 := by simp
      obtain ⟨W0, hW0⟩ : ∃ W0, ((w1.alloc (.cells #[.int .i64 0] 3)).alloc (.cells #[.slice a L.length c] 65)) = W0 := ⟨_, rfl⟩
      rw [hW0] at bS bN bL2 hB0 hsz ⊢
      clear hW0 bL1 cL
      refine wpIn_rangeFunc_ahead rfl (by decide) (gf := 67) (lb := #[.pointer (some ⟨w1.heap.size + 1, 0, none⟩)]) rfl trivial (enters_of Try.func67 (by kernel_rfl) rfl)
        (edges_ahead (5 - 1) (w1.heap.size + 1) a c L (by omega) w hr W0 hB0 (0, 0) bN) (fun h k => ⟨h.1.trans k.1, h.2.trans k.2⟩)
        (fun W l o o' hl h1 h2 => ⟨(Below.refl _ W).grown (grownBy_putObj' W l o') (by have := (Array.getElem?_eq_some_iff.1 h1).1; omega) (fun k e => by cases e; omega), KeepT.putObj W l o o' h1 h2⟩) (Below.refl _ _) (fun _ => rfl)
        (fun (pre : List (Pt × Pt)) W => ((Boxed W w1.heap.size 3 (.int .i64 (fan L pre)) ∧ Boxed W w.heap.size 65 (.slice a L.length c)) ∧ pre = (edges L).take pre.length) ∧ Below w.heap.size w W)
        (OwnFrom.and (OwnFrom.and (OwnFrom.and (Own.from (boxed_own _ _ (fun (pre : List (Pt × Pt)) => Value.int .i64 (fan L pre))) _) (Own.from (boxed_own _ _ _) _)) (ownFrom_pure _ _)) (ownFrom_below (Nat.le_refl _) (by omega)))
        (ownFrom_pure _ _)
        ⟨⟨⟨bS, bL2⟩, rfl⟩, hB0⟩
        (fun (pre : List (Pt × Pt)) (x : Pt × Pt) a' W => (((Boxed W w1.heap.size 3 (.int .i64 (fan L pre)) ∧ Boxed W w.heap.size 65 (.slice a L.length c)) ∧ pre = (edges L).take pre.length) ∧ Below w.heap.size w W) ∧ (pre.length < L.length ∧ x = (L[pre.length]!, L[(pre.length + 1) % L.length]!)) ∧
          ∃ Ba Bb, w1.heap.size < Ba ∧ w1.heap.size < Bb ∧ Blk W Ba x.1.cells ∧ Blk W Bb x.2.cells ∧ a' = { tmps := #[.slice a L.length c, .pointer (some ⟨w.heap.size, 0, none⟩), .int .i64 0, .pointer (some ⟨w1.heap.size, 0, none⟩), .pointer (some ⟨Ba, 0, none⟩), .pointer (some ⟨Bb, 0, none⟩), .slice a L.length c, .int .i64 (L.length : Nat), .bool false, .bool false, .slice a L.length c, .bool true, .bool false, .bool false, .slice a L.length c, .func (.func 67) #[] #[.pointer (some ⟨w1.heap.size + 1, 0, none⟩)], x.1.val, x.2.val, undef, undef, undef, undef, undef, undef, undef, undef, undef], defers := [] })
        ?hM ?assign ?body ?done
      case hM =>
        rintro pre x a' _ X Y row ⟨⟨⟨⟨hE, hL2⟩, hpre⟩, hbw⟩, hx, Ba, Bb, ha, hb, bA, bB, rfl⟩ hg hrow
        have hr' : ∀ r, row = some r → ∃ o : Obj, X.heap[r]? = some o ∧ o.isCells = false := fun r e => (hrow r e).2
        have hne : ∀ (B : Nat) vs, Blk X B vs → some B ≠ row := by
          intro B vs ⟨T, hT⟩ e
          obtain ⟨o, ho, hc⟩ := hr' B e.symm
          rw [hT] at ho
          cases ho
          cases hc
        exact ⟨⟨⟨⟨boxed_own _ _ (fun (_ : Unit) => _) () X Y row hE hg hr', boxed_own _ _ (fun (_ : Unit) => _) () X Y row hL2 hg hr'⟩, hpre⟩, hbw.grown hg (by have := hbw.size; omega) (fun k e => by have := (hrow k e).1; omega)⟩, hx, Ba, Bb, ha, hb, bA.grown hg (hne _ _ bA), bB.grown hg (hne _ _ bB), rfl⟩
      case assign =>
        rintro l pre ⟨⟨x1, y1⟩, ⟨x2, y2⟩⟩ W ⟨⟨⟨hE, hL2⟩, hpre⟩, hbw⟩ hx
        dsimp only [Pt.val]
        have HPRE := Lib.hid hpre
        clear hpre
        gi_wp2
        have hb2 : Below W.heap.size W ((W.alloc (.cells #[.int .i64 x1, .int .i64 y1] 37)).alloc (.cells #[.int .i64 x2, .int .i64 y2] 37)) := (Below.new W _).alloc (by simp) _
        exact ⟨(KeepsOthers.alloc _ _).trans (KeepsOthers.alloc _ _), ⟨hb2.mono hbw.size, KeepT.of_below hb2⟩, ⟨⟨⟨(hE.alloc _).alloc _, (hL2.alloc _).alloc _⟩, HPRE.out⟩, hbw.trans (hb2.mono hbw.size)⟩, hx, W.heap.size, W.heap.size + 1, hE.lt, by have := hE.lt; omega,
          (Blk.new W [.int .i64 x1, .int .i64 y1] 37).alloc _, Blk.lit (W.alloc (.cells #[.int .i64 x1, .int .i64 y1] 37)) (W.heap.size + 1) [.int .i64 x2, .int .i64 y2] 37 (by simp), rfl⟩
      case body =>
        rintro l pre ⟨⟨x1, y1⟩, ⟨x2, y2⟩⟩ a' W ⟨⟨⟨⟨hE, hL2⟩, hpre⟩, hbw⟩, ⟨hpl, hxe⟩, Ba, Bb, ha, hb, bA, bB, rfl⟩
        obtain ⟨b, off, rfl, hbs, -, -⟩ := hr.pt 0 (by omega)
        obtain ⟨b', off', hbe, -, c0, c1⟩ := (hr.keep hbw).pt 0 (by omega)
        cases hbe
        have hp0 : L[0]! = L[0] := getElem!_pos L 0 (by omega)
        have ok0 : okPt L[0] = true := by rw [← hp0]; exact ok_get L HOK.out 0 (by omega)
        simp only [Prod.mk.injEq] at hxe
        have ok1 : okPt ⟨x1, y1⟩ = true := by rw [hxe.1]; exact ok_get L HOK.out _ hpl
        have ok2 : okPt ⟨x2, y2⟩ = true := by rw [hxe.2]; exact ok_get L HOK.out _ (Nat.mod_lt _ (by omega))
        have hsn := fan_snoc L pre (⟨x1, y1⟩, ⟨x2, y2⟩)
        have hfb := fan_bd L HOK.out (by omega) pre (fun e he => edges_ok L HOK.out e (by rw [hpre] at he; exact List.mem_of_mem_take he))
        have hzb := crs_bd L[0] ⟨x1, y1⟩ ⟨x2, y2⟩ ok0 ok1 ok2
        rw [hp0] at hsn
        have hnp : (edges L).take (pre.length + 1) = pre ++ [(⟨x1, y1⟩, ⟨x2, y2⟩)] := by
          have hel : (edges L).length = L.length := by simp [edges]
          have hek : (edges L)[pre.length]? = some (⟨x1, y1⟩, ⟨x2, y2⟩) := by
            unfold edges
            rw [List.getElem?_map, List.getElem?_range hpl, hxe.1, hxe.2]
            rfl
          rw [List.take_add_one, hek, ← hpre]; rfl
        have hxr := fun W' => xcross_any L[0] ⟨x1, y1⟩ ⟨x2, y2⟩ ok0 ok1 ok2 W'
        dsimp only at hsn
        generalize crs L[0] ⟨x1, y1⟩ ⟨x2, y2⟩ = z at *
        generalize L[0] = p0 at *
        obtain ⟨x0, y0⟩ := p0
        obtain ⟨F, hF⟩ : ∃ F, fan L pre = F := ⟨_, rfl⟩
        rw [hF] at hsn hfb hE
        have HSN := Lib.hid hsn
        have HXR := Lib.hid hxr
        have HNP := Lib.hid hnp
        have hF64 : -2251799813685248000 ≤ F ∧ F ≤ 2251799813685248000 := by omega
        dsimp only at c0 c1
        rw [Nat.zero_mul, Nat.add_zero] at c0 c1
        clear hsn hxr hnp hp0 ok0 ok1 ok2 hxe hfb hF hpre
        have cE := hE.cell
        have fE := hE.frozen
        have cL := hL2.cell
        have a0 := bA.cell 0 rfl
        have a1 := bA.cell 1 rfl
        have b0 := bB.cell 0 rfl
        have b1 := bB.cell 1 rfl
        gi_wp2
        have hbs2 : b < w1.heap.size := by omega
        have hH := hL2.lt
        have hL0 : 0 < L.length := by omega
        have hwr : IntKind.i64.wrap (F + z) = F + z := IntWalk.i64_in _ (by omega)
        refine wpIn_region_two [1, 2, 3, 4, 5, 7] [1, 2, 3, 4, 5] 0 6 [6, 7, 8] [0, 7, 8] 3 (fun W' => W'.cell? ⟨w.heap.size, 0, none⟩ = some (.slice (some ⟨b, off, none⟩) L.length c) ∧ W'.cell? ⟨b, off, none⟩ = some (.int .i64 x0) ∧ W'.cell? ⟨b, off + 1, none⟩ = some (.int .i64 y0) ∧ W'.cell? ⟨Ba, 0, none⟩ = some (.int .i64 x1) ∧ W'.cell? ⟨Ba, 1, none⟩ = some (.int .i64 y1) ∧ W'.cell? ⟨Bb, 0, none⟩ = some (.int .i64 x2) ∧ W'.cell? ⟨Bb, 1, none⟩ = some (.int .i64 y2)) _ _ (by kernel_rfl) (by kernel_rfl) (by kernel_rfl) (by kernel_rfl) (by kernel_rfl) rfl rfl (by kernel_rfl) (by kernel_rfl) (by kernel_rfl) ⟨cL, c0, c1, a0, a1, b0, b1⟩ ?_
        refine wpPre_cons ?_ rfl rfl ?_ ?_
        rotate_left
        · (intro w' hS; obtain ⟨s0, s1, s2, s3, s4, s5, s6⟩ := hS; go_simp; with_reducible rfl)
        try simp only [Act.put, List.setIfInBounds_toArray, List.set_cons_zero, List.set_cons_succ]
        refine wpPre_cons ?_ rfl rfl ?_ ?_
        rotate_left
        · (intro w' hS; obtain ⟨s0, s1, s2, s3, s4, s5, s6⟩ := hS; go_simp; with_reducible rfl)
        try simp only [Act.put, List.setIfInBounds_toArray, List.set_cons_zero, List.set_cons_succ]
        refine wpPre_cons ?_ rfl rfl ?_ ?_
        rotate_left
        · (intro w' hS; obtain ⟨s0, s1, s2, s3, s4, s5, s6⟩ := hS; go_simp; with_reducible rfl)
        try simp only [Act.put, List.setIfInBounds_toArray, List.set_cons_zero, List.set_cons_succ]
        refine wpPre_cons ?_ rfl rfl ?_ ?_
        rotate_left
        · (intro w' hS; obtain ⟨s0, s1, s2, s3, s4, s5, s6⟩ := hS; go_simp; with_reducible rfl)
        try simp only [Act.put, List.setIfInBounds_toArray, List.set_cons_zero, List.set_cons_succ]
        refine wpPre_cons ?_ rfl rfl ?_ ?_
        rotate_left
        · (intro w' hS; obtain ⟨s0, s1, s2, s3, s4, s5, s6⟩ := hS; go_simp; with_reducible rfl)
        try simp only [Act.put, List.setIfInBounds_toArray, List.set_cons_zero, List.set_cons_succ]
        refine wpPre_nil ?_
        have hF : ∀ (A w2 : World), A = W.drew → Below A.heap.size A w2 → (fun W' : World => W'.cell? ⟨w.heap.size, 0, none⟩ = some (.slice (some ⟨b, off, none⟩) L.length c) ∧ W'.cell? ⟨b, off, none⟩ = some (.int .i64 x0) ∧ W'.cell? ⟨b, off + 1, none⟩ = some (.int .i64 y0) ∧ W'.cell? ⟨Ba, 0, none⟩ = some (.int .i64 x1) ∧ W'.cell? ⟨Ba, 1, none⟩ = some (.int .i64 y1) ∧ W'.cell? ⟨Bb, 0, none⟩ = some (.int .i64 x2) ∧ W'.cell? ⟨Bb, 1, none⟩ = some (.int .i64 y2)) w2 := by
          rintro A w2 rfl hb2
          exact ⟨(hb2.cell (p := ⟨w.heap.size, 0, none⟩) (show w.heap.size < W.drew.heap.size from hH)).trans cL, (hb2.cell (p := ⟨b, off, none⟩) (show b < W.drew.heap.size by show b < W.heap.size; omega)).trans c0, (hb2.cell (p := ⟨b, off + 1, none⟩) (show b < W.drew.heap.size by show b < W.heap.size; omega)).trans c1, (hb2.cell (p := ⟨Ba, 0, none⟩) (show Ba < W.drew.heap.size from bA.lt)).trans a0, (hb2.cell (p := ⟨Ba, 1, none⟩) (show Ba < W.drew.heap.size from bA.lt)).trans a1, (hb2.cell (p := ⟨Bb, 0, none⟩) (show Bb < W.drew.heap.size from bB.lt)).trans b0, (hb2.cell (p := ⟨Bb, 1, none⟩) (show Bb < W.drew.heap.size from bB.lt)).trans b1⟩
        have hfin : ∀ w2, Below W.drew.heap.size W.drew w2 → postAhead (KpP w.heap.size) (fun (pre : List (Pt × Pt)) W => ((Boxed W w1.heap.size 3 (.int .i64 (fan L pre)) ∧ Boxed W w.heap.size 65 (.slice (some ⟨b, off, none⟩) L.length c)) ∧ pre = (edges L).take pre.length) ∧ Below w.heap.size w W) (pre ++ [(⟨x1, y1⟩, ⟨x2, y2⟩)]) W .normal { tmps := #[], defers := [] } (w2.setCell ⟨w1.heap.size, 0, none⟩ (.int .i64 (F + z))) := by
          intro w2 hb2
          have hbx : Below W.heap.size W w2 := (Below.refl _ W).drew.trans hb2
          have hsW := hbw.size
          have bE2 : Boxed w2 w1.heap.size 3 (.int .i64 F) := (hbx.block _ hE.lt).trans hE
          have bL3 : Boxed w2 w.heap.size 65 _ := (hbx.block _ hL2.lt).trans hL2
          have hbz : Below w.heap.size W (w2.setCell ⟨w1.heap.size, 0, none⟩ (.int .i64 (F + z))) := (hbx.mono hsW).set_at hs1 _
          refine ⟨(KeepsOthers.of_below hbx).trans (KeepsOthers.setCell _ _ _), ⟨hbz, (KeepT.of_below hbx).trans (KeepT.store bE2 (by decide) (by decide) _)⟩, ⟨⟨?_, bL3.other (by omega) _⟩, ?_⟩, hbw.trans hbz⟩
          · rw [HSN.out]; exact bE2.set _
          · rw [List.length_append]; exact HNP.out.symm
        refine ⟨⟨rfl, fun K hK => ?_⟩, ⟨rfl, fun K hK => ?_⟩⟩
        · go_step
          refine hK.out _ _ ⟨cL, c0, c1, a0, a1, b0, b1⟩ ?_
          clear hK K
          try simp only [Act.put, List.setIfInBounds_toArray, List.set_cons_zero, List.set_cons_succ]
          refine wpTxt_heavy rfl rfl rfl (fun K hK => ?_)
          refine wp_callgo [.agg #[.int .i64 x0, .int .i64 y0], .agg #[.int .i64 x1, .int .i64 y1], .agg #[.int .i64 x2, .int .i64 y2]] Try.f49 Try.func49 (by kernel_rfl) (by kernel_rfl) rfl ((HXR.out _).mono ?_)
          rintro e w2 ⟨rfl, hb2⟩
          have hF2 := hF W.drew w2 rfl hb2
          have cE2 : w2.cell? ⟨w1.heap.size, 0, none⟩ = some (.int .i64 F) := (hb2.cell (p := ⟨w1.heap.size, 0, none⟩) (show w1.heap.size < W.drew.heap.size from hE.lt)).trans cE
          have bE2 : Boxed w2 w1.heap.size 3 (.int .i64 F) := (hb2.block _ hE.lt).trans hE
          have fE2 := bE2.frozen
          refine ⟨_, rfl, hK.out _ _ hF2 ?_⟩
          clear hK K
          try simp only [Act.put, List.setIfInBounds_toArray, List.set_cons_zero, List.set_cons_succ]
          refine wpTxt_light ?_ rfl rfl rfl ?_ ?_
          rotate_left
          · (intro w' hS; obtain ⟨s0, s1, s2, s3, s4, s5, s6⟩ := hS; go_simp; with_reducible rfl)
          try simp only [Act.put, List.setIfInBounds_toArray, List.set_cons_zero, List.set_cons_succ]
          refine wpTxt_heavy rfl rfl rfl (fun K hK => ?_)
          go_step
          refine hK.out _ _ ?_ ?_
          · obtain ⟨s0, s1, s2, s3, s4, s5, s6⟩ := hF2
            exact ⟨(World.cell?_setCell_far _ _ _ _ (by simp; omega)).trans s0, (World.cell?_setCell_far _ _ _ _ (by simp; omega)).trans s1, (World.cell?_setCell_far _ _ _ _ (by simp; omega)).trans s2, (World.cell?_setCell_far _ _ _ _ (by simp; omega)).trans s3, (World.cell?_setCell_far _ _ _ _ (by simp; omega)).trans s4, (World.cell?_setCell_far _ _ _ _ (by simp; omega)).trans s5, (World.cell?_setCell_far _ _ _ _ (by simp; omega)).trans s6⟩
          clear hK K
          try simp only [Act.put, List.setIfInBounds_toArray, List.set_cons_zero, List.set_cons_succ]
          refine wpTxt_nil ?_
          gi_wp2
          exact hfin w2 hb2
        · skip
          refine wp_callgo [.agg #[.int .i64 x0, .int .i64 y0], .agg #[.int .i64 x1, .int .i64 y1], .agg #[.int .i64 x2, .int .i64 y2]] Try.f49 Try.func49 (by kernel_rfl) (by kernel_rfl) rfl ((HXR.out _).mono ?_)
          rintro e w2 ⟨rfl, hb2⟩
          have hF2 := hF W.drew w2 rfl hb2
          have cE2 : w2.cell? ⟨w1.heap.size, 0, none⟩ = some (.int .i64 F) := (hb2.cell (p := ⟨w1.heap.size, 0, none⟩) (show w1.heap.size < W.drew.heap.size from hE.lt)).trans cE
          have bE2 : Boxed w2 w1.heap.size 3 (.int .i64 F) := (hb2.block _ hE.lt).trans hE
          have fE2 := bE2.frozen
          refine ⟨_, rfl, hK.out _ _ hF2 ?_⟩
          clear hK K
          try simp only [Act.put, List.setIfInBounds_toArray, List.set_cons_zero, List.set_cons_succ]
          refine wpTxt_heavy rfl rfl rfl (fun K hK => ?_)
          go_step
          refine hK.out _ _ hF2 ?_
          clear hK K
          try simp only [Act.put, List.setIfInBounds_toArray, List.set_cons_zero, List.set_cons_succ]
          refine wpTxt_light ?_ rfl rfl rfl ?_ ?_
          rotate_left
          · (intro w' hS; obtain ⟨s0, s1, s2, s3, s4, s5, s6⟩ := hS; go_simp; with_reducible rfl)
          try simp only [Act.put, List.setIfInBounds_toArray, List.set_cons_zero, List.set_cons_succ]
          refine wpTxt_heavy rfl rfl rfl (fun K hK => ?_)
          go_step
          refine hK.out _ _ ?_ ?_
          · obtain ⟨s0, s1, s2, s3, s4, s5, s6⟩ := hF2
            exact ⟨(World.cell?_setCell_far _ _ _ _ (by simp; omega)).trans s0, (World.cell?_setCell_far _ _ _ _ (by simp; omega)).trans s1, (World.cell?_setCell_far _ _ _ _ (by simp; omega)).trans s2, (World.cell?_setCell_far _ _ _ _ (by simp; omega)).trans s3, (World.cell?_setCell_far _ _ _ _ (by simp; omega)).trans s4, (World.cell?_setCell_far _ _ _ _ (by simp; omega)).trans s5, (World.cell?_setCell_far _ _ _ _ (by simp; omega)).trans s6⟩
          clear hK K
          try simp only [Act.put, List.setIfInBounds_toArray, List.set_cons_zero, List.set_cons_succ]
          refine wpTxt_nil ?_
          gi_wp2
          exact hfin w2 hb2
      case done =>
        rintro D xs W hD rfl ⟨⟨⟨hE, hL2⟩, -⟩, hbw⟩ hK
        have cE := hE.cell
        gi_wp2
        refine ⟨by simp, .inl ⟨_, _, rfl, run_takeDeferred hK, ?_⟩⟩
        exact ⟨.int .i64 (fan L (edges L)), by simp [results, Try.results24, go_sem], ret_int hA.out.symm, hbw.trans (belowK_b (w := w) (Nat.le_refl _) W D _ _ (by omega) hK rfl rfl)⟩
    · have hok' : (L.all okPt) = false := by simpa using hok
      rw [hok']
      have hz : Hid (areaF L = 0) := Lib.hid (by unfold areaF; rw [if_pos (.inr hok')])
      have hbl1 : Below w.heap.size w w1 := (Below.new w _).trans (hb1.mono (by simp))
      clear hok hok' hb1
      gi_wp2
      exact ⟨.int .i64 0, by simp [results, Try.results24, go_sem], ret_int hz.out.symm, hbl1⟩
end Go.Proofs.Ytebplobagmjfeaa
/- A range over a function whose iterator promises something of the world at each call of yield, and of the world behind all rounds; the body may leave. -/
namespace Go
open Go.RowKit

variable {F : Fence} {n : Nat} {P : Program}

/-- The iterator's contract: 'Ahead pre x W': what is promised where yield is called; 'Kp': what a round keeps; 'S xs W': what is promised behind all rounds; Jx: what the body leaves behind where it leaves. -/
def SeqLeave {α : Type} (F : Fence) (n : Nat) (P : Program) (g : Nat) (lb : Array Value) (encs : α → Array Value) (Ahead : List α → α → World → Prop) (Kp : World → World → Prop) (S : List α → World → Prop) (w : World) : Prop :=
  ∀ (l : Nat) (J Jx : List α → World → Prop) (W : World), Below w.heap.size w W → AbidesFrom W.heap.size J → AbidesFrom W.heap.size Jx →
    (∀ pre x W1, J pre W1 → Ahead pre x W1 → YieldAt F (n - 1) P l (encs x) W1 fun e W' => (e = .returned (.bool true) ∧ J (pre ++ [x]) W' ∧ Kp W1 W') ∨ (e = .returned (.bool false) ∧ Jx (pre ++ [x]) W')) →
    J [] W → CallsIn F n P g (#[.func (.yield l) #[] #[]] ++ lb) W fun e W' => (∃ v, e = .returned v) ∧ ((∃ xs, S xs W' ∧ J xs W') ∨ ∃ pre, Jx pre W')

/-- How the body is left. -/
def postLeave {α : Type} (Kp : World → World → Prop) (I : List α → World → Prop) (Ix : Code → List α → World → Prop) (xs : List α) (W : World) : Exit → Act → World → Prop
  | .normal, _, W' => KeepsOthers W W' ∧ Kp W W' ∧ I xs W'
  | .ret, _, W' => KeepsOthers W W' ∧ Ix .ret xs W'
  | .exit id, _, W' => KeepsOthers W W' ∧ Ix (.exit id) xs W'
  | .goto t, _, W' => KeepsOthers W W' ∧ Ix (.goto t) xs W'
  | _, _, _ => False

theorem wpIn_rangeFunc_leave {α : Type} {g : Operand} {ps : Array Tmp} {assign body : Code} {Q : Exit → Act → World → Prop} {a : Act} {w : World}
    (hro : F.round = none) (h1 : 1 ≤ n) {gf : Nat} {lb : Array Value} (hg : a.eval g = .func (.func gf) #[] lb) (hFg : F.fn gf) (eg : ∀ args w, (callFunc gf args).run P w = .ok (.enter gf args) w)
    {encs : α → Array Value} {Ahead : List α → α → World → Prop} {Kp : World → World → Prop} {S : List α → World → Prop} {w0 : World} (hseq : SeqLeave F (n - 1) P gf lb encs Ahead Kp S w0)
    (hKt : ∀ {A B C : World}, Kp A B → Kp B C → Kp A C) (hKb : ∀ (W : World) (l : Nat) (o o' : Obj), w.heap.size ≤ l → W.heap[l]? = some o → o.isCells = false → Kp W (W.putObj l o'))
    (hb0 : Below w0.heap.size w0 w) (hps : ∀ x, (encs x).size = ps.size)
    (I : List α → World → Prop) (Ix : Code → List α → World → Prop) (hI : OwnFrom w.heap.size I) (hIx : ∀ c, OwnFrom w.heap.size (Ix c)) (hS : OwnFrom w.heap.size S) (h0 : I [] w)
    (Mid : List α → α → Act → World → Prop) (hM : ∀ pre x a', OwnFrom w.heap.size (fun (_ : Unit) W => Mid pre x a' W))
    (hassign : ∀ (l : Nat) (pre : List α) (x : α) (W : World), I pre W → Ahead pre x W →
      assign.wpIn (F.inRound l) (n - 1 - 1) P (Exit.then (fun a' W' => KeepsOthers W W' ∧ Kp W W' ∧ Mid pre x a' W') (fun _ _ _ => False)) { tmps := (ps.zip (encs x)).foldl (fun t (p, v) => t.setIfInBounds p v) a.tmps, defers := [] } W)
    (hbody : ∀ (l : Nat) (pre : List α) (x : α) (a' : Act) (W : World), Mid pre x a' W → body.wpIn (F.inRound l) (n - 1 - 1) P (postLeave Kp I Ix (pre ++ [x]) W) a' W)
    (hdone : ∀ (D : Nat) (xs : List α) (W : World), w.heap.size ≤ D → S xs W → I xs W → W.heap[D]? = some (.deferred (some [])) → Q .normal { a with defers := { target := .collected D, args := #[] } :: a.defers } W)
    (hstop : ∀ (D : Nat) (c : Code) (pre : List α) (W : World), w.heap.size ≤ D → Ix c pre W → W.heap[D]? = some (.deferred (some [])) → c.wpIn F n P Q { a with defers := { target := .collected D, args := #[] } :: a.defers } W) :
    (Code.rangeFunc g ps assign body).wpIn F n P Q a w := by
  refine wpIn_rangeFunc fun fn hfn => ?_
  rw [hro]
  -- the loop's record, block H + 1; the block for the rounds' deferred calls, block H
  obtain ⟨rec, hrec⟩ : ∃ rec : LoopState → Option Code → Loop, rec = fun st pe => { state := st, pending := pe, fn, tmps := a.tmps, params := ps, assign, body, defers := w.heap.size } := ⟨_, rfl⟩
  obtain ⟨W1, hW1⟩ : ∃ W1, (w.alloc (.deferred (some []))).alloc (.loop (rec .ready none)) = W1 := ⟨_, rfl⟩
  have hs1 : W1.heap.size = w.heap.size + 2 := by rw [← hW1]; simp
  have hL1 : W1.heap[w.heap.size + 1]? = some (.loop (rec .ready none)) := by
    rw [← hW1]; have := World.alloc_heap_new (w.alloc (.deferred (some []))) (.loop (rec .ready none)); rwa [World.size_alloc] at this
  have hD1 : W1.heap[w.heap.size]? = some (.deferred (some [])) := by
    rw [← hW1]; exact (Below.heap_alloc _ _ _ (by simp)).trans (World.alloc_heap_new w _)
  have hI1 : I [] W1 := by rw [← hW1]; exact hI.alloc _ (hI.alloc _ h0)
  have hb1 : Below w0.heap.size w0 W1 := by
    rw [← hW1]; exact hb0.trans ((((Below.refl _ w).alloc (Nat.le_refl _) _).alloc (by simp) _).mono hb0.size)
  refine ⟨w.heap.size + 1, [{ target := .collected w.heap.size, args := #[] }], W1, { target := .fn (.func gf) lb, args := #[.func (.yield (w.heap.size + 1)) #[] #[]] }, W1, gf,
    #[.func (.yield (w.heap.size + 1)) #[] #[]] ++ lb, W1, ?_, ?_, ?_, ?_, fun _ => h1, ?_⟩
  · rw [← hW1, hrec]; exact run_enterLoop_outer _ _ _ _ _
  · simp only [resolve, hg]
    simp [go_sem]
  · intro f' hf'; simp [Target.leads] at hf'; subst hf'; exact hFg
  · simp [invoke, go_sem, eg]
  · have hnw : ∀ {A B : World} {row : Option Nat}, (∀ r, row = some r → W1.heap.size ≤ r ∧ ∃ o : Obj, A.heap[r]? = some o ∧ o.isWalk = true) → (∀ r, row = some r → w.heap.size ≤ r ∧ ∃ o : Obj, A.heap[r]? = some o ∧ o.isCells = false) :=
      fun hr r e => by obtain ⟨hB, o, ho, hw⟩ := hr r e; exact ⟨by omega, o, ho, Obj.not_cells_of_walk hw⟩
    refine (hseq (w.heap.size + 1) (fun pre W => I pre W ∧ W.heap[w.heap.size + 1]? = some (.loop (rec .ready none)) ∧ W.heap[w.heap.size]? = some (.deferred (some [])))
      (fun pre W => ∃ c, Ix c pre W ∧ W.heap[w.heap.size + 1]? = some (.loop (rec .done (some c))) ∧ W.heap[w.heap.size]? = some (.deferred (some []))) W1 hb1
      (fun s A B row hs hg' hr => ⟨hI s A B row hs.1 hg' (hnw (B := B) hr), (grownBy_keeps hg' (fun r e => (hr r e).2) hs.2.1 rfl).trans hs.2.1, (grownBy_keeps hg' (fun r e => (hr r e).2) hs.2.2 rfl).trans hs.2.2⟩)
      (fun s A B row hs hg' hr => by
        obtain ⟨c, hc, hl, hk⟩ := hs
        exact ⟨c, hIx c s A B row hc hg' (hnw (B := B) hr), (grownBy_keeps hg' (fun r e => (hr r e).2) hl rfl).trans hl, (grownBy_keeps hg' (fun r e => (hr r e).2) hk rfl).trans hk⟩)
      ?_ ⟨hI1, hL1, hD1⟩).mono ?_
    · rintro pre x W ⟨hi, hl, hd⟩ hah
      have hy := run_yield (P := P) (args := encs x) hl (by rw [hrec]; exact hps x)
      rw [hrec] at hy
      refine ⟨fn, _, assign, body, hy, roundIn_of_wpIn hfn (wpIn_mono (hassign _ pre x W hi hah) ?_)⟩
      rintro e a' Wa hp
      cases e with
      | normal =>
        obtain ⟨hka, hkpa, hm⟩ := hp
        have hla := hka.same _ _ hl rfl
        have hda := hka.same _ _ hd rfl
        have hlt : w.heap.size + 1 < Wa.heap.size := (Array.getElem?_eq_some_iff.1 hla).1
        refine ⟨_, run_beginRound hla (by rw [hrec]), ?_⟩
        refine wpIn_mono (hbody _ pre x a' _ ((hM pre x a').putObj (s := ()) _ hm (by omega) hla rfl)) ?_
        have hl2 : (Wa.putObj (w.heap.size + 1) (.loop { rec .ready none with state := .busy })).heap[w.heap.size + 1]? = some (.loop { rec .ready none with state := .busy }) := World.putObj_heap_same hlt
        have hd2 : (Wa.putObj (w.heap.size + 1) (.loop { rec .ready none with state := .busy })).heap[w.heap.size]? = some (.deferred (some [])) := (World.putObj_heap_other (by omega)).trans hda
        have hw2 : Kp Wa (Wa.putObj (w.heap.size + 1) (.loop { rec .ready none with state := .busy })) := hKb _ _ _ _ (by omega) hla rfl
        have fin : ∀ (jump : Option Code) (W3 : World), KeepsOthers (Wa.putObj (w.heap.size + 1) (.loop { rec .ready none with state := .busy })) W3 →
            (Instr.endRound (w.heap.size + 1) jump).run P W3 = .ok (.bool jump.isNone) (W3.putObj (w.heap.size + 1) (.loop (rec (if jump.isNone then .ready else .done) jump))) ∧
            W3.heap[w.heap.size + 1]? = some (.loop { rec .ready none with state := .busy }) ∧
            (W3.putObj (w.heap.size + 1) (.loop (rec (if jump.isNone then .ready else .done) jump))).heap[w.heap.size + 1]? = some (.loop (rec (if jump.isNone then .ready else .done) jump)) ∧
            (W3.putObj (w.heap.size + 1) (.loop (rec (if jump.isNone then .ready else .done) jump))).heap[w.heap.size]? = some (.deferred (some [])) := fun jump W3 hk3 => by
          have hl3 := hk3.same _ _ hl2 rfl
          have := run_endRound (P := P) jump hl3
          rw [hrec] at this ⊢
          exact ⟨this, by rw [hrec] at hl3; exact hl3, World.putObj_heap_same (Array.getElem?_eq_some_iff.1 hl3).1, (World.putObj_heap_other (by omega)).trans (hk3.same _ _ hd2 rfl)⟩
        rintro e a3 W3 hp3
        cases e with
        | normal =>
          obtain ⟨hk3, hkp3, hi3⟩ := hp3
          obtain ⟨hr, hl3, hl4, hk4⟩ := fin none W3 hk3
          exact ⟨_, _, hr, .inl ⟨rfl, ⟨hI.putObj _ hi3 (by omega) hl3 rfl, hl4, hk4⟩, hKt hkpa (hKt hw2 (hKt hkp3 (hKb _ _ _ _ (by omega) hl3 rfl)))⟩⟩
        | ret =>
          obtain ⟨hk3, hi3⟩ := hp3
          obtain ⟨hr, hl3, hl4, hk4⟩ := fin (some .ret) W3 hk3
          exact ⟨_, _, hr, .inr ⟨rfl, .ret, (hIx _).putObj _ hi3 (by omega) hl3 rfl, hl4, hk4⟩⟩
        | exit id =>
          obtain ⟨hk3, hi3⟩ := hp3
          obtain ⟨hr, hl3, hl4, hk4⟩ := fin (some (.exit id)) W3 hk3
          exact ⟨_, _, hr, .inr ⟨rfl, .exit id, (hIx _).putObj _ hi3 (by omega) hl3 rfl, hl4, hk4⟩⟩
        | goto t =>
          obtain ⟨hk3, hi3⟩ := hp3
          obtain ⟨hr, hl3, hl4, hk4⟩ := fin (some (.goto t)) W3 hk3
          exact ⟨_, _, hr, .inr ⟨rfl, .goto t, (hIx _).putObj _ hi3 (by omega) hl3 rfl, hl4, hk4⟩⟩
        | panic ch => exact hp3.elim
        | outgrown => exact hp3.elim
      | ret => exact hp.elim
      | exit id => exact hp.elim
      | goto t => exact hp.elim
      | panic ch => exact hp.elim
      | outgrown => exact hp.elim
    · rintro e W2 ⟨⟨v, rfl⟩, (⟨xs, hSx, hi, hl, hd⟩ | ⟨pre, c, hi, hl, hd⟩)⟩
      · have hel := run_endLoop (P := P) hl (by rw [hrec]; simp)
        rw [hrec] at hel
        refine ⟨none, _, hel, hdone _ xs _ (Nat.le_refl _) (hS.putObj _ hSx (by omega) hl rfl) (hI.putObj _ hi (by omega) hl rfl) ((World.putObj_heap_other (by omega)).trans hd)⟩
      · have hel := run_endLoop (P := P) hl (by rw [hrec]; simp)
        rw [hrec] at hel
        refine ⟨some c, _, hel, hstop _ c pre _ (Nat.le_refl _) ((hIx c).putObj _ hi (by omega) hl rfl) ((World.putObj_heap_other (by omega)).trans hd)⟩
end Go
/- World facts for a range over a function whose body appends to a boxed row, and calls. -/
set_option linter.unusedVariables false
set_option linter.unusedSimpArgs false
namespace Go
open Go.RowKit
theorem Rd.putObj {W : World} {a : Option Addr} {vs : List Value} (h : Rd W a vs) {l : Nat} {o : Obj} (o' : Obj) (h1 : W.heap[l]? = some o) (h2 : o.isCells = false) : Rd (W.putObj l o') a vs := by
  rcases h with h | ⟨b, off, rfl, hc⟩
  · exact .inl h
  · refine .inr ⟨b, off, rfl, fun i v hv => ?_⟩
    have hx := hc i v hv
    refine (grownBy_putObj' W l o').cell hx ?_
    intro e
    cases e
    simp only [World.cell?, h1] at hx
    cases o <;> simp_all [Obj.isCells]
/-- A row of numbers stays where a box of a slice has turned. -/
theorem Rd.box {W W' : World} {B : Nat} {t : TypeId} {x : Option Addr} {n c : Nat} {a : Option Addr} {vs : List Value} (h : Rd W a vs) (hb : Boxed W B t (.slice x n c)) (hg : W.grownBy W' (some B)) (hv : ∀ v ∈ vs, ∃ k z, v = .int k z) : Rd W' a vs := by
  rcases h with h | ⟨b, off, rfl, hc⟩
  · exact .inl h
  · refine .inr ⟨b, off, rfl, fun i v hi => ?_⟩
    have hx := hc i v hi
    refine hg.cell hx ?_
    intro e
    cases e
    obtain ⟨k, z, rfl⟩ := hv v (List.mem_of_getElem? hi)
    unfold Boxed at hb
    dsimp only at hb
    simp only [World.cell?, hb] at hx
    cases ho : off + i with
    | zero => rw [ho] at hx; simp at hx
    | succ m => rw [ho] at hx; simp at hx
theorem grown_step {W0 A A' : World} {B : Nat} {r : Option Nat} (h : W0.grownBy A (some B)) (hg : A.grownBy A' r) (hr : ∀ k, r = some k → W0.heap.size ≤ k ∨ k = B) : W0.grownBy A' (some B) :=
  ⟨hg.os.trans h.os, hg.tape.trans h.tape, hg.output.trans h.output, Nat.le_trans h.size hg.size, fun k hk hne => (hg.block k (Nat.lt_of_lt_of_le hk h.size) (fun e => by
    rcases hr k e.symm with h1 | h1
    · omega
    · exact hne (by rw [h1]))).trans (h.block k hk hne)⟩
theorem ownFrom_grown {β : Type} {W0 : World} (B : Nat) : OwnFrom W0.heap.size (fun (_ : β) W => W0.grownBy W (some B)) :=
  fun _ _ _ _ hs hg hr => grown_step hs hg (fun k e => .inl (hr k e).1)
theorem KeepsOthers.of_row {A B : World} {n₀ : Nat} {e : TypeId} {size : Nat} {v : Value} {k : Nat} {xs : List Value} (hrow : A.ownsRow n₀ e size v k xs) (hg : A.grownBy B v.ownBlock) : KeepsOthers A B := by
  refine KeepsOthers.of_grownBy hg fun j o e ho => ?_
  rcases hrow.2 with ⟨rfl, _⟩ | ⟨g, cap, cur, rfl, _, hgb, _⟩
  · cases e
  · obtain rfl : g = j := by simpa [Value.ownBlock] using e
    rw [hgb] at ho
    cases ho
    rfl
end Go
/- ring.edges: the iterator, whose caller may leave. -/
set_option linter.unusedVariables false
set_option linter.unusedSimpArgs false
namespace Go
theorem yield_bool {e : Ending} {A B C : Prop} (h : (e = .returned (.bool true) ∧ A ∧ B) ∨ (e = .returned (.bool false) ∧ C)) : ∃ b, e = .returned (.bool b) ∧ ((b = true ∧ A ∧ B) ∨ (b = false ∧ C)) := by
  rcases h with ⟨h, a⟩ | ⟨h, c⟩
  · exact ⟨true, h, .inl ⟨rfl, a⟩⟩
  · exact ⟨false, h, .inr ⟨rfl, c⟩⟩
end Go
namespace Go.Proofs.Ytebplobagmjfeaa
open Go.RowKit
attribute [local go_sem] Oper.semAt_some

/-- What a round keeps: the row, and the block Bn. -/
def KpR (a : Option Addr) (L : List Pt) (Bn : Nat) (A B : World) : Prop := (Rd A a (pts L) → Rd B a (pts L)) ∧ B.heap[Bn]? = A.heap[Bn]?

set_option maxRecDepth 100000 in
set_option maxHeartbeats 1000000 in
theorem edges1_lv (n : Nat) (l Bn : Nat) (a : Option Addr) (c : Nat) (L : List Pt) (hlen : L.length ≤ 1000000)
    (J Jx : List (Pt × Pt) → World → Prop) (W : World) (hr0 : Rd W a (pts L)) (hJ : AbidesFrom W.heap.size J) (hJx : AbidesFrom W.heap.size Jx) (fr : Nat × Nat) (hBn : W.heap[Bn]? = some (.cells #[.slice a L.length c] 65 fr))
    (hY : ∀ pre x W1, J pre W1 → (pre.length < L.length ∧ x = (L[pre.length]!, L[(pre.length + 1) % L.length]!)) → YieldAt Fence.wide (n - 1) Try.prog l #[x.1.val, x.2.val] W1 fun e W' => (e = .returned (.bool true) ∧ J (pre ++ [x]) W' ∧ KpR a L Bn W1 W') ∨ (e = .returned (.bool false) ∧ Jx (pre ++ [x]) W'))
    (h0 : J [] W) :
    CallsIn Fence.wide n Try.prog 67 #[.func (.yield l) #[] #[], .pointer (some ⟨Bn, 0, none⟩)] W fun e W' => (∃ v, e = .returned v) ∧ ((∃ xs, xs = edges L ∧ J xs W') ∨ ∃ pre, Jx pre W') := by
  refine callsIn_of_wp Try.func67 rfl trivial ?_ rfl
  simp only [Try.ntmps67, List.size_toArray, List.length_cons, List.length_nil, Nat.reduceAdd, Nat.reduceSub, Array.replicate_succ, Array.replicate_zero, List.push_toArray, List.append_toArray, List.nil_append, List.cons_append]
  have hbc : W.cell? ⟨Bn, 0, none⟩ = some (.slice a L.length c) := by simp [World.cell?, hBn]
  gi_wp2
  gi_loopw [7] (fun i wr => ∃ k : Nat, i = .int .i64 k ∧ k ≤ L.length ∧ J ((edges L).take k) wr ∧ Rd wr a (pts L) ∧ wr.heap[Bn]? = some (.cells #[.slice a L.length c] 65 fr)) (fun i _ => L.length - (intOf i).toNat)
  case atStart => exact ⟨0, rfl, Nat.zero_le _, h0, hr0, hBn⟩
  case round =>
    obtain ⟨k, rfl, hk, hj, hb1, hBx⟩ := hrel
    have hbc' : wr.cell? ⟨Bn, 0, none⟩ = some (.slice a L.length c) := by simp [World.cell?, hBx]
    have HY := Lib.hid hY
    have HJ := Lib.hid hJ
    have HJX := Lib.hid hJx
    clear hY hBn hbc hJ hJx
    by_cases hlt : k < L.length
    · obtain ⟨q, hq⟩ : ∃ q, (k + 1) % L.length = q := ⟨_, rfl⟩
      have hql : q < L.length := by rw [← hq]; exact Nat.mod_lt _ (by omega)
      obtain ⟨b, off, rfl, hb, c0, c1⟩ := hb1.pt k hlt
      obtain ⟨b', off', e, hb', d0, d1⟩ := hb1.pt q hql
      cases e
      have hek : (edges L)[k]? = some (L[k], L[q]) := by
        unfold edges
        rw [List.getElem?_map, List.getElem?_range hlt]
        simp only [Option.map_some, hq]
        rw [getElem!_pos L k hlt, getElem!_pos L q hql]
      have hel : (edges L).length = L.length := by simp [edges]
      have htk : ((edges L).take k).length = k := by rw [List.length_take, hel]; omega
      have hsn : (edges L).take (k + 1) = (edges L).take k ++ [(L[k], L[q])] := by
        rw [List.take_add_one, hek]; rfl
      have hxe : (L[((edges L).take k).length]!, L[(((edges L).take k).length + 1) % L.length]!) = (L[k], L[q]) := by
        rw [htk, hq, getElem!_pos L k hlt, getElem!_pos L q hql]
      have hyy := fun W1 hj1 => HY.out ((edges L).take k) (L[k], L[q]) W1 hj1 ⟨by rw [htk]; exact hlt, hxe.symm⟩
      have hrem : ((k : Int) + 1) % (L.length : Int) = (q : Int) := by rw [← hq]; simp
      obtain ⟨⟨x1, y1⟩, hp1⟩ : ∃ p, L[k] = p := ⟨_, rfl⟩
      obtain ⟨⟨x2, y2⟩, hp2⟩ : ∃ p, L[q] = p := ⟨_, rfl⟩
      rw [hp1] at c0 c1
      rw [hp2] at d0 d1
      rw [hp1, hp2] at hsn hyy
      dsimp only [Pt.val] at c0 c1 d0 d1 hyy
      have HSN := Lib.hid hsn
      have hbA := Below.new wr (.cells #[.int .i64 x1, .int .i64 y1] 37)
      have hjA := HJ.out _ _ _ none hj (grownBy_of_below hbA none) (fun r h => by cases h)
      have hjB : J ((edges L).take k) (wr.alloc (.cells #[.int .i64 x1, .int .i64 y1] 37)).drew := HJ.out _ _ _ none hjA ⟨rfl, rfl, rfl, Nat.le_refl _, fun _ _ _ => rfl⟩ (fun r h => by cases h)
      obtain ⟨fn, tmps, assign, body, hy, hR⟩ := hyy _ hjB
      have HR := Lib.hid hR
      have HRD := Lib.hid hb1
      clear hb1
      have hlz : (L.length : Int) ≠ 0 := by omega
      clear hyy hq hek hel htk hxe hp1 hp2 hR hjA hjB hsn
      have hrem2 : (IntKind.i64.wrap ((k : Int) + 1)).tmod (L.length : Int) = (q : Int) := by
        rw [IntWalk.i64_in _ (by omega), Int.tmod_eq_emod_of_nonneg (by omega)]
        exact hrem
      have hq0 : (0 : Int) ≤ (q : Int) ∧ (q : Int) < (L.length : Int) := by omega
      have hnb : b ≠ wr.heap.size := by omega
      have hBl : Bn < wr.heap.size := (Array.getElem?_eq_some_iff.1 hBx).1
      have hnB : Bn ≠ wr.heap.size := by omega
      have hnil : ¬ L = [] := by intro h; rw [h] at hlt; simp at hlt
      have hln : ¬ L.length = 0 := by omega
      gi_wp2
      gi_region_with (refine ⟨(fun h => by cases h), HR.out.mono ?_⟩; rintro e W3 hW3; obtain ⟨bb, rfl, hcs⟩ := yield_bool hW3; replace hcs := Lib.hid hcs)
      all_goals
        rcases hcs.out with ⟨rfl, hJ3, hk3⟩ | ⟨rfl, hJ3⟩
        · gi_wp2
          go_roundw
          case rel =>
            refine ⟨k + 1, by go_num, by omega, ?_, ?_, ?_⟩
            · rw [HSN.out]; exact hJ3
            · exact hk3.1 (HRD.out.alloc _).drew
            · exact hk3.2.trans ((Below.heap_alloc wr _ _ hBl).trans hBx)
          case measure => simp [intOf]; omega
        · gi_wp2
          exact ⟨rfl, .tuple #[], by simp [results, Try.results67, go_sem], ⟨_, rfl⟩, .inr ⟨_, hJ3⟩⟩
    · obtain rfl : k = L.length := by omega
      have hall : (edges L).take L.length = edges L := List.take_of_length_le (by simp [edges])
      rw [hall] at hj
      gi_wp2
      go_end0
      exact ⟨⟨_, rfl⟩, .inl ⟨edges L, rfl, hj⟩⟩
theorem edges_inL (n : Nat) (a : Option Addr) (m c : Nat) (w : World) :
    CallsIn Fence.wide n Try.prog 48 #[.slice a m c] w fun e w' => e = .returned (.func (.func 67) #[] #[.pointer (some ⟨w.heap.size, 0, none⟩)]) ∧ w' = w.alloc (.cells #[.slice a m c] 65) := by
  refine callsIn_of_wp Try.func48 rfl trivial ?_ rfl
  simp only [Try.ntmps48, List.size_toArray, List.length_cons, List.length_nil, Nat.reduceAdd, Nat.reduceSub, Array.replicate_succ, Array.replicate_zero, List.push_toArray, List.append_toArray, List.nil_append, List.cons_append]
  gi_wp2
  go_ret
  exact ⟨rfl, rfl⟩

theorem edges_leave (n : Nat) (Bn : Nat) (a : Option Addr) (c : Nat) (L : List Pt) (hlen : L.length ≤ 1000000)
    (W0 : World) (hr : Rd W0 a (pts L)) (fr : Nat × Nat) (hBn : W0.heap[Bn]? = some (.cells #[.slice a L.length c] 65 fr)) :
    SeqLeave Fence.wide n Try.prog 67 #[.pointer (some ⟨Bn, 0, none⟩)] (fun x : Pt × Pt => #[x.1.val, x.2.val]) (fun pre x _ => pre.length < L.length ∧ x = (L[pre.length]!, L[(pre.length + 1) % L.length]!)) (KpR a L Bn) (fun xs _ => xs = edges L) W0 := by
  intro l J Jx W hb0 hJ hJx hY h0
  exact edges1_lv n l Bn a c L hlen J Jx W (hr.keep hb0) hJ hJx fr ((hb0.block Bn (Array.getElem?_eq_some_iff.1 hBn).1).trans hBn) hY h0

theorem KpR.putObj {a : Option Addr} {L : List Pt} {Bn : Nat} {w : World} (hB : Bn < w.heap.size) (W : World) (l : Nat) (o o' : Obj) (hl : w.heap.size ≤ l) (h1 : W.heap[l]? = some o) (h2 : o.isCells = false) : KpR a L Bn W (W.putObj l o') :=
  ⟨fun h => h.putObj o' h1 h2, World.putObj_heap_other (fun e => by omega)⟩
theorem KpR.trans {a : Option Addr} {L : List Pt} {Bn : Nat} {A B C : World} (h : KpR a L Bn A B) (k : KpR a L Bn B C) : KpR a L Bn A C := ⟨fun x => k.1 (h.1 x), k.2.trans h.2⟩
end Go.Proofs.Ytebplobagmjfeaa
