/-
  copy between rows of elements of any size. snap.Faces. exact.within, Right, Cross. exact.Turn, between, On.
-/
import Derived.Test.YtediblljgakoeaaPk2
import Derived.Laws.CopyRow
import Derived.Laws.CopyOwn
import Derived.Test.YtediblljgakoeaaPk13
import Derived.Test.YtediblljgakoeaaPk15
import Derived.Test.YtediblljgakoeaaPk4
import Derived.Test.YtediblljgakoeaaPk6
/- copy between rows of elements of any size. -/
set_option linter.unusedVariables false
set_option linter.unusedSimpArgs false
namespace Go
open Go.RowKit
variable (P : Program)
theorem run_copy_rowN (w : World) (dT sT ty elem : TypeId) (g o dLen dCap : Nat) (a : Addr) (sLen sCap sz : Nat) (cur : Array Value) (t : TypeId) (cs : List Value)
    (hu : P.underlying dT = some (.slice elem)) (hs : (P.info? elem).map (·.size) = some sz)
    (hg : w.heap[g]? = some (.cells cur t (0, 0))) (hn : cs.length = Nat.min sLen dLen * sz)
    (hsrc : ∀ j v, cs[j]? = some v → w.cell? (a.add j) = some v) (hfit : o + cs.length ≤ cur.size) (h1 : ∀ v ∈ cs, v.oneCell' = true) :
    (Builtin.copy_ #[dT, sT] ty #[.slice (some ⟨g, o, none⟩) dLen dCap, .slice (some a) sLen sCap]).run P w =
      .ok (goInt (Nat.min sLen dLen : Nat)) (w.setRow g (cur.toList.take o ++ cs ++ cur.toList.drop (o + cs.length)).toArray) := by
  have hl := run_loadCells_list (P := P) w a cs hsrc
  have hst := run_storeCells_at P g o t cs 0 cur w hg (by simpa using hfit) h1
  cases hq : P.info? elem with
  | none => simp [hq] at hs
  | some i =>
    have hi : i.size = sz := by simpa [hq] using hs
    simp [Builtin.copy_, run_underlying hu, Builtin.lenOf, Builtin.firstCells, sizeOf, typeInfo, hq, hi, ← hn, hl, hst]
theorem run_copy_noneN (w : World) (dT sT ty elem : TypeId) (d a : Option Addr) (dLen dCap sLen sCap sz : Nat) (hu : P.underlying dT = some (.slice elem)) (hs : (P.info? elem).map (·.size) = some sz) (hn : Nat.min sLen dLen = 0) :
    (Builtin.copy_ #[dT, sT] ty #[.slice d dLen dCap, .slice a sLen sCap]).run P w = .ok (goInt 0) w := by
  cases hq : P.info? elem with
  | none => simp [hq] at hs
  | some i =>
    have hl : ∀ (x : Addr), (loadCells x 0).run P w = .ok #[] w := fun x => by simpa using run_loadCells_list (P := P) w x [] (by simp)
    cases d <;> cases a <;> simp [Builtin.copy_, run_underlying hu, Builtin.lenOf, Builtin.firstCells, sizeOf, typeInfo, hq, hn, storeCells, hl]
variable {P}
section
variable {ops : Array Oper} {lt : Nat → Bool} {Q : Exit → Act → World → Prop} {S : World → Prop} {z : Option Nat}
/-- One copy in a drawn region (XReg's law). -/
theorem txt_copyN {k : Nat} {rest : List Oper} {a : Act} {w : World} {o : Oper} (hl : lt k = false) (hgd : o.guard = none) (d s : Operand) (dT sT : TypeId)
    (ho : o.op = .call { callee := .builtin .copy, args := #[d, s], argTypes := #[dT, sT] }) (elem : TypeId) (sz : Nat) (hu : P.underlying dT = some (.slice elem)) (hsz : (P.info? elem).map (·.size) = some sz)
    (dp sp : Option Addr) (dLen dCap sLen sCap : Nat) (hd : a.eval d = .slice dp dLen dCap) (hs : a.eval s = .slice sp sLen sCap)
    (g : Nat) (cur : List Value) (t : TypeId) (hg : w.heap[g]? = some (.cells cur.toArray t (0, 0))) (cs : List Value) (hn : cs.length = Nat.min sLen dLen * sz)
    (hpos : 0 < Nat.min sLen dLen → dp = some ⟨g, 0, none⟩ ∧ ∃ ad, sp = some ad ∧ ∀ j v, cs[j]? = some v → w.cell? (ad.add j) = some v)
    (hfit : cs.length = cur.length) (h1 : ∀ v ∈ cs, v.oneCell' = true)
    (h : ∀ w', Hid (w'.heap[g]? = some (.cells cs.toArray t (0, 0))) → (∀ B w0, Below B w0 w → B ≤ g → Below B w0 w') → S w' ∧ wpTxtL P ops lt Q S z (k + 1) rest (a.put o.dst (goInt (Nat.min sLen dLen : Nat))) w') :
    wpTxtL P ops lt Q S z k (o :: rest) a w := by
  have hw : Region.wanted o (yielded ops a.tmps) = true := by simp [Region.wanted, hgd]
  refine txt_heavy hl hw (fun K hK => ?_)
  by_cases h0 : Nat.min sLen dLen = 0
  · have hrun := run_copy_noneN P w dT sT o.type elem dp sp dLen dCap sLen sCap sz hu hsz h0
    have hc0 : cs = [] := by
      apply List.eq_nil_of_length_eq_zero
      rw [hn, h0]; simp
    have hq0 : cur = [] := by
      apply List.eq_nil_of_length_eq_zero
      rw [← hfit, hc0]; rfl
    have hh0 := h w (by rw [hc0, ← hq0]; exact hg) (fun B w0 hb _ => hb)
    have hh := hK.out _ _ hh0.1 hh0.2
    rw [h0] at hh
    unfold Oper.wp
    simp [execOp, ho, resolve, invoke, builtin, hd, hs, hrun, Result.andThen]
    exact hh
  · obtain ⟨rfl, ad, rfl, hsrc⟩ := hpos (by omega)
    have hrun := run_copy_rowN P w dT sT o.type elem g 0 dLen dCap ad sLen sCap sz cur.toArray t cs hu hsz hg hn hsrc (by simp; omega) h1
    unfold Oper.wp
    simp [execOp, ho, resolve, invoke, builtin, hd, hs, hrun, Result.andThen]
    have hh0 := h (w.setRow g (cur.toArray.toList.take 0 ++ cs ++ cur.toArray.toList.drop (0 + cs.length)).toArray) (by
      show _ = _
      rw [hfit]
      simpa using setRow_heap w g _ _ t _ hg) (fun B w0 hb hB => below_setRow hb hB _)
    have hh := hK.out _ _ hh0.1 hh0.2
    have hh2 : K (a.put o.dst (goInt (Nat.min sLen dLen : Nat))) (w.setRow g (cs ++ List.drop cs.length cur).toArray) := by simpa using hh
    exact hh2
end
end Go
/- snap.Faces. -/
set_option linter.unusedVariables false
set_option linter.unusedSimpArgs false
set_option maxRecDepth 100000
namespace Go
open Go.RowKit
/-- All blocks but one stay. -/
def ButC (C : Nat) (A B : World) : Prop := A.heap.size ≤ B.heap.size ∧ ∀ k, k < A.heap.size → k ≠ C → B.heap[k]? = A.heap[k]?
theorem ButC.refl (C : Nat) (A : World) : ButC C A A := ⟨Nat.le_refl _, fun _ _ _ => rfl⟩
theorem ButC.trans {C : Nat} {A B D : World} (h : ButC C A B) (k : ButC C B D) : ButC C A D :=
  ⟨Nat.le_trans h.1 k.1, fun i hi hc => (k.2 i (Nat.lt_of_lt_of_le hi h.1) hc).trans (h.2 i hi hc)⟩
theorem ButC.below {C : Nat} {A B D : World} (h : ButC C A B) (k : Below B.heap.size B D) : ButC C A D :=
  h.trans ⟨k.size, fun i hi _ => k.block i hi⟩
theorem ButC.set {C : Nat} {A B : World} (h : ButC C A B) (o : Nat) (u : Value) : ButC C A (B.setCell ⟨C, o, none⟩ u) :=
  h.trans ⟨by rw [size_setCell]; exact Nat.le_refl _, fun i _ hc => Below.heap_setCell _ ⟨C, o, none⟩ _ _ (fun e => hc (by rw [e]))⟩
theorem ButC.grown {C : Nat} {A B D : World} {r : Option Nat} (h : ButC C A B) (hg : B.grownBy D r) (hr : ∀ k, r = some k → A.heap.size ≤ k) : ButC C A D :=
  ⟨Nat.le_trans h.1 hg.size, fun i hi hc => (hg.block i (Nat.lt_of_lt_of_le hi h.1) (fun e => by have := hr i e.symm; omega)).trans (h.2 i hi hc)⟩
theorem ButC.keepS {S : TypeId → Prop} {C : Nat} {A B : World} {cs : Array Value} {T : TypeId} {fr : Nat × Nat} (h : ButC C A B) (hC : A.heap[C]? = some (.cells cs T fr)) (hS : ¬ S T) : KeepS S A B :=
  ⟨h.1, fun k cs' V fr' hk hv => h.2 k (Array.getElem?_eq_some_iff.1 hk).1 fun e => by subst e; rw [hC] at hk; cases hk; exact hS hv⟩
/-- A row in which two neighbours are told. -/
def Two (T : TypeId) (W : World) (C : Nat) (X : List Value) (u v : Value) (Y : List Value) : Prop := W.heap[C]? = some (.cells (X ++ u :: v :: Y).toArray T (0, 0))
section
variable {T : TypeId} {W W' : World} {C : Nat} {X Y : List Value} {u v : Value}
theorem Two.lt (h : Two T W C X u v Y) : C < W.heap.size := (Array.getElem?_eq_some_iff.1 h).1
theorem Two.cell0 (h : Two T W C X u v Y) {o : Nat} (ho : X.length = o) : W.cell? ⟨C, o, none⟩ = some u := by
  subst ho
  have h : W.heap[C]? = _ := h
  simp [World.cell?, h]
theorem Two.cell1 (h : Two T W C X u v Y) {o : Nat} (ho : X.length = o) : W.cell? ⟨C, o + 1, none⟩ = some v := by
  subst ho
  have h : W.heap[C]? = _ := h
  simp [World.cell?, h]
theorem Two.free (h : Two T W C X u v Y) (j : Nat) : W.frozen? ⟨C, j, none⟩ = false := by
  have h : W.heap[C]? = _ := h
  simp [World.frozen?, h]
theorem Two.of_block (h : Two T W C X u v Y) (hb : W'.heap[C]? = W.heap[C]?) : Two T W' C X u v Y := (hb.trans h : _)
theorem Two.keep (h : Two T W C X u v Y) (hb : Below W.heap.size W W') : Two T W' C X u v Y := h.of_block (hb.block C h.lt)
theorem Two.grown {r : Option Nat} (h : Two T W C X u v Y) (hg : W.grownBy W' r) (hne : some C ≠ r) : Two T W' C X u v Y := h.of_block (hg.block C h.lt hne)
theorem Two.set0 (h : Two T W C X u v Y) {o : Nat} (ho : X.length = o) (x : Value) : Two T (W.setCell ⟨C, o, none⟩ x) C X x v Y := by
  subst ho
  have h : W.heap[C]? = _ := h
  show (W.setCell _ x).heap[C]? = _
  simp [World.setCell, Array.getElem?_modify, h]
theorem Two.set1 (h : Two T W C X u v Y) {o : Nat} (ho : X.length = o) (x : Value) : Two T (W.setCell ⟨C, o + 1, none⟩ x) C X u x Y := by
  subst ho
  have h : W.heap[C]? = _ := h
  show (W.setCell _ x).heap[C]? = _
  simp [World.setCell, Array.getElem?_modify, h]
end
/-- A face of nothing. -/
def fz : Fc := ⟨[], none, 0, [], none, 0⟩
theorem made_faces (n : Nat) : (madeCells #[.slice none 0 0, .slice none 0 0] (n * 2)).toList = fcs (List.replicate n fz) := by
  have h1 : fcs (List.replicate n fz) = List.replicate (n * 2) (.slice none 0 0) := by
    induction n with
    | zero => rfl
    | succ n ih => rw [List.replicate_succ, show fcs (fz :: List.replicate n fz) = fz.cells ++ fcs (List.replicate n fz) from rfl, ih, show (n + 1) * 2 = 2 + n * 2 by omega, ← List.replicate_append_replicate]; rfl
  rw [h1, madeCells, Array.toList_map, Array.toList_range]
  apply List.ext_getElem
  · simp
  · intro i h1 h2
    simp only [List.getElem_map, List.getElem_range, List.getElem_replicate]
    have : i % 2 < 2 := Nat.mod_lt _ (by omega)
    rcases (by omega : i % 2 = 0 ∨ i % 2 = 1) with e | e <;> simp [e]
/-- May faces be told at a level? -/
def facesOk (z b : Int) (L : List (List (List Pt))) : Bool := linesB z b && L.all (fun r => r.all (ringOk z b))
theorem facesOk_bad {z b : Int} {L : List (List (List Pt))} {i k : Nat} {r : List (List Pt)} {x : List Pt} (hi : L[i]? = some r) (hk : r[k]? = some x) (h : ringOk z b x = false) : facesOk z b L = false := by
  cases hh : facesOk z b L with
  | false => rfl
  | true =>
    unfold facesOk at hh
    rw [Bool.and_eq_true, List.all_eq_true] at hh
    have := List.all_eq_true.1 (hh.2 _ (List.mem_of_getElem? hi)) _ (List.mem_of_getElem? hk)
    rw [h] at this; cases this
theorem facesOk_good {z b : Int} {L : List (List (List Pt))} (hl : linesB z b = true) (h : ∀ r ∈ L, ∀ x ∈ r, ringOk z b x = true) : facesOk z b L = true := by
  unfold facesOk
  rw [hl, Bool.true_and, List.all_eq_true]
  exact fun r hr => List.all_eq_true.2 (h r hr)
end Go
namespace Go.Proofs.Ytediblljgakoeaa
open Go.RowKit

/-- The types of what a face's rings and attributes are made of. -/
def ringS (T : TypeId) : Prop := T = 32 ∨ T = 62
/-- What Faces leaves. -/
def FacPost (z b : Int) (L : List (List (List Pt))) (w w' : World) (v : Value) (E : Int) : Prop :=
  E = (if facesOk z b L then 0 else 5) ∧ Below w.heap.size w w' ∧
      (facesOk z b L = true → ∃ fs : List Fc, fs.map Fc.rings = L.map (fun r => r.map (ringF z b)) ∧ w'.ownsRow w.heap.size 41 2 v fs.length (fcs fs) ∧ ∀ f ∈ fs, FcT w' f)
theorem FacPost.bad {z b : Int} {L : List (List (List Pt))} {w w' : World} {v : Value} (h : facesOk z b L = false) (hb : Below w.heap.size w w') : FacPost z b L w w' v 5 :=
  ⟨by rw [h]; rfl, hb, fun h2 => by rw [h] at h2; cases h2⟩

set_option maxHeartbeats 8000000 in
theorem zfaces_any (a : Option Addr) (c : Nat) (l : List Fc) (z b : Int) (hz : -9223372036854775808 ≤ z ∧ z ≤ 9223372036854775807) (hn : l.length ≤ 1000) (h1 : ∀ f ∈ l, f.rs.length ≤ 1000 ∧ f.ls.length ≤ 1000 ∧ ∀ r ∈ f.rs, r.l.length ≤ 1000) (w : World) (hr : Rd w a (fcs l)) (hok : ∀ f ∈ l, f.Ok w) :
    Calls Try.prog 5 #[.slice a l.length c, .int .i64 z, .int .i64 b] w fun e w' => ∃ v E, e = .returned (.tuple #[v, .int .i64 E]) ∧ FacPost z b (l.map Fc.rings) w w' v E := by
  have HLI := Lib.hid (lines_any z b)
  have HRI := Lib.hid (fun a c l hn w hr => ring_any a c l z b hz hn w hr)
  obtain ⟨N, hN⟩ : ∃ N, l.length = N := ⟨_, rfl⟩
  have HN := Lib.hid hN
  have HH1 := Lib.hid h1
  have HOK := Lib.hid hok
  have HR := Lib.hid hr
  rw [hN] at hn ⊢
  clear hN h1 hok hr
  obtain ⟨ia, hia, ia0, ia1, ia2⟩ := info_parts Try.infoAt
  obtain ⟨jf, hjf, jf0, jf1, jf2⟩ := info_parts Try.infoFace
  go_enter Try.func5, Try.ntmps5
  go_wp2_with fail
  refine (HLI.out _).mono ?_
  rintro e w1 ⟨v1, rfl, -, hb1⟩
  cases hlb : linesB z b with
  | false =>
    have HF : Hid (facesOk z b (l.map Fc.rings) = false) := Lib.hid (by unfold facesOk; rw [hlb]; rfl)
    clear HLI HRI
    go_wp2
    refine bodyPost_ret (v := .tuple #[.slice none 0 0, .int .i64 5]) (by simp [results, Try.results5, go_sem]) rfl ⟨_, _, rfl, FacPost.bad HF.out hb1⟩
  | true =>
    have HLB := Lib.hid hlb
    clear hlb
    go_wp2_with (at_make; go_must (refine wpList_make_full _ rfl (.tmp 26) (.tmp 26) 22 rfl w.heap.size 41 jf (.agg #[.slice none 0 0, .slice none 0 0]) 2 Try.underlying22 hjf jf0 jf1 .i64 .i64 (N : Int) (N : Int) N rfl rfl rfl rfl (by rw [jf2]; omega) (by unfold maxLen; omega) hb1.size ?_); intro w2 hown2 hgrow2)
    have hbw2 := hb1.grown hgrow2 hb1.size (fun k hk => by cases hk)
    obtain ⟨C, hC⟩ : ∃ C, w1.heap.size = C := ⟨_, rfl⟩
    have hwC : w.heap.size ≤ C := by rw [← hC]; exact hb1.size
    have hbk := hown2.block
    rw [show (Value.agg #[.slice none 0 0, .slice none 0 0]).cells = #[.slice none 0 0, .slice none 0 0] from rfl, made_faces, hC] at hbk
    rw [hC]
    have HBK := Lib.hid hbk
    clear hown2 hgrow2 hb1 hbk hC HLI hjf jf0 jf1 jf2
    go_wp2
    have HB0 := Lib.hid hbw2
    go_loopw [30] (fun i wr => ∃ (k : Nat) (fs : List Fc), k ≤ N ∧ i = .int .i64 k ∧ Hid (fs.length = k) ∧ Hid (fs.map Fc.rings = ((l.map Fc.rings).take k).map (fun r => r.map (ringF z b))) ∧ Hid (∀ r ∈ (l.map Fc.rings).take k, ∀ x ∈ r, ringOk z b x = true) ∧ Hid (wr.heap[C]? = some (.cells (fcs (fs ++ List.replicate (N - k) fz)).toArray 41 (0, 0))) ∧ Hid (∀ f ∈ fs, FcT wr f) ∧ Hid (Below w.heap.size w wr)) (fun i _ => N - (intOf i).toNat)
    case atStart => exact ⟨0, [], Nat.zero_le _, rfl, Lib.hid rfl, Lib.hid rfl, Lib.hid (by intro r hr; simp at hr), HBK, Lib.hid (by intro f hf; cases hf), HB0⟩
    case round =>
      obtain ⟨k, fs, hk, rfl, HFL, HM, HA, HCK, HFT, HBW⟩ := hrel
      obtain ⟨W0, hW0⟩ : ∃ W, W = wr := ⟨_, rfl⟩
      subst hW0
      by_cases hlt : k < N
      · obtain ⟨x, hxk⟩ : ∃ x, l[k]'(by rw [HN.out]; exact hlt) = x := ⟨_, rfl⟩
        have hxm : x ∈ l := by rw [← hxk]; exact List.getElem_mem _
        obtain ⟨bl, ol, rfl, -, c0, c1⟩ := Rd.fc (HR.out.keep HBW.out) k (by rw [HN.out]; exact hlt)
        rw [hxk] at c0 c1
        have hfl2 : ∀ W, Below w.heap.size w W → x.Ok W := fun W h => (HOK.out x hxm).keep h
        have HXO := Lib.hid hfl2
        obtain ⟨hx1, hx2, hx3⟩ := HH1.out x hxm
        have HX3 := Lib.hid hx3
        have HX2 := Lib.hid hx2
        have HXR : Hid ((l.map Fc.rings)[k]? = some x.rings) := Lib.hid (by rw [List.getElem?_map, List.getElem?_eq_getElem (by rw [HN.out]; exact hlt), hxk]; rfl)
        clear hxk hxm hfl2 hx3
        obtain ⟨rs, ra, rc, ls, aa, ac⟩ := x
        dsimp only [Fc.rval, Fc.aval] at c0 c1 hx1 hx2
        have hT : Two 41 W0 C (fcs fs) (.slice none 0 0) (.slice none 0 0) (fcs (List.replicate (N - k - 1) fz)) := by
          have := HCK.out
          rw [show N - k = (N - k - 1) + 1 by omega, List.replicate_succ] at this
          show W0.heap[C]? = _
          rw [this]
          simp [fcs, Fc.cells, fz, Fc.rval, Fc.aval]
        have hXl : (fcs fs).length = k * 2 := by rw [fcs_len, HFL.out]
        have HXL := Lib.hid hXl
        have hltC := hT.lt
        have hbF := Below.new W0 (.cells #[.slice ra rs.length rc, .slice aa ls.length ac] 41)
        have hTF := hT.keep hbF
        have HBF := Lib.hid hbF
        have HTF := Lib.hid hTF
        clear hbF hTF hT hXl
        generalize hX : fcs fs = X at *
        have HXE := Lib.hid hX
        generalize hY : fcs (List.replicate (N - k - 1) fz) = Y at *
        have HYE := Lib.hid hY
        clear hX hY
        go_wp2_with (at_make; go_must (refine wpList_make_full _ rfl (.tmp 39) (.tmp 39) 37 rfl W0.heap.size 62 ia (.agg #[.string ⟨#[]⟩, .int .i64 0, .string ⟨#[]⟩, .int .i64 0]) 4 Try.underlying37 hia ia0 ia1 .i64 .i64 (ls.length : Int) (ls.length : Int) ls.length rfl rfl rfl rfl (by rw [ia2]; omega) (by unfold maxLen; omega) (by simp) ?_); intro w3 hown3 hgrow3; have hT3 := HTF.out.grown hgrow3 (by simp); have s1 := hT3.cell1 HXL.out; have f1 := hT3.free (k * 2 + 1))
        obtain ⟨D, hD⟩ : ∃ D, W0.heap.size + 1 = D := ⟨_, rfl⟩
        simp only [World.size_alloc] at hown3
        have hbk3 := hown3.block
        have kF3 := (Blk.lit W0 W0.heap.size [.slice ra rs.length rc, .slice aa ls.length ac] 41 rfl).grown hgrow3 (by simp)
        have hb3 := HBF.out.grown hgrow3 (by simp) (fun k hk => by cases hk)
        have hbw3 := HBW.out.trans (hb3.mono HBW.out.size)
        have hbt3 : ButC C W0 w3 := (ButC.refl C W0).below hb3
        rw [hD] at hbk3 ⊢
        have hFD : W0.heap.size < D := by omega
        have hCF : C < W0.heap.size := hltC
        have hD3 : D < w3.heap.size := (Array.getElem?_eq_some_iff.1 hbk3).1
        have hT4 := hT3.set1 HXL.out (.slice (some ⟨D, 0, none⟩) ls.length ls.length)
        have kF4 := kF3.set_at (b' := C) (o := k * 2 + 1) (by omega) (.slice (some ⟨D, 0, none⟩) ls.length ls.length)
        have hbw4 := (hbw3.set_at (b := C) (o := k * 2 + 1) hwC (.slice (some ⟨D, 0, none⟩) ls.length ls.length)).drew
        have hbt4 := hbt3.set (k * 2 + 1) (.slice (some ⟨D, 0, none⟩) ls.length ls.length)
        have hbk4 : (w3.setCell ⟨C, k * 2 + 1, none⟩ (.slice (some ⟨D, 0, none⟩) ls.length ls.length)).heap[D]? = _ := (Below.heap_setCell _ ⟨C, k * 2 + 1, none⟩ _ D (by show ¬ D = C; omega)).trans hbk3
        clear hown3 hgrow3 hbk3 kF3 hb3 hbw3 hbt3 hT3 s1 f1 hia ia0 ia1 ia2 HBF HTF c0 c1
        have hszD : D < (w3.setCell ⟨C, k * 2 + 1, none⟩ (.slice (some ⟨D, 0, none⟩) ls.length ls.length)).heap.size := by rw [size_setCell]; exact hD3
        generalize (w3.setCell ⟨C, k * 2 + 1, none⟩ (.slice (some ⟨D, 0, none⟩) ls.length ls.length)) = W4 at *
        refine wp_region_lit_txt [0, 1, 2, 3, 4, 5, 6] (fun W => W.cell? ⟨C, k * 2 + 1, none⟩ = some (.slice (some ⟨D, 0, none⟩) ls.length ls.length) ∧ W.cell? ⟨W0.heap.size, 1, none⟩ = some (.slice aa ls.length ac)) (by kernel_rfl) (by kernel_rfl) (by kernel_rfl) ⟨hT4.cell1 HXL.out, kF4.cell 1 rfl⟩ ?_
        (refine txt_light ?_ rfl rfl ?_ ?_; rotate_left; · (intro w' hS; (try dsimp only at hS); go_simp; with_reducible rfl)); try simp only [Act.put, List.getElem_toArray, List.getElem_cons_succ, List.getElem_cons_zero, List.setIfInBounds_toArray, List.set_cons_zero, List.set_cons_succ]
        (refine txt_light ?_ rfl rfl ?_ ?_; rotate_left; · (intro w' hS; (try dsimp only at hS); go_simp; with_reducible rfl)); try simp only [Act.put, List.getElem_toArray, List.getElem_cons_succ, List.getElem_cons_zero, List.setIfInBounds_toArray, List.set_cons_zero, List.set_cons_succ]
        (refine txt_light ?_ rfl rfl ?_ ?_; rotate_left; · (intro w' hS; (try dsimp only at hS); go_simp; with_reducible rfl)); try simp only [Act.put, List.getElem_toArray, List.getElem_cons_succ, List.getElem_cons_zero, List.setIfInBounds_toArray, List.set_cons_zero, List.set_cons_succ]
        (refine txt_light ?_ rfl rfl ?_ ?_; rotate_left; · (intro w' hS; (try dsimp only at hS); go_simp; with_reducible rfl)); try simp only [Act.put, List.getElem_toArray, List.getElem_cons_succ, List.getElem_cons_zero, List.setIfInBounds_toArray, List.set_cons_zero, List.set_cons_succ]
        (refine txt_light ?_ rfl rfl ?_ ?_; rotate_left; · (intro w' hS; (try dsimp only at hS); go_simp; with_reducible rfl)); try simp only [Act.put, List.getElem_toArray, List.getElem_cons_succ, List.getElem_cons_zero, List.setIfInBounds_toArray, List.set_cons_zero, List.set_cons_succ]
        (refine txt_light ?_ rfl rfl ?_ ?_; rotate_left; · (intro w' hS; (try dsimp only at hS); go_simp; with_reducible rfl)); try simp only [Act.put, List.getElem_toArray, List.getElem_cons_succ, List.getElem_cons_zero, List.setIfInBounds_toArray, List.set_cons_zero, List.set_cons_succ]
        (refine txt_light ?_ rfl rfl ?_ ?_; rotate_left; · (intro w' hS; (try dsimp only at hS); go_simp; with_reducible rfl)); try simp only [Act.put, List.getElem_toArray, List.getElem_cons_succ, List.getElem_cons_zero, List.setIfInBounds_toArray, List.set_cons_zero, List.set_cons_succ]
        refine txt_copyN rfl rfl (.tmp 47) (.tmp 49) 37 37 rfl 62 4 Try.underlying37 (by rw [show (Try.prog.info? 62).map (·.size) = ((Try.prog.info? 62).map (fun i => (i.zero, i.size, i.bytes))).map (fun y => y.2.1) by rw [Option.map_map]; rfl, Try.infoAt]; rfl) (some ⟨D, 0, none⟩) aa ls.length ls.length ls.length ac rfl rfl D _ 62 hbk4 (ats ls) (by rw [ats_len, show Nat.min ls.length ls.length = ls.length from Nat.min_self _]) ?hpos (by rw [ats_len]; simp [size_madeCells]) (ats_one ls) ?_
        case hpos =>
          intro hpos
          refine ⟨rfl, ?_⟩
          have hra := (HXO.out W4.drew hbw4).2.2.1
          rcases aa with _ | ad
          · rcases hra with h | ⟨b, off, h, -⟩
            · exfalso
              have := ats_len ls
              rw [h] at this
              simp at this hpos
              omega
            · cases h
          · exact ⟨ad, rfl, hra.add⟩
        intro w5 hg5 hB5
        have hb5 := hB5 D W4 ((Below.refl D W4).drew) (Nat.le_refl _)
        have hbw5 := hB5 w.heap.size w hbw4 (by have := HBW.out.size; omega)
        have HT5 := Lib.hid (hT4.of_block (hb5.block C (by omega)))
        have kF5 := kF4.of_block (hb5.block W0.heap.size hFD)
        have HBT5 : Hid (ButC C W0 w5) := Lib.hid ⟨Nat.le_trans hbt4.1 hb5.size, fun i hi hc => (hb5.block i (by omega)).trans (hbt4.2 i hi hc)⟩
        have HAT5 : Hid (Rd w5 (some ⟨D, 0, none⟩) (ats ls) ∧ TypB w5 (some ⟨D, 0, none⟩) 62) := by
          refine Lib.hid ⟨.inr ⟨D, 0, rfl, fun i v hv => ?_⟩, fun b hb => ?_⟩
          · rw [Nat.zero_add]
            have h := hg5.out
            simp [World.cell?, h, hv]
          · simp at hb
            subst hb
            exact ⟨_, _, hg5.out⟩
        have HBW5 := Lib.hid hbw5
        have x0 := kF5.cell 0 rfl
        refine ⟨⟨HT5.out.cell1 HXL.out, kF5.cell 1 rfl⟩, ?_⟩
        clear hT4 kF4 hbw4 hbt4 hbk4 hszD hb5 hbw5 hB5 hg5 kF5
        refine txt_nil ?_
        try simp only [Act.put, List.getElem_toArray, List.getElem_cons_succ, List.getElem_cons_zero, List.setIfInBounds_toArray, List.set_cons_zero, List.set_cons_succ]
        rw [show goInt ((Nat.min ls.length ls.length : Nat) : Int) = Value.int .i64 (ls.length : Int) by rw [show Nat.min ls.length ls.length = ls.length from Nat.min_self _]; rfl]
        go_wp2
        go_loopw [54] (fun j wi => ∃ (m : Nat) (qs : List PC) (v : Value), m ≤ rs.length ∧ j = .int .i64 m ∧ Hid (qs.length = m) ∧ Hid (qs.map PC.l = ((rs.map PC.l).take m).map (ringF z b)) ∧ Hid (∀ x ∈ (rs.map PC.l).take m, ringOk z b x = true) ∧ Hid (wi.ownsRow W0.heap.size 42 1 v m (rcs qs)) ∧ Hid (Two 41 wi C X v (.slice (some ⟨D, 0, none⟩) ls.length ls.length) Y) ∧ Hid (∀ q ∈ qs, PcT wi q) ∧ Hid (ButC C W0 wi) ∧ Hid (Below w.heap.size w wi) ∧ Hid (Rd wi (some ⟨D, 0, none⟩) (ats ls) ∧ TypB wi (some ⟨D, 0, none⟩) 62)) (fun j _ => rs.length - (intOf j).toNat)
        case atStart => exact ⟨0, [], .slice none 0 0, Nat.zero_le _, rfl, Lib.hid rfl, Lib.hid rfl, Lib.hid (by intro x hx; simp at hx), Lib.hid (World.ownsRow_nil _ _ _ _), HT5, Lib.hid (by intro q hq; cases hq), HBT5, HBW5, HAT5⟩
        case round =>
          obtain ⟨m, qs, v, hm, rfl, HQL, HQM, HQO, HOW, HTW, HPT, HBT, HBI, HAT⟩ := hrel
          by_cases hml : m < rs.length
          · obtain ⟨br, or', rfl, -, q0⟩ := Rd.rc (HXO.out wr HBI.out).1.1 m hml
            obtain ⟨q, hq⟩ : ∃ q, rs[m] = q := ⟨_, rfl⟩
            rw [hq] at q0
            have hqm : q ∈ rs := by rw [← hq]; exact List.getElem_mem _
            have hqo := (HXO.out wr HBI.out).2.1 q hqm
            have hri := HRI.out q.p q.c q.l (by have := HX3.out q hqm; omega) wr hqo.1
            have HMQ : Hid ((rs.map PC.l)[m]? = some q.l) := Lib.hid (by rw [List.getElem?_map, List.getElem?_eq_getElem hml, hq]; rfl)
            clear hq hqm hqo
            obtain ⟨ql, qp, qc⟩ := q
            dsimp only [PC.val] at q0 hri HMQ
            cases hro : ringOk z b ql with
            | false =>
              rw [hro] at hri
              simp only [Bool.false_eq_true, if_false] at hri
              have HBAD : Hid (facesOk z b (l.map Fc.rings) = false) := Lib.hid (facesOk_bad HXR.out HMQ.out hro)
              have HRI2 := Lib.hid hri
              clear hri hro
              go_wp2_with fail
              refine HRI2.out.mono ?_
              rintro e w6 ⟨v6, rfl, -, hb6⟩
              have hbz := HBI.out.trans (hb6.mono HBI.out.size)
              clear hb6
              go_wp2
              refine bodyPost_ret (v := .tuple #[.slice none 0 0, .int .i64 5]) (by simp [results, Try.results5, go_sem]) rfl ⟨_, _, rfl, FacPost.bad HBAD.out hbz⟩
            | true =>
              have hrf : ringF z b ql = ringF z b ql := rfl
              rw [hro] at hri
              simp only [if_true] at hri
              obtain ⟨RL, hRL⟩ : ∃ RL, ringF z b ql = RL := ⟨_, rfl⟩
              rw [hRL] at hri
              have HRI2 := Lib.hid hri
              have HRL := Lib.hid hRL
              have HRO := Lib.hid hro
              clear hri hro hRL hrf
              go_wp2_with fail
              refine HRI2.out.mono ?_
              rintro e w6 ⟨v6, rfl, hown6, hb6⟩
              obtain ⟨p6, c6, rfl, h61, h62, h63, hr6, -⟩ := hown6.form
              have hqn : PcT w6 ⟨RL, p6, c6⟩ := ⟨⟨hr6, h61, h62, h63⟩, TypB.of_owns hown6⟩
              have hOW6 := HOW.out.below hb6
              have HTW6 := Lib.hid (HTW.out.keep hb6)
              have HPT6 : Hid (∀ q ∈ qs, PcT w6 q) := Lib.hid fun q hq => (HPT.out q hq).keep hb6
              have HBT6 := Lib.hid (HBT.out.below hb6)
              have HBI6 := Lib.hid (HBI.out.trans (hb6.mono HBI.out.size))
              have HAT6 : Hid (Rd w6 (some ⟨D, 0, none⟩) (ats ls) ∧ TypB w6 (some ⟨D, 0, none⟩) 62) := Lib.hid ⟨HAT.out.1.keep hb6, HAT.out.2.keepS (S := fun _ => True) trivial (KeepS.of_below hb6)⟩
              have HQN := Lib.hid hqn
              have s0 := HTW6.out.cell0 HXL.out
              clear HOW HTW HPT HBT HBI HAT hown6 hr6 hqn hb6 HRI2 q0
              go_wp2_with (at_builtin; go_must (refine wpList_appLit rfl (.tmp 74) (.tmp 76) 39 rfl W0.heap.size 42 (.slice none 0 0) 1 24 Try.underlying39 Try.infoRow rfl (by decide) (by decide) v m (rcs qs) rfl hOW6 1 1 [.slice p6 RL.length c6] _ rfl rfl (rcs_one [⟨RL, p6, c6⟩]) (by omega) (by have := HBT6.out.1; omega) ?_); intro v7 w7 hown7 hg7; have hfm7 := hown7.form; obtain ⟨p7, k7, rfl, -⟩ := hfm7; have hT7 := HTW6.out.grown hg7 (hOW6.ne hltC); have t0 := hT7.cell0 HXL.out; have tf := hT7.free (k * 2))
              have hks : KeepS ringS w6 (w7.setCell ⟨C, k * 2, none⟩ (.slice p7 (m + 1) k7)) := (KeepS.of_row hOW6 (by unfold ringS; decide) hg7).trans (KeepS.store (p := ⟨C, k * 2, none⟩) hT7 (by unfold ringS; decide) _)
              have hOW8 := hown7.set_lt (b := C) (o := k * 2) hltC (.slice p7 (m + 1) k7)
              have hT8 := hT7.set0 HXL.out (.slice p7 (m + 1) k7)
              have hBT8 := (HBT6.out.grown hg7 (fun j hj => (hOW6.lt j hj).1)).set (k * 2) (.slice p7 (m + 1) k7)
              have hBI8 := (HBI6.out.grown hg7 HBI6.out.size (fun j hj => by have := (hOW6.lt j hj).1; have := HBW.out.size; omega)).set_at (b := C) (o := k * 2) hwC (.slice p7 (m + 1) k7)
              clear hown7 hg7 hT7 t0 tf s0
              go_roundw
              case rel =>
                refine ⟨m + 1, qs ++ [⟨RL, p6, c6⟩], .slice p7 (m + 1) k7, by omega, by go_num, Lib.hid (by simp [HQL.out]), Lib.hid ?_, Lib.hid ?_, Lib.hid ?_, Lib.hid hT8, Lib.hid ?_, Lib.hid hBT8, Lib.hid hBI8, Lib.hid ⟨HAT6.out.1.keepS HAT6.out.2 (.inr rfl) hks, HAT6.out.2.keepS (.inr rfl) hks⟩⟩
                · rw [List.map_append, HQM.out, List.take_add_one, HMQ.out]
                  simp [HRL.out]
                · intro x hx
                  rw [List.take_add_one, HMQ.out] at hx
                  rcases List.mem_append.1 hx with h | h
                  · exact HQO.out x h
                  · simp at h
                    rw [h]; exact HRO.out
                · rw [rcs_snoc]
                  exact hOW8
                · intro q hq
                  rcases List.mem_append.1 hq with h | h
                  · exact (HPT6.out q h).keepS (.inl rfl) hks
                  · obtain rfl := List.mem_singleton.1 h
                    exact HQN.out.keepS (.inl rfl) hks
              case measure => simp [intOf]; omega
          · obtain rfl : m = rs.length := by omega
            have hOW := HOW.out
            obtain ⟨pv, cv, rfl, hv1, hv2, hv3, hrv, -⟩ := hOW.form
            have hqm : qs.map PC.l = (rs.map PC.l).map (ringF z b) := by rw [HQM.out, List.take_of_length_le (by simp)]
            have hqo : ∀ x ∈ rs.map PC.l, ringOk z b x = true := fun x hx => HQO.out x (by rw [List.take_of_length_le (by simp)]; exact hx)
            have hTV := TypB.of_owns hOW
            have HNF : Hid (FcT wr ⟨qs, pv, cv, ls, some ⟨D, 0, none⟩, ls.length⟩) := by
              refine Lib.hid ⟨⟨⟨hrv, by rw [HQL.out]; exact hv1, hv2, hv3⟩, fun q hq => (HPT.out q hq).1, ⟨HAT.out.1, Nat.le_refl _, by unfold maxLen; exact Nat.le_trans HX2.out (by omega), fun h => by cases h⟩⟩, hTV, HPT.out, HAT.out.2⟩
            have HFT2 : Hid (∀ f ∈ fs, FcT wr f) := Lib.hid fun f hf => (HFT.out f hf).keepS (HBT.out.keepS HCK.out faceS_face)
            have HM2 : Hid ((fs ++ [(⟨qs, pv, cv, ls, some ⟨D, 0, none⟩, ls.length⟩ : Fc)]).map Fc.rings = ((l.map Fc.rings).take (k + 1)).map (fun r => r.map (ringF z b))) := by
              refine Lib.hid ?_
              rw [List.map_append, HM.out, List.take_add_one, HXR.out]
              simp only [List.map_append, List.map_cons, List.map_nil, Option.toList_some, Fc.rings]
              rw [hqm]
            have HA2 : Hid (∀ r ∈ (l.map Fc.rings).take (k + 1), ∀ x ∈ r, ringOk z b x = true) := by
              refine Lib.hid fun r hr => ?_
              rw [List.take_add_one, HXR.out] at hr
              rcases List.mem_append.1 hr with h | h
              · exact HA.out r h
              · simp at h
                subst h
                exact hqo
            have HCK2 : Hid (wr.heap[C]? = some (.cells (fcs ((fs ++ [(⟨qs, pv, cv, ls, some ⟨D, 0, none⟩, ls.length⟩ : Fc)]) ++ List.replicate (N - (k + 1)) fz)).toArray 41 (0, 0))) := by
              refine Lib.hid ?_
              have h : wr.heap[C]? = _ := HTW.out
              rw [h, ← HXE.out, ← HYE.out, show N - (k + 1) = N - k - 1 by omega]
              simp [fcs, Fc.cells, Fc.rval, Fc.aval, HQL.out]
            clear hOW hrv hTV hqm hqo HOW HPT HTW HQM HQO HAT HBT
            go_wp2
            go_roundw
            case rel => exact ⟨k + 1, fs ++ [⟨qs, pv, cv, ls, some ⟨D, 0, none⟩, ls.length⟩], by omega, by go_num, Lib.hid (by simp [HFL.out]), HM2, HA2, HCK2, Lib.hid (fun f hf => (List.mem_append.1 hf).elim (HFT2.out f) (fun h => by obtain rfl := List.mem_singleton.1 h; exact HNF.out)), HBI⟩
            case measure => simp [intOf]; omega
      · obtain rfl : k = N := by omega
        have hLk : (l.map Fc.rings).take k = l.map Fc.rings := List.take_of_length_le (by rw [List.length_map, HN.out]; exact Nat.le_refl _)
        have hM := HM.out
        have hA := HA.out
        rw [hLk] at hM hA
        have hG := facesOk_good HLB.out hA
        have hC := HCK.out
        rw [Nat.sub_self, List.replicate_zero, List.append_nil] at hC
        have HFIN : Hid (FacPost z b (l.map Fc.rings) w W0 (.slice (some ⟨C, 0, none⟩) k k) 0) := by
          refine Lib.hid ⟨by rw [hG]; rfl, HBW.out, fun _ => ⟨fs, hM, ⟨by rw [fcs_len], .inr ⟨C, k, (fcs fs).toArray, by rw [HFL.out], hwC, hC, by rw [HFL.out]; exact Nat.le_refl _, by unfold maxLen; omega, by rw [List.size_toArray, fcs_len, HFL.out], ?_⟩⟩, HFT.out⟩⟩
          rw [← fcs_len]; simp
        clear hLk hM hA hG hC
        go_wp2
        refine bodyPost_ret (v := .tuple #[.slice (some ⟨C, 0, none⟩) k k, .int .i64 0]) (by simp [results, Try.results5, go_sem]) rfl ⟨_, _, rfl, HFIN.out⟩
end Go.Proofs.Ytediblljgakoeaa
/- exact.within, Right, Cross. -/
set_option linter.unusedVariables false
set_option linter.unusedSimpArgs false
namespace Go.Proofs.Ytediblljgakoeaa
open Go.RowKit

set_option maxHeartbeats 800000 in
theorem xcross_any (a b c : Pt) (ha : okPt a = true) (hb : okPt b = true) (hc : okPt c = true) (w : World) :
    Calls Try.prog 32 #[a.val, b.val, c.val] w fun e w' => e = .returned (.int .i64 (crs a b c)) ∧ Below w.heap.size w w' := by
  have hall : ([a, b, c].all okPt) = true := by simp [ha, hb, hc]
  have hB := crs_bd a b c ha hb hc
  rw [okPt_iff] at ha hb hc
  have h1 := mul_bd (b.x - a.x) (c.y - a.y) 33554432 33554432 (by omega) (by omega) (by omega) (by omega)
  have h2 := mul_bd (b.y - a.y) (c.x - a.x) 33554432 33554432 (by omega) (by omega) (by omega) (by omega)
  simp only [Int.reduceMul, Int.reduceNeg] at h1 h2
  obtain ⟨z, hz⟩ : ∃ z, crs a b c = z := ⟨_, rfl⟩
  have HZ := Lib.hid hz
  have HALL := Lib.hid hall
  rw [hz] at hB ⊢
  clear hz hall
  have hri := fun W h => xright_any (some ⟨w.heap.size + 1 + 1 + 1, 0, none⟩) 3 [a, b, c] (by simp [maxLen]) W h
  rw [HALL.out] at hri
  have HRI := Lib.hid hri
  clear hri HALL
  obtain ⟨ax, ay⟩ := a
  obtain ⟨bx, bY⟩ := b
  obtain ⟨cx, cy⟩ := c
  dsimp only [Pt.val, crs] at *
  go_enter Try.func32, Try.ntmps32
  go_wp2_with fail
  refine (HRI.out _ (Rd.lit _ _ [.int .i64 ax, .int .i64 ay, .int .i64 bx, .int .i64 bY, .int .i64 cx, .int .i64 cy] _ (by simp))).mono ?_
  rintro e w1 ⟨rfl, hb1⟩
  have hA := ((((Blk.lit w w.heap.size [.int .i64 ax, .int .i64 ay] 32 rfl).alloc (.cells #[.int .i64 bx, .int .i64 bY] 32)).alloc (.cells #[.int .i64 cx, .int .i64 cy] 32)).alloc (.cells #[.int .i64 ax, .int .i64 ay, .int .i64 bx, .int .i64 bY, .int .i64 cx, .int .i64 cy] 32)).keep hb1
  have hB2 := (((Blk.lit (w.alloc (.cells #[.int .i64 ax, .int .i64 ay] 32)) (w.heap.size + 1) [.int .i64 bx, .int .i64 bY] 32 (by simp)).alloc (.cells #[.int .i64 cx, .int .i64 cy] 32)).alloc (.cells #[.int .i64 ax, .int .i64 ay, .int .i64 bx, .int .i64 bY, .int .i64 cx, .int .i64 cy] 32)).keep hb1
  have hC2 := ((Blk.lit ((w.alloc (.cells #[.int .i64 ax, .int .i64 ay] 32)).alloc (.cells #[.int .i64 bx, .int .i64 bY] 32)) (w.heap.size + 1 + 1) [.int .i64 cx, .int .i64 cy] 32 (by simp)).alloc (.cells #[.int .i64 ax, .int .i64 ay, .int .i64 bx, .int .i64 bY, .int .i64 cx, .int .i64 cy] 32)).keep hb1
  have a0 := hA.cell 0 rfl
  have a1 := hA.cell 1 rfl
  have b0 := hB2.cell 0 rfl
  have b1 := hB2.cell 1 rfl
  have c0 := hC2.cell 0 rfl
  have c1 := hC2.cell 1 rfl
  have hbl := ((((Below.new w (.cells #[.int .i64 ax, .int .i64 ay] 32)).alloc (by simp) (.cells #[.int .i64 bx, .int .i64 bY] 32)).alloc (by simp; omega) (.cells #[.int .i64 cx, .int .i64 cy] 32)).alloc (by simp; omega) (.cells #[.int .i64 ax, .int .i64 ay, .int .i64 bx, .int .i64 bY, .int .i64 cx, .int .i64 cy] 32)).trans (hb1.mono (by simp; omega))
  clear hA hB2 hC2 hb1 HRI
  go_wp2
  go_ret
  exact ⟨ret_int HZ.out, hbl⟩
end Go.Proofs.Ytediblljgakoeaa
/- exact.Turn, between, On. -/
set_option linter.unusedVariables false
set_option linter.unusedSimpArgs false
set_option maxRecDepth 100000
namespace Go
/-- Lies a point within the box of two others? -/
def boxB (a b p : Pt) : Bool := decide (min a.x b.x ≤ p.x ∧ p.x ≤ max a.x b.x) && decide (min a.y b.y ≤ p.y ∧ p.y ≤ max a.y b.y)
/-- Lies a point on a segment? (Points that may be.) -/
def onX (a b p : Pt) : Bool := decide (crs a b p = 0) && boxB a b p
end Go
namespace Go.Proofs.Ytediblljgakoeaa
open Go.RowKit
/-- Three points laid one behind the other. -/
theorem three_lit (w : World) (T : TypeId) (a b c : Pt) :
    Blk (((w.alloc (.cells #[.int .i64 a.x, .int .i64 a.y] T)).alloc (.cells #[.int .i64 b.x, .int .i64 b.y] T)).alloc (.cells #[.int .i64 c.x, .int .i64 c.y] T)) w.heap.size a.cells ∧
    Blk (((w.alloc (.cells #[.int .i64 a.x, .int .i64 a.y] T)).alloc (.cells #[.int .i64 b.x, .int .i64 b.y] T)).alloc (.cells #[.int .i64 c.x, .int .i64 c.y] T)) (w.heap.size + 1) b.cells ∧
    Blk (((w.alloc (.cells #[.int .i64 a.x, .int .i64 a.y] T)).alloc (.cells #[.int .i64 b.x, .int .i64 b.y] T)).alloc (.cells #[.int .i64 c.x, .int .i64 c.y] T)) (w.heap.size + 1 + 1) c.cells ∧
    Below w.heap.size w (((w.alloc (.cells #[.int .i64 a.x, .int .i64 a.y] T)).alloc (.cells #[.int .i64 b.x, .int .i64 b.y] T)).alloc (.cells #[.int .i64 c.x, .int .i64 c.y] T)) :=
  ⟨((Blk.lit w w.heap.size a.cells T rfl).alloc _).alloc _, (Blk.lit _ (w.heap.size + 1) b.cells T (by simp)).alloc _, Blk.lit _ (w.heap.size + 1 + 1) c.cells T (by simp),
   ((Below.new w _).alloc (by simp) _).alloc (by simp; omega) _⟩

set_option maxHeartbeats 800000 in
theorem xturn_any (a b c : Pt) (ha : okPt a = true) (hb : okPt b = true) (hc : okPt c = true) (w : World) :
    Calls Try.prog 20 #[a.val, b.val, c.val] w fun e w' => e = .returned (.int .i64 (sg (crs a b c))) ∧ Below w.heap.size w w' := by
  have HX := Lib.hid (fun w => xcross_any a b c ha hb hc w)
  obtain ⟨kA, kB, kC, hbl⟩ := three_lit w 32 a b c
  have HSG : Hid (sg (crs a b c) = if 0 < crs a b c then 1 else if crs a b c < 0 then -1 else 0) := Lib.hid rfl
  generalize sg (crs a b c) = SG at *
  generalize crs a b c = N at *
  obtain ⟨ax, ay⟩ := a
  obtain ⟨bx, bY⟩ := b
  obtain ⟨cx, cy⟩ := c
  dsimp only [Pt.val, Pt.cells] at *
  have a0 := kA.cell 0 rfl
  have a1 := kA.cell 1 rfl
  have b0 := kB.cell 0 rfl
  have b1 := kB.cell 1 rfl
  have c0 := kC.cell 0 rfl
  have c1 := kC.cell 1 rfl
  clear ha hb hc
  go_enter Try.func20, Try.ntmps20
  go_wp2_with fail
  refine (HX.out _).mono ?_
  rintro e w1 ⟨rfl, hb1⟩
  have hbf := hbl.trans (hb1.mono hbl.size)
  clear a0 a1 b0 b1 c0 c1 kA kB kC HX hbl hb1
  by_cases h1 : 0 < N
  · go_wp2
    go_ret
    exact ⟨ret_int (by rw [HSG.out]; (repeat' split) <;> omega), hbf⟩
  · by_cases h2 : N < 0
    · go_wp2
      go_ret
      exact ⟨ret_int (by rw [HSG.out]; (repeat' split) <;> omega), hbf⟩
    · go_wp2
      go_ret
      exact ⟨ret_int (by rw [HSG.out]; (repeat' split) <;> omega), hbf⟩

set_option maxHeartbeats 1600000 in
theorem xbetween_any (a b c : Pt) (w : World) :
    Calls Try.prog 21 #[a.val, b.val, c.val] w fun e w' => e = .returned (.bool (boxB a b c)) ∧ Below w.heap.size w w' := by
  have HW := Lib.hid (fun n lo hi w => xwithin_any n lo hi w)
  obtain ⟨kA, kB, kC, hbl⟩ := three_lit w 32 a b c
  have HB : Hid (boxB a b c = (decide (min a.x b.x ≤ c.x ∧ c.x ≤ max a.x b.x) && decide (min a.y b.y ≤ c.y ∧ c.y ≤ max a.y b.y))) := Lib.hid rfl
  generalize boxB a b c = BB at *
  obtain ⟨ax, ay⟩ := a
  obtain ⟨bx, bY⟩ := b
  obtain ⟨cx, cy⟩ := c
  dsimp only [Pt.val, Pt.cells] at *
  have a0 := kA.cell 0 rfl
  have a1 := kA.cell 1 rfl
  have b0 := kB.cell 0 rfl
  have b1 := kB.cell 1 rfl
  have c0 := kC.cell 0 rfl
  have c1 := kC.cell 1 rfl
  obtain ⟨lx, hlx⟩ : ∃ z : Int, (if bx < ax then bx else ax) = z := ⟨_, rfl⟩
  obtain ⟨ly, hly⟩ : ∃ z : Int, (if bY < ay then bY else ay) = z := ⟨_, rfl⟩
  obtain ⟨mx, hmx⟩ : ∃ z : Int, (if ax < bx then bx else ax) = z := ⟨_, rfl⟩
  obtain ⟨my, hmy⟩ : ∃ z : Int, (if ay < bY then bY else ay) = z := ⟨_, rfl⟩
  have e1 : min ax bx = lx := by rw [← hlx]; split <;> omega
  have e2 : min ay bY = ly := by rw [← hly]; split <;> omega
  have e3 : max ax bx = mx := by rw [← hmx]; split <;> omega
  have e4 : max ay bY = my := by rw [← hmy]; split <;> omega
  rw [e1, e2, e3, e4] at HB
  go_enter Try.func21, Try.ntmps21
  go_wp2_with fail
  refine (HW.out _ _ _ _).mono ?_
  rintro e w1 ⟨rfl, rfl⟩
  cases hB1 : decide (lx ≤ cx ∧ cx ≤ mx) with
  | false =>
    rw [hB1] at HB
    go_wp2
    go_ret
    exact ⟨ret_bool (by rw [HB.out]; rfl), hbl⟩
  | true =>
    rw [hB1] at HB
    go_wp2_with fail
    refine (HW.out _ _ _ _).mono ?_
    rintro e w1 ⟨rfl, rfl⟩
    cases hB2 : decide (ly ≤ cy ∧ cy ≤ my) with
    | false =>
      rw [hB2] at HB
      go_wp2
      go_ret
      exact ⟨ret_bool (by rw [HB.out]; rfl), hbl⟩
    | true =>
      rw [hB2] at HB
      go_wp2
      go_ret
      exact ⟨ret_bool (by rw [HB.out]; rfl), hbl⟩

set_option maxHeartbeats 1600000 in
theorem xon_any (a b c : Pt) (ha : okPt a = true) (hb : okPt b = true) (hc : okPt c = true) (w : World) :
    Calls Try.prog 9 #[a.val, b.val, c.val] w fun e w' => e = .returned (.bool (onX a b c)) ∧ Below w.heap.size w w' := by
  have HT := Lib.hid (fun w => xturn_any a b c ha hb hc w)
  have HBT := Lib.hid (fun w => xbetween_any a b c w)
  have hall : ([a, b, c].all okPt) = true := by simp [ha, hb, hc]
  obtain ⟨kA, kB, kC, hbl⟩ := three_lit w 32 a b c
  have HON : Hid (onX a b c = (decide (sg (crs a b c) = 0) && boxB a b c)) := Lib.hid (by unfold onX; simp only [sg_zero])
  have hri := fun W h => xright_any (some ⟨w.heap.size + 1 + 1 + 1, 0, none⟩) 3 [a, b, c] (by simp [maxLen]) W h
  rw [hall] at hri
  have HRI := Lib.hid hri
  clear hri hall
  generalize onX a b c = ON at *
  generalize sg (crs a b c) = SG at *
  generalize boxB a b c = BB at *
  obtain ⟨ax, ay⟩ := a
  obtain ⟨bx, bY⟩ := b
  obtain ⟨cx, cy⟩ := c
  dsimp only [Pt.val, Pt.cells] at *
  have a0 := kA.cell 0 rfl
  have a1 := kA.cell 1 rfl
  have b0 := kB.cell 0 rfl
  have b1 := kB.cell 1 rfl
  have c0 := kC.cell 0 rfl
  have c1 := kC.cell 1 rfl
  clear ha hb hc
  go_enter Try.func9, Try.ntmps9
  go_wp2_with fail
  refine (HRI.out _ (Rd.lit _ _ [.int .i64 ax, .int .i64 ay, .int .i64 bx, .int .i64 bY, .int .i64 cx, .int .i64 cy] _ (by simp))).mono ?_
  rintro e w1 ⟨rfl, hx1⟩
  have hlw : (((w.alloc (.cells #[.int .i64 ax, .int .i64 ay] 32)).alloc (.cells #[.int .i64 bx, .int .i64 bY] 32)).alloc (.cells #[.int .i64 cx, .int .i64 cy] 32)).heap.size = w.heap.size + 1 + 1 + 1 := by simp
  have hx2 := (Below.new (((w.alloc (.cells #[.int .i64 ax, .int .i64 ay] 32)).alloc (.cells #[.int .i64 bx, .int .i64 bY] 32)).alloc (.cells #[.int .i64 cx, .int .i64 cy] 32)) (.cells #[.int .i64 ax, .int .i64 ay, .int .i64 bx, .int .i64 bY, .int .i64 cx, .int .i64 cy] 32)).trans (hx1.mono (by simp))
  have kA := kA.keep hx2
  have kB := kB.keep hx2
  have kC := kC.keep hx2
  have hbl := hbl.trans (hx2.mono hbl.size)
  clear a0 a1 b0 b1 c0 c1 hx1 hx2 hlw HRI
  have a0 := kA.cell 0 rfl
  have a1 := kA.cell 1 rfl
  have b0 := kB.cell 0 rfl
  have b1 := kB.cell 1 rfl
  have c0 := kC.cell 0 rfl
  have c1 := kC.cell 1 rfl
  go_wp2_with fail
  refine (HT.out _).mono ?_
  rintro e w2 ⟨rfl, hx1⟩
  have kA := kA.keep hx1
  have kB := kB.keep hx1
  have kC := kC.keep hx1
  have hbl := hbl.trans (hx1.mono hbl.size)
  clear a0 a1 b0 b1 c0 c1 hx1 HT
  by_cases hz : SG = 0
  · subst hz
    have a0 := kA.cell 0 rfl
    have a1 := kA.cell 1 rfl
    have b0 := kB.cell 0 rfl
    have b1 := kB.cell 1 rfl
    have c0 := kC.cell 0 rfl
    have c1 := kC.cell 1 rfl
    go_wp2_with fail
    refine (HBT.out _).mono ?_
    rintro e w3 ⟨rfl, hx1⟩
    have hbl := hbl.trans (hx1.mono hbl.size)
    clear a0 a1 b0 b1 c0 c1 hx1 HBT kA kB kC
    go_wp2
    go_ret
    exact ⟨ret_bool (by rw [HON.out]; simp), hbl⟩
  · go_wp2
    go_ret
    exact ⟨ret_bool (by rw [HON.out]; simp; omega), hbl⟩
end Go.Proofs.Ytediblljgakoeaa
