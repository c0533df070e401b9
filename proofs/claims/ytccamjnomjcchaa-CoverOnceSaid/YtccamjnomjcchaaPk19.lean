/-
  (*rows.Index).Find.
-/
import Derived.Test.YtccamjnomjcchaaPk16
import Derived.Test.YtccamjnomjcchaaPk6
import Derived.Test.YtccamjnomjcchaaPk17
import Derived.Test.YtccamjnomjcchaaPk12
import Derived.Test.YtccamjnomjcchaaPk18
/- (*rows.Index).Find. -/
set_option linter.unusedVariables false
set_option linter.unusedSimpArgs false
set_option maxRecDepth 100000
namespace Go.Proofs.Ytccamjnomjcchaa
open Go.RowKit
def FoundIn (base : Nat) (w : World) (b : Bx) (bs : List Bx) (v : Value) : Prop :=
  ∃ R : List Int, (∀ i, i ∈ R ↔ MeetsAt b bs i) ∧ R.length ≤ bs.length ∧ w.ownsRow base 3 1 v R.length (ins R)
def OutAt (W : World) (SO : Nat) (O : List Int) : Prop := ∃ oa oc, Blk W SO [.slice oa O.length oc] ∧ W.ownsRow (SO + 1) 3 1 (.slice oa O.length oc) O.length (ins O)
theorem OutAt.keep {W W' : World} {SO : Nat} {O : List Int} (h : OutAt W SO O) (hb : Below W.heap.size W W') : OutAt W' SO O := by
  obtain ⟨oa, oc, h1, h2⟩ := h; exact ⟨oa, oc, h1.keep hb, h2.below hb⟩

theorem OutAt.stored {W W2 : World} {SO : Nat} {O : List Int} {oa : Option Addr} {oc : Nat} {ya : Option Addr} {yc : Nat} {x : Int} (kO : Blk W SO [.slice oa O.length oc]) (hown : W.ownsRow (SO + 1) 3 1 (.slice oa O.length oc) O.length (ins O))
    (hg : W.grownBy W2 (Value.slice oa O.length oc).ownBlock) (hown2 : W2.ownsRow (SO + 1) 3 1 (.slice ya (O.length + 1) yc) (O.length + 1) (ins O ++ [.int .i64 x])) :
    Blk W2 SO [.slice oa O.length oc] ∧ OutAt (W2.setCell ⟨SO, 0, none⟩ (.slice ya (O.length + 1) yc)) SO (O ++ [x]) := by
  have k2 := kO.grown hg (fun e => by have := (hown.lt SO e.symm).1; omega); have e1 : ins (O ++ [x]) = ins O ++ [.int .i64 x] := by simp [ins]
  refine ⟨k2, ya, yc, ?_, ?_⟩
  · rw [List.length_append]; exact k2.set 0 _
  · rw [e1, List.length_append]; exact ownsRow_other hown2 (grownBy_setCell' W2 SO _) (fun r e e2 => by cases e; have := (hown2.lt _ e2).1; omega)
def TBlk (T : TypeId) (w : World) (b : Nat) (vs : List Value) : Prop := w.heap[b]? = some (.cells vs.toArray T (0, 0))
theorem TBlk.blk {T : TypeId} {w : World} {b : Nat} {vs : List Value} (h : TBlk T w b vs) : Blk w b vs := ⟨T, h⟩
theorem TBlk.lt {T : TypeId} {w : World} {b : Nat} {vs : List Value} (h : TBlk T w b vs) : b < w.heap.size := (Array.getElem?_eq_some_iff.1 h).1
theorem TBlk.keep {T : TypeId} {w w' : World} {b : Nat} {vs : List Value} (h : TBlk T w b vs) (hb : Below w.heap.size w w') : TBlk T w' b vs := (hb.block b h.lt).trans h
theorem TBlk.grown {T : TypeId} {w w' : World} {b : Nat} {vs : List Value} {r : Option Nat} (h : TBlk T w b vs) (hg : w.grownBy w' r) (hne : some b ≠ r) : TBlk T w' b vs := (hg.block b h.lt hne).trans h
theorem TBlk.cell {T : TypeId} {w : World} {b : Nat} {vs : List Value} {v : Value} (h : TBlk T w b vs) (i : Nat) (hi : vs[i]? = some v) : w.cell? ⟨b, i, none⟩ = some v := h.blk.cell i hi
theorem TBlk.lit (w : World) (b : Nat) (vs : List Value) (T : TypeId) (hb : w.heap.size = b) : TBlk T (w.alloc (.cells vs.toArray T)) b vs := by
  subst hb; exact heap_alloc_new w _
def FindJ (H B S SO : Nat) (w0 : World) (b : Bx) (bs : List Bx) (Q : Int → Prop) (W : World) : Prop :=
  ∃ O M : List Int, FI b bs Q O M ∧ OutAt W SO O ∧ VSet Try.prog 3 In1.val W S M ∧ TBlk 172 W (S + 1) [.map (some S)] ∧ Blk W H [.pointer (some ⟨B + 1, 0, none⟩)] ∧ Blk W (H + 1) [.int .i64 b.lo.x, .int .i64 b.lo.y, .int .i64 b.hi.x, .int .i64 b.hi.y] ∧ Below H w0 W ∧ S + 3 ≤ W.heap.size
theorem FindJ.congr {H B S SO : Nat} {w0 W : World} {b : Bx} {bs : List Bx} {Q Q' : Int → Prop} (h : FindJ H B S SO w0 b bs Q W) (e : ∀ x, Q' x → Q x) : FindJ H B S SO w0 b bs Q' W := by
  obtain ⟨O, M, i1, h⟩ := h; exact ⟨O, M, i1.congr e, h⟩
theorem FindJ.own (H B S SO : Nat) (w0 : World) (b : Bx) (bs : List Bx) (Q : List (Int × Int) → Int → Prop) (h1 : H + 1 < S) (h2 : SO < S) : OwnFrom (S + 3) (fun pre W => FindJ H B S SO w0 b bs (Q pre) W) := by
  rintro pre X Y row ⟨O, M, i1, ⟨oa, oc, o1, o2⟩, i3, i4, i5, i6, i7, i8⟩ hg hr; refine ⟨O, M, i1, ⟨oa, oc, o1.grown hg (fun e => by have := (hr _ e.symm).1; omega), ownsRow_other o2 hg (fun r e => by obtain ⟨o, ho, hc⟩ := (hr r e).2; exact ownsRow_nc o2 ho hc)⟩, i3.kept hg (fun e => by have := (hr _ e.symm).1; omega), i4.grown hg (fun e => by have := (hr _ e.symm).1; omega), i5.grown hg (fun e => by have := (hr _ e.symm).1; omega), i6.grown hg (fun e => by have := (hr _ e.symm).1; omega), i7.grown hg (by omega) (fun k e => by have := (hr k e).1; omega), Nat.le_trans i8 hg.size⟩
attribute [local go_sem] Oper.semAt_some
set_option maxHeartbeats 12800000 in
theorem find_any (B : Nat) (bs : List Bx) (b : Bx) (hlen : bs.length ≤ 1000) (hb : b.Ok) (w : World) (hi : IdxOk w B bs) :
    Calls Try.prog 87 #[.pointer (some ⟨B + 1, 0, none⟩), b.val] w fun e w' => (∃ v, e = .returned v ∧ FoundIn w.heap.size w' b bs v) ∧ Below w.heap.size w w' := by
  refine (callsIn_wide (n := 5)).1 ?_; refine callsIn_of_wp_marks Try.func87 rfl trivial ?_ rfl; simp only [Try.ntmps87, List.size_toArray, List.length_cons, List.length_nil, Nat.reduceAdd, Nat.reduceSub, Array.replicate_succ, Array.replicate_zero, List.push_toArray, List.append_toArray, List.nil_append, List.cons_append]; refine wpIn_wide.2 ?_; have HIX := Lib.hid hi; obtain ⟨va, vg, f, m, n, hkp, hV, hn, hI, hok⟩ := hi; obtain ⟨xa, xc, hve, -, -, -, hrd, -⟩ := hI.all.form; subst hve; have HR := Lib.hid hrd; have HOK := Lib.hid hok; have HI := Lib.hid hI; have HV := Lib.hid hV; obtain ⟨N, hN⟩ : ∃ N, bs.length = N := ⟨_, rfl⟩; have HN := Lib.hid hN; rw [hN] at hkp hlen hn HI; have HRT := Lib.hid (fun W => rright_any b hb W); have HGT := Lib.hid (fun W => great_any b hb W); have HMT := Lib.hid (fun (x : Bx) (hx : x.Ok) W => meet_any b x hb hx W); clear hV hI hok hrd hN; obtain ⟨H, hH⟩ : ∃ H, w.heap.size = H := ⟨_, rfl⟩; obtain ⟨BC, hBC⟩ : ∃ c, b = c := ⟨_, rfl⟩; have kT := (Blk.lit w H [.pointer (some ⟨B + 1, 0, none⟩)] 101 hH).alloc (.cells #[.int .i64 b.lo.x, .int .i64 b.lo.y, .int .i64 b.hi.x, .int .i64 b.hi.y] 104); have kb := Blk.lit (w.alloc (.cells #[.pointer (some ⟨B + 1, 0, none⟩)] 101)) (H + 1) [.int .i64 b.lo.x, .int .i64 b.lo.y, .int .i64 b.hi.x, .int .i64 b.hi.y] 104 (by simp [hH]); have hb0 : Below w.heap.size w ((w.alloc (.cells #[.pointer (some ⟨B + 1, 0, none⟩)] 101)).alloc (.cells #[.int .i64 b.lo.x, .int .i64 b.lo.y, .int .i64 b.hi.x, .int .i64 b.hi.y] 104)) := (Below.new _ _).alloc (by simp) _
  have hlt := hkp.lt; rw [hH] at hlt; unfold Bx.val at *; clear hBC BC; have q0 := kb.cell 0 rfl; have q1 := kb.cell 1 rfl; have q2 := kb.cell 2 rfl; have q3 := kb.cell 3 rfl; have q4 := kT.cell 0 rfl
  go_wp2_with fail
  generalize (w.alloc (.cells #[.pointer (some ⟨B + 1, 0, none⟩)] 101)).alloc (.cells #[.int .i64 b.lo.x, .int .i64 b.lo.y, .int .i64 b.hi.x, .int .i64 b.hi.y] 104) = w0 at *; refine (HRT.out w0).mono ?_; rintro e w1 ⟨rfl, hb1⟩; replace kT := kT.keep hb1; replace kb := kb.keep hb1; replace hb0 := hb0.trans (hb1.mono hb0.size); clear hb1 q0 q1 q2 q3 q4; obtain ⟨SO, hSO⟩ : ∃ s, w1.heap.size = s := ⟨_, rfl⟩; have hTS := kb.lt; rw [hSO] at hTS; have hblA := Below.new w1 (.cells #[.slice none 0 0] 43); have kO := Blk.lit w1 SO [.slice none 0 0] 43 hSO; replace kT := kT.keep hblA; replace kb := kb.keep hblA; replace hb0 := hb0.trans (hblA.mono hb0.size); have hszO : (w1.alloc (.cells #[.slice none 0 0] 43)).heap.size = SO + 1 := by simp [hSO]
  have q0 := kb.cell 0 rfl; have q1 := kb.cell 1 rfl; have q2 := kb.cell 2 rfl; have q3 := kb.cell 3 rfl; clear hblA
  go_wp2_with fail
  generalize w1.alloc (.cells #[.slice none 0 0] 43) = w2 at *; refine (HGT.out w2).mono ?_; rintro e w3 ⟨rfl, hb3⟩; replace kT := kT.keep hb3; replace kb := kb.keep hb3; replace kO := kO.keep hb3; replace hb0 := hb0.trans (hb3.mono hb0.size); have hsz3 : SO + 1 ≤ w3.heap.size := by have := hb3.size; omega
  clear hb3 q0 q1 q2 q3 hszO hSO HRT HGT; have HO0 : OutAt w3 SO [] := ⟨none, 0, kO, World.ownsRow_nil _ _ _ _⟩; have kX := hkp.keep hb0; have HKP := Lib.hid hkp; have hBH : B + 1 < H := hlt; clear kO hkp; have q4 := kT.cell 0 rfl; have q5 := kX.cell 0 rfl; obtain ⟨GB, hGB⟩ : ∃ g, greatF b = g := ⟨_, rfl⟩; have HGB := Lib.hid hGB; rw [hGB]; clear hGB
  cases GB with
  | true =>
    go_wp2
    go_loopw [28] (fun i wr => ∃ (k : Nat) (O : List Int), k ≤ N ∧ i = .int .i64 k ∧ Hid (∀ x, x ∈ O ↔ MeetsAt b (bs.take k) x) ∧ O.length ≤ k ∧ Hid (OutAt wr SO O) ∧ Hid (Blk wr (H + 1) [.int .i64 b.lo.x, .int .i64 b.lo.y, .int .i64 b.hi.x, .int .i64 b.hi.y]) ∧ Below w.heap.size w wr) (fun i _ => N - (intOf i).toNat)
    case atStart => exact ⟨0, [], by omega, rfl, Lib.hid (by simp [MeetsAt]), by simp, Lib.hid HO0, Lib.hid kb, hb0⟩
    case round =>
      obtain ⟨k, O, hk, rfl, HM, hOl, HOA, KB, hbl⟩ := hrel
      by_cases h1 : k < N
      · have h1' : (k : Int) < (N : Int) := by omega
        have hkl : k < bs.length := by rw [HN.out]; exact h1
        obtain ⟨b', off', rfl, hbb, c0, c1, c2, c3⟩ := (HR.out.keep hbl).bx k hkl; have HBS := Lib.hid (fun W => HMT.out bs[k] (HOK.out _ (List.getElem_mem hkl)) W); have HTK : Hid (bs.take (k + 1) = bs.take k ++ [bs[k]]) := Lib.hid (List.take_succ_eq_append_getElem hkl); have HTL : Hid ((bs.take k).length = k) := Lib.hid (by rw [List.length_take]; omega); generalize bs[k] = x at *; obtain ⟨⟨lx, ly⟩, ⟨hx, hy⟩⟩ := x; dsimp only at c0 c1 c2 c3 HBS; have hblA := Below.new wr (.cells #[.int .i64 lx, .int .i64 ly, .int .i64 hx, .int .i64 hy] 104); have HOA2 := Lib.hid (HOA.out.keep hblA); have kb := KB.out.keep hblA; have kx := Blk.new wr [.int .i64 lx, .int .i64 ly, .int .i64 hx, .int .i64 hy] 104; have hbl2 := hbl.trans (hblA.mono hbl.size); have hO := HOA.out; obtain ⟨oa, oc, kO, hown⟩ := hO; have hOlt := kO.lt; have hne1 : b' ≠ wr.heap.size := by omega
        have hne2 : ¬ H + 1 = wr.heap.size := by omega
        clear hblA HOA KB kO hown; obtain ⟨S, hS⟩ : ∃ s, wr.heap.size = s := ⟨_, rfl⟩; rw [hS] at kx; have q0 := kb.cell 0 rfl; have q1 := kb.cell 1 rfl; have q2 := kb.cell 2 rfl; have q3 := kb.cell 3 rfl; have p0 := kx.cell 0 rfl; have p1 := kx.cell 1 rfl; have p2 := kx.cell 2 rfl; have p3 := kx.cell 3 rfl
        go_wp2_with fail
        generalize wr.alloc (.cells #[.int .i64 lx, .int .i64 ly, .int .i64 hx, .int .i64 hy] 104) = wa at *; refine (HBS.out wa).mono ?_; rintro e wb ⟨rfl, hbb2⟩; have HOA3 := Lib.hid (HOA2.out.keep hbb2); replace kb := kb.keep hbb2; have hbl3 := hbl2.trans (hbb2.mono hbl2.size); clear q0 q1 q2 q3 p0 p1 p2 p3 HOA2 hbl2 c0 c1 c2 c3 kx hbb2; obtain ⟨MB, hMB⟩ : ∃ m, meetF b ⟨⟨lx, ly⟩, ⟨hx, hy⟩⟩ = m := ⟨_, rfl⟩; have HMB := Lib.hid hMB; rw [hMB]; clear hMB
        cases MB with
        | false =>
          go_wp2; have HM2 : Hid (∀ x, x ∈ O ↔ MeetsAt b (bs.take (k + 1)) x) := Lib.hid (fun x => by
            rw [HM.out, HTK.out]; exact (meets_snoc_no _ _ _ HMB.out x).symm)
          exact ⟨⟨k + 1, O, by omega, by go_num, HM2, by omega, HOA3, Lib.hid kb, hbl3⟩, by simp [intOf]; omega⟩
        | true =>
          obtain ⟨oa, oc, kO, hown⟩ := HOA3.out; have hsb : SO + 1 ≤ wb.heap.size := kO.lt; have q0 := kO.cell 0 rfl
          go_wp2_with (first | (at_builtin; (refine wpList_appLitG (SO + 1) (by omega) rfl _ _ 43 rfl 3 _ 1 8 Try.underlying43 Try.infoIz rfl (by decide) (by decide) (.slice oa O.length oc) _ _ rfl hown 1 1 _ rfl [.int .i64 (k : Int)] 3 rfl rfl (ins_one [(k : Int)]) (by omega) ?_; intro v' w4 hown4 hg4 hat4; obtain ⟨ya, yc, hve, -, -, -, -, -⟩ := hown4.form; subst hve; obtain ⟨kO4, hOA4⟩ := OutAt.stored kO hown hg4 hown4; have f0 := kO4.free 0; have f1 := kO4.cell 0 rfl)) | fail)
          have hkb4 := (kb.grown hg4 (fun e => by have := (hown.lt _ e.symm).1; omega)).set_at (b' := SO) (o := 0) (by omega) (.slice ya (O.length + 1) yc); have hbl4 : Below w.heap.size w (w4.setCell ⟨SO, 0, none⟩ (.slice ya (O.length + 1) yc)) := (hbl3.grown hg4 hbl3.size (fun j hj => by have := (hown.lt j hj).1; omega)).setCell (p := ⟨SO, 0, none⟩) (by show w.heap.size ≤ SO; omega) _; have HM2 : Hid (∀ x, x ∈ O ++ [(k : Int)] ↔ MeetsAt b (bs.take (k + 1)) x) := Lib.hid (fun x => by
            rw [HTK.out, meets_snoc, HTL.out, List.mem_append, HM.out, List.mem_singleton]; constructor
            · rintro (h | h)
              · exact .inl h
              · exact .inr ⟨h, HMB.out⟩
            · rintro (h | h)
              · exact .inl h
              · exact .inr h.1)
          clear q0 kO hown hown4 hg4 hat4 HOA3 f0 f1 kO4 HM HTK; go_wp2; exact ⟨⟨k + 1, O ++ [(k : Int)], by omega, by go_num, HM2, by simp; omega, Lib.hid hOA4, Lib.hid hkb4, hbl4⟩, by simp [intOf]; omega⟩
      · have h1' : ¬ (k : Int) < (N : Int) := by omega
        obtain rfl : k = N := by omega
        rw [List.take_of_length_le (by rw [HN.out]; exact Nat.le_refl _)] at HM; obtain ⟨oa, oc, kO, hown⟩ := HOA.out; have q0 := kO.cell 0 rfl; go_wp2; refine ⟨.slice oa O.length oc, by simp [results, Try.results87, go_sem], ⟨_, rfl, O, HM.out, by rw [HN.out]; exact hOl, hown.mono (by omega)⟩, by rw [← hH]; exact hbl⟩
  | false =>
    obtain ⟨ga, gc, hge, -, -, -, hgrd, -⟩ := HI.out.great.form; have HGR := Lib.hid hgrd; have HGL := Lib.hid (greatsF_len bs); have HGN := Lib.hid (greatsF_nodup bs); obtain ⟨GS, hGS⟩ : ∃ g, greatsF bs = g := ⟨_, rfl⟩; have HGS := Lib.hid hGS; rw [hGS] at hge HGR HGL HGN; rw [HN.out] at HGL; obtain ⟨GL, hGL⟩ : ∃ n, GS.length = n := ⟨_, rfl⟩; have HGE := Lib.hid hGL; rw [hGL] at hge HGL; have HGL2 := HGL.out; subst hge; clear hGS hGL hgrd; have q6 := kX.cell 2 rfl; go_wp2
    go_loopw [47] (fun i wr => ∃ (k : Nat) (O : List Int), k ≤ GL ∧ i = .int .i64 k ∧ Hid (FG b bs k O) ∧ O.length ≤ k ∧ Hid (OutAt wr SO O) ∧ Hid (Blk wr H [.pointer (some ⟨B + 1, 0, none⟩)]) ∧ Hid (Blk wr (H + 1) [.int .i64 b.lo.x, .int .i64 b.lo.y, .int .i64 b.hi.x, .int .i64 b.hi.y]) ∧ Below w.heap.size w wr) (fun i _ => GL - (intOf i).toNat)
    case atStart => exact ⟨0, [], by omega, rfl, Lib.hid (FG.zero b bs), by simp, Lib.hid HO0, Lib.hid kT, Lib.hid kb, hb0⟩
    case round =>
      obtain ⟨k, O, hk, rfl, HM, hOl, HOA, KT, KB, hbl⟩ := hrel; clear q4 q6 kT kb
      by_cases h1 : k < GL
      · have h1' : (k : Int) < (GL : Int) := by omega
        have hkl : k < GS.length := by rw [HGE.out]; exact h1
        obtain ⟨j, hj, hjl, hjg⟩ := (mem_greatsF bs GS[k]).1 (by rw [HGS.out]; exact List.getElem_mem hkl); obtain ⟨gb, go, rfl, cG, hgb⟩ := Rd.at (HGR.out.keep hbl) (i := k) (v := .int .i64 GS[k]) (by simp [ins, List.getElem?_eq_getElem hkl]); have HGJ : Hid (GS[k]? = some (j : Int)) := Lib.hid (by rw [List.getElem?_eq_getElem hkl, hj]); rw [hj] at cG; have hjN : j < N := by rw [← HN.out]; exact hjl
        have hjN' : (j : Int) < (N : Int) := by omega
        have HBS := Lib.hid (fun W => HMT.out bs[j] (HOK.out _ (List.getElem_mem hjl)) W); have HMA := Lib.hid (meets_at b bs j hjl); obtain ⟨b', off', rfl, hbb, c0, c1, c2, c3⟩ := (HR.out.keep hbl).bx j hjl; have kX1 := HKP.out.keep hbl; have kT1 := KT.out; have kb := KB.out; clear hj hjg hkl; generalize bs[j] = x at *; obtain ⟨⟨lx, ly⟩, ⟨hx, hy⟩⟩ := x; dsimp only at c0 c1 c2 c3 HBS; go_wp2; refine wp_region_stage 9 [0, 1, 2, 3, 4, 5, 6, 7] [] [0, 1, 2, 3, 4, 5, 6, 7] (fun W => True) (fun W => ((Blk W H [.pointer (some ⟨B + 1, 0, none⟩)] ∧ Blk W (H + 1) [.int .i64 b.lo.x, .int .i64 b.lo.y, .int .i64 b.hi.x, .int .i64 b.hi.y]) ∧ Blk W (B + 1) [.slice (some ⟨b', off', none⟩) N xc, .map (some B), .slice (some ⟨gb, go, none⟩) GL gc]) ∧ W.cell? ⟨b', off' + j * 4, none⟩ = some (.int .i64 lx) ∧ W.cell? ⟨b', off' + j * 4 + 1, none⟩ = some (.int .i64 ly) ∧ W.cell? ⟨b', off' + j * 4 + 2, none⟩ = some (.int .i64 hx) ∧ W.cell? ⟨b', off' + j * 4 + 3, none⟩ = some (.int .i64 hy)) rfl (by kernel_rfl) (by kernel_rfl) ?_; replace kT1 := kT1.drew; replace kb := kb.drew; replace kX1 := kX1.drew; have hbl2 := hbl.drew; have HOA2 : Hid (OutAt wr.drew SO O) := Lib.hid (HOA.out.keep (Below.refl _ _).drew); have d0 : wr.drew.cell? ⟨b', off' + j * 4, none⟩ = some (.int .i64 lx) := c0; have d1 : wr.drew.cell? ⟨b', off' + j * 4 + 1, none⟩ = some (.int .i64 ly) := c1; have d2 : wr.drew.cell? ⟨b', off' + j * 4 + 2, none⟩ = some (.int .i64 hx) := c2; have d3 : wr.drew.cell? ⟨b', off' + j * 4 + 3, none⟩ = some (.int .i64 hy) := c3
        clear c0 c1 c2 c3 hbl HOA cG; generalize wr.drew = wa at *; have hI := And.intro (And.intro (And.intro kT1 kb) kX1) (And.intro d0 (And.intro d1 (And.intro d2 d3))); refine stg_free 0 _ (.agg #[.int .i64 b.lo.x, .int .i64 b.lo.y, .int .i64 b.hi.x, .int .i64 b.hi.y]) (by kernel_rfl) (by kernel_rfl) (by kernel_rfl) rfl rfl ?_ hI ?_
        · intro w' h; have e0 := h.1.1.2.cell 0 rfl; have e1 := h.1.1.2.cell 1 rfl; have e2 := h.1.1.2.cell 2 rfl; have e3 := h.1.1.2.cell 3 rfl; clear h; go_simp
        try simp only [Act.put, List.getElem_toArray, List.getElem_cons_succ, List.getElem_cons_zero, List.setIfInBounds_toArray, List.set_cons_zero, List.set_cons_succ]
        refine stg_free 1 _ (.pointer (some ⟨B + 1, 0, none⟩)) (by kernel_rfl) (by kernel_rfl) (by kernel_rfl) rfl rfl ?_ hI ?_
        · intro w' h; have e0 := h.1.1.1.cell 0 rfl; clear h; go_simp
        try simp only [Act.put, List.getElem_toArray, List.getElem_cons_succ, List.getElem_cons_zero, List.setIfInBounds_toArray, List.set_cons_zero, List.set_cons_succ]
        (refine stg_free 2 _ ?_ (by kernel_rfl) (by kernel_rfl) (by kernel_rfl) rfl rfl ?_ hI ?_; rotate_left; · (intro w' _; go_simp; with_reducible rfl)); try simp only [Act.put, List.getElem_toArray, List.getElem_cons_succ, List.getElem_cons_zero, List.setIfInBounds_toArray, List.set_cons_zero, List.set_cons_succ]
        (refine stg_free 3 _ ?_ (by kernel_rfl) (by kernel_rfl) (by kernel_rfl) rfl rfl ?_ hI ?_; rotate_left; · (intro w' _; go_simp; with_reducible rfl)); try simp only [Act.put, List.getElem_toArray, List.getElem_cons_succ, List.getElem_cons_zero, List.setIfInBounds_toArray, List.set_cons_zero, List.set_cons_succ]
        refine stg_free 4 _ (.slice (some ⟨b', off', none⟩) N xc) (by kernel_rfl) (by kernel_rfl) (by kernel_rfl) rfl rfl ?_ hI ?_
        · intro w' h; have e0 := h.1.2.cell 0 rfl; clear h; go_simp
        try simp only [Act.put, List.getElem_toArray, List.getElem_cons_succ, List.getElem_cons_zero, List.setIfInBounds_toArray, List.set_cons_zero, List.set_cons_succ]
        (refine stg_free 5 _ ?_ (by kernel_rfl) (by kernel_rfl) (by kernel_rfl) rfl rfl ?_ hI ?_; rotate_left; · (intro w' _; go_simp; with_reducible rfl)); try simp only [Act.put, List.getElem_toArray, List.getElem_cons_succ, List.getElem_cons_zero, List.setIfInBounds_toArray, List.set_cons_zero, List.set_cons_succ]
        (refine stg_free 6 _ ?_ (by kernel_rfl) (by kernel_rfl) (by kernel_rfl) rfl rfl ?_ hI ?_; rotate_left; · (intro w' _; go_simp; with_reducible rfl)); try simp only [Act.put, List.getElem_toArray, List.getElem_cons_succ, List.getElem_cons_zero, List.setIfInBounds_toArray, List.set_cons_zero, List.set_cons_succ]
        refine stg_free 7 _ (.agg #[.int .i64 lx, .int .i64 ly, .int .i64 hx, .int .i64 hy]) (by kernel_rfl) (by kernel_rfl) (by kernel_rfl) rfl rfl ?_ hI ?_
        · intro w' h; have e0 := h.2.1; have e1 := h.2.2.1; have e2 := h.2.2.2.1; have e3 := h.2.2.2.2; clear h; go_simp
        try simp only [Act.put, List.getElem_toArray, List.getElem_cons_succ, List.getElem_cons_zero, List.setIfInBounds_toArray, List.set_cons_zero, List.set_cons_succ]
        clear hI; refine stg_oneS 8 _ (by kernel_rfl) (by kernel_rfl) (by kernel_rfl) rfl rfl (fun K hK => ?_); go_step; refine (HBS.out wa).mono ?_; rintro e wb ⟨rfl, hbb2⟩; have hdd : ∀ p v, wa.cell? p = some v → p.block < wa.heap.size := fun p v hh => World.block_lt_of_cell? wa _ hh; refine hK.out _ _ trivial ⟨⟨⟨kT1.keep hbb2, kb.keep hbb2⟩, kX1.keep hbb2⟩, (hbb2.cell (hdd _ _ d0)).trans d0, (hbb2.cell (hdd _ _ d1)).trans d1, (hbb2.cell (hdd _ _ d2)).trans d2, (hbb2.cell (hdd _ _ d3)).trans d3⟩ ?_; refine stg_end (by kernel_rfl) ?_
        try simp only [Act.put, List.getElem_toArray, List.getElem_cons_succ, List.getElem_cons_zero, List.setIfInBounds_toArray, List.set_cons_zero, List.set_cons_succ]
        replace kT1 := kT1.keep hbb2; replace kb := kb.keep hbb2; replace HOA2 := Lib.hid (HOA2.out.keep hbb2); replace hbl2 := hbl2.trans (hbb2.mono hbl2.size); clear hK K d0 d1 d2 d3 hdd hbb2 kX1; obtain ⟨MB, hMB⟩ : ∃ m, meetF b ⟨⟨lx, ly⟩, ⟨hx, hy⟩⟩ = m := ⟨_, rfl⟩; have HMB := Lib.hid hMB; rw [hMB]; clear hMB
        cases MB with
        | false =>
          go_wp2; have HM2 : Hid (FG b bs (k + 1) O) := Lib.hid (HM.out.no' (x := (j : Int)) (by rw [HGS.out]; exact HGJ.out) (fun hh => by
            have := HMA.out.1 hh; rw [HMB.out] at this; cases this))
          exact ⟨⟨k + 1, O, by omega, by go_num, HM2, by omega, HOA2, Lib.hid kT1, Lib.hid kb, hbl2⟩, by simp [intOf]; omega⟩
        | true =>
          obtain ⟨oa, oc, kO, hown⟩ := HOA2.out; have hsb : SO + 1 ≤ wb.heap.size := kO.lt; have q0 := kO.cell 0 rfl; have hGL3 := HGL2
          go_wp2_with (first | (at_builtin; (refine wpList_appLitG (SO + 1) (by omega) rfl _ _ 43 rfl 3 _ 1 8 Try.underlying43 Try.infoIz rfl (by decide) (by decide) (.slice oa O.length oc) _ _ rfl hown 1 1 _ rfl [.int .i64 (j : Int)] 3 rfl rfl (ins_one [(j : Int)]) (by omega) ?_; intro v' w4 hown4 hg4 hat4; obtain ⟨ya, yc, hve, -, -, -, -, -⟩ := hown4.form; subst hve; obtain ⟨kO4, hOA4⟩ := OutAt.stored kO hown hg4 hown4; have f0 := kO4.free 0; have f1 := kO4.cell 0 rfl)) | fail)
          have hkT4 := (kT1.grown hg4 (fun e => by have := (hown.lt _ e.symm).1; omega)).set_at (b' := SO) (o := 0) (by omega) (.slice ya (O.length + 1) yc); have hkb4 := (kb.grown hg4 (fun e => by have := (hown.lt _ e.symm).1; omega)).set_at (b' := SO) (o := 0) (by omega) (.slice ya (O.length + 1) yc); have hbl4 : Below w.heap.size w (w4.setCell ⟨SO, 0, none⟩ (.slice ya (O.length + 1) yc)) := (hbl2.grown hg4 hbl2.size (fun j hj => by have := (hown.lt j hj).1; omega)).setCell (p := ⟨SO, 0, none⟩) (by show w.heap.size ≤ SO; omega) _; have HM2 : Hid (FG b bs (k + 1) (O ++ [(j : Int)])) := Lib.hid (HM.out.yes' (x := (j : Int)) (by rw [HGS.out]; exact HGJ.out) (HMA.out.2 HMB.out)); clear q0 kO hown hown4 hg4 hat4 HOA2 f0 f1 kO4 HM; go_wp2; exact ⟨⟨k + 1, O ++ [(j : Int)], by omega, by go_num, HM2, by simp; omega, Lib.hid hOA4, Lib.hid hkT4, Lib.hid hkb4, hbl4⟩, by simp [intOf]; omega⟩
      · have h1' : ¬ (k : Int) < (GL : Int) := by omega
        obtain rfl : k = GL := by omega
        have hmm := @run_makeMap Try.prog; have HFI : Hid (FI b bs (fun _ => False) O []) := Lib.hid (FI.start (by rw [HGS.out, HGE.out]; exact HM.out)); obtain ⟨S, hS⟩ : ∃ s, wr.heap.size = s := ⟨_, rfl⟩; have hSS : SO < S := by obtain ⟨oa, oc, kO, -⟩ := HOA.out; rw [← hS]; exact kO.lt
        have hblA : Below wr.heap.size wr ((wr.alloc (.map #[] 0)).alloc (.cells #[.map (some S)] 172)) := (Below.new _ _).alloc (by simp) _; have HVS : Hid (VSet Try.prog 3 In1.val (wr.alloc (.map #[] 0)) S ([] : List Int)) := Lib.hid (VSet.made _ _ _ wr S hS); have kM := TBlk.lit (wr.alloc (.map #[] 0)) (S + 1) [.map (some S)] 172 (by simp [hS]); replace HVS := Lib.hid (HVS.out.keep (Below.new (wr.alloc (.map #[] 0)) (.cells #[.map (some S)] 172))); have kT1 := KT.out.keep hblA; have kb := KB.out.keep hblA; have HOA1 := Lib.hid (HOA.out.keep hblA); have hbl1 := hbl.trans (hblA.mono hbl.size); have hsz1 : ((wr.alloc (.map #[] 0)).alloc (.cells #[.map (some S)] 172)).heap.size = S + 2 := by simp [hS]
        clear hblA KT KB HOA hbl; have q0 := kb.cell 0 rfl; have q1 := kb.cell 1 rfl; have q2 := kb.cell 2 rfl; have q3 := kb.cell 3 rfl
        go_wp2_with fail
        obtain ⟨W0, hW0⟩ : ∃ W0, (wr.alloc (.map #[] 0)).alloc (.cells #[.map (some S)] 172) = W0 := ⟨_, rfl⟩; rw [hW0] at HVS kM kT1 kb HOA1 hbl1 hsz1 ⊢; clear hW0 hS; have hblA := Below.new W0 (.cells #[.int .i64 b.lo.x, .int .i64 b.lo.y, .int .i64 b.hi.x, .int .i64 b.hi.y] 104); have hBox : (W0.alloc (.cells #[.int .i64 b.lo.x, .int .i64 b.lo.y, .int .i64 b.hi.x, .int .i64 b.hi.y] 104)).heap[S + 2]? = some (.cells #[.int .i64 b.lo.x, .int .i64 b.lo.y, .int .i64 b.hi.x, .int .i64 b.hi.y] 104 (0, 0)) := by rw [← hsz1]; exact heap_alloc_new W0 _
        replace kT1 := kT1.keep hblA; replace kb := kb.keep hblA; replace kM := kM.keep hblA; replace hbl1 := hbl1.trans (hblA.mono hbl1.size); replace HVS := Lib.hid (HVS.out.keep hblA); replace HOA1 := Lib.hid (HOA1.out.keep hblA); have hszA : (W0.alloc (.cells #[.int .i64 b.lo.x, .int .i64 b.lo.y, .int .i64 b.hi.x, .int .i64 b.hi.y] 104)).heap.size = S + 3 := by simp [hsz1]
        refine (callsIn_wide.1 (fields_in 5 b W0)).mono ?_; rintro e WA ⟨rfl, hWA⟩; rw [← hWA] at hBox kT1 kb kM hbl1 HVS HOA1 hszA; rw [hsz1]; clear hWA hsz1 hblA q0 q1 q2 q3; go_wp2; have hFJ0 : FindJ H B S SO w b bs (fun i => ∃ f ∈ ([] : List (Int × Int)), i ∈ fieldG bs f) WA := ⟨O, [], HFI.out.congr (by simp), HOA1.out, HVS.out, kM, kT1, kb, by rw [← hH]; exact hbl1, by omega⟩; clear HVS HOA1 kM kT1 kb hbl1 HM; refine (wpIn_wide (n := 5)).1 ?_; refine wpIn_rangeFunc_aheadM rfl (by decide) (gf := 106) (lb := #[.pointer (some ⟨S + 2, 0, none⟩)]) rfl trivial (enters_of Try.func106 (by kernel_rfl) rfl)
          (fields_ahead (5 - 1) (S + 2) b hb WA (0, 0) hBox) (fun h k => k.trans h)
          (fun W l o o' hl h1 h2 => World.putObj_heap_other (by omega)) (Below.refl _ _) (fun _ => rfl)
          (fun (pre : List (Int × Int)) W => FindJ H B S SO w b bs (fun i => ∃ f ∈ pre, i ∈ fieldG bs f) W ∧ W.heap[S + 2]? = some (.cells #[.int .i64 b.lo.x, .int .i64 b.lo.y, .int .i64 b.hi.x, .int .i64 b.hi.y] 104 (0, 0)))
          (OwnFrom.and (by rw [hszA]; exact (FindJ.own H B S SO w b bs (fun pre i => ∃ f ∈ pre, i ∈ fieldG bs f) (by omega) (by omega))) (fun pre X Y row hX hg hr => (hg.block (S + 2) ((Array.getElem?_eq_some_iff.1 hX).1) (fun e => by have := (hr (S + 2) e.symm).1; omega)).trans hX))
          (ownFrom_pure _ _)
          ⟨hFJ0, hBox⟩
          (fun (pre : List (Int × Int)) (x : Int × Int) a' W => (FindJ H B S SO w b bs (fun i => ∃ f ∈ pre, i ∈ fieldG bs f) W ∧ W.heap[S + 2]? = some (.cells #[.int .i64 b.lo.x, .int .i64 b.lo.y, .int .i64 b.hi.x, .int .i64 b.hi.y] 104 (0, 0))) ∧ pre ++ [x] <+: fieldsL b ∧
            ∃ Bv, S + 3 ≤ Bv ∧ W.heap[Bv]? = some (.cells #[.int .i64 x.1, .int .i64 x.2] 110 (0, 0)) ∧ a' = { tmps := List.toArray ((.pointer (some ⟨B + 1, 0, none⟩)) :: (.agg #[.int .i64 b.lo.x, .int .i64 b.lo.y, .int .i64 b.hi.x, .int .i64 b.hi.y]) :: (.pointer (some ⟨H, 0, none⟩)) :: (.pointer (some ⟨H + 1, 0, none⟩)) :: (.slice none 0 0) :: (.pointer (some ⟨SO, 0, none⟩)) :: undef :: undef :: undef :: u9 :: (.pointer (some ⟨S + 1, 0, none⟩)) :: (.pointer (some ⟨Bv, 0, none⟩)) :: undef :: undef :: (.pointer (some ⟨B + 1, 0, none⟩)) :: (.bool false) :: (.bool false) :: (.agg #[.int .i64 b.lo.x, .int .i64 b.lo.y, .int .i64 b.hi.x, .int .i64 b.hi.y]) :: (.bool true) :: (.bool false) :: (.bool false) :: (.agg #[.int .i64 b.lo.x, .int .i64 b.lo.y, .int .i64 b.hi.x, .int .i64 b.hi.y]) :: (.bool false) :: undef :: undef :: undef :: undef :: undef :: undef :: undef :: undef :: undef :: undef :: undef :: undef :: undef :: undef :: undef :: undef :: undef :: undef :: undef :: (.pointer (some ⟨B + 1, 0, none⟩)) :: (.pointer (some ⟨B + 1, 0, none⟩)) :: (.pointer (some ⟨B + 1, 2, none⟩)) :: (.slice ga k gc) :: (.int .i64 (k : Int)) :: (.int .i64 (k : Int)) :: (.bool false) :: u49 :: u50 :: u51 :: u52 :: u53 :: u54 :: u55 :: u56 :: u57 :: u58 :: u59 :: u60 :: u61 :: u62 :: u63 :: u64 :: (.map (some S)) :: (.agg #[.int .i64 b.lo.x, .int .i64 b.lo.y, .int .i64 b.hi.x, .int .i64 b.hi.y]) :: (.func (.func 106) #[] #[.pointer (some ⟨S + 2, 0, none⟩)]) :: (In2.val x) :: undef :: undef :: undef :: undef :: undef :: undef :: undef :: undef :: undef :: undef :: undef :: undef :: undef :: undef :: undef :: undef :: undef :: undef :: undef :: undef :: undef :: undef :: undef :: undef :: undef :: undef :: undef :: undef :: undef :: undef :: undef :: undef :: undef :: undef :: undef :: []), defers := [] })
          ?hM ?assign ?body ?done
        case hM =>
          rintro pre x a' _ X Y row ⟨⟨hA, hSb⟩, hpx, Bv, hv, bV, rfl⟩ hg hr; refine ⟨⟨(FindJ.own H B S SO w b bs (fun pre i => ∃ f ∈ pre, i ∈ fieldG bs f) (by omega) (by omega)) pre X Y row hA hg (fun r e => ⟨by have := (hr r e).1; omega, (hr r e).2⟩), (hg.block (S + 2) ((Array.getElem?_eq_some_iff.1 hSb).1) (fun e => by have := (hr (S + 2) e.symm).1; omega)).trans hSb⟩, hpx, Bv, hv, (hg.block Bv ((Array.getElem?_eq_some_iff.1 bV).1) (fun e => by
            obtain ⟨o, ho, hc⟩ := (hr Bv e.symm).2; rw [bV] at ho; cases ho; cases hc)).trans bV, rfl⟩
        case assign =>
          rintro l' pre ⟨i1, i2⟩ W ⟨hA, hSb⟩ hpx; have HA := Lib.hid hA; have hsW : S + 3 ≤ W.heap.size := by obtain ⟨_, _, _, _, _, _, _, _, _, h⟩ := hA; exact h
          clear hA; dsimp only [In2.val]
          gi_wp2
          refine ⟨KeepsHi.of_others (KeepsOthers.alloc _ _), (Below.heap_alloc W _ (S + 2) (by omega)), ⟨⟨(FindJ.own H B S SO w b bs (fun pre i => ∃ f ∈ pre, i ∈ fieldG bs f) (by omega) (by omega)).alloc _ HA.out, (Below.heap_alloc W _ (S + 2) (by omega)).trans hSb⟩, hpx, W.heap.size, hsW, heap_alloc_new W _, rfl⟩⟩
        case body =>
          rintro l' pre ⟨i1, i2⟩ a' W ⟨⟨hA, hSb⟩, hpx, Bv, hBv, hbv, rfl⟩; dsimp only at hbv; obtain ⟨O1, M1, HF1, HOA1, HVS1, kM1, kT1, kb1, hbl1, hsz1⟩ := hA; have hwf : (Lit.int .i64 i1).wf = true ∧ (Lit.int .i64 i2).wf = true := by
            have hm := (mem_fieldsL _ hb (i1, i2)).1 (hpx.mem (by simp)); obtain ⟨g1, g2, -, -⟩ := hb; rw [okPt_iff] at g1 g2; dsimp only at hm g1 g2; exact ⟨WalkArith.wf_i64 (by omega), WalkArith.wf_i64 (by omega)⟩
          have HKY := Lib.hid (k13.in2Key (i1, i2) hwf.1 hwf.2); have hrow := HI.out.rows.look (i1, i2); obtain ⟨V0, hV0⟩ : ∃ v, (f (i1, i2)).getD (.slice none 0 0) = v := ⟨_, rfl⟩; rw [hV0, iCells] at hrow; obtain ⟨ra, rc, hve, -, -, -, hrd, -⟩ := hrow.form; have HRD := Lib.hid hrd; have HRL := Lib.hid (fieldG_len bs (i1, i2)); obtain ⟨RL, hRL⟩ : ∃ n, (fieldG bs (i1, i2)).length = n := ⟨_, rfl⟩; have HRE := Lib.hid hRL; rw [hRL] at hve HRL; rw [HN.out] at HRL; subst hve; have HVW := Lib.hid (HV.out.keep (hbl1.mono (by omega))); have kX1 := HKP.out.keep (hbl1.mono (by omega)); clear hrow hrd hRL hwf; have hRL2 := HRL.out
          gi_wp2
          refine wpIn_scope_straight ?_; refine wpIn_seq_k (fun K hK => wpIn_label (hK _ _ ?_)); clear hK K
          gi_wp2
          refine wpIn_region_stage 8 [0, 1, 2, 3, 4, 5, 6, 7] [] [0, 1, 2, 3, 4, 5, 6, 7] (fun W => True) (fun W => (Blk W H [.pointer (some ⟨B + 1, 0, none⟩)] ∧ Blk W (B + 1) [.slice xa N xc, .map (some B), .slice ga k gc]) ∧ VMap Try.prog 110 In2.val W B f m n ∧ W.heap[Bv]? = some (.cells #[.int .i64 i1, .int .i64 i2] 110 (0, 0))) rfl (by kernel_rfl) (by kernel_rfl) (by kernel_rfl) ?_; have kT2 := kT1.drew; replace kX1 := kX1.drew; have hVd : VMap Try.prog 110 In2.val W.drew B f m n := HVW.out; have hbvd : W.drew.heap[Bv]? = some (.cells #[.int .i64 i1, .int .i64 i2] 110 (0, 0)) := hbv; have hI := And.intro (And.intro kT2 kX1) (And.intro hVd hbvd); refine stg_free 0 _ (.pointer (some ⟨B + 1, 0, none⟩)) (by kernel_rfl) (by kernel_rfl) (by kernel_rfl) rfl rfl ?_ hI ?_
          · intro w' h; have e0 := h.1.1.cell 0 rfl; clear h; go_simp
          try simp only [Act.put, List.getElem_toArray, List.getElem_cons_succ, List.getElem_cons_zero, List.setIfInBounds_toArray, List.set_cons_zero, List.set_cons_succ]
          (refine stg_free 1 _ ?_ (by kernel_rfl) (by kernel_rfl) (by kernel_rfl) rfl rfl ?_ hI ?_; rotate_left; · (intro w' _; go_simp; with_reducible rfl)); try simp only [Act.put, List.getElem_toArray, List.getElem_cons_succ, List.getElem_cons_zero, List.setIfInBounds_toArray, List.set_cons_zero, List.set_cons_succ]
          (refine stg_free 2 _ ?_ (by kernel_rfl) (by kernel_rfl) (by kernel_rfl) rfl rfl ?_ hI ?_; rotate_left; · (intro w' _; go_simp; with_reducible rfl)); try simp only [Act.put, List.getElem_toArray, List.getElem_cons_succ, List.getElem_cons_zero, List.setIfInBounds_toArray, List.set_cons_zero, List.set_cons_succ]
          refine stg_free 3 _ (.map (some B)) (by kernel_rfl) (by kernel_rfl) (by kernel_rfl) rfl rfl ?_ hI ?_
          · intro w' h; have e0 := h.1.2.cell 1 rfl; clear h; go_simp
          try simp only [Act.put, List.getElem_toArray, List.getElem_cons_succ, List.getElem_cons_zero, List.setIfInBounds_toArray, List.set_cons_zero, List.set_cons_succ]
          refine stg_free 4 _ (In2.val (i1, i2)) (by kernel_rfl) (by kernel_rfl) (by kernel_rfl) rfl rfl ?_ hI ?_
          · intro w' h; have e0 : w'.cell? ⟨Bv, 0, none⟩ = some (.int .i64 i1) := by simp [World.cell?, h.2.2]
            have e1 : w'.cell? ⟨Bv, 1, none⟩ = some (.int .i64 i2) := by simp [World.cell?, h.2.2]
            clear h; go_simp
            try rfl
          try simp only [Act.put, List.getElem_toArray, List.getElem_cons_succ, List.getElem_cons_zero, List.setIfInBounds_toArray, List.set_cons_zero, List.set_cons_succ]
          refine stg_free 5 _ (.slice ra RL rc) (by kernel_rfl) (by kernel_rfl) (by kernel_rfl) rfl rfl ?_ hI ?_
          · intro w' h; have e0 := h.2.1.look k13.in2 Try.underlying145 (Try.zeroIs w') HKY.out; have e1 : (Instr.lookup 145 (.map (some B)) (In2.val (i1, i2)) false).run Try.prog w' = .ok (.slice ra RL rc) w' := by rw [e0, hV0]
            clear h; go_simp
          try simp only [Act.put, List.getElem_toArray, List.getElem_cons_succ, List.getElem_cons_zero, List.setIfInBounds_toArray, List.set_cons_zero, List.set_cons_succ]
          (refine stg_free 6 _ ?_ (by kernel_rfl) (by kernel_rfl) (by kernel_rfl) rfl rfl ?_ hI ?_; rotate_left; · (intro w' _; go_simp; with_reducible rfl)); try simp only [Act.put, List.getElem_toArray, List.getElem_cons_succ, List.getElem_cons_zero, List.setIfInBounds_toArray, List.set_cons_zero, List.set_cons_succ]
          (refine stg_free 7 _ ?_ (by kernel_rfl) (by kernel_rfl) (by kernel_rfl) rfl rfl ?_ hI ?_; rotate_left; · (intro w' _; go_simp; with_reducible rfl)); try simp only [Act.put, List.getElem_toArray, List.getElem_cons_succ, List.getElem_cons_zero, List.setIfInBounds_toArray, List.set_cons_zero, List.set_cons_succ]
          refine stg_end (by kernel_rfl) ?_
          try simp only [Act.put, List.getElem_toArray, List.getElem_cons_succ, List.getElem_cons_zero, List.setIfInBounds_toArray, List.set_cons_zero, List.set_cons_succ]
          clear hI; have hbd : Below W.heap.size W W.drew := (Below.refl _ _).drew; have HFJ : Hid (FindJ H B S SO w b bs (fun x => (∃ f ∈ pre, x ∈ fieldG bs f) ∨ x ∈ (fieldG bs (i1, i2)).take 0) W.drew) := Lib.hid ⟨O1, M1, HF1.congr (fun x hx => hx.elim id (fun h => by simp at h)), HOA1.keep hbd, HVS1.keep hbd, kM1.keep hbd, kT1.keep hbd, kb1.keep hbd, hbl1.drew, hsz1⟩; have hK0 : KeepsHi (S + 3) W W.drew := ⟨Nat.le_refl _, fun k o _ hk _ => hk⟩; have hSd : W.drew.heap[S + 2]? = W.heap[S + 2]? := rfl; clear kT2 kX1 hVd hbvd hbd HF1 HOA1 HVS1 kM1 kT1 kb1 hbl1 HVW HKY hV0; generalize W.drew = Wd at *
          gi_wp2
          gi_loopw [76] (fun i wr => ∃ j : Nat, j ≤ RL ∧ i = .int .i64 j ∧ Hid (FindJ H B S SO w b bs (fun x => (∃ f ∈ pre, x ∈ fieldG bs f) ∨ x ∈ (fieldG bs (i1, i2)).take j) wr) ∧ KeepsHi (S + 3) W wr ∧ wr.heap[S + 2]? = W.heap[S + 2]?) (fun i _ => RL - (intOf i).toNat)
          case atStart => exact ⟨0, by omega, rfl, HFJ, hK0, hSd⟩
          case round =>
            obtain ⟨j, hj, rfl, HJ, hKw, hSw⟩ := hrel; clear HFJ hK0 hSd
            by_cases h1 : j < RL
            · have h1' : (j : Int) < (RL : Int) := by omega
              have hjl : j < (fieldG bs (i1, i2)).length := by rw [HRE.out]; exact h1
              obtain ⟨O2, M2, HF2, HOA2, HVS2, kM2, kT2, kb2, hbl2, hsz2⟩ := HJ.out; obtain ⟨rb, ro, rfl, cR, hrb⟩ := Rd.at (HRD.out.keep (hbl2.mono (by omega))) (i := j) (v := .int .i64 (fieldG bs (i1, i2))[j]) (by simp [ins, List.getElem?_eq_getElem hjl]); obtain ⟨q, hq, hql, hqg, hqf⟩ := (mem_fieldG bs (i1, i2) (fieldG bs (i1, i2))[j]).1 (List.getElem_mem hjl); have HTK : Hid ((fieldG bs (i1, i2)).take (j + 1) = (fieldG bs (i1, i2)).take j ++ [(q : Int)]) := Lib.hid (by rw [← hq]; exact List.take_succ_eq_append_getElem hjl); have HSM : Hid ((q : Int) ∉ greatsF bs) := Lib.hid (by rw [← hq]; exact field_small (List.getElem_mem hjl)); rw [hq] at cR; have hqN : q < N := by rw [← HN.out]; exact hql
              have hqN' : (q : Int) < (N : Int) := by omega
              have HBS := Lib.hid (fun W => HMT.out bs[q] (HOK.out _ (List.getElem_mem hql)) W); have HMA := Lib.hid (meets_at b bs q hql); obtain ⟨b', off', rfl, hbb, c0, c1, c2, c3⟩ := (HR.out.keep (hbl2.mono (by omega))).bx q hql; have kX2 := HKP.out.keep (hbl2.mono (by omega)); have HQK := Lib.hid (k13.in1Key (q : Int) (WalkArith.wf_i64 (by omega))); clear hq hqg hqf hjl HJ; generalize bs[q] = x at *; obtain ⟨⟨lx, ly⟩, ⟨hx, hy⟩⟩ := x; dsimp only at c0 c1 c2 c3 HBS
              gi_wp2
              have hbd : Below wr.heap.size wr wr.drew := (Below.refl _ _).drew; replace HOA2 := Lib.hid (HOA2.keep hbd); have hvd : VSet Try.prog 3 In1.val wr.drew S M2 := HVS2.keep hbd; replace kM2 := kM2.keep hbd; replace kT2 := kT2.keep hbd; replace kb2 := kb2.keep hbd; replace kX2 := kX2.keep hbd; have hbl3 := hbl2.drew; have hK3 : KeepsHi (S + 3) W wr.drew := hKw.trans ⟨Nat.le_refl _, fun k o _ hk _ => hk⟩; have hS3 : wr.drew.heap[S + 2]? = W.heap[S + 2]? := hSw; have hsz3' : S + 3 ≤ wr.drew.heap.size := hsz2; have d0 : wr.drew.cell? ⟨b', off' + q * 4, none⟩ = some (.int .i64 lx) := c0; have d1 : wr.drew.cell? ⟨b', off' + q * 4 + 1, none⟩ = some (.int .i64 ly) := c1; have d2 : wr.drew.cell? ⟨b', off' + q * 4 + 2, none⟩ = some (.int .i64 hx) := c2; have d3 : wr.drew.cell? ⟨b', off' + q * 4 + 3, none⟩ = some (.int .i64 hy) := c3; have hI := And.intro (And.intro (And.intro kM2 hvd) (And.intro kT2 kb2)) (And.intro kX2 (And.intro d0 (And.intro d1 (And.intro d2 d3)))); obtain ⟨mb, hmb⟩ : ∃ m, decide ((q : Int) ∈ M2) = m := ⟨_, rfl⟩; have HMM := Lib.hid hmb; have HF3 := Lib.hid HF2; have HST : ∀ (Wz : World) (O3 M3 : List Int), FI b bs (fun x => ((∃ f ∈ pre, x ∈ fieldG bs f) ∨ x ∈ (fieldG bs (i1, i2)).take j) ∨ x = (q : Int)) O3 M3 → OutAt Wz SO O3 → VSet Try.prog 3 In1.val Wz S M3 → TBlk 172 Wz (S + 1) [.map (some S)] → Blk Wz H [.pointer (some ⟨B + 1, 0, none⟩)] → Blk Wz (H + 1) [.int .i64 b.lo.x, .int .i64 b.lo.y, .int .i64 b.hi.x, .int .i64 b.hi.y] → Below H w Wz → S + 3 ≤ Wz.heap.size → Hid (FindJ H B S SO w b bs (fun x => (∃ f ∈ pre, x ∈ fieldG bs f) ∨ x ∈ (fieldG bs (i1, i2)).take (j + 1)) Wz) := fun Wz O3 M3 z1 z2 z3 z4 z5 z6 z7 z8 => Lib.hid ⟨O3, M3, z1.congr (fun x hx => by
                rw [HTK.out, List.mem_append, List.mem_singleton] at hx
                rcases hx with h | h | h
                · exact .inl (.inl h)
                · exact .inl (.inr h)
                · exact .inr h), z2, z3, z4, z5, z6, z7, z8⟩
              have HST2 := Lib.hid HST; clear HST HF2 hmb c0 c1 c2 c3 hbl2 hSw hKw hsz2 HVS2 hbd
              cases mb with
              | true =>
                refine wpIn_region_stage 15 [0, 1, 2, 3, 4, 5, 6, 7, 8, 9, 10, 11, 12, 13, 14] [] [0, 1, 2, 3, 4, 5, 6, 7, 8, 9, 10, 11, 12, 13, 14] (fun W => True) (fun W => ((TBlk 172 W (S + 1) [.map (some S)] ∧ VSet Try.prog 3 In1.val W S M2) ∧ Blk W H [.pointer (some ⟨B + 1, 0, none⟩)] ∧ Blk W (H + 1) [.int .i64 b.lo.x, .int .i64 b.lo.y, .int .i64 b.hi.x, .int .i64 b.hi.y]) ∧ Blk W (B + 1) [.slice (some ⟨b', off', none⟩) N xc, .map (some B), .slice ga k gc] ∧ W.cell? ⟨b', off' + q * 4, none⟩ = some (.int .i64 lx) ∧ W.cell? ⟨b', off' + q * 4 + 1, none⟩ = some (.int .i64 ly) ∧ W.cell? ⟨b', off' + q * 4 + 2, none⟩ = some (.int .i64 hx) ∧ W.cell? ⟨b', off' + q * 4 + 3, none⟩ = some (.int .i64 hy)) rfl (by kernel_rfl) (by kernel_rfl) (by kernel_rfl) ?_; generalize wr.drew = wd at *; refine stg_free 0 _ (.map (some S)) (by kernel_rfl) (by kernel_rfl) (by kernel_rfl) rfl rfl ?_ hI ?_
                · intro w' h; have e0 := h.1.1.1.cell 0 rfl; clear h; go_simp
                try simp only [Act.put, List.getElem_toArray, List.getElem_cons_succ, List.getElem_cons_zero, List.setIfInBounds_toArray, List.set_cons_zero, List.set_cons_succ]
                (refine stg_free 1 _ ?_ (by kernel_rfl) (by kernel_rfl) (by kernel_rfl) rfl rfl ?_ hI ?_; rotate_left; · (intro w' _; go_simp; with_reducible rfl)); try simp only [Act.put, List.getElem_toArray, List.getElem_cons_succ, List.getElem_cons_zero, List.setIfInBounds_toArray, List.set_cons_zero, List.set_cons_succ]
                refine stg_free 2 _ (.bool true) (by kernel_rfl) (by kernel_rfl) (by kernel_rfl) rfl rfl ?_ hI ?_
                · intro w' h; have e0 : (Instr.lookup 172 (.map (some S)) (.int .i64 (q : Int)) false).run Try.prog w' = .ok (.bool true) w' := by
                    obtain ⟨mz, hz, -⟩ := h.1.1.2; have := hz.look (T := 172) (E := 4) k13.in1 Try.underlying172 (z := .bool false) (by kernel_rfl) HQK.out; rw [setF_getD, HMM.out] at this; exact this
                  clear h; go_simp
                try simp only [Act.put, List.getElem_toArray, List.getElem_cons_succ, List.getElem_cons_zero, List.setIfInBounds_toArray, List.set_cons_zero, List.set_cons_succ]
                (refine stg_free 3 _ ?_ (by kernel_rfl) (by kernel_rfl) (by kernel_rfl) rfl rfl ?_ hI ?_; rotate_left; · (intro w' _; go_simp; with_reducible rfl)); try simp only [Act.put, List.getElem_toArray, List.getElem_cons_succ, List.getElem_cons_zero, List.setIfInBounds_toArray, List.set_cons_zero, List.set_cons_succ]
                refine stg_skip 4 _ (by kernel_rfl) (by kernel_rfl) (by kernel_rfl) rfl rfl hI ?_
                try simp only [Act.put, List.getElem_toArray, List.getElem_cons_succ, List.getElem_cons_zero, List.setIfInBounds_toArray, List.set_cons_zero, List.set_cons_succ]
                refine stg_skip 5 _ (by kernel_rfl) (by kernel_rfl) (by kernel_rfl) rfl rfl hI ?_
                try simp only [Act.put, List.getElem_toArray, List.getElem_cons_succ, List.getElem_cons_zero, List.setIfInBounds_toArray, List.set_cons_zero, List.set_cons_succ]
                refine stg_skip 6 _ (by kernel_rfl) (by kernel_rfl) (by kernel_rfl) rfl rfl hI ?_
                try simp only [Act.put, List.getElem_toArray, List.getElem_cons_succ, List.getElem_cons_zero, List.setIfInBounds_toArray, List.set_cons_zero, List.set_cons_succ]
                refine stg_skip 7 _ (by kernel_rfl) (by kernel_rfl) (by kernel_rfl) rfl rfl hI ?_
                try simp only [Act.put, List.getElem_toArray, List.getElem_cons_succ, List.getElem_cons_zero, List.setIfInBounds_toArray, List.set_cons_zero, List.set_cons_succ]
                refine stg_skip 8 _ (by kernel_rfl) (by kernel_rfl) (by kernel_rfl) rfl rfl hI ?_
                try simp only [Act.put, List.getElem_toArray, List.getElem_cons_succ, List.getElem_cons_zero, List.setIfInBounds_toArray, List.set_cons_zero, List.set_cons_succ]
                refine stg_skip 9 _ (by kernel_rfl) (by kernel_rfl) (by kernel_rfl) rfl rfl hI ?_
                try simp only [Act.put, List.getElem_toArray, List.getElem_cons_succ, List.getElem_cons_zero, List.setIfInBounds_toArray, List.set_cons_zero, List.set_cons_succ]
                refine stg_skip 10 _ (by kernel_rfl) (by kernel_rfl) (by kernel_rfl) rfl rfl hI ?_
                try simp only [Act.put, List.getElem_toArray, List.getElem_cons_succ, List.getElem_cons_zero, List.setIfInBounds_toArray, List.set_cons_zero, List.set_cons_succ]
                refine stg_skip 11 _ (by kernel_rfl) (by kernel_rfl) (by kernel_rfl) rfl rfl hI ?_
                try simp only [Act.put, List.getElem_toArray, List.getElem_cons_succ, List.getElem_cons_zero, List.setIfInBounds_toArray, List.set_cons_zero, List.set_cons_succ]
                refine stg_skip 12 _ (by kernel_rfl) (by kernel_rfl) (by kernel_rfl) rfl rfl hI ?_
                try simp only [Act.put, List.getElem_toArray, List.getElem_cons_succ, List.getElem_cons_zero, List.setIfInBounds_toArray, List.set_cons_zero, List.set_cons_succ]
                refine stg_skip 13 _ (by kernel_rfl) (by kernel_rfl) (by kernel_rfl) rfl rfl hI ?_
                try simp only [Act.put, List.getElem_toArray, List.getElem_cons_succ, List.getElem_cons_zero, List.setIfInBounds_toArray, List.set_cons_zero, List.set_cons_succ]
                (refine stg_free 14 _ ?_ (by kernel_rfl) (by kernel_rfl) (by kernel_rfl) rfl rfl ?_ hI ?_; rotate_left; · (intro w' _; go_simp; with_reducible rfl)); try simp only [Act.put, List.getElem_toArray, List.getElem_cons_succ, List.getElem_cons_zero, List.setIfInBounds_toArray, List.set_cons_zero, List.set_cons_succ]
                refine stg_end (by kernel_rfl) ?_
                try simp only [Act.put, List.getElem_toArray, List.getElem_cons_succ, List.getElem_cons_zero, List.setIfInBounds_toArray, List.set_cons_zero, List.set_cons_succ]
                clear hI
                gi_wp2
                exact ⟨⟨j + 1, by omega, by go_num, HST2.out wd O2 M2 (HF3.out.old _ (of_decide_eq_true HMM.out)) HOA2.out hvd kM2 kT2 kb2 hbl3 hsz3', hK3, hS3⟩, by simp [intOf]; omega⟩
              | false =>
                refine wpIn_region_stage 15 [0, 1, 2, 3, 4, 5, 6, 7, 8, 9, 10, 11, 13, 14] [] [0, 1, 2, 3, 4, 5, 6, 7, 8, 9, 10, 11, 13, 14] (fun W => True) (fun W => ((TBlk 172 W (S + 1) [.map (some S)] ∧ VSet Try.prog 3 In1.val W S M2) ∧ Blk W H [.pointer (some ⟨B + 1, 0, none⟩)] ∧ Blk W (H + 1) [.int .i64 b.lo.x, .int .i64 b.lo.y, .int .i64 b.hi.x, .int .i64 b.hi.y]) ∧ Blk W (B + 1) [.slice (some ⟨b', off', none⟩) N xc, .map (some B), .slice ga k gc] ∧ W.cell? ⟨b', off' + q * 4, none⟩ = some (.int .i64 lx) ∧ W.cell? ⟨b', off' + q * 4 + 1, none⟩ = some (.int .i64 ly) ∧ W.cell? ⟨b', off' + q * 4 + 2, none⟩ = some (.int .i64 hx) ∧ W.cell? ⟨b', off' + q * 4 + 3, none⟩ = some (.int .i64 hy)) rfl (by kernel_rfl) (by kernel_rfl) (by kernel_rfl) ?_; generalize wr.drew = wd at *; refine stg_free 0 _ (.map (some S)) (by kernel_rfl) (by kernel_rfl) (by kernel_rfl) rfl rfl ?_ hI ?_
                · intro w' h; have e0 := h.1.1.1.cell 0 rfl; clear h; go_simp
                try simp only [Act.put, List.getElem_toArray, List.getElem_cons_succ, List.getElem_cons_zero, List.setIfInBounds_toArray, List.set_cons_zero, List.set_cons_succ]
                (refine stg_free 1 _ ?_ (by kernel_rfl) (by kernel_rfl) (by kernel_rfl) rfl rfl ?_ hI ?_; rotate_left; · (intro w' _; go_simp; with_reducible rfl)); try simp only [Act.put, List.getElem_toArray, List.getElem_cons_succ, List.getElem_cons_zero, List.setIfInBounds_toArray, List.set_cons_zero, List.set_cons_succ]
                refine stg_free 2 _ (.bool false) (by kernel_rfl) (by kernel_rfl) (by kernel_rfl) rfl rfl ?_ hI ?_
                · intro w' h; have e0 : (Instr.lookup 172 (.map (some S)) (.int .i64 (q : Int)) false).run Try.prog w' = .ok (.bool false) w' := by
                    obtain ⟨mz, hz, -⟩ := h.1.1.2; have := hz.look (T := 172) (E := 4) k13.in1 Try.underlying172 (z := .bool false) (by kernel_rfl) HQK.out; rw [setF_getD, HMM.out] at this; exact this
                  clear h; go_simp
                try simp only [Act.put, List.getElem_toArray, List.getElem_cons_succ, List.getElem_cons_zero, List.setIfInBounds_toArray, List.set_cons_zero, List.set_cons_succ]
                (refine stg_free 3 _ ?_ (by kernel_rfl) (by kernel_rfl) (by kernel_rfl) rfl rfl ?_ hI ?_; rotate_left; · (intro w' _; go_simp; with_reducible rfl)); try simp only [Act.put, List.getElem_toArray, List.getElem_cons_succ, List.getElem_cons_zero, List.setIfInBounds_toArray, List.set_cons_zero, List.set_cons_succ]
                refine stg_free 4 _ (.agg #[.int .i64 b.lo.x, .int .i64 b.lo.y, .int .i64 b.hi.x, .int .i64 b.hi.y]) (by kernel_rfl) (by kernel_rfl) (by kernel_rfl) rfl rfl ?_ hI ?_
                · intro w' h; have e0 := h.1.2.2.cell 0 rfl; have e1 := h.1.2.2.cell 1 rfl; have e2 := h.1.2.2.cell 2 rfl; have e3 := h.1.2.2.cell 3 rfl; clear h; go_simp
                try simp only [Act.put, List.getElem_toArray, List.getElem_cons_succ, List.getElem_cons_zero, List.setIfInBounds_toArray, List.set_cons_zero, List.set_cons_succ]
                refine stg_free 5 _ (.pointer (some ⟨B + 1, 0, none⟩)) (by kernel_rfl) (by kernel_rfl) (by kernel_rfl) rfl rfl ?_ hI ?_
                · intro w' h; have e0 := h.1.2.1.cell 0 rfl; clear h; go_simp
                try simp only [Act.put, List.getElem_toArray, List.getElem_cons_succ, List.getElem_cons_zero, List.setIfInBounds_toArray, List.set_cons_zero, List.set_cons_succ]
                (refine stg_free 6 _ ?_ (by kernel_rfl) (by kernel_rfl) (by kernel_rfl) rfl rfl ?_ hI ?_; rotate_left; · (intro w' _; go_simp; with_reducible rfl)); try simp only [Act.put, List.getElem_toArray, List.getElem_cons_succ, List.getElem_cons_zero, List.setIfInBounds_toArray, List.set_cons_zero, List.set_cons_succ]
                (refine stg_free 7 _ ?_ (by kernel_rfl) (by kernel_rfl) (by kernel_rfl) rfl rfl ?_ hI ?_; rotate_left; · (intro w' _; go_simp; with_reducible rfl)); try simp only [Act.put, List.getElem_toArray, List.getElem_cons_succ, List.getElem_cons_zero, List.setIfInBounds_toArray, List.set_cons_zero, List.set_cons_succ]
                refine stg_free 8 _ (.slice (some ⟨b', off', none⟩) N xc) (by kernel_rfl) (by kernel_rfl) (by kernel_rfl) rfl rfl ?_ hI ?_
                · intro w' h; have e0 := h.2.1.cell 0 rfl; clear h; go_simp
                try simp only [Act.put, List.getElem_toArray, List.getElem_cons_succ, List.getElem_cons_zero, List.setIfInBounds_toArray, List.set_cons_zero, List.set_cons_succ]
                (refine stg_free 9 _ ?_ (by kernel_rfl) (by kernel_rfl) (by kernel_rfl) rfl rfl ?_ hI ?_; rotate_left; · (intro w' _; go_simp; with_reducible rfl)); try simp only [Act.put, List.getElem_toArray, List.getElem_cons_succ, List.getElem_cons_zero, List.setIfInBounds_toArray, List.set_cons_zero, List.set_cons_succ]
                (refine stg_free 10 _ ?_ (by kernel_rfl) (by kernel_rfl) (by kernel_rfl) rfl rfl ?_ hI ?_; rotate_left; · (intro w' _; go_simp; with_reducible rfl)); try simp only [Act.put, List.getElem_toArray, List.getElem_cons_succ, List.getElem_cons_zero, List.setIfInBounds_toArray, List.set_cons_zero, List.set_cons_succ]
                refine stg_free 11 _ (.agg #[.int .i64 lx, .int .i64 ly, .int .i64 hx, .int .i64 hy]) (by kernel_rfl) (by kernel_rfl) (by kernel_rfl) rfl rfl ?_ hI ?_
                · intro w' h; have e0 := h.2.2.1; have e1 := h.2.2.2.1; have e2 := h.2.2.2.2.1; have e3 := h.2.2.2.2.2; clear h; go_simp
                try simp only [Act.put, List.getElem_toArray, List.getElem_cons_succ, List.getElem_cons_zero, List.setIfInBounds_toArray, List.set_cons_zero, List.set_cons_succ]
                clear hI; refine stg_oneS 12 _ (by kernel_rfl) (by kernel_rfl) (by kernel_rfl) rfl rfl (fun K hK => ?_); go_step; refine (HBS.out wd).mono ?_; rintro e we ⟨rfl, hbe⟩; have hdd : ∀ p v, wd.cell? p = some v → p.block < wd.heap.size := fun p v hh => World.block_lt_of_cell? wd _ hh; have hKe := hK3.trans (KeepsHi.of_others (KeepsOthers.of_below hbe)); have hSe := (hbe.block (S + 2) (by omega)).trans hS3; have hbe3 := hbl3.trans (hbe.mono (by omega)); replace kM2 := kM2.keep hbe; replace kT2 := kT2.keep hbe; replace kb2 := kb2.keep hbe; replace kX2 := kX2.keep hbe; replace hvd := hvd.keep hbe; replace HOA2 := Lib.hid (HOA2.out.keep hbe); replace d0 := (hbe.cell (hdd _ _ d0)).trans d0; replace d1 := (hbe.cell (hdd _ _ d1)).trans d1; replace d2 := (hbe.cell (hdd _ _ d2)).trans d2; replace d3 := (hbe.cell (hdd _ _ d3)).trans d3; have hsze : S + 3 ≤ we.heap.size := Nat.le_trans hsz3' hbe.size; have hI := And.intro (And.intro (And.intro kM2 hvd) (And.intro kT2 kb2)) (And.intro kX2 (And.intro d0 (And.intro d1 (And.intro d2 d3)))); refine hK.out _ _ trivial hI ?_
                try simp only [Act.put, List.getElem_toArray, List.getElem_cons_succ, List.getElem_cons_zero, List.setIfInBounds_toArray, List.set_cons_zero, List.set_cons_succ]
                clear hK K hdd hbe d0 d1 d2 d3 hK3 hS3 hbl3 hsz3'; obtain ⟨MB, hMB⟩ : ∃ m, meetF b ⟨⟨lx, ly⟩, ⟨hx, hy⟩⟩ = m := ⟨_, rfl⟩; have HMB := Lib.hid hMB; rw [hMB]; clear hMB
                cases MB with
                | false =>
                  (refine stg_free 13 _ ?_ (by kernel_rfl) (by kernel_rfl) (by kernel_rfl) rfl rfl ?_ hI ?_; rotate_left; · (intro w' _; go_simp; with_reducible rfl)); try simp only [Act.put, List.getElem_toArray, List.getElem_cons_succ, List.getElem_cons_zero, List.setIfInBounds_toArray, List.set_cons_zero, List.set_cons_succ]
                  (refine stg_free 14 _ ?_ (by kernel_rfl) (by kernel_rfl) (by kernel_rfl) rfl rfl ?_ hI ?_; rotate_left; · (intro w' _; go_simp; with_reducible rfl)); try simp only [Act.put, List.getElem_toArray, List.getElem_cons_succ, List.getElem_cons_zero, List.setIfInBounds_toArray, List.set_cons_zero, List.set_cons_succ]
                  refine stg_end (by kernel_rfl) ?_
                  try simp only [Act.put, List.getElem_toArray, List.getElem_cons_succ, List.getElem_cons_zero, List.setIfInBounds_toArray, List.set_cons_zero, List.set_cons_succ]
                  clear hI
                  gi_wp2
                  exact ⟨⟨j + 1, by omega, by go_num, HST2.out we O2 M2 (HF3.out.far _ (fun hh => by
                    have := HMA.out.1 hh; rw [HMB.out] at this; cases this)) HOA2.out hvd kM2 kT2 kb2 hbe3 hsze, hKe, hSe⟩, by simp [intOf]; omega⟩
                | true =>
                  (refine stg_free 13 _ ?_ (by kernel_rfl) (by kernel_rfl) (by kernel_rfl) rfl rfl ?_ hI ?_; rotate_left; · (intro w' _; go_simp; with_reducible rfl)); try simp only [Act.put, List.getElem_toArray, List.getElem_cons_succ, List.getElem_cons_zero, List.setIfInBounds_toArray, List.set_cons_zero, List.set_cons_succ]
                  (refine stg_free 14 _ ?_ (by kernel_rfl) (by kernel_rfl) (by kernel_rfl) rfl rfl ?_ hI ?_; rotate_left; · (intro w' _; go_simp; with_reducible rfl)); try simp only [Act.put, List.getElem_toArray, List.getElem_cons_succ, List.getElem_cons_zero, List.setIfInBounds_toArray, List.set_cons_zero, List.set_cons_succ]
                  refine stg_end (by kernel_rfl) ?_
                  try simp only [Act.put, List.getElem_toArray, List.getElem_cons_succ, List.getElem_cons_zero, List.setIfInBounds_toArray, List.set_cons_zero, List.set_cons_succ]
                  clear hI; have m0 := kM2.cell 0 rfl; have hOM : M2.length ≤ 1000 := by
                    have h1 := HF3.out.len; have h2 := HF3.out.length; rw [HN.out] at h2; omega
                  have hOL : O2.length ≤ 1000 := by
                    have h2 := HF3.out.length; rw [HN.out] at h2; omega
                  obtain ⟨wm, hrun, hvm, hgm⟩ := hvd.put (T := 172) (E := 4) k13.in1 In1.inj Try.underlying172 (by unfold maxLen; omega) (q : Int) HQK.out; have hrun' : (Instr.mapUpdate 172 (.map (some S)) (.int .i64 (q : Int)) (.bool true)).run Try.prog we = .ok () wm := hrun; clear hrun; obtain ⟨oa, oc, kO, hown⟩ := HOA2.out; have hKm := hKe.trans (KeepsHi.of_grown (n₀ := S + 3) hgm (fun r e => .inl (by cases e; omega))); have hSm := (hgm.block (S + 2) (by omega) (fun e => by cases e <;> omega)).trans hSe; have hbm := hbe3.grown hgm (by omega) (fun k e => by cases e; omega); have kMm := kM2.grown hgm (fun e => by cases e <;> omega); have kTm := kT2.grown hgm (fun e => by cases e <;> omega); have kbm := kb2.grown hgm (fun e => by cases e <;> omega); have kOm := kO.grown hgm (fun e => by cases e <;> omega); have hSE : we.heap[S]? ≠ none := by
                    have := hvd.lt; simp [Array.getElem?_eq_getElem this]
                  have hownm : wm.ownsRow (SO + 1) 3 1 (.slice oa O2.length oc) O2.length (ins O2) := ownsRow_other hown hgm (fun r e => by
                    cases e
                    obtain ⟨mz, hz, -⟩ := hvd; intro e2; obtain ⟨o, ho, hc⟩ := ownsRow_cells hown e2; obtain ⟨o', ho', hc'⟩ := hz.nocells; rw [ho] at ho'; cases ho'; rw [hc] at hc'; cases hc')
                  have hszm : S + 3 ≤ wm.heap.size := Nat.le_trans hsze hgm.size; have q0 := kOm.cell 0 rfl; clear HOA2 kO hown hvd hgm kM2 kT2 kb2 hKe hSe hbe3 hsze hSE
                  gi_wp2_with (gi_at_builtin; go_must (refine wpListIn_appL (SO + 1) (by omega) rfl _ _ 43 rfl 3 _ 1 8 Try.underlying43 Try.infoIz rfl (by decide) (by decide) (.slice oa O2.length oc) _ _ rfl hownm 1 1 _ rfl [.int .i64 (q : Int)] 3 rfl rfl (ins_one [(q : Int)]) (by omega) ?_); intro v' w4 hown4 hg4; obtain ⟨ya, yc, hve, -, -, -, -, -⟩ := hown4.form; subst hve; obtain ⟨kO4, hOA4⟩ := OutAt.stored kOm hownm hg4 hown4; have f0 := kO4.free 0; have f1 := kO4.cell 0 rfl)
                  have hg5 : w4.grownBy (w4.setCell ⟨SO, 0, none⟩ (.slice ya (O2.length + 1) yc)) (some SO) := grownBy_setCell' w4 SO _; have tM : (172 : TypeId) ≠ 3 := by decide
                  have tB : (104 : TypeId) ≠ 3 := by decide
                  have nM := ownsRow_ty hownm kMm tM; have nB := ownsRow_ty hownm (hSm.trans hSb) tB; have hlo : ∀ r, (Value.slice oa O2.length oc).ownBlock = some r → SO + 1 ≤ r := fun r e => (hownm.lt r e).1; have hcl : ∀ r, (Value.slice oa O2.length oc).ownBlock = some r → ∃ o, wm.heap[r]? = some o ∧ o.isCells = true := fun r e => ownsRow_cells hownm e; have nV : some S ≠ (Value.slice oa O2.length oc).ownBlock := fun e => by
                    obtain ⟨mz, hz, -⟩ := hvm; obtain ⟨o, ho, hc⟩ := hcl S e.symm; obtain ⟨o', ho', hc'⟩ := hz.nocells; rw [ho] at ho'; cases ho'; rw [hc] at hc'; cases hc'
                  have z3 := (hvm.kept hg4 nV).kept hg5 (fun e => by cases e <;> omega); have z4 := (kMm.grown hg4 (fun e => nM e.symm)).grown hg5 (fun e => by cases e <;> omega); have z5 := (kTm.grown hg4 (fun e => by have := hlo _ e.symm; omega)).grown hg5 (fun e => by cases e <;> omega); have z6 := (kbm.grown hg4 (fun e => by have := hlo _ e.symm; omega)).grown hg5 (fun e => by cases e <;> omega); have z7 := (hbm.grown hg4 (by omega) (fun r e => by have := hlo r e; omega)).grown hg5 (by have := hg4.size; omega) (fun r e => by cases e; omega); have z8 := Nat.le_trans hszm (Nat.le_trans hg4.size hg5.size); have y1 := (hKm.trans (KeepsHi.of_grown (n₀ := S + 3) hg4 (fun r e => .inr (hcl r e)))).trans (KeepsHi.of_grown (n₀ := S + 3) hg5 (fun r e => .inl (by cases e; omega))); have y2 := (hg5.block (S + 2) (by have := hg4.size; omega) (fun e => by cases e <;> omega)).trans ((hg4.block (S + 2) (by omega) (fun e => nB e.symm)).trans hSm); exact ⟨⟨j + 1, by omega, by go_num, HST2.out _ (O2 ++ [(q : Int)]) (M2 ++ [(q : Int)]) (HF3.out.put _ (of_decide_eq_false HMM.out) HSM.out (HMA.out.2 HMB.out)) hOA4 z3 z4 z5 z6 z7 z8, y1, y2⟩, by simp [intOf]; omega⟩
            · have h1' : ¬ (j : Int) < (RL : Int) := by omega
              obtain rfl : j = RL := by omega
              have HJ2 : Hid (FindJ H B S SO w b bs (fun x => ∃ f ∈ pre ++ [(i1, i2)], x ∈ fieldG bs f) wr) := Lib.hid (HJ.out.congr (fun x hx => by
                obtain ⟨f, hf, hx⟩ := hx
                rcases List.mem_append.1 hf with hf | hf
                · exact .inl ⟨f, hf, hx⟩
                · obtain rfl : f = (i1, i2) := by simpa using hf
                  rw [List.take_of_length_le (by rw [HRE.out]; exact Nat.le_refl _)]; exact .inr hx))
              clear HJ
              gi_wp2
              exact ⟨by rw [hszA]; exact hKw, hSw, HJ2.out, hSw.trans hSb⟩
        case done =>
          rintro D xs W hD rfl ⟨hA, hSb⟩ hK3; obtain ⟨O4, M4, HF4, ⟨oa, oc, o1, o2⟩, -, -, -, -, hb4, -⟩ := hA; have HRS := Lib.hid (HF4.done hb HOK.out (fun f hf i hi => ⟨f, hf, hi⟩)); have hOL : O4.length ≤ 1000 := by
            have h2 := HF4.length; rw [HN.out] at h2; omega
          have HOL := Lib.hid HF4.length; have q0 := o1.cell 0 rfl; have hDw : S + 3 ≤ D := by rw [← hszA]; exact hD
          obtain ⟨oa', oc', hoe, -, -, -, hord, -⟩ := o2.form
          cases hoe
          have HUN := Lib.hid (uuniq_any oa oc O4 (by omega) W hord); have hb5 : Below w.heap.size w W := by rw [hH]; exact hb4
          clear HF4 hord hSb
          go_wp2_with fail
          refine HUN.out.mono ?_; rintro e Wu ⟨v, rfl, ⟨C, hCs, hCm, hCl, hCo⟩, hbu⟩; have hKu := (hbu.block D ((Array.getElem?_eq_some_iff.1 hK3).1)).trans hK3; have hbu2 := hb5.trans (hbu.mono hb5.size); have hgP := grownBy_putObj' Wu D (.deferred none); have hCo2 := ownsRow_other (hCo.mono hb5.size) hgP (fun r e => by cases e; exact ownsRow_nc hCo hKu rfl); have HC := Lib.hid (fun i => (hCm i).trans (HRS.out i)); have HCL := Lib.hid (Nat.le_trans hCl HOL.out); clear hCm hCl hCs HUN q0; go_wp2; refine ⟨by simp, .inl ⟨_, _, rfl, run_takeDeferred hKu, ?_⟩⟩; refine ⟨v, by simp [results, Try.results87, go_sem], ⟨_, rfl, C, HC.out, HCL.out, hCo2⟩, ?_⟩; exact hbu2.grown hgP hbu2.size (fun k e => by cases e; omega)
end Go.Proofs.Ytccamjnomjcchaa
