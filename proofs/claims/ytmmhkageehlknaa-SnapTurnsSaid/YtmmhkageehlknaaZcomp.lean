/-
  slices.Compact of points.
-/
import Derived.Test.YtmmhkageehlknaaZcpl
set_option linter.unusedVariables false
set_option linter.unusedSimpArgs false
set_option maxRecDepth 100000
namespace Go
open Go.RowKit Go.Lib
theorem cellP {w : World} {g : Nat} {R : List Pt} {TL : List Value} {e : TypeId} (h : w.heap[g]? = some (.cells (pts R ++ TL).toArray e (0, 0))) (i : Nat) (hi : i < R.length) :
    w.cell? ⟨g, i * 2, none⟩ = some (.int .i64 R[i]!.x) ∧ w.cell? ⟨g, i * 2 + 1, none⟩ = some (.int .i64 R[i]!.y) := by
  have hb : Blk w g (pts R ++ TL) := ⟨_, h⟩
  have hl := pts_len R
  have g0 := pts_get R i 0 hi (by omega)
  have g1 := pts_get R i 1 hi (by omega)
  rw [getElem!_pos R i hi]
  constructor
  · refine hb.cell (i * 2) ?_
    rw [List.getElem?_append_left (by omega)]
    exact g0
  · refine hb.cell (i * 2 + 1) ?_
    rw [List.getElem?_append_left (by omega)]
    exact g1
theorem compact_short (l : List Pt) (h : l.length < 2) : compact l = l :=
  compact_all l (fun j hj => keeps_lt_one _ j (by omega))
theorem blkT_set {w : World} {b : Nat} {T : TypeId} {vs : List Value} (h : w.heap[b]? = some (.cells vs.toArray T (0, 0))) (i : Nat) (u : Value) : (w.setCell ⟨b, i, none⟩ u).heap[b]? = some (.cells (vs.set i u).toArray T (0, 0)) := by
  simp [World.setCell, Array.getElem?_modify, h]
theorem row_set (C D : List Pt) (q p : Pt) (TL : List Value) (kk : Nat) (hk : C.length = kk) :
    ((pts (C ++ q :: D) ++ TL).set (kk * 2) (.int .i64 p.x)).set (kk * 2 + 1) (.int .i64 p.y) = pts ((C ++ [p]) ++ D) ++ TL := by
  have e1 : pts (C ++ q :: D) ++ TL = pts C ++ (.int .i64 q.x :: .int .i64 q.y :: (pts D ++ TL)) := by simp [pts, Pt.cells]
  have e2 : pts ((C ++ [p]) ++ D) ++ TL = pts C ++ (.int .i64 p.x :: .int .i64 p.y :: (pts D ++ TL)) := by simp [pts, Pt.cells]
  have hl : (pts C).length = kk * 2 := by rw [pts_len, hk]
  rw [e1, e2, List.set_append_right _ _ (by omega), List.set_append_right _ _ (by omega), hl]
  simp
theorem row_get (C l : List Pt) (kk m : Nat) (hk : C.length = kk) (hkm : kk ≤ m) (hm : m < l.length) : (C ++ l.drop kk)[m]! = l[m]! := by
  have h1 : m < (C ++ l.drop kk).length := by rw [List.length_append, List.length_drop]; omega
  rw [getElem!_pos _ m h1, getElem!_pos l m hm, List.getElem_append_right (by omega), List.getElem_drop]
  congr 1; omega
end Go
namespace Go.Proofs.Ytmmhkageehlknaa
open Go.RowKit

set_option maxHeartbeats 6400000 in
theorem compactP_any (v : Value) (l : List Pt) (hn : l.length ≤ 1000000) (w : World) (base : Nat) (ho : w.ownsRow base 23 2 v l.length (pts l)) :
    Calls Try.prog 45 #[v] w fun e w' => ∃ v, e = .returned v ∧ w'.ownsRow base 23 2 v (Lib.compact l).length (pts (Lib.compact l)) ∧ Below base w w' := by
  by_cases hs : l.length < 2
  · rw [compact_short l hs]
    obtain ⟨n, hnl⟩ : ∃ n, l.length = n := ⟨_, rfl⟩
    rw [hnl] at ho hs hn ⊢
    clear hnl
    obtain ⟨oa, oc, rfl, -, -, -, -, -⟩ := ho.form
    have hs' : (n : Int) < 2 := by omega
    go_enter Try.func45, Try.ntmps45
    go_wp2
    go_ret
    exact ⟨_, rfl, ho, Below.refl _ _⟩
  · obtain ⟨C0, hC0⟩ : ∃ C0, Lib.compact l = C0 := ⟨_, rfl⟩
    rw [hC0]
    have HC : Hid (Lib.compactUpTo l.toArray l.length = C0) := Lib.hid hC0
    clear hC0
    obtain ⟨n, hnl⟩ : ∃ n, l.length = n := ⟨_, rfl⟩
    have HN := Lib.hid hnl
    have hown := Lib.hid ho
    obtain ⟨h1, h2⟩ := ho
    rcases h2 with ⟨-, h0⟩ | ⟨g, cap, cur, rfl, hbg, hg, hnc, hcm, hcs, htk⟩
    · omega
    obtain ⟨CU, rfl⟩ : ∃ CU : List Value, cur = CU.toArray := ⟨cur.toList, by simp⟩
    have hcl : CU.length = cap * 2 := by simpa using hcs
    have htk' : CU.take (l.length * 2) = pts l := by simpa using htk
    obtain ⟨TL, hTL⟩ : ∃ TL, CU.drop (l.length * 2) = TL := ⟨_, rfl⟩
    have hcu : CU = pts l ++ TL := by rw [← htk', ← hTL, List.take_append_drop]
    have HTL : Hid (n * 2 + TL.length = cap * 2) := Lib.hid (by rw [← hcl, hcu, List.length_append, pts_len, hnl])
    rw [hcu] at hg
    have HG := Lib.hid hg
    clear hg hcs htk hcu hcl htk' hTL h1
    rw [hnl] at hn hs hnc ⊢
    clear hnl
    have hs' : ¬ (n : Int) < 2 := by omega
    go_enter Try.func45, Try.ntmps45
    go_wp2
    go_loopw [3] (fun o wr => ∃ (k : Nat), 1 ≤ k ∧ k ≤ n ∧ o = .int .i64 k ∧ Hid (Lib.compactUpTo l.toArray k = l.take k) ∧ ∃ q, wr = w.drewN q) (fun o _ => n - (intOf o).toNat)
    case atStart => exact ⟨1, by omega, by omega, rfl, Lib.hid (by rw [Lib.compactUpTo_all _ _ (fun j hj => Lib.keeps_lt_one _ j hj)]; cases l with | nil => (have := HN.out; simp at this; omega) | cons x l => simp), 0, rfl⟩
    case round =>
      obtain ⟨k, hk1, hk, rfl, HK, q, rfl⟩ := hrel
      by_cases hlt : k < n
      · have hlt2 : (k : Int) < (n : Int) := by omega
        obtain ⟨k1, hk2⟩ : ∃ k1, k = k1 + 1 := ⟨k - 1, by omega⟩
        have hw1 : IntKind.i64.wrap ((k : Int) - 1) = (k1 : Int) := by rw [IntWalk.i64_in _ (by omega)]; omega
        have hg2 := HG.out
        obtain ⟨c0, c1⟩ := cellP hg2 k (by rw [HN.out]; exact hlt)
        obtain ⟨d0, d1⟩ := cellP hg2 k1 (by rw [HN.out]; omega)
        have hkn : k1 < n := by omega
        have hq1 : l.toArray[k]! = l[k]! := by simp
        have hq2 : l.toArray[k - 1]! = l[k1]! := by rw [hk2]; simp
        have HKEEP : Hid (l[k]! ≠ l[k1]! → Lib.compactUpTo l.toArray (k + 1) = l.take (k + 1)) := Lib.hid (fun h => by
          rw [Lib.compactUpTo_succ, Lib.keeps_pos (by rw [hq1, hq2]; exact h), HK.out, List.take_succ_eq_append_getElem (by rw [HN.out]; exact hlt), if_pos rfl, hq1, getElem!_pos l k (by rw [HN.out]; exact hlt)])
        have HDROP : Hid (l[k]! = l[k1]! → Lib.compactUpTo l.toArray (k + 1) = l.take k) := Lib.hid (fun h => by
          rw [Lib.compactUpTo_succ, Lib.keeps_neg (by omega) (by rw [hq1, hq2]; exact h), HK.out]; simp)
        clear hq1 hq2
        obtain ⟨⟨px, py⟩, hpp⟩ : ∃ p, l[k]! = p := ⟨_, rfl⟩
        obtain ⟨⟨qx, qy⟩, hqq⟩ : ∃ p, l[k1]! = p := ⟨_, rfl⟩
        rw [hpp] at c0 c1
        rw [hqq] at d0 d1
        rw [hpp, hqq] at HKEEP HDROP
        dsimp only at c0 c1 d0 d1
        have HK2 := Lib.hid hk2
        clear hk2
        by_cases hx : px = qx
        · by_cases hy : py = qy
          · subst hx hy
            have HD0 := Lib.hid (HDROP.out rfl)
            clear HKEEP HDROP hpp hqq
            go_wp2
            go_quiet (fail)
            have hb0 : Below base w ((w.drewN q).drewN nq) := below_drewN (below_drewN (Below.refl _ _) q) nq
            have HG0 : Hid (((w.drewN q).drewN nq).heap[g]? = some (.cells (pts l ++ TL).toArray 23 (0, 0))) := Lib.hid HG.out
            clear c0 c1 d0 d1 hg2 HG
            generalize ((w.drewN q).drewN nq) = wz at *
            have hck : ¬ cap = k := by omega
            go_wp2
            go_loopw [3, 5] (fun o i wr => ∃ (m j kk : Nat) (C : List Pt), m = k + j ∧ 1 ≤ j ∧ m ≤ n ∧ kk < m ∧ i = .int .i64 j ∧ o = .int .i64 kk ∧ Hid (C.length = kk) ∧ Hid (Lib.compactUpTo l.toArray m = C) ∧ Hid (wr.heap[g]? = some (.cells (pts (C ++ l.drop kk) ++ TL).toArray 23 (0, 0))) ∧ Below base w wr) (fun _ i _ => n - (intOf i).toNat)
            case atStart => exact ⟨k + 1, 1, k, l.take k, rfl, by omega, by omega, by omega, rfl, rfl, Lib.hid (by rw [List.length_take, HN.out]; omega), HD0, Lib.hid (by rw [List.take_append_drop]; exact HG0.out), hb0⟩
            case round =>
              obtain ⟨m, j, kk, C, hm, hj1, hmn, hkm, rfl, rfl, HCL, HCM, HGW, hbw⟩ := hrel
              by_cases hlm : m < n
              · have hjl : (j : Int) < ((n - k : Nat) : Int) := by omega
                have hjn : j < n - k := by omega
                obtain ⟨j1, hj2⟩ : ∃ j1, j = j1 + 1 := ⟨j - 1, by omega⟩
                have hw2 : IntKind.i64.wrap ((j : Int) - 1) = (j1 : Int) := by rw [IntWalk.i64_in _ (by omega)]; omega
                have hj1n : j1 < n - k := by omega
                have hrl : (C ++ l.drop kk).length = n := by rw [List.length_append, List.length_drop, HCL.out, HN.out]; omega
                have hkn2 : kk < n := by omega
                have haj : (k + j) * 2 = k * 2 + j * 2 := by omega
                have haj1 : (k + j1) * 2 = k * 2 + j1 * 2 := by omega
                have HE1 : Hid ((pts (C ++ l.drop kk) ++ TL)[kk * 2 + 1]? = some (.int .i64 (C ++ l.drop kk)[kk]!.y)) := Lib.hid (by
                  rw [List.getElem?_append_left (by rw [pts_len]; omega), pts_get _ kk 1 (by omega) (by omega), getElem!_pos _ kk (by omega)]; rfl)
                have HDK : Hid (C ++ l.drop kk = C ++ l[kk]! :: l.drop (kk + 1)) := Lib.hid (by
                  rw [getElem!_pos l kk (by rw [HN.out]; exact hkn2), List.drop_eq_getElem_cons (by rw [HN.out]; exact hkn2)])
                have hgw := HGW.out
                obtain ⟨c0, c1⟩ := cellP hgw (k + j) (by omega)
                obtain ⟨d0, d1⟩ := cellP hgw (k + j1) (by omega)
                rw [row_get C l kk (k + j) HCL.out (by omega) (by rw [HN.out]; omega), haj] at c0 c1
                rw [row_get C l kk (k + j1) HCL.out (by omega) (by rw [HN.out]; omega), haj1] at d0 d1
                clear hgw
                have hq1 : l.toArray[m]! = l[k + j]! := by rw [hm]; simp
                have hq2 : l.toArray[m - 1]! = l[k + j1]! := by rw [show m - 1 = k + j1 by omega]; simp
                have HKEEP : Hid (l[k + j]! ≠ l[k + j1]! → Lib.compactUpTo l.toArray (m + 1) = C ++ [l[k + j]!]) := Lib.hid (fun h => by
                  rw [Lib.compactUpTo_succ, Lib.keeps_pos (by rw [hq1, hq2]; exact h), HCM.out, if_pos rfl, hq1])
                have HDROP : Hid (l[k + j]! = l[k + j1]! → Lib.compactUpTo l.toArray (m + 1) = C) := Lib.hid (fun h => by
                  rw [Lib.compactUpTo_succ, Lib.keeps_neg (by omega) (by rw [hq1, hq2]; exact h), HCM.out]; simp)
                clear hq1 hq2
                obtain ⟨⟨ax, ay⟩, hpp⟩ : ∃ p, l[k + j]! = p := ⟨_, rfl⟩
                obtain ⟨⟨bx, by'⟩, hqq⟩ : ∃ p, l[k + j1]! = p := ⟨_, rfl⟩
                rw [hpp] at c0 c1
                rw [hqq] at d0 d1
                rw [hpp, hqq] at HKEEP HDROP
                dsimp only at c0 c1 d0 d1
                clear hj2
                by_cases hx : ax = bx
                · by_cases hy : ay = by'
                  · subst hx hy
                    have HD2 := Lib.hid (HDROP.out rfl)
                    clear hpp hqq HDROP HKEEP
                    go_wp2
                    go_quiet (fail)
                    have HGY : Hid ((wr.drewN nq).heap[g]? = some (.cells (pts (C ++ l.drop kk) ++ TL).toArray 23 (0, 0))) := Lib.hid HGW.out
                    have hby := below_drewN hbw nq
                    go_wp2
                    exact ⟨⟨m + 1, j + 1, kk, C, by omega, by omega, by omega, by omega, val_int (by omega), rfl, HCL, HD2, HGY, hby⟩, by simp [intOf]; omega⟩
                  · have hy2 : (ay == by') = false := by simpa using hy
                    have HNE : ay = by' → False := hy
                    subst hx
                    go_wp2
                    go_quiet (fail)
                    have HGY : Hid ((wr.drewN nq).heap[g]? = some (.cells (pts (C ++ l.drop kk) ++ TL).toArray 23 (0, 0))) := Lib.hid HGW.out
                    have hby := below_drewN hbw nq
                    clear c0 c1 d0 d1 HGW hbw
                    generalize wr.drewN nq = wy at *
                    have hgy := HGY.out
                    obtain ⟨c0, c1⟩ := cellP hgy (k + j) (by omega)
                    obtain ⟨e0, e1⟩ := cellP hgy kk (by omega)
                    rw [row_get C l kk (k + j) HCL.out (by omega) (by rw [HN.out]; omega), hpp, haj] at c0 c1
                    have hby2 := (hby.setCell (p := ⟨g, kk * 2, none⟩) hbg (.int .i64 ax)).setCell (p := ⟨g, kk * 2 + 1, none⟩) hbg (.int .i64 ay)
                    have kb : Blk wy g (pts (C ++ l.drop kk) ++ TL) := ⟨_, hgy⟩
                    have f0 := kb.free (kk * 2)
                    have f1 := (kb.set (kk * 2) (.int .i64 ax)).free (kk * 2 + 1)
                    have g1 : (wy.setCell ⟨g, kk * 2, none⟩ (.int .i64 ax)).cell? ⟨g, kk * 2 + 1, none⟩ = some (.int .i64 (C ++ l.drop kk)[kk]!.y) := (kb.set (kk * 2) (.int .i64 ax)).cell (kk * 2 + 1) (by rw [List.getElem?_set_ne (by omega)]; exact HE1.out)
                    have HGS : Hid (((wy.setCell ⟨g, kk * 2, none⟩ (.int .i64 ax)).setCell ⟨g, kk * 2 + 1, none⟩ (.int .i64 ay)).heap[g]? = some (.cells (pts ((C ++ [⟨ax, ay⟩]) ++ l.drop (kk + 1)) ++ TL).toArray 23 (0, 0))) := Lib.hid (by
                      have := blkT_set (blkT_set hgy (kk * 2) (.int .i64 ax)) (kk * 2 + 1) (.int .i64 ay)
                      rw [HDK.out, row_set C (l.drop (kk + 1)) l[kk]! ⟨ax, ay⟩ TL kk HCL.out] at this
                      exact this)
                    clear hgy kb
                    go_wp2
                    exact ⟨⟨m + 1, j + 1, kk + 1, C ++ [⟨ax, ay⟩], by omega, by omega, by omega, by omega, val_int (by omega), val_int (by omega), Lib.hid (by rw [List.length_append, HCL.out]; rfl), Lib.hid (HKEEP.out (fun h => HNE (by injection h))), HGS, hby2⟩, by simp [intOf]; omega⟩
                · have hx2 : (ax == bx) = false := by simpa using hx
                  have HNE : ax = bx → False := hx
                  go_wp2
                  go_quiet (fail)
                  have HGY : Hid ((wr.drewN nq).heap[g]? = some (.cells (pts (C ++ l.drop kk) ++ TL).toArray 23 (0, 0))) := Lib.hid HGW.out
                  have hby := below_drewN hbw nq
                  clear c0 c1 d0 d1 HGW hbw
                  generalize wr.drewN nq = wy at *
                  have hgy := HGY.out
                  obtain ⟨c0, c1⟩ := cellP hgy (k + j) (by omega)
                  obtain ⟨e0, e1⟩ := cellP hgy kk (by omega)
                  rw [row_get C l kk (k + j) HCL.out (by omega) (by rw [HN.out]; omega), hpp, haj] at c0 c1
                  have hby2 := (hby.setCell (p := ⟨g, kk * 2, none⟩) hbg (.int .i64 ax)).setCell (p := ⟨g, kk * 2 + 1, none⟩) hbg (.int .i64 ay)
                  have kb : Blk wy g (pts (C ++ l.drop kk) ++ TL) := ⟨_, hgy⟩
                  have f0 := kb.free (kk * 2)
                  have f1 := (kb.set (kk * 2) (.int .i64 ax)).free (kk * 2 + 1)
                  have g1 : (wy.setCell ⟨g, kk * 2, none⟩ (.int .i64 ax)).cell? ⟨g, kk * 2 + 1, none⟩ = some (.int .i64 (C ++ l.drop kk)[kk]!.y) := (kb.set (kk * 2) (.int .i64 ax)).cell (kk * 2 + 1) (by rw [List.getElem?_set_ne (by omega)]; exact HE1.out)
                  have HGS : Hid (((wy.setCell ⟨g, kk * 2, none⟩ (.int .i64 ax)).setCell ⟨g, kk * 2 + 1, none⟩ (.int .i64 ay)).heap[g]? = some (.cells (pts ((C ++ [⟨ax, ay⟩]) ++ l.drop (kk + 1)) ++ TL).toArray 23 (0, 0))) := Lib.hid (by
                    have := blkT_set (blkT_set hgy (kk * 2) (.int .i64 ax)) (kk * 2 + 1) (.int .i64 ay)
                    rw [HDK.out, row_set C (l.drop (kk + 1)) l[kk]! ⟨ax, ay⟩ TL kk HCL.out] at this
                    exact this)
                  clear hgy kb
                  go_wp2
                  exact ⟨⟨m + 1, j + 1, kk + 1, C ++ [⟨ax, ay⟩], by omega, by omega, by omega, by omega, val_int (by omega), val_int (by omega), Lib.hid (by rw [List.length_append, HCL.out]; rfl), Lib.hid (HKEEP.out (fun h => HNE (by injection h))), HGS, hby2⟩, by simp [intOf]; omega⟩
              · have hjl : ¬ (j : Int) < ((n - k : Nat) : Int) := by omega
                have hmn2 : m = n := by omega
                have hCC : C0 = C := by rw [← HC.out, HN.out, ← hmn2, HCM.out]
                subst hCC
                have hrl : (C0 ++ l.drop kk).length = n := by rw [List.length_append, List.length_drop, HCL.out, HN.out]; omega
                have hxl : (pts (C0 ++ l.drop kk) ++ TL).length = cap * 2 := by rw [List.length_append, pts_len, hrl, HTL.out]
                have hbk : Blk wr g (pts (C0 ++ l.drop kk) ++ TL) := ⟨_, HGW.out⟩
                have hclr := fun ty => run_clear_two (P := Try.prog) wr 40 23 ty Try.underlying40 Try.zeroValue23 g (kk * 2) (n - kk) (cap - kk) (by omega) (fun q hq => by rw [hbk.cell (kk * 2 + q) (List.getElem?_eq_getElem (by omega))]; rfl) (fun q hq => hbk.free _)
                obtain ⟨c2, hg2, hc2⟩ := heap_setCells g 23 (List.replicate ((n - kk) * 2) (.int .i64 0)) (kk * 2) wr _ HGW.out (by rw [List.length_replicate]; omega)
                have hb2 := Lib.below_setCells g hbg (List.replicate ((n - kk) * 2) (.int .i64 0)) (kk * 2) hbw
                obtain ⟨wc, hwc⟩ : ∃ wc, wr.setCells g (kk * 2) (List.replicate ((n - kk) * 2) (.int .i64 0)) = wc := ⟨_, rfl⟩
                rw [hwc] at hclr hg2 hb2
                have hck2 : ¬ cap = kk := by omega
                have hkk2 : kk ≤ n := by omega
                have hkk3 : kk ≤ cap := by omega
                have HOWN : Hid (wc.ownsRow base 23 2 (.slice (some ⟨g, 0, none⟩) kk cap) kk (pts C0)) := Lib.hid (by
                  refine ⟨by rw [pts_len, HCL.out], .inr ⟨g, cap, c2.toArray, rfl, hbg, hg2, hkk3, hcm, ?_, ?_⟩⟩
                  · rw [List.size_toArray, hc2, List.length_append, List.length_append, List.length_take, List.length_drop, List.length_replicate, hxl]; omega
                  · rw [hc2]
                    have e9 : (pts (C0 ++ l.drop kk) ++ TL).take (kk * 2) = pts C0 := by
                      rw [pts_append, List.append_assoc, List.take_append_of_le_length (by rw [pts_len, HCL.out]; omega), List.take_of_length_le (by rw [pts_len, HCL.out]; omega)]
                    rw [e9]
                    simp only [List.append_assoc]
                    rw [List.take_append_of_le_length (by rw [pts_len, HCL.out]; omega), List.take_of_length_le (by rw [pts_len, HCL.out]; omega)])
                clear hwc hc2 hg2 hbk hxl hrl
                go_wp2
                go_ret
                refine ⟨_, rfl, ?_, hb2⟩
                rw [HCL.out]; exact HOWN.out
          · have hy2 : (py == qy) = false := by simpa using hy
            subst hx
            go_wp2
            go_quiet (fail)
            go_wp2
            exact ⟨⟨k + 1, by omega, by omega, val_int (by omega), Lib.hid (HKEEP.out (fun h => hy (by injection h))), _, rfl⟩, by simp [intOf]; omega⟩
        · have hx2 : (px == qx) = false := by simpa using hx
          go_wp2
          go_quiet (fail)
          go_wp2
          exact ⟨⟨k + 1, by omega, by omega, val_int (by omega), Lib.hid (HKEEP.out (fun h => hx (by injection h))), _, rfl⟩, by simp [intOf]; omega⟩
      · have hk3 : k = n := by omega
        subst hk3
        have hC : C0 = l := by rw [← HC.out, HN.out, HK.out, ← HN.out, List.take_length]
        subst hC
        go_wp2
        go_ret
        refine ⟨_, rfl, ?_, below_drewN (Below.refl _ _) q⟩
        have := hown.out
        rw [HN.out] at this ⊢
        exact this
end Go.Proofs.Ytmmhkageehlknaa
