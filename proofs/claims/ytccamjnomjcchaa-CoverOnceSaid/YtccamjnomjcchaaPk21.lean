/-
  cover.meets.
-/
import Derived.Test.YtccamjnomjcchaaPk11
import Derived.Test.YtccamjnomjcchaaPk20
import Derived.Test.YtccamjnomjcchaaPk16
/- cover.meets. -/
set_option linter.unusedVariables false
set_option linter.unusedSimpArgs false
set_option maxRecDepth 100000
namespace Go.Proofs.Ytccamjnomjcchaa
open Go.RowKit
theorem _root_.Go.Rd.edAt {w : World} {b off : Nat} {l : List Ed} (h : Rd w (some ⟨b, off, none⟩) (eds l)) (i : Nat) (hi : i < l.length) :
    w.cell? ⟨b, off + i * 9, none⟩ = some (.int .i64 l[i].s.f) ∧ w.cell? ⟨b, off + i * 9 + 1, none⟩ = some (.int .i64 l[i].s.r) ∧ w.cell? ⟨b, off + i * 9 + 2, none⟩ = some (.int .i64 l[i].s.a.x) ∧ w.cell? ⟨b, off + i * 9 + 3, none⟩ = some (.int .i64 l[i].s.a.y) ∧ w.cell? ⟨b, off + i * 9 + 4, none⟩ = some (.int .i64 l[i].s.b.x) ∧ w.cell? ⟨b, off + i * 9 + 5, none⟩ = some (.int .i64 l[i].s.b.y) ∧ w.cell? ⟨b, off + i * 9 + 6, none⟩ = some (.int .i64 l[i].g) ∧ w.cell? ⟨b, off + i * 9 + 7, none⟩ = some (.int .i64 l[i].n) ∧ w.cell? ⟨b, off + i * 9 + 8, none⟩ = some (.int .i64 l[i].m) := by
  obtain ⟨b', off', e, -, hc⟩ := h.ed i hi
  cases e
  exact hc
set_option maxHeartbeats 6400000 in
theorem meets_any (a : Option Addr) (c : Nat) (L : List Ed) (hlen : L.length ≤ 1000) (hok : ∀ e ∈ L, okPt e.s.a = true ∧ okPt e.s.b = true) (hnm : ∀ e ∈ L, e.n < e.m ∧ e.m ≤ 1000000) (w : World) (hr : Rd w a (eds L)) :
    Calls Try.prog 32 #[.slice a L.length c] w fun e w' => (∃ x, e = .returned (.int .i64 x) ∧ MeetsIs L x) ∧ Below w.heap.size w w' := by
  have HR := Lib.hid hr; have HOK := Lib.hid hok; have HNM := Lib.hid hnm; obtain ⟨N, hN⟩ : ∃ N, L.length = N := ⟨_, rfl⟩; have HN := Lib.hid hN; rw [hN] at hlen ⊢; obtain ⟨BS, hBS⟩ : ∃ B, L.map edBx = B := ⟨_, rfl⟩; have HBS := Lib.hid hBS; have HBN : Hid (BS.length = N) := Lib.hid (by rw [← hBS, List.length_map, hN]); clear hr hok hnm hN hBS
  go_enter Try.func32, Try.ntmps32
  go_wp2; refine wp_goto_fwd 0 rfl ?_; intro J hJ
  go_wp2_with fail
  refine (new_any w).mono ?_; rintro e w1 ⟨rfl, hI1, hb1⟩; have HI1 := Lib.hid hI1; obtain ⟨B, hB⟩ : ∃ B, w.heap.size = B := ⟨_, rfl⟩; have HB := Lib.hid hB; obtain ⟨va, vg, f, m, n, hkp, -⟩ := hI1; have hs1 := hkp.lt; rw [hB] at HI1 hb1 hs1 ⊢; clear hkp hB; go_wp2
  go_loopw [18] (fun i wr => ∃ (k : Nat), k ≤ N ∧ i = .int .i64 k ∧ Hid (IdxOk wr B (BS.take k)) ∧ B + 2 ≤ wr.heap.size ∧ Below B w wr) (fun i _ => N - (intOf i).toNat)
  case atStart => exact ⟨0, by omega, rfl, by simpa using HI1, by omega, hb1⟩
  case round =>
    obtain ⟨k, hk, rfl, HI, hBw, hbl⟩ := hrel
    by_cases h1 : k < N
    · have h1' : (k : Int) < (N : Int) := by omega
      have hkl : k < L.length := by rw [HN.out]; exact h1
      have hw0 : w.heap.size ≤ B := by have := HB.out; omega
      obtain ⟨b, off, rfl, hbb, c0, c1, c2, c3, c4, c5, c6, c7, c8⟩ := (HR.out.below hbl hw0).ed k hkl; obtain ⟨ho1, ho2⟩ := HOK.out _ (List.getElem_mem hkl); have HT : Hid (BS.take (k + 1) = BS.take k ++ [boxOf L[k].s.a L[k].s.b]) := Lib.hid (by rw [List.take_succ_eq_append_getElem (by rw [HBN.out]; exact h1)]; simp only [← HBS.out, List.getElem_map]; rfl); have HBO := Lib.hid (boxOf_ok _ _ ho1 ho2); have HOF := Lib.hid (fun W a c => rof_any a c L[k].s.a L[k].s.b ho1 ho2 W); generalize L[k] = p at *; obtain ⟨⟨f1, r1, ⟨x1, y1⟩, ⟨x2, y2⟩⟩, g1, n1, m1⟩ := p; dsimp only at c0 c1 c2 c3 c4 c5 c6 c7 c8 HT HBO HOF; generalize boxOf ⟨x1, y1⟩ ⟨x2, y2⟩ = bx at *; obtain ⟨⟨lx, ly⟩, ⟨hx, hy⟩⟩ := bx; clear ho1 ho2 hkl; have hwA := ((Below.new wr (.cells #[.int .i64 f1, .int .i64 r1, .int .i64 x1, .int .i64 y1, .int .i64 x2, .int .i64 y2, .int .i64 g1, .int .i64 n1, .int .i64 m1] 100)).alloc (by simp) (.cells #[.int .i64 x1, .int .i64 y1, .int .i64 x2, .int .i64 y2] 46)); have HRA := Lib.hid (Rd.lit (wr.alloc (.cells #[.int .i64 f1, .int .i64 r1, .int .i64 x1, .int .i64 y1, .int .i64 x2, .int .i64 y2, .int .i64 g1, .int .i64 n1, .int .i64 m1] 100)) (wr.heap.size + 1) [.int .i64 x1, .int .i64 y1, .int .i64 x2, .int .i64 y2] 46 (by simp))
      go_wp2_with fail
      generalize (wr.alloc (.cells #[.int .i64 f1, .int .i64 r1, .int .i64 x1, .int .i64 y1, .int .i64 x2, .int .i64 y2, .int .i64 g1, .int .i64 n1, .int .i64 m1] 100)).alloc (.cells #[.int .i64 x1, .int .i64 y1, .int .i64 x2, .int .i64 y2] 46) = wa at *; refine (HOF.out wa _ _ HRA.out).mono ?_; rintro e w2 ⟨rfl, hb2⟩; have hb3 := hwA.trans (hb2.mono hwA.size); clear c0 c1 c2 c3 c4 c5 c6 c7 c8 HRA HOF hwA hb2; dsimp only [Bx.val]; have hsz := hb3.size; have hwB := ((Below.new w2 (.cells #[.int .i64 lx, .int .i64 ly, .int .i64 hx, .int .i64 hy] 104)).alloc (by simp) (.cells #[.int .i64 lx, .int .i64 ly, .int .i64 hx, .int .i64 hy] 104)); have HRB := Lib.hid (Rd.lit (w2.alloc (.cells #[.int .i64 lx, .int .i64 ly, .int .i64 hx, .int .i64 hy] 104)) (w2.heap.size + 1) [.int .i64 lx, .int .i64 ly, .int .i64 hx, .int .i64 hy] 104 (by simp)); have q0 := (Blk.new w2 [.int .i64 lx, .int .i64 ly, .int .i64 hx, .int .i64 hy] 104).cell 0 rfl; have q1 := (Blk.new w2 [.int .i64 lx, .int .i64 ly, .int .i64 hx, .int .i64 hy] 104).cell 1 rfl; have q2 := (Blk.new w2 [.int .i64 lx, .int .i64 ly, .int .i64 hx, .int .i64 hy] 104).cell 2 rfl; have q3 := (Blk.new w2 [.int .i64 lx, .int .i64 ly, .int .i64 hx, .int .i64 hy] 104).cell 3 rfl
      go_wp2_with fail
      generalize (w2.alloc (.cells #[.int .i64 lx, .int .i64 ly, .int .i64 hx, .int .i64 hy] 104)).alloc (.cells #[.int .i64 lx, .int .i64 ly, .int .i64 hx, .int .i64 hy] 104) = wb at *; have hb4 := hb3.trans (hwB.mono hsz); have hsz4 := hb4.size; refine (add_one B (BS.take k) _ (by rw [List.length_take]; omega) HBO.out _ 1 wb (HI.out.keep hb4) HRB.out (by omega)).mono ?_; rintro e w3 ⟨⟨v, rfl⟩, hI3, hb5⟩; rw [← HT.out] at hI3; have hb6 := hbl.trans ((hb4.mono (by omega)).trans hb5); have hsz5 := hb5.size; clear q0 q1 q2 q3 HRB hwB hb3 hb4 HT HBO; go_wp2; exact ⟨⟨k + 1, by omega, by go_num, Lib.hid hI3, by omega, hb6⟩, by simp [intOf]; omega⟩
    · have h1' : ¬ (k : Int) < (N : Int) := by omega
      obtain rfl : k = N := by omega
      have HIX : Hid (IdxOk wr B BS) := Lib.hid (by have := HI.out; rwa [List.take_of_length_le (by rw [HBN.out]; exact Nat.le_refl _)] at this); clear HI
      go_wp2_with fail
      refine (pairs_any B BS (by rw [HBN.out]; exact hlen) wr HIX.out).mono ?_; rintro e w2 ⟨⟨v, rfl, Lp, hP, hPl, hPo⟩, hb2⟩; rw [← HBS.out] at hP; have HP := Lib.hid hP; obtain ⟨pa, pc, rfl, -, -, -, hPr, -⟩ := hPo.form; have HPR := Lib.hid hPr; have hb3 := hbl.trans (hb2.mono (by omega)); have hw0 : w.heap.size ≤ B := by have := HB.out; omega
      have HRW := Lib.hid (HR.out.below hb3 hw0); obtain ⟨M, hM⟩ : ∃ M, Lp.length = M := ⟨_, rfl⟩; have HM := Lib.hid hM; rw [hM] at hPl ⊢; have hsz2 := hb3.size; clear hP hPo hPr HIX hb2 hM HR; go_wp2
      go_loopw [8, 41] (fun o i wr => ∃ (t : Nat) (ov : Int), t ≤ M ∧ i = .int .i64 t ∧ o = .int .i64 ov ∧ Hid (PairAt L Lp t ov) ∧ Hid (Below w2.heap.size w2 wr)) (fun _ i _ => M - (intOf i).toNat)
      case atStart => exact ⟨0, 0, by omega, rfl, rfl, Lib.hid (PairAt.zero L Lp), Lib.hid (Below.refl _ _)⟩
      case round =>
        obtain ⟨t, ov, ht, rfl, rfl, HPA, HBW⟩ := hrel
        by_cases h2 : t < M
        · have h2' : (t : Int) < (M : Int) := by omega
          have htl : t < Lp.length := by rw [HM.out]; exact h2
          have hgp : Lp[t]? = some Lp[t] := List.getElem?_eq_getElem htl; obtain ⟨i, j, hij, hi, hj⟩ := pair_idx HP.out hgp; obtain ⟨hc0, hc1⟩ := p2s_get hgp; rw [hij] at hgp hc0 hc1; have HGP := Lib.hid hgp; dsimp only at hc0 hc1; clear hij htl hgp; obtain ⟨pb, po, rfl, c0, hpb⟩ := Rd.at (HPR.out.keep HBW.out) (i := t * 2) hc0; obtain ⟨pb', po', he, c1, -⟩ := Rd.at (HPR.out.keep HBW.out) (i := t * 2 + 1) hc1; obtain ⟨rfl, rfl⟩ : pb' = pb ∧ po' = po := by cases he; exact ⟨rfl, rfl⟩
          have c1' : wr.cell? ⟨pb', po' + t * 2 + 1, none⟩ = some (.int .i64 (j : Int)) := by rw [Nat.add_assoc]; exact c1
          clear c1 he hc0 hc1; obtain ⟨b, off, rfl, hbb, -⟩ := (HRW.out.keep HBW.out).ed i hi; have hiN : i < k := by rw [← HN.out]; exact hi
          have hjN : j < k := by rw [← HN.out]; exact hj
          have hbr : Below w2.heap.size w2 (wr.alloc (.cells #[.int .i64 (i : Int), .int .i64 (j : Int)] 110)) := HBW.out.alloc HBW.out.size _; have kA := Blk.new wr [.int .i64 (i : Int), .int .i64 (j : Int)] 110; have hszr : (wr.alloc (.cells #[.int .i64 (i : Int), .int .i64 (j : Int)] 110)).heap.size = wr.heap.size + 1 := by simp
          --R12
          obtain ⟨⟨⟨f1, r1, ⟨x1, y1⟩, ⟨x2, y2⟩⟩, g1, n1, m1⟩, hA⟩ : ∃ A, L[i] = A := ⟨_, rfl⟩; obtain ⟨⟨⟨f2, r2, ⟨x3, y3⟩, ⟨x4, y4⟩⟩, g2, n2, m2⟩, hB⟩ : ∃ A, L[j] = A := ⟨_, rfl⟩; have HNA := Lib.hid (HNM.out _ (List.getElem_mem hi)); have HNB := Lib.hid (HNM.out _ (List.getElem_mem hj)); rw [hA] at HNA; rw [hB] at HNB; dsimp only at HNA HNB; have HLA : Hid (L[((i : Int)).toNat]! = ⟨⟨f1, r1, ⟨x1, y1⟩, ⟨x2, y2⟩⟩, g1, n1, m1⟩) := Lib.hid (by rw [Int.toNat_natCast, getElem!_pos L i hi]; exact hA); have HLB : Hid (L[((j : Int)).toNat]! = ⟨⟨f2, r2, ⟨x3, y3⟩, ⟨x4, y4⟩⟩, g2, n2, m2⟩) := Lib.hid (by rw [Int.toNat_natCast, getElem!_pos L j hj]; exact hB); have HCT : Hid (∀ W, Below (wr.alloc (.cells #[.int .i64 (i : Int), .int .i64 (j : Int)] 110)).heap.size (wr.alloc (.cells #[.int .i64 (i : Int), .int .i64 (j : Int)] 110)) W → (W.cell? ⟨b, off + i * 9, none⟩ = some (.int .i64 f1) ∧ W.cell? ⟨b, off + i * 9 + 1, none⟩ = some (.int .i64 r1) ∧ W.cell? ⟨b, off + i * 9 + 2, none⟩ = some (.int .i64 x1) ∧ W.cell? ⟨b, off + i * 9 + 3, none⟩ = some (.int .i64 y1) ∧ W.cell? ⟨b, off + i * 9 + 4, none⟩ = some (.int .i64 x2) ∧ W.cell? ⟨b, off + i * 9 + 5, none⟩ = some (.int .i64 y2) ∧ W.cell? ⟨b, off + i * 9 + 6, none⟩ = some (.int .i64 g1) ∧ W.cell? ⟨b, off + i * 9 + 7, none⟩ = some (.int .i64 n1) ∧ W.cell? ⟨b, off + i * 9 + 8, none⟩ = some (.int .i64 m1)) ∧ (W.cell? ⟨b, off + j * 9, none⟩ = some (.int .i64 f2) ∧ W.cell? ⟨b, off + j * 9 + 1, none⟩ = some (.int .i64 r2) ∧ W.cell? ⟨b, off + j * 9 + 2, none⟩ = some (.int .i64 x3) ∧ W.cell? ⟨b, off + j * 9 + 3, none⟩ = some (.int .i64 y3) ∧ W.cell? ⟨b, off + j * 9 + 4, none⟩ = some (.int .i64 x4) ∧ W.cell? ⟨b, off + j * 9 + 5, none⟩ = some (.int .i64 y4) ∧ W.cell? ⟨b, off + j * 9 + 6, none⟩ = some (.int .i64 g2) ∧ W.cell? ⟨b, off + j * 9 + 7, none⟩ = some (.int .i64 n2) ∧ W.cell? ⟨b, off + j * 9 + 8, none⟩ = some (.int .i64 m2)) ∧ W.cell? ⟨wr.heap.size, 0, none⟩ = some (.int .i64 (i : Int)) ∧ W.cell? ⟨wr.heap.size, 0 + 1, none⟩ = some (.int .i64 (j : Int))) := by
            refine Lib.hid fun W hW => ?_; have h := HRW.out.keep (hbr.trans (hW.mono hbr.size)); have h1 := h.edAt i hi; have h2 := h.edAt j hj; rw [hA] at h1; rw [hB] at h2; have h3 := kA.keep hW; exact ⟨h1, h2, h3.cell 0 rfl, h3.cell 1 rfl⟩
          have HBR := Lib.hid hbr; go_wp2; rename_i K hK; replace hK := Lib.hid hK; have hlt := hbr.size; clear kA hbr hA hB; generalize wr.alloc (.cells #[.int .i64 (i : Int), .int .i64 (j : Int)] 110) = wq at *; have main : ∀ (PA PB : Nat) (Wx : World), Below wq.heap.size wq Wx → Blk Wx PA [.int .i64 f1, .int .i64 r1, .int .i64 x1, .int .i64 y1, .int .i64 x2, .int .i64 y2, .int .i64 g1, .int .i64 n1, .int .i64 m1] → Blk Wx PB [.int .i64 f2, .int .i64 r2, .int .i64 x3, .int .i64 y3, .int .i64 x4, .int .i64 y4, .int .i64 g2, .int .i64 n2, .int .i64 m2] → K { tmps := List.toArray ((Value.slice (some ⟨b, off, none⟩) k c) :: undef :: (Value.int .i64 0) :: (Value.pointer (some ⟨B + 1, 0, none⟩)) :: undef :: u5 :: u6 :: u7 :: (Value.int .i64 ov) :: undef :: (Value.pointer (some ⟨wr.heap.size, 0, none⟩)) :: (Value.pointer (some ⟨PA, 0, none⟩)) :: (Value.pointer (some ⟨PB, 0, none⟩)) :: u13 :: u14 :: (Value.pointer (some ⟨B + 1, 0, none⟩)) :: (Value.slice (some ⟨b, off, none⟩) k c) :: (Value.int .i64 (k : Int)) :: (Value.int .i64 (k : Int)) :: (Value.bool false) :: u20 :: u21 :: u22 :: u23 :: u24 :: u25 :: u26 :: u27 :: u28 :: u29 :: u30 :: u31 :: u32 :: u33 :: u34 :: u35 :: u36 :: u37 :: (Value.pointer (some ⟨B + 1, 0, none⟩)) :: (Value.slice (some ⟨pb', po', none⟩) M pc) :: (Value.int .i64 (M : Int)) :: (Value.int .i64 (t : Int)) :: (Value.bool true) :: (Value.pointer (some ⟨pb', po' + t * 2, none⟩)) :: (Value.agg #[.int .i64 (i : Int), .int .i64 (j : Int)]) :: (Value.slice (some ⟨b, off, none⟩) k c) :: (Value.pointer (some ⟨wr.heap.size, 0, none⟩)) :: (Value.int .i64 (i : Int)) :: (Value.pointer (some ⟨b, off + i * 9, none⟩)) :: (Value.agg #[.int .i64 f1, .int .i64 r1, .int .i64 x1, .int .i64 y1, .int .i64 x2, .int .i64 y2, .int .i64 g1, .int .i64 n1, .int .i64 m1]) :: (Value.slice (some ⟨b, off, none⟩) k c) :: (Value.pointer (some ⟨wr.heap.size, 0 + 1, none⟩)) :: (Value.int .i64 (j : Int)) :: (Value.pointer (some ⟨b, off + j * 9, none⟩)) :: (Value.agg #[.int .i64 f2, .int .i64 r2, .int .i64 x3, .int .i64 y3, .int .i64 x4, .int .i64 y4, .int .i64 g2, .int .i64 n2, .int .i64 m2]) :: u55 :: u56 :: u57 :: u58 :: u59 :: u60 :: u61 :: u62 :: u63 :: u64 :: u65 :: u66 :: u67 :: u68 :: u69 :: u70 :: u71 :: u72 :: u73 :: u74 :: u75 :: u76 :: u77 :: u78 :: u79 :: u80 :: u81 :: u82 :: u83 :: u84 :: u85 :: u86 :: u87 :: u88 :: u89 :: u90 :: u91 :: u92 :: u93 :: u94 :: u95 :: u96 :: undef :: []), defers := [] } Wx := by
            as_aux_lemma =>
            intro PA PB Wx hbX kP kQ; refine hK.out _ _ ?_; clear hK; have hbY := HBR.out.trans (hbX.mono HBR.out.size); clear HCT hbX HBR; have p0 := kP.cell 0 rfl; have s0 := kQ.cell 0 rfl; have p1 := kP.cell 1 rfl; have s1 := kQ.cell 1 rfl; have p2 := kP.cell 2 rfl; have s2 := kQ.cell 2 rfl; have p3 := kP.cell 3 rfl; have s3 := kQ.cell 3 rfl; have p4 := kP.cell 4 rfl; have s4 := kQ.cell 4 rfl; have p5 := kP.cell 5 rfl; have s5 := kQ.cell 5 rfl; have p6 := kP.cell 6 rfl; have s6 := kQ.cell 6 rfl; have p7 := kP.cell 7 rfl; have s7 := kQ.cell 7 rfl; have p8 := kP.cell 8 rfl; have s8 := kQ.cell 8 rfl
            go_wp2_with fail
            refine (sclass_any ⟨x1, y1⟩ ⟨x2, y2⟩ ⟨x3, y3⟩ ⟨x4, y4⟩ _).mono ?_; rintro e w4 ⟨rfl, hb4⟩; have HCE : Hid (clsE ⟨⟨f1, r1, ⟨x1, y1⟩, ⟨x2, y2⟩⟩, g1, n1, m1⟩ ⟨⟨f2, r2, ⟨x3, y3⟩, ⟨x4, y4⟩⟩, g2, n2, m2⟩ = (clsR ⟨x1, y1⟩ ⟨x2, y2⟩ ⟨x3, y3⟩ ⟨x4, y4⟩).1) := Lib.hid rfl; generalize clsR ⟨x1, y1⟩ ⟨x2, y2⟩ ⟨x3, y3⟩ ⟨x4, y4⟩ = CR at *; obtain ⟨C1, C2⟩ := CR; dsimp only at HCE ⊢; replace hbY := hbY.trans (hb4.mono hbY.size); replace kP := kP.keep hb4; replace kQ := kQ.keep hb4; clear hb4 p0 s0 p1 s1 p2 s2 p3 s3 p4 s4 p5 s5 p6 s6 p7 s7 p8 s8; have p0 := kP.cell 0 rfl; have s0 := kQ.cell 0 rfl; have p1 := kP.cell 1 rfl; have s1 := kQ.cell 1 rfl; have p2 := kP.cell 2 rfl; have s2 := kQ.cell 2 rfl; have p3 := kP.cell 3 rfl; have s3 := kQ.cell 3 rfl; have p4 := kP.cell 4 rfl; have s4 := kQ.cell 4 rfl; have p5 := kP.cell 5 rfl; have s5 := kQ.cell 5 rfl; have p6 := kP.cell 6 rfl; have s6 := kQ.cell 6 rfl; have p7 := kP.cell 7 rfl; have s7 := kQ.cell 7 rfl; have p8 := kP.cell 8 rfl; have s8 := kQ.cell 8 rfl
            go_wp2_with fail
            refine (next_any ⟨⟨f1, r1, ⟨x1, y1⟩, ⟨x2, y2⟩⟩, g1, n1, m1⟩ ⟨⟨f2, r2, ⟨x3, y3⟩, ⟨x4, y4⟩⟩, g2, n2, m2⟩ HNA.out HNB.out _).mono ?_; rintro e w5 ⟨rfl, hb5⟩; obtain ⟨NX, hNX⟩ : ∃ n, nextF ⟨⟨f1, r1, ⟨x1, y1⟩, ⟨x2, y2⟩⟩, g1, n1, m1⟩ ⟨⟨f2, r2, ⟨x3, y3⟩, ⟨x4, y4⟩⟩, g2, n2, m2⟩ = n := ⟨_, rfl⟩; rw [hNX]; have HNX := Lib.hid hNX; replace hbY := hbY.trans (hb5.mono hbY.size); have HBY := Lib.hid hbY; have HRG := Lib.hid (fun hbad => pair_ring HP.out HGP.out (by dsimp only; rw [HLA.out, HLB.out]; exact hbad)); have HGD := Lib.hid (fun h1 h2 => HPA.out.good HGP.out (by dsimp only; rw [HLA.out, HLB.out]; exact h1) (by dsimp only; rw [HLA.out, HLB.out]; exact h2)); have HBD := Lib.hid (fun h1 h2 => HPA.out.bad HGP.out (by dsimp only; rw [HLA.out, HLB.out]; exact h1) (by dsimp only; rw [HLA.out, HLB.out]; exact h2)); replace kP := kP.keep hb5; replace kQ := kQ.keep hb5; clear hb5 hNX hbY p0 s0 p1 s1 p2 s2 p3 s3 p4 s4 p5 s5 p6 s6 p7 s7 p8 s8; have p6 := kP.cell 6 rfl; have s6 := kQ.cell 6 rfl
            cases NX with
            | true =>
              by_cases hc1 : C1 = 1
              · have HP2 := Lib.hid (HGD.out (by rw [badR_next HNX.out, HCE.out]; exact fun h => h hc1) (badM_next HNX.out)); have hc1' : (C1 != 1) = false := by simp [hc1]
                go_wp2; exact ⟨⟨t + 1, ov, by omega, by go_num, rfl, HP2, HBY⟩, by simp [intOf]; omega⟩
              · have HP2 := Lib.hid (HRG.out ((badR_next HNX.out).2 (by rw [HCE.out]; exact hc1))); have hc1' : (C1 != 1) = true := by simp [hc1]
                go_wp2
                go_step3
                show (0 : Nat) = 0 ∧ J _ _; refine ⟨rfl, hJ.out _ _ ?_⟩; have HBZ : Below w.heap.size w w5 := by rw [HB.out]; exact hb3.trans (HBY.out.mono (by have := HB.out; omega))
                clear hJ HRG HGD HBD HNX; go_wp2; rw [Exit.jump_ret]; refine bodyPost_ret (v := .int .i64 9) (by simp [results, Try.results32, go_sem]) rfl ⟨⟨9, rfl, HP2.out⟩, HBZ⟩
            | false =>
              by_cases hg : g1 = g2
              · have hg' : (g1 : Int) = (g2 : Int) := by omega
                by_cases hc0 : C1 = 0
                · have HP2 := Lib.hid (HGD.out (by rw [badR_ring HNX.out hg, HCE.out]; exact fun h => h hc0) (badM_ring hg)); have hc1' : (C1 != 0) = false := by simp [hc0]
                  go_wp2; exact ⟨⟨t + 1, ov, by omega, by go_num, rfl, HP2, HBY⟩, by simp [intOf]; omega⟩
                · have HP2 := Lib.hid (HRG.out ((badR_ring HNX.out hg).2 (by rw [HCE.out]; exact hc0))); have hc1' : (C1 != 0) = true := by simp [hc0]
                  go_wp2
                  go_step3
                  show (0 : Nat) = 0 ∧ J _ _; refine ⟨rfl, hJ.out _ _ ?_⟩; have HBZ : Below w.heap.size w w5 := by rw [HB.out]; exact hb3.trans (HBY.out.mono (by have := HB.out; omega))
                  clear hJ HRG HGD HBD HNX; go_wp2; rw [Exit.jump_ret]; refine bodyPost_ret (v := .int .i64 9) (by simp [results, Try.results32, go_sem]) rfl ⟨⟨9, rfl, HP2.out⟩, HBZ⟩
              · have hg' : ¬ (g1 : Int) = (g2 : Int) := by omega
                have HNB2 := Lib.hid (badR_two (a := ⟨⟨f1, r1, ⟨x1, y1⟩, ⟨x2, y2⟩⟩, g1, n1, m1⟩) (b := ⟨⟨f2, r2, ⟨x3, y3⟩, ⟨x4, y4⟩⟩, g2, n2, m2⟩) HNX.out hg); have HM2 := Lib.hid (badM_two (a := ⟨⟨f1, r1, ⟨x1, y1⟩, ⟨x2, y2⟩⟩, g1, n1, m1⟩) (b := ⟨⟨f2, r2, ⟨x3, y3⟩, ⟨x4, y4⟩⟩, g2, n2, m2⟩) HNX.out hg); rw [HCE.out] at HM2; clear HNX
                by_cases hc0 : C1 = 0
                · have HP2 := Lib.hid (HGD.out HNB2.out (by rw [HM2.out]; exact fun h => h.1 hc0)); have hc1' : (C1 != 0) = false := by simp [hc0]
                  clear HM2 HGD HBD HRG; go_wp2; exact ⟨⟨t + 1, ov, by omega, by go_num, rfl, HP2, HBY⟩, by simp [intOf]; omega⟩
                · have hc0' : (C1 != 0) = true := by simp [hc0]
                  by_cases hc1 : C1 = 1
                  · have HP2 := Lib.hid (HGD.out HNB2.out (by rw [HM2.out]; exact fun h => h.2.1 hc1)); have hc1' : (C1 != 1) = false := by simp [hc1]
                    clear HM2 HGD HBD HRG; go_wp2; exact ⟨⟨t + 1, ov, by omega, by go_num, rfl, HP2, HBY⟩, by simp [intOf]; omega⟩
                  · have hc1' : (C1 != 1) = true := by simp [hc1]
                    by_cases hc5 : C1 = 5
                    · have HP2 := Lib.hid (HGD.out HNB2.out (by rw [HM2.out]; exact fun h => h.2.2 hc5)); have hc5' : (C1 != 5) = false := by simp [hc5]
                      clear HM2 HGD HBD HRG; go_wp2; exact ⟨⟨t + 1, ov, by omega, by go_num, rfl, HP2, HBY⟩, by simp [intOf]; omega⟩
                    · have HP2 := Lib.hid (HBD.out HNB2.out (by rw [HM2.out]; exact ⟨hc0, hc1, hc5⟩)); have hc5' : (C1 != 5) = true := by simp [hc5]
                      clear HM2 HGD HBD HRG; go_wp2; exact ⟨⟨t + 1, 10, by omega, by go_num, rfl, HP2, HBY⟩, by simp [intOf]; omega⟩
          clear hK; refine wp_region_sched 14 [0, 1, 2, 3, 4, 5, 6, 7, 8, 9] (fun W => Below wq.heap.size wq W) rfl (by kernel_rfl) (by kernel_rfl) ?_; have hb_0 : Below wq.heap.size wq wq.drew := (Below.refl _ _).drew; generalize wq.drew = W0 at *; refine sched_light 0 _ ?_ (by kernel_rfl) (by kernel_rfl) rfl rfl ?_ hb_0 ?_
          rotate_left
          · intro w' hS; obtain ⟨⟨c0, c1, c2, c3, c4, c5, c6, c7, c8⟩, ⟨d0, d1, d2, d3, d4, d5, d6, d7, d8⟩, e0, e1⟩ := HCT.out w' hS; clear hS; go_simp
            try with_reducible rfl
          try simp only [Act.put, List.getElem_toArray, List.getElem_cons_succ, List.getElem_cons_zero, List.setIfInBounds_toArray, List.set_cons_zero, List.set_cons_succ]
          refine sched_light 1 _ ?_ (by kernel_rfl) (by kernel_rfl) rfl rfl ?_ hb_0 ?_
          rotate_left
          · intro w' hS; obtain ⟨⟨c0, c1, c2, c3, c4, c5, c6, c7, c8⟩, ⟨d0, d1, d2, d3, d4, d5, d6, d7, d8⟩, e0, e1⟩ := HCT.out w' hS; clear hS; go_simp
            try with_reducible rfl
          try simp only [Act.put, List.getElem_toArray, List.getElem_cons_succ, List.getElem_cons_zero, List.setIfInBounds_toArray, List.set_cons_zero, List.set_cons_succ]
          refine sched_light 2 _ ?_ (by kernel_rfl) (by kernel_rfl) rfl rfl ?_ hb_0 ?_
          rotate_left
          · intro w' hS; obtain ⟨⟨c0, c1, c2, c3, c4, c5, c6, c7, c8⟩, ⟨d0, d1, d2, d3, d4, d5, d6, d7, d8⟩, e0, e1⟩ := HCT.out w' hS; clear hS; go_simp
            try with_reducible rfl
          try simp only [Act.put, List.getElem_toArray, List.getElem_cons_succ, List.getElem_cons_zero, List.setIfInBounds_toArray, List.set_cons_zero, List.set_cons_succ]
          refine sched_light 3 _ ?_ (by kernel_rfl) (by kernel_rfl) rfl rfl ?_ hb_0 ?_
          rotate_left
          · intro w' hS; obtain ⟨⟨c0, c1, c2, c3, c4, c5, c6, c7, c8⟩, ⟨d0, d1, d2, d3, d4, d5, d6, d7, d8⟩, e0, e1⟩ := HCT.out w' hS; clear hS; go_simp
            try with_reducible rfl
          try simp only [Act.put, List.getElem_toArray, List.getElem_cons_succ, List.getElem_cons_zero, List.setIfInBounds_toArray, List.set_cons_zero, List.set_cons_succ]
          refine sched_light 4 _ ?_ (by kernel_rfl) (by kernel_rfl) rfl rfl ?_ hb_0 ?_
          rotate_left
          · intro w' hS; obtain ⟨⟨c0, c1, c2, c3, c4, c5, c6, c7, c8⟩, ⟨d0, d1, d2, d3, d4, d5, d6, d7, d8⟩, e0, e1⟩ := HCT.out w' hS; clear hS; go_simp
            try with_reducible rfl
          try simp only [Act.put, List.getElem_toArray, List.getElem_cons_succ, List.getElem_cons_zero, List.setIfInBounds_toArray, List.set_cons_zero, List.set_cons_succ]
          refine sched_light 5 _ ?_ (by kernel_rfl) (by kernel_rfl) rfl rfl ?_ hb_0 ?_
          rotate_left
          · intro w' hS; obtain ⟨⟨c0, c1, c2, c3, c4, c5, c6, c7, c8⟩, ⟨d0, d1, d2, d3, d4, d5, d6, d7, d8⟩, e0, e1⟩ := HCT.out w' hS; clear hS; go_simp
            try with_reducible rfl
          try simp only [Act.put, List.getElem_toArray, List.getElem_cons_succ, List.getElem_cons_zero, List.setIfInBounds_toArray, List.set_cons_zero, List.set_cons_succ]
          refine sched_light 6 _ ?_ (by kernel_rfl) (by kernel_rfl) rfl rfl ?_ hb_0 ?_
          rotate_left
          · intro w' hS; obtain ⟨⟨c0, c1, c2, c3, c4, c5, c6, c7, c8⟩, ⟨d0, d1, d2, d3, d4, d5, d6, d7, d8⟩, e0, e1⟩ := HCT.out w' hS; clear hS; go_simp
            try with_reducible rfl
          try simp only [Act.put, List.getElem_toArray, List.getElem_cons_succ, List.getElem_cons_zero, List.setIfInBounds_toArray, List.set_cons_zero, List.set_cons_succ]
          refine sched_light 7 _ ?_ (by kernel_rfl) (by kernel_rfl) rfl rfl ?_ hb_0 ?_
          rotate_left
          · intro w' hS; obtain ⟨⟨c0, c1, c2, c3, c4, c5, c6, c7, c8⟩, ⟨d0, d1, d2, d3, d4, d5, d6, d7, d8⟩, e0, e1⟩ := HCT.out w' hS; clear hS; go_simp
            try with_reducible rfl
          try simp only [Act.put, List.getElem_toArray, List.getElem_cons_succ, List.getElem_cons_zero, List.setIfInBounds_toArray, List.set_cons_zero, List.set_cons_succ]
          refine sched_light 8 _ ?_ (by kernel_rfl) (by kernel_rfl) rfl rfl ?_ hb_0 ?_
          rotate_left
          · intro w' hS; obtain ⟨⟨c0, c1, c2, c3, c4, c5, c6, c7, c8⟩, ⟨d0, d1, d2, d3, d4, d5, d6, d7, d8⟩, e0, e1⟩ := HCT.out w' hS; clear hS; go_simp
            try with_reducible rfl
          try simp only [Act.put, List.getElem_toArray, List.getElem_cons_succ, List.getElem_cons_zero, List.setIfInBounds_toArray, List.set_cons_zero, List.set_cons_succ]
          refine sched_light 9 _ ?_ (by kernel_rfl) (by kernel_rfl) rfl rfl ?_ hb_0 ?_
          rotate_left
          · intro w' hS; obtain ⟨⟨c0, c1, c2, c3, c4, c5, c6, c7, c8⟩, ⟨d0, d1, d2, d3, d4, d5, d6, d7, d8⟩, e0, e1⟩ := HCT.out w' hS; clear hS; go_simp
            try with_reducible rfl
          try simp only [Act.put, List.getElem_toArray, List.getElem_cons_succ, List.getElem_cons_zero, List.setIfInBounds_toArray, List.set_cons_zero, List.set_cons_succ]
          refine sched_fork [10, 11] (by kernel_rfl) (by kernel_rfl) (by decide) ?_; intro i hi; simp only [List.mem_cons, List.not_mem_nil, or_false] at hi
          rcases hi with rfl | rfl
          · as_aux_lemma =>
            refine sched_heavy 10 _ rfl rfl (fun K hK => ?_); go_step; have hb_1 := hb_0.alloc hb_0.size (.cells #[.int .i64 0, .int .i64 0, .int .i64 0, .int .i64 0, .int .i64 0, .int .i64 0, .int .i64 0, .int .i64 0, .int .i64 0] 100); have hz_1 : (W0.alloc (.cells #[.int .i64 0, .int .i64 0, .int .i64 0, .int .i64 0, .int .i64 0, .int .i64 0, .int .i64 0, .int .i64 0, .int .i64 0] 100)).heap.size = W0.heap.size + 1 := by simp
            have kA_1 := Blk.lit W0 (W0.heap.size) [.int .i64 0, .int .i64 0, .int .i64 0, .int .i64 0, .int .i64 0, .int .i64 0, .int .i64 0, .int .i64 0, .int .i64 0] 100 rfl; refine hK.out _ _ hb_1 ?_; clear hK K; generalize W0.alloc (.cells #[.int .i64 0, .int .i64 0, .int .i64 0, .int .i64 0, .int .i64 0, .int .i64 0, .int .i64 0, .int .i64 0, .int .i64 0] 100) = W1 at *
            try simp only [Act.put, List.getElem_toArray, List.getElem_cons_succ, List.getElem_cons_zero, List.setIfInBounds_toArray, List.set_cons_zero, List.set_cons_succ]
            refine sched_fork [11] (by kernel_rfl) (by kernel_rfl) (by decide) ?_; intro i hi; simp only [List.mem_cons, List.not_mem_nil, or_false] at hi; subst hi; refine sched_heavy 11 _ rfl rfl (fun K hK => ?_); go_step; have hb_2 := hb_1.alloc hb_1.size (.cells #[.int .i64 0, .int .i64 0, .int .i64 0, .int .i64 0, .int .i64 0, .int .i64 0, .int .i64 0, .int .i64 0, .int .i64 0] 100); have kB_2 := Blk.lit W1 (W0.heap.size + 1) [.int .i64 0, .int .i64 0, .int .i64 0, .int .i64 0, .int .i64 0, .int .i64 0, .int .i64 0, .int .i64 0, .int .i64 0] 100 hz_1; have kA_2 := kA_1.alloc (.cells #[.int .i64 0, .int .i64 0, .int .i64 0, .int .i64 0, .int .i64 0, .int .i64 0, .int .i64 0, .int .i64 0, .int .i64 0] 100); refine hK.out _ _ hb_2 ?_; clear hK K; generalize W1.alloc (.cells #[.int .i64 0, .int .i64 0, .int .i64 0, .int .i64 0, .int .i64 0, .int .i64 0, .int .i64 0, .int .i64 0, .int .i64 0] 100) = W2 at *
            try simp only [Act.put, List.getElem_toArray, List.getElem_cons_succ, List.getElem_cons_zero, List.setIfInBounds_toArray, List.set_cons_zero, List.set_cons_succ]
            refine sched_fork [12] (by kernel_rfl) (by kernel_rfl) (by decide) ?_; intro i hi; simp only [List.mem_cons, List.not_mem_nil, or_false] at hi; subst hi; refine sched_heavy 12 _ rfl rfl (fun K hK => ?_); have hb_3 := hb_2.setRow (b := W0.heap.size) (by have := hb_0.size; omega) ([.int .i64 f1, .int .i64 r1, .int .i64 x1, .int .i64 y1, .int .i64 x2, .int .i64 y2, .int .i64 g1, .int .i64 n1, .int .i64 m1]).toArray; have kA_3 := kA_2.setRow [.int .i64 f1, .int .i64 r1, .int .i64 x1, .int .i64 y1, .int .i64 x2, .int .i64 y2, .int .i64 g1, .int .i64 n1, .int .i64 m1]; have kB_3 := kB_2.setRow_ne (c := W0.heap.size) (by omega) ([.int .i64 f1, .int .i64 r1, .int .i64 x1, .int .i64 y1, .int .i64 x2, .int .i64 y2, .int .i64 g1, .int .i64 n1, .int .i64 m1]).toArray; refine wp_store_blk 100 _ _ rfl (W0.heap.size) _ [.int .i64 f1, .int .i64 r1, .int .i64 x1, .int .i64 y1, .int .i64 x2, .int .i64 y2, .int .i64 g1, .int .i64 n1, .int .i64 m1] rfl rfl kA_2 (by kernel_rfl) rfl rfl ?_; refine hK.out _ _ hb_3 ?_; clear hK K; generalize W2.setRow (W0.heap.size) ([.int .i64 f1, .int .i64 r1, .int .i64 x1, .int .i64 y1, .int .i64 x2, .int .i64 y2, .int .i64 g1, .int .i64 n1, .int .i64 m1]).toArray = W3 at *
            try simp only [Act.put, List.getElem_toArray, List.getElem_cons_succ, List.getElem_cons_zero, List.setIfInBounds_toArray, List.set_cons_zero, List.set_cons_succ]
            refine sched_fork [13] (by kernel_rfl) (by kernel_rfl) (by decide) ?_; intro i hi; simp only [List.mem_cons, List.not_mem_nil, or_false] at hi; subst hi; refine sched_heavy 13 _ rfl rfl (fun K hK => ?_); have hb_4 := hb_3.setRow (b := W0.heap.size + 1) (by have := hb_0.size; omega) ([.int .i64 f2, .int .i64 r2, .int .i64 x3, .int .i64 y3, .int .i64 x4, .int .i64 y4, .int .i64 g2, .int .i64 n2, .int .i64 m2]).toArray; have kB_4 := kB_3.setRow [.int .i64 f2, .int .i64 r2, .int .i64 x3, .int .i64 y3, .int .i64 x4, .int .i64 y4, .int .i64 g2, .int .i64 n2, .int .i64 m2]; have kA_4 := kA_3.setRow_ne (c := W0.heap.size + 1) (by omega) ([.int .i64 f2, .int .i64 r2, .int .i64 x3, .int .i64 y3, .int .i64 x4, .int .i64 y4, .int .i64 g2, .int .i64 n2, .int .i64 m2]).toArray; refine wp_store_blk 100 _ _ rfl (W0.heap.size + 1) _ [.int .i64 f2, .int .i64 r2, .int .i64 x3, .int .i64 y3, .int .i64 x4, .int .i64 y4, .int .i64 g2, .int .i64 n2, .int .i64 m2] rfl rfl kB_3 (by kernel_rfl) rfl rfl ?_; refine hK.out _ _ hb_4 ?_; clear hK K; generalize W3.setRow (W0.heap.size + 1) ([.int .i64 f2, .int .i64 r2, .int .i64 x3, .int .i64 y3, .int .i64 x4, .int .i64 y4, .int .i64 g2, .int .i64 n2, .int .i64 m2]).toArray = W4 at *
            try simp only [Act.put, List.getElem_toArray, List.getElem_cons_succ, List.getElem_cons_zero, List.setIfInBounds_toArray, List.set_cons_zero, List.set_cons_succ]
            refine sched_end (by kernel_rfl) ?_; exact main _ _ _ hb_4 kA_4 kB_4
          · as_aux_lemma =>
            refine sched_heavy 11 _ rfl rfl (fun K hK => ?_); go_step; have hb_1 := hb_0.alloc hb_0.size (.cells #[.int .i64 0, .int .i64 0, .int .i64 0, .int .i64 0, .int .i64 0, .int .i64 0, .int .i64 0, .int .i64 0, .int .i64 0] 100); have hz_1 : (W0.alloc (.cells #[.int .i64 0, .int .i64 0, .int .i64 0, .int .i64 0, .int .i64 0, .int .i64 0, .int .i64 0, .int .i64 0, .int .i64 0] 100)).heap.size = W0.heap.size + 1 := by simp
            have kB_1 := Blk.lit W0 (W0.heap.size) [.int .i64 0, .int .i64 0, .int .i64 0, .int .i64 0, .int .i64 0, .int .i64 0, .int .i64 0, .int .i64 0, .int .i64 0] 100 rfl; refine hK.out _ _ hb_1 ?_; clear hK K; generalize W0.alloc (.cells #[.int .i64 0, .int .i64 0, .int .i64 0, .int .i64 0, .int .i64 0, .int .i64 0, .int .i64 0, .int .i64 0, .int .i64 0] 100) = W1 at *
            try simp only [Act.put, List.getElem_toArray, List.getElem_cons_succ, List.getElem_cons_zero, List.setIfInBounds_toArray, List.set_cons_zero, List.set_cons_succ]
            refine sched_fork [10] (by kernel_rfl) (by kernel_rfl) (by decide) ?_; intro i hi; simp only [List.mem_cons, List.not_mem_nil, or_false] at hi; subst hi; refine sched_heavy 10 _ rfl rfl (fun K hK => ?_); go_step; have hb_2 := hb_1.alloc hb_1.size (.cells #[.int .i64 0, .int .i64 0, .int .i64 0, .int .i64 0, .int .i64 0, .int .i64 0, .int .i64 0, .int .i64 0, .int .i64 0] 100); have kA_2 := Blk.lit W1 (W0.heap.size + 1) [.int .i64 0, .int .i64 0, .int .i64 0, .int .i64 0, .int .i64 0, .int .i64 0, .int .i64 0, .int .i64 0, .int .i64 0] 100 hz_1; have kB_2 := kB_1.alloc (.cells #[.int .i64 0, .int .i64 0, .int .i64 0, .int .i64 0, .int .i64 0, .int .i64 0, .int .i64 0, .int .i64 0, .int .i64 0] 100); refine hK.out _ _ hb_2 ?_; clear hK K; generalize W1.alloc (.cells #[.int .i64 0, .int .i64 0, .int .i64 0, .int .i64 0, .int .i64 0, .int .i64 0, .int .i64 0, .int .i64 0, .int .i64 0] 100) = W2 at *
            try simp only [Act.put, List.getElem_toArray, List.getElem_cons_succ, List.getElem_cons_zero, List.setIfInBounds_toArray, List.set_cons_zero, List.set_cons_succ]
            refine sched_fork [12] (by kernel_rfl) (by kernel_rfl) (by decide) ?_; intro i hi; simp only [List.mem_cons, List.not_mem_nil, or_false] at hi; subst hi; refine sched_heavy 12 _ rfl rfl (fun K hK => ?_); have hb_3 := hb_2.setRow (b := W0.heap.size + 1) (by have := hb_0.size; omega) ([.int .i64 f1, .int .i64 r1, .int .i64 x1, .int .i64 y1, .int .i64 x2, .int .i64 y2, .int .i64 g1, .int .i64 n1, .int .i64 m1]).toArray; have kA_3 := kA_2.setRow [.int .i64 f1, .int .i64 r1, .int .i64 x1, .int .i64 y1, .int .i64 x2, .int .i64 y2, .int .i64 g1, .int .i64 n1, .int .i64 m1]; have kB_3 := kB_2.setRow_ne (c := W0.heap.size + 1) (by omega) ([.int .i64 f1, .int .i64 r1, .int .i64 x1, .int .i64 y1, .int .i64 x2, .int .i64 y2, .int .i64 g1, .int .i64 n1, .int .i64 m1]).toArray; refine wp_store_blk 100 _ _ rfl (W0.heap.size + 1) _ [.int .i64 f1, .int .i64 r1, .int .i64 x1, .int .i64 y1, .int .i64 x2, .int .i64 y2, .int .i64 g1, .int .i64 n1, .int .i64 m1] rfl rfl kA_2 (by kernel_rfl) rfl rfl ?_; refine hK.out _ _ hb_3 ?_; clear hK K; generalize W2.setRow (W0.heap.size + 1) ([.int .i64 f1, .int .i64 r1, .int .i64 x1, .int .i64 y1, .int .i64 x2, .int .i64 y2, .int .i64 g1, .int .i64 n1, .int .i64 m1]).toArray = W3 at *
            try simp only [Act.put, List.getElem_toArray, List.getElem_cons_succ, List.getElem_cons_zero, List.setIfInBounds_toArray, List.set_cons_zero, List.set_cons_succ]
            refine sched_fork [13] (by kernel_rfl) (by kernel_rfl) (by decide) ?_; intro i hi; simp only [List.mem_cons, List.not_mem_nil, or_false] at hi; subst hi; refine sched_heavy 13 _ rfl rfl (fun K hK => ?_); have hb_4 := hb_3.setRow (b := W0.heap.size) (by have := hb_0.size; omega) ([.int .i64 f2, .int .i64 r2, .int .i64 x3, .int .i64 y3, .int .i64 x4, .int .i64 y4, .int .i64 g2, .int .i64 n2, .int .i64 m2]).toArray; have kB_4 := kB_3.setRow [.int .i64 f2, .int .i64 r2, .int .i64 x3, .int .i64 y3, .int .i64 x4, .int .i64 y4, .int .i64 g2, .int .i64 n2, .int .i64 m2]; have kA_4 := kA_3.setRow_ne (c := W0.heap.size) (by omega) ([.int .i64 f2, .int .i64 r2, .int .i64 x3, .int .i64 y3, .int .i64 x4, .int .i64 y4, .int .i64 g2, .int .i64 n2, .int .i64 m2]).toArray; refine wp_store_blk 100 _ _ rfl (W0.heap.size) _ [.int .i64 f2, .int .i64 r2, .int .i64 x3, .int .i64 y3, .int .i64 x4, .int .i64 y4, .int .i64 g2, .int .i64 n2, .int .i64 m2] rfl rfl kB_3 (by kernel_rfl) rfl rfl ?_; refine hK.out _ _ hb_4 ?_; clear hK K; generalize W3.setRow (W0.heap.size) ([.int .i64 f2, .int .i64 r2, .int .i64 x3, .int .i64 y3, .int .i64 x4, .int .i64 y4, .int .i64 g2, .int .i64 n2, .int .i64 m2]).toArray = W4 at *
            try simp only [Act.put, List.getElem_toArray, List.getElem_cons_succ, List.getElem_cons_zero, List.setIfInBounds_toArray, List.set_cons_zero, List.set_cons_succ]
            refine sched_end (by kernel_rfl) ?_; exact main _ _ _ hb_4 kA_4 kB_4
        · have h2' : ¬ (t : Int) < (M : Int) := by omega
          obtain rfl : t = M := by omega
          have HZ := Lib.hid (PairAt.done HP.out (by rw [HM.out]; exact HPA.out)); have HBZ : Below w.heap.size w wr := by rw [HB.out]; exact hb3.trans (HBW.out.mono (by have := HB.out; omega))
          clear hJ; go_wp2; refine bodyPost_ret (v := .int .i64 ov) (by simp [results, Try.results32, go_sem]) rfl ⟨⟨ov, rfl, HZ.out⟩, HBZ⟩
end Go.Proofs.Ytccamjnomjcchaa
