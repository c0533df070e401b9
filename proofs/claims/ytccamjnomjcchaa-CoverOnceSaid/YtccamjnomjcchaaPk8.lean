/-
  cover.edges. cover.next.
-/
import Derived.Test.YtccamjnomjcchaaPk5
import Derived.Test.YtccamjnomjcchaaPk7
import Derived.Test.YtccamjnomjcchaaPk2
/- cover.edges. -/
set_option linter.unusedVariables false
set_option linter.unusedSimpArgs false
set_option maxRecDepth 100000
namespace Go
open Go.RowKit
structure Ed where
  s : Sd
  g : Nat
  n : Nat
  m : Nat
instance : Inhabited Ed := ⟨⟨default, 0, 0, 0⟩⟩
def Ed.cells (e : Ed) : List Value := [.int .i64 e.s.f, .int .i64 e.s.r, .int .i64 e.s.a.x, .int .i64 e.s.a.y, .int .i64 e.s.b.x, .int .i64 e.s.b.y, .int .i64 e.g, .int .i64 e.n, .int .i64 e.m]
def Ed.val (e : Ed) : Value := .agg #[.int .i64 e.s.f, .int .i64 e.s.r, .int .i64 e.s.a.x, .int .i64 e.s.a.y, .int .i64 e.s.b.x, .int .i64 e.s.b.y, .int .i64 e.g, .int .i64 e.n, .int .i64 e.m]
def eds (l : List Ed) : List Value := l.flatMap Ed.cells
theorem eds_snoc (l : List Ed) (s : Ed) : eds (l ++ [s]) = eds l ++ s.cells := by simp [eds]
theorem Ed.cells_one (s : Ed) : ∀ u ∈ s.cells, u.oneCell' = true := by
  intro u hu; simp [Ed.cells] at hu
  rcases hu with rfl | rfl | rfl | rfl | rfl | rfl | rfl | rfl | rfl <;> rfl
theorem eds_len (l : List Ed) : (eds l).length = l.length * 9 := flatMap_len Ed.cells 9 (fun _ => rfl) l
theorem eds_one (l : List Ed) : ∀ u ∈ eds l, u.oneCell' = true := by
  intro u hu; obtain ⟨p, -, hu⟩ := List.mem_flatMap.1 hu; exact p.cells_one u hu
def ringEd (i k g : Nat) (r : List Pt) : List Ed := (List.range r.length).map fun n => ⟨⟨i, k, r[n]!, r[(n + 1) % r.length]!⟩, g, n, r.length⟩
def faceEd (i g : Nat) (f : List (List Pt)) (n : Nat) : List Ed := (List.range n).flatMap fun k => ringEd i k (g + k) f[k]!
def someEd (l : List (List (List Pt))) (n : Nat) : List Ed := (List.range n).flatMap fun i => faceEd i (cntR (l.take i)) l[i]! (l[i]!).length
def allEd (l : List (List (List Pt))) : List Ed := someEd l l.length
theorem faceEd_succ (i g : Nat) (f : List (List Pt)) (n : Nat) : faceEd i g f (n + 1) = faceEd i g f n ++ ringEd i n (g + n) f[n]! := by
  simp [faceEd, List.range_succ, List.flatMap_append]
theorem someEd_succ (l : List (List (List Pt))) (n : Nat) : someEd l (n + 1) = someEd l n ++ faceEd n (cntR (l.take n)) l[n]! (l[n]!).length := by
  simp [someEd, List.range_succ, List.flatMap_append]
theorem faceEd_pre (i g : Nat) (f : List (List Pt)) {n m : Nat} (h : n ≤ m) : faceEd i g f n <+: faceEd i g f m := by
  induction m with
  | zero => obtain rfl : n = 0 := by omega
            exact List.prefix_refl _
  | succ m ih =>
    by_cases e : n = m + 1
    · rw [e]; exact List.prefix_refl _
    · rw [faceEd_succ]; exact (ih (by omega)).trans (List.prefix_append _ _)
theorem someEd_pre (l : List (List (List Pt))) {n m : Nat} (h : n ≤ m) : someEd l n <+: someEd l m := by
  induction m with
  | zero => obtain rfl : n = 0 := by omega
            exact List.prefix_refl _
  | succ m ih =>
    by_cases e : n = m + 1
    · rw [e]; exact List.prefix_refl _
    · rw [someEd_succ]; exact (ih (by omega)).trans (List.prefix_append _ _)
theorem ed_ahead (l : List (List (List Pt))) (i k n : Nat) (hi : i < l.length) (hk : k < (l[i]!).length) (hn : n < ((l[i]!)[k]!).length) :
    (someEd l i ++ (faceEd i (cntR (l.take i)) l[i]! k ++ (ringEd i k (cntR (l.take i) + k) (l[i]!)[k]!).take n)) ++ [⟨⟨i, k, ((l[i]!)[k]!)[n]!, ((l[i]!)[k]!)[(n + 1) % ((l[i]!)[k]!).length]!⟩, cntR (l.take i) + k, n, ((l[i]!)[k]!).length⟩] = someEd l i ++ (faceEd i (cntR (l.take i)) l[i]! k ++ (ringEd i k (cntR (l.take i) + k) (l[i]!)[k]!).take (n + 1)) ∧
    (someEd l i ++ (faceEd i (cntR (l.take i)) l[i]! k ++ (ringEd i k (cntR (l.take i) + k) (l[i]!)[k]!).take n)).length < (allEd l).length := by
  have h1 : (someEd l i ++ (faceEd i (cntR (l.take i)) l[i]! k ++ (ringEd i k (cntR (l.take i) + k) (l[i]!)[k]!).take n)) ++ [⟨⟨i, k, ((l[i]!)[k]!)[n]!, ((l[i]!)[k]!)[(n + 1) % ((l[i]!)[k]!).length]!⟩, cntR (l.take i) + k, n, ((l[i]!)[k]!).length⟩] = someEd l i ++ (faceEd i (cntR (l.take i)) l[i]! k ++ (ringEd i k (cntR (l.take i) + k) (l[i]!)[k]!).take (n + 1)) := by
    have : (ringEd i k (cntR (l.take i) + k) (l[i]!)[k]!)[n]? = some ⟨⟨i, k, ((l[i]!)[k]!)[n]!, ((l[i]!)[k]!)[(n + 1) % ((l[i]!)[k]!).length]!⟩, cntR (l.take i) + k, n, ((l[i]!)[k]!).length⟩ := by
      unfold ringEd; rw [List.getElem?_map, List.getElem?_range hn]
      rfl
    rw [List.take_add_one, this]; simp
  refine ⟨h1, ?_⟩; have h2 : someEd l i ++ (faceEd i (cntR (l.take i)) l[i]! k ++ (ringEd i k (cntR (l.take i) + k) (l[i]!)[k]!).take (n + 1)) <+: allEd l := by
    refine List.IsPrefix.trans ?_ (someEd_pre l (show i + 1 ≤ l.length by omega)); rw [someEd_succ]; refine (List.prefix_append_right_inj _).2 ?_; refine List.IsPrefix.trans ?_ (faceEd_pre i _ l[i]! (show k + 1 ≤ (l[i]!).length by omega)); rw [faceEd_succ]; exact (List.prefix_append_right_inj _).2 (List.take_prefix _ _)
  have h3 := h2.length_le; rw [← h1, List.length_append, List.length_singleton] at h3; omega
end Go
namespace Go.Proofs.Ytccamjnomjcchaa
open Go.RowKit
theorem Try.infoEd : (Try.prog.info? 100).map (fun i => (i.zero, i.size, i.bytes)) = some (some (.agg #[.int .i64 0, .int .i64 0, .int .i64 0, .int .i64 0, .int .i64 0, .int .i64 0, .int .i64 0, .int .i64 0, .int .i64 0]), 9, 72) := by kernel_rfl

set_option maxHeartbeats 6400000 in
theorem edges_any (a : Option Addr) (c : Nat) (L : List Fc) (hlen : L.length ≤ 1000000) (h1 : cntR (L.map Fc.rings) ≤ 1000000) (h2 : (allEd (L.map Fc.rings)).length ≤ 1000000) (hl2 : ∀ f ∈ L, ∀ r ∈ f.rs, r.l.length ≤ 1000000) (w : World) (hr : Rd w a (fcs L)) (hok : ∀ f ∈ L, f.Ok w) :
    Calls Try.prog 31 #[.slice a L.length c] w fun e w' => ∃ v, e = .returned v ∧ w'.ownsRow w.heap.size 100 9 v (allEd (L.map Fc.rings)).length (eds (allEd (L.map Fc.rings))) ∧ Below w.heap.size w w' := by
  have HR := Lib.hid hr; have HOK := Lib.hid hok; have HL2 := Lib.hid hl2; obtain ⟨RL, hRL⟩ : ∃ R, L.map Fc.rings = R := ⟨_, rfl⟩; have HRL := Lib.hid hRL; rw [hRL] at h1 h2 ⊢; have H2 := Lib.hid h2; have hRn : RL.length = L.length := by rw [← hRL, List.length_map]
  have HTR := Lib.hid (cntR_take RL); have HALL : Hid (allEd RL = someEd RL L.length) := Lib.hid (by unfold allEd; rw [hRn]); obtain ⟨N, hN⟩ : ∃ N, L.length = N := ⟨_, rfl⟩; have HN := Lib.hid hN; rw [hN] at hlen hRn HALL ⊢; clear hr hok hRL hN hl2 h2
  go_enter Try.func31, Try.ntmps31
  go_wp2
  go_loopw [3, 4, 13] (fun v rg i wr => ∃ (k X : Nat), i = .int .i64 k ∧ k ≤ N ∧ rg = .int .i64 X ∧ Hid (X = cntR (RL.take k)) ∧ Hid (wr.ownsRow w.heap.size 100 9 v (someEd RL k).length (eds (someEd RL k))) ∧ Below w.heap.size w wr) (fun _ _ i _ => N - (intOf i).toNat)
  case atStart => exact ⟨0, 0, rfl, Nat.zero_le _, rfl, Lib.hid rfl, Lib.hid (World.ownsRow_nil _ _ _ _), Below.refl _ _⟩
  case round =>
    obtain ⟨i, X, rfl, hi, rfl, HX, HOW, hbl⟩ := hrel
    by_cases hlt : i < N
    · have hlt' : (i : Int) < (N : Int) := by omega
      have hil : i < L.length := by rw [HN.out]; exact hlt
      have hiR : i < RL.length := by omega
      obtain ⟨b1, o1, rfl, hbb, c0, c1⟩ := (HR.out.keep hbl).fc i hil; have HRI : Hid (RL[i]! = L[i].rs.map PC.l) := Lib.hid (by rw [getElem!_pos RL i hiR]; simp only [← HRL.out, List.getElem_map, Fc.rings]); have HFO := Lib.hid (HOK.out _ (List.getElem_mem hil)); have HF2 := Lib.hid (HL2.out _ (List.getElem_mem hil)); have HSR := Lib.hid (cntR_snoc RL i hiR); have HLR : Hid (RL[i].length = L[i].rs.length) := Lib.hid (by simp only [← HRL.out, List.getElem_map, Fc.rings, List.length_map]); have b1' := HTR.out (i + 1); rw [HSR.out, ← HX.out, HLR.out] at b1'; rw [HLR.out, ← HX.out] at HSR; have HAH := Lib.hid (fun k n => ed_ahead RL i k n hiR); have HSU := Lib.hid (someEd_succ RL i); rw [← HX.out] at HAH HSU; clear HLR; generalize L[i] = f at *; obtain ⟨rs, ra, rc, ls, aa, ac⟩ := f; dsimp only [Fc.rval, Fc.aval] at c0 c1 HRI HF2 b1' HSR; obtain ⟨RN, hRN⟩ : ∃ R, rs.length = R := ⟨_, rfl⟩; have HRN := Lib.hid hRN; obtain ⟨FR, hFR⟩ : ∃ R, RL[i]! = R := ⟨_, rfl⟩; rw [hFR] at HAH HRI HSU; have hFRl : FR.length = RN := by rw [HRI.out, List.length_map, HRN.out]
      rw [hFRl] at HSU HAH; rw [hRN] at c0 b1' HSR; clear hRN hFR; have hbA := Below.new wr (.cells #[.slice ra RN rc, .slice aa ls.length ac] 38); have hA0 := hbl.trans (hbA.mono hbl.size); have HOW2 := Lib.hid (HOW.out.below hbA); have hnb : b1 ≠ wr.heap.size := by omega
      go_wp2; clear c0 c1 hbA HOW; generalize wr.alloc (.cells #[.slice ra RN rc, .slice aa ls.length ac] 38) = wA at *
      go_loopw [3, 4, 21] (fun v rg k wr => ∃ (j G : Nat), k = .int .i64 j ∧ j ≤ RN ∧ rg = .int .i64 G ∧ Hid (G = X + j) ∧ Hid (wr.ownsRow w.heap.size 100 9 v (someEd RL i ++ faceEd i X FR j).length (eds (someEd RL i ++ faceEd i X FR j))) ∧ Below w.heap.size w wr) (fun _ _ k _ => RN - (intOf k).toNat)
      case atStart => exact ⟨0, X, rfl, Nat.zero_le _, rfl, Lib.hid rfl, by simpa [faceEd] using HOW2, hA0⟩
      case round =>
        obtain ⟨k, G, rfl, hk, rfl, HG, HOW3, hb2⟩ := hrel; have hGb : G ≤ 2000000 := by rw [HG.out]; omega
        by_cases hkt : k < RN
        · have hkt' : (k : Int) < (RN : Int) := by omega
          have hkl : k < rs.length := by rw [HRN.out]; exact hkt
          obtain ⟨b2, o2, rfl, hbb2, d0⟩ := (HFO.out.1.1.keep hb2).rc k hkl; have hkF : k < FR.length := by rw [hFRl]; exact hkt
          have HRK : Hid (FR[k]! = rs[k].l) := Lib.hid (by rw [getElem!_pos FR k hkF]; simp only [HRI.out, List.getElem_map]); have HRO := Lib.hid (HFO.out.2.1 _ (List.getElem_mem hkl)); have hl2 := HF2.out _ (List.getElem_mem hkl); have HAK := Lib.hid (fun n => HAH.out k n hkt); have HFU := Lib.hid (faceEd_succ i X FR k); rw [HRK.out, ← HG.out] at HAK HFU; clear HRK; generalize rs[k] = R at *; obtain ⟨LL, Rp, Rc⟩ := R; dsimp only [PC.val] at d0 hl2 HAK HFU; obtain ⟨LN, hLN⟩ : ∃ R, LL.length = R := ⟨_, rfl⟩; have HLN := Lib.hid hLN; have HRLen : Hid ((ringEd i k G LL).length = LN) := Lib.hid (by unfold ringEd; rw [List.length_map, List.length_range, hLN]); rw [hLN] at d0 hl2 HAK; clear hLN; go_wp2
          go_loopw [3, 28] (fun v n wr => ∃ j : Nat, n = .int .i64 j ∧ j ≤ LN ∧ Hid (wr.ownsRow w.heap.size 100 9 v (someEd RL i ++ (faceEd i X FR k ++ (ringEd i k G LL).take j)).length (eds (someEd RL i ++ (faceEd i X FR k ++ (ringEd i k G LL).take j)))) ∧ Below w.heap.size w wr) (fun _ n _ => LN - (intOf n).toNat)
          case atStart => exact ⟨0, rfl, Nat.zero_le _, by simpa using HOW3, hb2⟩
          case round =>
            obtain ⟨n, rfl, hn, HOW4, hb3⟩ := hrel
            by_cases hnt : n < LN
            · have hnt' : (n : Int) < (LN : Int) := by omega
              have hnl : n < LL.length := by rw [HLN.out]; exact hnt
              obtain ⟨q, hq⟩ : ∃ q, (n + 1) % LN = q := ⟨_, rfl⟩; have hqn : q < LN := by rw [← hq]; exact Nat.mod_lt _ (by omega)
              have hql : q < LL.length := by rw [HLN.out]; exact hqn
              obtain ⟨b, off, hbe, hb', e0, e1⟩ := HRO.out.1.pt q hql; obtain ⟨b', off', e, hb, f0, f1⟩ := HRO.out.1.pt n hnl; rw [hbe] at e; cases e; subst hbe; have c0 := (hb3.cell (p := ⟨b, off + n * 2, none⟩) hb).trans f0; have c1 := (hb3.cell (p := ⟨b, off + n * 2 + 1, none⟩) hb).trans f1; obtain ⟨HSN, HPX⟩ := HAK.out n hnt; rw [hq, getElem!_pos LL n hnl, getElem!_pos LL q hql] at HSN; have hrem : ((n : Int) + 1) % (LN : Int) = (q : Int) := by rw [← hq]; simp
              obtain ⟨⟨x1, y1⟩, hp1⟩ : ∃ p, LL[n] = p := ⟨_, rfl⟩; obtain ⟨⟨x2, y2⟩, hp2⟩ : ∃ p, LL[q] = p := ⟨_, rfl⟩; rw [hp1] at c0 c1; rw [hp2] at e0 e1; rw [hp1, hp2] at HSN; have HPX2 := Nat.lt_of_lt_of_le HPX H2.out; generalize someEd RL i ++ (faceEd i X FR k ++ (ringEd i k G LL).take n) = ES at *; have HSN2 := Lib.hid HSN; dsimp only at c0 c1 e0 e1; have hlz : (LN : Int) ≠ 0 := by omega
              have hwr : IntKind.i64.wrap ((n : Int) + 1) = (n : Int) + 1 := IntWalk.i64_in _ (by omega); have hrem2 : ((n : Int) + 1).tmod (LN : Int) = (q : Int) := by
                rw [Int.tmod_eq_emod_of_nonneg (by omega)]; exact hrem
              have hq0 : (0 : Int) ≤ (q : Int) ∧ (q : Int) < (LN : Int) := by omega
              have hnb2 : b ≠ wr.heap.size := by have := hb3.size; omega
              have hbs : b < wr.heap.size := by have := hb3.size; omega
              have hln : ¬ LN = 0 := by omega
              clear hq hp1 hp2 hrem HSN HPX f0 f1; have hbB := Below.new wr (.cells #[.int .i64 x1, .int .i64 y1] 46); have hb4 := hb3.trans (hbB.mono hb3.size); have HOW5 := Lib.hid (HOW4.out.below hbB); go_wp2; have hlt5 := fun kk hk => (HOW4.out.lt kk hk); have hB5 : (wr.alloc (.cells #[.int .i64 x1, .int .i64 y1] 46)).drew.heap[wr.heap.size]? = some (.cells #[.int .i64 x1, .int .i64 y1] 46 (0, 0)) := heap_alloc_new wr _; refine wp_region_lit_txt [0, 1, 2, 3, 4, 5, 6, 7, 8, 9, 10, 11, 12, 13, 14, 15, 16, 17, 20] (fun W => Below w.heap.size w W ∧ W.heap[wr.heap.size]? = some (.cells #[.int .i64 x1, .int .i64 y1] 46 (0, 0))) (by kernel_rfl) (by kernel_rfl) (by kernel_rfl) ⟨hb4.drew, hB5⟩ ?_
              iterate 3 ((refine txt_light ?_ rfl rfl ?_ ?_; rotate_left; · (intro w' hS; (try dsimp only at hS); go_simp; with_reducible rfl)); try simp only [Act.put, List.setIfInBounds_toArray, List.set_cons_zero, List.set_cons_succ])
              refine txt_light (.agg #[.int .i64 x1, .int .i64 y1]) rfl rfl ?_ ?_
              · intro w' hS; have g0 : w'.cell? ⟨wr.heap.size, 0, none⟩ = some (.int .i64 x1) := by simp [World.cell?, hS.2]
                have g1 : w'.cell? ⟨wr.heap.size, 1, none⟩ = some (.int .i64 y1) := by simp [World.cell?, hS.2]
                go_simp
              try simp only [Act.put, List.setIfInBounds_toArray, List.set_cons_zero, List.set_cons_succ]
              iterate 2 ((refine txt_light ?_ rfl rfl ?_ ?_; rotate_left; · (intro w' hS; (try dsimp only at hS); go_simp; with_reducible rfl)); try simp only [Act.put, List.setIfInBounds_toArray, List.set_cons_zero, List.set_cons_succ])
              refine txt_light (.int .i64 ((n : Int) + 1)) rfl rfl ?_ ?_
              · intro w' hS; go_simp
              try simp only [Act.put, List.setIfInBounds_toArray, List.set_cons_zero, List.set_cons_succ]
              iterate 2 ((refine txt_light ?_ rfl rfl ?_ ?_; rotate_left; · (intro w' hS; (try dsimp only at hS); go_simp; with_reducible rfl)); try simp only [Act.put, List.setIfInBounds_toArray, List.set_cons_zero, List.set_cons_succ])
              refine txt_light (.int .i64 (q : Int)) rfl rfl ?_ ?_
              · intro w' hS; go_simp
              try simp only [Act.put, List.setIfInBounds_toArray, List.set_cons_zero, List.set_cons_succ]
              (refine txt_light ?_ rfl rfl ?_ ?_; rotate_left; · (intro w' hS; (try dsimp only at hS); go_simp; with_reducible rfl)); try simp only [Act.put, List.setIfInBounds_toArray, List.set_cons_zero, List.set_cons_succ]
              refine txt_light (.agg #[.int .i64 x2, .int .i64 y2]) rfl rfl ?_ ?_
              · intro w' hS; have g0 := (hS.1.cell (p := ⟨b, off + q * 2, none⟩) hb').trans e0; have g1 := (hS.1.cell (p := ⟨b, off + q * 2 + 1, none⟩) hb').trans e1; go_simp
              try simp only [Act.put, List.setIfInBounds_toArray, List.set_cons_zero, List.set_cons_succ]
              refine txt_light (.agg #[.int .i64 i, .int .i64 k, .int .i64 x1, .int .i64 y1, .int .i64 x2, .int .i64 y2]) rfl rfl ?_ ?_
              · intro w' hS; go_simp
              try simp only [Act.put, List.setIfInBounds_toArray, List.set_cons_zero, List.set_cons_succ]
              iterate 4 ((refine txt_light ?_ rfl rfl ?_ ?_; rotate_left; · (intro w' hS; (try dsimp only at hS); go_simp; with_reducible rfl)); try simp only [Act.put, List.setIfInBounds_toArray, List.set_cons_zero, List.set_cons_succ])
              refine txt_light (Ed.val ⟨⟨i, k, ⟨x1, y1⟩, ⟨x2, y2⟩⟩, G, n, LN⟩) rfl rfl ?_ ?_
              · intro w' hS; go_simp
                rfl
              try simp only [Act.put, List.setIfInBounds_toArray, List.set_cons_zero, List.set_cons_succ]
              refine txt_heavy rfl rfl (fun K hK => ?_); have HOW6 : (wr.alloc (.cells #[.int .i64 x1, .int .i64 y1] 46)).drew.ownsRow w.heap.size 100 9 u3 ES.length (eds ES) := HOW5.out; have hb6 : Below w.heap.size w (wr.alloc (.cells #[.int .i64 x1, .int .i64 y1] 46)).drew := hb4.drew; generalize (wr.alloc (.cells #[.int .i64 x1, .int .i64 y1] 46)).drew = W1 at *; unfold Ed.val; go_step; have ho2 := HOW6.below (Below.new W1 (.cells #[.int .i64 i, .int .i64 k, .int .i64 x1, .int .i64 y1, .int .i64 x2, .int .i64 y2, .int .i64 G, .int .i64 n, .int .i64 LN] 100)); have hb7 := hb6.alloc hb6.size (.cells #[.int .i64 i, .int .i64 k, .int .i64 x1, .int .i64 y1, .int .i64 x2, .int .i64 y2, .int .i64 G, .int .i64 n, .int .i64 LN] 100); have rd := Rd.lit W1 W1.heap.size [.int .i64 i, .int .i64 k, .int .i64 x1, .int .i64 y1, .int .i64 x2, .int .i64 y2, .int .i64 G, .int .i64 n, .int .i64 LN] 100 rfl; have hB7 := (Below.heap_alloc W1 (.cells #[.int .i64 i, .int .i64 k, .int .i64 x1, .int .i64 y1, .int .i64 x2, .int .i64 y2, .int .i64 G, .int .i64 n, .int .i64 LN] 100) wr.heap.size ((Array.getElem?_eq_some_iff.1 hB5).1)).trans hB5; refine hK.out _ _ ⟨hb7, hB7⟩ ?_; clear hK K; generalize W1.alloc (.cells #[.int .i64 i, .int .i64 k, .int .i64 x1, .int .i64 y1, .int .i64 x2, .int .i64 y2, .int .i64 G, .int .i64 n, .int .i64 LN] 100) = W2 at *
              try simp only [Act.put, List.setIfInBounds_toArray, List.set_cons_zero, List.set_cons_succ]
              refine txt_app w hb7 rfl rfl (.tmp 33) (.tmp 51) 63 rfl 100 _ 9 72 Try.underlying63 Try.infoEd rfl (by decide) u3 ES.length (eds ES) rfl ho2 (some ⟨W1.heap.size, 0, none⟩) 1 1 (Ed.cells ⟨⟨i, k, ⟨x1, y1⟩, ⟨x2, y2⟩⟩, G, n, LN⟩) rfl (fun h => by cases h) rd rfl (Ed.cells_one _) (by omega) (by decide) ?_; intro v3 W3 ho3 hg3 hb8; have hB8 := (hg3.block wr.heap.size ((Array.getElem?_eq_some_iff.1 hB7).1) (fun e => by have := (hlt5 _ e.symm).2; omega)).trans hB7; refine ⟨⟨hb8, hB8⟩, ?_⟩
              try simp only [Act.put, List.setIfInBounds_toArray, List.set_cons_zero, List.set_cons_succ]
              (refine txt_light ?_ rfl rfl ?_ ?_; rotate_left; · (intro w' hS; (try dsimp only at hS); go_simp; with_reducible rfl)); try simp only [Act.put, List.setIfInBounds_toArray, List.set_cons_zero, List.set_cons_succ]
              refine txt_nil ?_; rw [← eds_snoc, show ES.length + 1 = (ES ++ [(⟨⟨i, k, ⟨x1, y1⟩, ⟨x2, y2⟩⟩, G, n, LN⟩ : Ed)]).length by rw [List.length_append]; rfl, HSN2.out] at ho3; go_wp2; exact ⟨⟨n + 1, by go_num, by omega, Lib.hid ho3, hb8⟩, by simp [intOf]; omega⟩
            · have hnt' : ¬ (n : Int) < (LN : Int) := by omega
              rw [List.take_of_length_le (l := ringEd i k G LL) (by rw [HRLen.out]; omega), ← HFU.out] at HOW4; go_wp2; exact ⟨⟨k + 1, G + 1, by go_num, by omega, by go_num, Lib.hid (by rw [HG.out]; omega), HOW4, hb3⟩, by simp [intOf]; omega⟩
        · have hkt' : ¬ (k : Int) < (RN : Int) := by omega
          obtain rfl : k = RN := by omega
          rw [← HSU.out] at HOW3; have HG2 : Hid (G = cntR (RL.take (i + 1))) := Lib.hid (by rw [HSR.out, HG.out]); go_wp2; exact ⟨⟨i + 1, G, by go_num, by omega, rfl, HG2, HOW3, hb2⟩, by simp [intOf]; omega⟩
    · have hlt' : ¬ (i : Int) < (N : Int) := by omega
      obtain rfl : i = N := by omega
      rw [← HALL.out] at HOW; go_wp2; refine bodyPost_ret (v := u3) (by simp [results, Try.results31, go_sem]) rfl ⟨_, rfl, HOW.out, hbl⟩
end Go.Proofs.Ytccamjnomjcchaa
/- cover.next. -/
set_option linter.unusedVariables false
set_option linter.unusedSimpArgs false
set_option maxRecDepth 100000
namespace Go
open Go.RowKit
def nextF (a b : Ed) : Bool := decide (a.g = b.g) && (decide ((a.n + 1) % a.m = b.n) || decide ((b.n + 1) % b.m = a.n))
end Go
namespace Go.Proofs.Ytccamjnomjcchaa
open Go.RowKit
set_option maxHeartbeats 3200000 in
theorem next_any (a b : Ed) (ha : a.n < a.m ∧ a.m ≤ 1000000) (hb : b.n < b.m ∧ b.m ≤ 1000000) (w : World) :
    Calls Try.prog 61 #[a.val, b.val] w fun e w' => e = .returned (.bool (nextF a b)) ∧ Below w.heap.size w w' := by
  obtain ⟨⟨f1, r1, ⟨x1, y1⟩, ⟨x2, y2⟩⟩, g1, n1, m1⟩ := a; obtain ⟨⟨f2, r2, ⟨x3, y3⟩, ⟨x4, y4⟩⟩, g2, n2, m2⟩ := b; dsimp only [Ed.val] at ha hb ⊢; obtain ⟨NF, hNF⟩ : ∃ N, nextF ⟨⟨f1, r1, ⟨x1, y1⟩, ⟨x2, y2⟩⟩, g1, n1, m1⟩ ⟨⟨f2, r2, ⟨x3, y3⟩, ⟨x4, y4⟩⟩, g2, n2, m2⟩ = N := ⟨_, rfl⟩; rw [hNF]; have HNF : Hid ((decide (g1 = g2) && (decide ((n1 + 1) % m1 = n2) || decide ((n2 + 1) % m2 = n1))) = NF) := Lib.hid hNF; obtain ⟨q1, hq1⟩ : ∃ q, (n1 + 1) % m1 = q := ⟨_, rfl⟩; obtain ⟨q2, hq2⟩ : ∃ q, (n2 + 1) % m2 = q := ⟨_, rfl⟩; rw [hq1, hq2] at HNF; have hw1 : IntKind.i64.wrap ((n1 : Int) + 1) = (n1 : Int) + 1 := IntWalk.i64_in _ (by omega); have hw2 : IntKind.i64.wrap ((n2 : Int) + 1) = (n2 : Int) + 1 := IntWalk.i64_in _ (by omega); have hr1 : ((n1 : Int) + 1).tmod (m1 : Int) = (q1 : Int) := by rw [← hq1, Int.tmod_eq_emod_of_nonneg (by omega)]; simp
  have hr2 : ((n2 : Int) + 1).tmod (m2 : Int) = (q2 : Int) := by rw [← hq2, Int.tmod_eq_emod_of_nonneg (by omega)]; simp
  have hz1 : ¬ m1 = 0 := by omega
  have hz2 : ¬ m2 = 0 := by omega
  have hy1 : (m1 : Int) ≠ 0 := by omega
  have hy2 : (m2 : Int) ≠ 0 := by omega
  have hqb1 : q1 < m1 := by rw [← hq1]; exact Nat.mod_lt _ (by omega)
  have hqb2 : q2 < m2 := by rw [← hq2]; exact Nat.mod_lt _ (by omega)
  clear hq1 hq2 hNF
  go_enter Try.func61, Try.ntmps61
  go_wp2; have kA := (Blk.lit w w.heap.size [.int .i64 f1, .int .i64 r1, .int .i64 x1, .int .i64 y1, .int .i64 x2, .int .i64 y2, .int .i64 g1, .int .i64 n1, .int .i64 m1] 100 rfl).alloc (.cells #[.int .i64 f2, .int .i64 r2, .int .i64 x3, .int .i64 y3, .int .i64 x4, .int .i64 y4, .int .i64 g2, .int .i64 n2, .int .i64 m2] 100); have kB := Blk.lit (w.alloc (.cells #[.int .i64 f1, .int .i64 r1, .int .i64 x1, .int .i64 y1, .int .i64 x2, .int .i64 y2, .int .i64 g1, .int .i64 n1, .int .i64 m1] 100)) (w.heap.size + 1) [.int .i64 f2, .int .i64 r2, .int .i64 x3, .int .i64 y3, .int .i64 x4, .int .i64 y4, .int .i64 g2, .int .i64 n2, .int .i64 m2] 100 (by simp); have hbl := (Below.new w (.cells #[.int .i64 f1, .int .i64 r1, .int .i64 x1, .int .i64 y1, .int .i64 x2, .int .i64 y2, .int .i64 g1, .int .i64 n1, .int .i64 m1] 100)).alloc (by simp) (.cells #[.int .i64 f2, .int .i64 r2, .int .i64 x3, .int .i64 y3, .int .i64 x4, .int .i64 y4, .int .i64 g2, .int .i64 n2, .int .i64 m2] 100); generalize (w.alloc (.cells #[.int .i64 f1, .int .i64 r1, .int .i64 x1, .int .i64 y1, .int .i64 x2, .int .i64 y2, .int .i64 g1, .int .i64 n1, .int .i64 m1] 100)).alloc (.cells #[.int .i64 f2, .int .i64 r2, .int .i64 x3, .int .i64 y3, .int .i64 x4, .int .i64 y4, .int .i64 g2, .int .i64 n2, .int .i64 m2] 100) = wA at *; replace kA := Blk.drew kA; replace kB := Blk.drew kB; replace hbl := hbl.drew; refine wp_region_lit_txt (List.range 28) (fun W => W = wA.drew) (by kernel_rfl) (by kernel_rfl) (by kernel_rfl) rfl ?_; generalize wA.drew = wA at *
  have a6 := kA.cell 6 rfl; have a7 := kA.cell 7 rfl; have a8 := kA.cell 8 rfl; have b6 := kB.cell 6 rfl; have b7 := kB.cell 7 rfl; have b8 := kB.cell 8 rfl; clear kA kB
  by_cases h1 : g1 = g2
  · have h1' : (g1 : Int) = (g2 : Int) := by omega
    by_cases h2 : q1 = n2
    · have h2' : (q1 : Int) = (n2 : Int) := by omega
      iterate 4 ((refine txt_light ?_ rfl rfl ?_ ?_; rotate_left; · (intro w' hS; (try dsimp only at hS); rw [hS]; go_simp; with_reducible rfl)); try simp only [Act.put, List.setIfInBounds_toArray, List.set_cons_zero, List.set_cons_succ])
      refine txt_light (.bool true) rfl rfl ?_ ?_
      · intro w' hS; (try dsimp only at hS); rw [hS]; go_simp
      try simp only [Act.put, List.setIfInBounds_toArray, List.set_cons_zero, List.set_cons_succ]
      iterate 9 ((refine txt_light ?_ rfl rfl ?_ ?_; rotate_left; · (intro w' hS; (try dsimp only at hS); rw [hS]; go_simp; with_reducible rfl)); try simp only [Act.put, List.setIfInBounds_toArray, List.set_cons_zero, List.set_cons_succ])
      refine txt_light (.bool true) rfl rfl ?_ ?_
      · intro w' hS; (try dsimp only at hS); rw [hS]; go_simp
      try simp only [Act.put, List.setIfInBounds_toArray, List.set_cons_zero, List.set_cons_succ]
      (refine txt_light ?_ rfl rfl ?_ ?_; rotate_left; · (intro w' hS; (try dsimp only at hS); rw [hS]; go_simp; with_reducible rfl)); try simp only [Act.put, List.setIfInBounds_toArray, List.set_cons_zero, List.set_cons_succ]
      refine txt_skip rfl ?_; try simp only [Act.put, List.setIfInBounds_toArray, List.set_cons_zero, List.set_cons_succ]; refine txt_skip rfl ?_; try simp only [Act.put, List.setIfInBounds_toArray, List.set_cons_zero, List.set_cons_succ]; refine txt_skip rfl ?_; try simp only [Act.put, List.setIfInBounds_toArray, List.set_cons_zero, List.set_cons_succ]; refine txt_skip rfl ?_; try simp only [Act.put, List.setIfInBounds_toArray, List.set_cons_zero, List.set_cons_succ]; refine txt_skip rfl ?_; try simp only [Act.put, List.setIfInBounds_toArray, List.set_cons_zero, List.set_cons_succ]; refine txt_skip rfl ?_; try simp only [Act.put, List.setIfInBounds_toArray, List.set_cons_zero, List.set_cons_succ]; refine txt_skip rfl ?_; try simp only [Act.put, List.setIfInBounds_toArray, List.set_cons_zero, List.set_cons_succ]; refine txt_skip rfl ?_; try simp only [Act.put, List.setIfInBounds_toArray, List.set_cons_zero, List.set_cons_succ]; refine txt_skip rfl ?_; try simp only [Act.put, List.setIfInBounds_toArray, List.set_cons_zero, List.set_cons_succ]
      iterate 3 ((refine txt_light ?_ rfl rfl ?_ ?_; rotate_left; · (intro w' hS; (try dsimp only at hS); rw [hS]; go_simp; with_reducible rfl)); try simp only [Act.put, List.setIfInBounds_toArray, List.set_cons_zero, List.set_cons_succ])
      refine txt_nil ?_; go_wp2; go_ret; exact ⟨ret_bool (by rw [← HNF.out, decide_eq_true h1, decide_eq_true h2]; rfl), hbl⟩
    · have h2' : ¬ (q1 : Int) = (n2 : Int) := by omega
      have hend : ∀ v : Bool, decide (q2 = n1) = v → (((q2 : Int) == (n1 : Int)) = v) := by
        intro v hv; rw [← hv]; by_cases h3 : q2 = n1
        · rw [h3]; simp
        · have : ¬ (q2 : Int) = (n1 : Int) := by omega
          simp [h3, this]
      iterate 4 ((refine txt_light ?_ rfl rfl ?_ ?_; rotate_left; · (intro w' hS; (try dsimp only at hS); rw [hS]; go_simp; with_reducible rfl)); try simp only [Act.put, List.setIfInBounds_toArray, List.set_cons_zero, List.set_cons_succ])
      refine txt_light (.bool true) rfl rfl ?_ ?_
      · intro w' hS; (try dsimp only at hS); rw [hS]; go_simp
      try simp only [Act.put, List.setIfInBounds_toArray, List.set_cons_zero, List.set_cons_succ]
      iterate 9 ((refine txt_light ?_ rfl rfl ?_ ?_; rotate_left; · (intro w' hS; (try dsimp only at hS); rw [hS]; go_simp; with_reducible rfl)); try simp only [Act.put, List.setIfInBounds_toArray, List.set_cons_zero, List.set_cons_succ])
      refine txt_light (.bool false) rfl rfl ?_ ?_
      · intro w' hS; (try dsimp only at hS); rw [hS]; go_simp
      try simp only [Act.put, List.setIfInBounds_toArray, List.set_cons_zero, List.set_cons_succ]
      iterate 9 ((refine txt_light ?_ rfl rfl ?_ ?_; rotate_left; · (intro w' hS; (try dsimp only at hS); rw [hS]; go_simp; with_reducible rfl)); try simp only [Act.put, List.setIfInBounds_toArray, List.set_cons_zero, List.set_cons_succ])
      obtain ⟨v3, hv3⟩ : ∃ v, decide (q2 = n1) = v := ⟨_, rfl⟩; have hv4 := hend v3 hv3; refine txt_light (.bool v3) rfl rfl ?_ ?_
      · intro w' hS; (try dsimp only at hS); rw [hS]; go_simp
      try simp only [Act.put, List.setIfInBounds_toArray, List.set_cons_zero, List.set_cons_succ]
      iterate 3 ((refine txt_light ?_ rfl rfl ?_ ?_; rotate_left; · (intro w' hS; (try dsimp only at hS); rw [hS]; go_simp; with_reducible rfl)); try simp only [Act.put, List.setIfInBounds_toArray, List.set_cons_zero, List.set_cons_succ])
      refine txt_nil ?_; go_wp2; go_ret; exact ⟨ret_bool (by rw [← HNF.out, decide_eq_true h1, decide_eq_false h2, hv3]; simp), hbl⟩
  · have h1' : ¬ (g1 : Int) = (g2 : Int) := by omega
    iterate 4 ((refine txt_light ?_ rfl rfl ?_ ?_; rotate_left; · (intro w' hS; (try dsimp only at hS); rw [hS]; go_simp; with_reducible rfl)); try simp only [Act.put, List.setIfInBounds_toArray, List.set_cons_zero, List.set_cons_succ])
    refine txt_light (.bool false) rfl rfl ?_ ?_
    · intro w' hS; (try dsimp only at hS); rw [hS]; go_simp
    try simp only [Act.put, List.setIfInBounds_toArray, List.set_cons_zero, List.set_cons_succ]
    (refine txt_light ?_ rfl rfl ?_ ?_; rotate_left; · (intro w' hS; (try dsimp only at hS); rw [hS]; go_simp; with_reducible rfl)); try simp only [Act.put, List.setIfInBounds_toArray, List.set_cons_zero, List.set_cons_succ]
    refine txt_skip rfl ?_; try simp only [Act.put, List.setIfInBounds_toArray, List.set_cons_zero, List.set_cons_succ]; refine txt_skip rfl ?_; try simp only [Act.put, List.setIfInBounds_toArray, List.set_cons_zero, List.set_cons_succ]; refine txt_skip rfl ?_; try simp only [Act.put, List.setIfInBounds_toArray, List.set_cons_zero, List.set_cons_succ]; refine txt_skip rfl ?_; try simp only [Act.put, List.setIfInBounds_toArray, List.set_cons_zero, List.set_cons_succ]; refine txt_skip rfl ?_; try simp only [Act.put, List.setIfInBounds_toArray, List.set_cons_zero, List.set_cons_succ]; refine txt_skip rfl ?_; try simp only [Act.put, List.setIfInBounds_toArray, List.set_cons_zero, List.set_cons_succ]; refine txt_skip rfl ?_; try simp only [Act.put, List.setIfInBounds_toArray, List.set_cons_zero, List.set_cons_succ]; refine txt_skip rfl ?_; try simp only [Act.put, List.setIfInBounds_toArray, List.set_cons_zero, List.set_cons_succ]; refine txt_skip rfl ?_; try simp only [Act.put, List.setIfInBounds_toArray, List.set_cons_zero, List.set_cons_succ]; refine txt_skip rfl ?_; try simp only [Act.put, List.setIfInBounds_toArray, List.set_cons_zero, List.set_cons_succ]; refine txt_skip rfl ?_; try simp only [Act.put, List.setIfInBounds_toArray, List.set_cons_zero, List.set_cons_succ]; refine txt_skip rfl ?_; try simp only [Act.put, List.setIfInBounds_toArray, List.set_cons_zero, List.set_cons_succ]; refine txt_skip rfl ?_; try simp only [Act.put, List.setIfInBounds_toArray, List.set_cons_zero, List.set_cons_succ]
    refine txt_skip rfl ?_; try simp only [Act.put, List.setIfInBounds_toArray, List.set_cons_zero, List.set_cons_succ]; refine txt_skip rfl ?_; try simp only [Act.put, List.setIfInBounds_toArray, List.set_cons_zero, List.set_cons_succ]; refine txt_skip rfl ?_; try simp only [Act.put, List.setIfInBounds_toArray, List.set_cons_zero, List.set_cons_succ]; refine txt_skip rfl ?_; try simp only [Act.put, List.setIfInBounds_toArray, List.set_cons_zero, List.set_cons_succ]; refine txt_skip rfl ?_; try simp only [Act.put, List.setIfInBounds_toArray, List.set_cons_zero, List.set_cons_succ]; refine txt_skip rfl ?_; try simp only [Act.put, List.setIfInBounds_toArray, List.set_cons_zero, List.set_cons_succ]; refine txt_skip rfl ?_; try simp only [Act.put, List.setIfInBounds_toArray, List.set_cons_zero, List.set_cons_succ]
    iterate 2 ((refine txt_light ?_ rfl rfl ?_ ?_; rotate_left; · (intro w' hS; (try dsimp only at hS); rw [hS]; go_simp; with_reducible rfl)); try simp only [Act.put, List.setIfInBounds_toArray, List.set_cons_zero, List.set_cons_succ])
    refine txt_nil ?_; go_wp2; go_ret; exact ⟨ret_bool (by rw [← HNF.out, decide_eq_false h1]; rfl), hbl⟩
end Go.Proofs.Ytccamjnomjcchaa
