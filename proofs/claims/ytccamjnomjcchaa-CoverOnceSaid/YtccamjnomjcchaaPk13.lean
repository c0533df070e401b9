/-
  cover.turns.round: how often faces go round the point beside a segment. cover.sided. cover.single. What cover.Valid tells (plain). slices.ContainsFunc of rings that are not right (cover.Valid). A staged region (XStage), inside a round of a range over a function.
-/
import Derived.Test.YtccamjnomjcchaaPk12
import Derived.Test.YtccamjnomjcchaaPk5
import Derived.Test.YtccamjnomjcchaaPk1
import Derived.Test.YtccamjnomjcchaaPk11
import Derived.Test.YtccamjnomjcchaaPk6
import Derived.Test.YtccamjnomjcchaaPk7
import Derived.Test.YtccamjnomjcchaaPk3
/- cover.turns.round: how often faces go round the point beside a segment. -/
set_option linter.unusedVariables false
set_option linter.unusedSimpArgs false
set_option maxRecDepth 100000
namespace Go
open Go.RowKit
def KSz {α : Type} (f : α → Option Value) (m : Nat) : Prop := ∃ ks : List α, ks.Nodup ∧ (∀ i, i ∈ ks ↔ (f i).isSome = true) ∧ ks.length = m
theorem KSz.zero {α : Type} : KSz (fun _ : α => none) 0 := ⟨[], by simp, by simp, rfl⟩
theorem KSz.put {α : Type} {f : α → Option Value} {m : Nat} (h : KSz f m) (a : α) (v : Value) : KSz (fput f a v) (if (f a).isSome then m else m + 1) := by
  obtain ⟨ks, h1, h2, h3⟩ := h
  by_cases hf : (f a).isSome = true
  · rw [if_pos hf]; refine ⟨ks, h1, fun i => ?_, h3⟩
    by_cases e : i = a
    · subst e; simp [h2, hf]
    · rw [fput_other f v e]; exact h2 i
  · rw [if_neg hf]; refine ⟨a :: ks, List.nodup_cons.2 ⟨fun h => hf ((h2 a).1 h), h1⟩, fun i => ?_, by simp [h3]⟩
    by_cases e : i = a
    · subst e; simp
    · rw [fput_other f v e]; simp [e, h2]
theorem KSz.del {α : Type} {f : α → Option Value} {m : Nat} (h : KSz f m) (a : α) : KSz (fdel f a) (if (f a).isSome then m - 1 else m) := by
  classical
  obtain ⟨ks, h1, h2, h3⟩ := h
  by_cases hf : (f a).isSome = true
  · rw [if_pos hf]; have hin : a ∈ ks := (h2 a).2 hf; refine ⟨ks.erase a, h1.erase a, fun i => ?_, by rw [List.length_erase_of_mem hin, h3]⟩; rw [h1.mem_erase_iff]
    by_cases e : i = a
    · subst e; simp
    · rw [fdel_other f e]; simp [e, h2]
  · rw [if_neg hf]; refine ⟨ks, h1, fun i => ?_, h3⟩
    by_cases e : i = a
    · subst e; simp [h2, hf]
    · rw [fdel_other f e]; exact h2 i
def sumF (a b : Pt) (xs : List Ed) (i : Int) : Int := (xs.map fun x => if (x.s.f : Int) = i then passF x.s.a x.s.b a b else 0).sum
def rndV (S : Int → Int) (i : Int) : Option Value := if S i = 0 then none else some (.int .i64 (S i))
theorem sumF_snoc (a b : Pt) (xs : List Ed) (x : Ed) (i : Int) : sumF a b (xs ++ [x]) i = sumF a b xs i + if (x.s.f : Int) = i then passF x.s.a x.s.b a b else 0 := by
  unfold sumF; rw [List.map_append, List.sum_append]; simp
theorem sumF_bd (a b : Pt) (xs : List Ed) (i : Int) : -(xs.length : Int) ≤ sumF a b xs i ∧ sumF a b xs i ≤ xs.length := by
  induction xs with
  | nil => simp [sumF]
  | cons x xs ih =>
    have e : sumF a b (x :: xs) i = (if (x.s.f : Int) = i then passF x.s.a x.s.b a b else 0) + sumF a b xs i := by simp [sumF]
    rw [e, List.length_cons]; have := passF_bd x.s.a x.s.b a b
    push_cast
    split <;> omega
def RMap (P : Program) (K : TypeId) (w : World) (b : Nat) (S : Int → Int) : Prop := ∃ m n, VMap P K In1.val w b (rndV S) m n ∧ KSz (rndV S) m
theorem RMap.keep {P : Program} {K : TypeId} {w w' : World} {b : Nat} {S : Int → Int} (h : RMap P K w b S) (hb : Below w.heap.size w w') : RMap P K w' b S := by
  obtain ⟨m, n, h1, h2⟩ := h; exact ⟨m, n, h1.keep hb, h2⟩
theorem rndV_getD (S : Int → Int) (i : Int) : (rndV S i).getD (.int .i64 0) = .int .i64 (S i) := by
  unfold rndV; split
  · rename_i h; rw [h]; rfl
  · rfl
theorem rndV_put (S S' : Int → Int) (i : Int) (v : Int) (h1 : ∀ j, j ≠ i → S' j = S j) (h2 : S' i = v) (hv : v ≠ 0) : fput (rndV S) i (.int .i64 v) = rndV S' := by
  funext j
  by_cases e : j = i
  · subst e; rw [fput_same]; unfold rndV; rw [h2, if_neg hv]
  · rw [fput_other _ _ e]; unfold rndV; rw [h1 j e]
theorem rndV_del (S S' : Int → Int) (i : Int) (v : Value) (h1 : ∀ j, j ≠ i → S' j = S j) (h2 : S' i = 0) : fdel (fput (rndV S) i v) i = rndV S' := by
  funext j
  by_cases e : j = i
  · subst e; rw [fdel_same]; unfold rndV; rw [h2]; rfl
  · rw [fdel_other _ e, fput_other _ _ e]; unfold rndV; rw [h1 j e]
end Go
namespace Go.Proofs.Ytccamjnomjcchaa
open Go.RowKit
theorem Try.zeroI (w : World) : (zeroValue 3).run Try.prog w = .ok (.int .i64 0) w := by kernel_rfl

set_option maxHeartbeats 6400000 in
theorem round_any (B base : Nat) (G : Int → List Ed) (a b : Pt) (ha : okPt a = true) (hb : okPt b = true) (hlen : ∀ y, (G y).length ≤ 1000000) (hok : ∀ y, ∀ e ∈ G y, okPt e.s.a = true ∧ okPt e.s.b = true ∧ e.s.f ≤ 1000000) (w : World)
    (hG : GMap Try.prog 3 In1.val 100 9 Ed.cells w B base G) :
    Calls Try.prog 63 #[.map (some B), a.val, b.val] w fun e w' => e = .returned (.map (some (w.heap.size + 1 + 1))) ∧ RMap Try.prog 3 w' (w.heap.size + 1 + 1) (sumF a b (G ((a.y + b.y) / 2 / 64))) ∧ Below w.heap.size w w' := by
  obtain ⟨ax, ay⟩ := a; obtain ⟨bx, bY⟩ := b; have HPA := Lib.hid (fun (x : Ed) (h : okPt x.s.a = true ∧ okPt x.s.b = true) W => pass_any x ⟨ax, ay⟩ ⟨bx, bY⟩ h.1 h.2 ha hb W); rw [okPt_iff] at ha hb; dsimp only [Pt.val] at *; obtain ⟨Y, hY⟩ : ∃ y, (ay + bY) / 2 / 64 = y := ⟨_, rfl⟩; have hYb : -16777216 ≤ Y ∧ Y ≤ 16777216 := by omega
  rw [hY]; have hwa : IntKind.i64.wrap (ay + bY) = ay + bY := IntWalk.i64_in _ (by omega); have hw0 := ((Below.new w (.cells #[.int .i64 ax, .int .i64 ay] 46)).alloc (by simp) (.cells #[.int .i64 bx, .int .i64 bY] 46)).alloc (by simp; omega) (.map #[] 0); obtain ⟨f, mm, nn, hv1, hv2⟩ := hG; have hlk := (hv1.keep hw0).look k13.in1 Try.underlying116 (Try.zeroEs _) (k13.in1Key Y (WalkArith.wf_i64 (by omega))); have hown := hv2.look Y; generalize (f Y).getD (.slice none 0 0) = v at hlk hown; have hl1 := hlen Y; have HOK := Lib.hid (hok Y); obtain ⟨X, hX⟩ : ∃ X, G Y = X := ⟨_, rfl⟩; rw [hX] at hown hl1 HOK ⊢; clear hlen hok hX hv1 hv2; have hV0 := VMap.madeB Try.prog 3 In1.val ((w.alloc (.cells #[.int .i64 ax, .int .i64 ay] 46)).alloc (.cells #[.int .i64 bx, .int .i64 bY] 46)) (w.heap.size + 1 + 1) (by simp); have kA := ((Blk.lit w w.heap.size [.int .i64 ax, .int .i64 ay] 46 rfl).alloc (.cells #[.int .i64 bx, .int .i64 bY] 46)).alloc (.map #[] 0); have kB := (Blk.lit (w.alloc (.cells #[.int .i64 ax, .int .i64 ay] 46)) (w.heap.size + 1) [.int .i64 bx, .int .i64 bY] 46 (by simp)).alloc (.map #[] 0); obtain ⟨xa, xc, hve, hxc, hxm, hxn, hrd, -⟩ := hown.form; subst hve; have HR := Lib.hid hrd; have hmm := @run_makeMap Try.prog; obtain ⟨N, hN⟩ : ∃ N, X.length = N := ⟨_, rfl⟩; have HN := Lib.hid hN; rw [hN] at hl1 hlk; have hsz0 : w.heap.size + 1 + 1 < (((w.alloc (.cells #[.int .i64 ax, .int .i64 ay] 46)).alloc (.cells #[.int .i64 bx, .int .i64 bY] 46)).alloc (.map #[] 0)).heap.size := by simp
  clear hN hown hrd; unfold maxLen at hxm
  go_enter Try.func63, Try.ntmps63
  dsimp only [In1.val] at hlk; go_wp2; generalize ((w.alloc (.cells #[.int .i64 ax, .int .i64 ay] 46)).alloc (.cells #[.int .i64 bx, .int .i64 bY] 46)).alloc (.map #[] 0) = w0 at *; obtain ⟨M, hM⟩ : ∃ M, w.heap.size + 1 + 1 = M := ⟨_, rfl⟩; obtain ⟨A1, hA1⟩ : ∃ M, w.heap.size + 1 = M := ⟨_, rfl⟩; rw [hA1] at kB; rw [hM] at hV0 hsz0 ⊢; rw [hA1]; have hA1M : A1 < M ∧ w.heap.size < A1 := by omega
  have hKS0 : KSz (rndV (sumF ⟨ax, ay⟩ ⟨bx, bY⟩ [])) 0 := KSz.zero; have HME := Lib.hid hM; clear hlk hM hA1
  go_loopw [22] (fun i wr => ∃ (k m n : Nat), k ≤ N ∧ i = .int .i64 k ∧ Hid (VMap Try.prog 3 In1.val wr M (rndV (sumF ⟨ax, ay⟩ ⟨bx, bY⟩ (X.take k))) m n) ∧ Hid (KSz (rndV (sumF ⟨ax, ay⟩ ⟨bx, bY⟩ (X.take k))) m) ∧ n ≤ k ∧ M < wr.heap.size ∧ Hid (Blk wr w.heap.size [.int .i64 ax, .int .i64 ay]) ∧ Hid (Blk wr A1 [.int .i64 bx, .int .i64 bY]) ∧ Below w.heap.size w wr) (fun i _ => N - (intOf i).toNat)
  case atStart => exact ⟨0, 0, 0, by omega, rfl, Lib.hid hV0, Lib.hid hKS0, by omega, hsz0, Lib.hid kA, Lib.hid kB, hw0⟩
  case round =>
    obtain ⟨k, m, n, hk, rfl, HV, HK, hn, hsz, KA, KB, hbl⟩ := hrel
    by_cases h1 : k < N
    · have h1' : (k : Int) < (N : Int) := by omega
      have hkl : k < X.length := by rw [HN.out]; exact h1
      obtain ⟨b, off, rfl, hbb, c0, c1, c2, c3, c4, c5, c6, c7, c8⟩ := (HR.out.keep hbl).ed k hkl; have HSN : Hid (∀ j, sumF ⟨ax, ay⟩ ⟨bx, bY⟩ (X.take (k + 1)) j = sumF ⟨ax, ay⟩ ⟨bx, bY⟩ (X.take k) j + if (X[k].s.f : Int) = j then passF X[k].s.a X[k].s.b ⟨ax, ay⟩ ⟨bx, bY⟩ else 0) := Lib.hid (fun j => by rw [List.take_succ_eq_append_getElem hkl, sumF_snoc]); have HPX := Lib.hid (fun W => HPA.out X[k] ⟨(HOK.out _ (List.getElem_mem hkl)).1, (HOK.out _ (List.getElem_mem hkl)).2.1⟩ W); have hfb := (HOK.out _ (List.getElem_mem hkl)).2.2; have hPbd := passF_bd X[k].s.a X[k].s.b ⟨ax, ay⟩ ⟨bx, bY⟩; have hSbd := fun j => sumF_bd ⟨ax, ay⟩ ⟨bx, bY⟩ (X.take k) j; generalize X[k] = p at *; obtain ⟨⟨f1, r1, ⟨x1, y1⟩, ⟨x2, y2⟩⟩, g1, n1, m1⟩ := p; dsimp only [Ed.val] at c0 c1 c2 c3 c4 c5 c6 c7 c8 HSN HPX hPbd hfb; obtain ⟨PS, hPS⟩ : ∃ z, passF ⟨x1, y1⟩ ⟨x2, y2⟩ ⟨ax, ay⟩ ⟨bx, bY⟩ = z := ⟨_, rfl⟩; rw [hPS] at HSN HPX hPbd; obtain ⟨SF, hSF⟩ : ∃ S, sumF ⟨ax, ay⟩ ⟨bx, bY⟩ (X.take k) = S := ⟨_, rfl⟩; obtain ⟨SG, hSG⟩ : ∃ S, sumF ⟨ax, ay⟩ ⟨bx, bY⟩ (X.take (k + 1)) = S := ⟨_, rfl⟩; have HSG := Lib.hid hSG; have hSf := hSbd f1; rw [List.length_take] at hSf; rw [hSF] at HV HK HSN hSf; rw [hSG] at HSN; clear hPS hSF hSG hSbd; have kE := Blk.new wr [.int .i64 f1, .int .i64 r1, .int .i64 x1, .int .i64 y1, .int .i64 x2, .int .i64 y2, .int .i64 g1, .int .i64 n1, .int .i64 m1] 100; have hbE := Below.new wr (.cells #[.int .i64 f1, .int .i64 r1, .int .i64 x1, .int .i64 y1, .int .i64 x2, .int .i64 y2, .int .i64 g1, .int .i64 n1, .int .i64 m1] 100)
      have HV2 := Lib.hid (HV.out.keep hbE); have kA := KA.out.keep hbE; have kB := KB.out.keep hbE; have hb2 := hbl.trans (hbE.mono hbl.size); have hsz2 : M < (wr.alloc (.cells #[.int .i64 f1, .int .i64 r1, .int .i64 x1, .int .i64 y1, .int .i64 x2, .int .i64 y2, .int .i64 g1, .int .i64 n1, .int .i64 m1] 100)).heap.size := by simp; omega
      obtain ⟨S, hS⟩ : ∃ S, wr.heap.size = S := ⟨_, rfl⟩; rw [hS] at kE; have hSM : M < S := by omega
      have hnS : b ≠ S := by omega
      have z0 := kA.cell 0 rfl; have z1 := kA.cell 1 rfl; have z2 := kB.cell 0 rfl; have z3 := kB.cell 1 rfl; have z4 := kE.cell 0 rfl; have z5 := kE.cell 1 rfl; have z6 := kE.cell 2 rfl; have z7 := kE.cell 3 rfl; have z8 := kE.cell 4 rfl; have z9 := kE.cell 5 rfl; have z10 := kE.cell 6 rfl; have z11 := kE.cell 7 rfl; have z12 := kE.cell 8 rfl; clear HV KA KB hbE
      go_wp2_with fail
      generalize wr.alloc (.cells #[.int .i64 f1, .int .i64 r1, .int .i64 x1, .int .i64 y1, .int .i64 x2, .int .i64 y2, .int .i64 g1, .int .i64 n1, .int .i64 m1] 100) = w1 at *; refine (HPX.out w1).mono ?_; rintro e w2 ⟨rfl, hb3⟩; have HV3 := Lib.hid (HV2.out.keep hb3); have kA := kA.keep hb3; have kB := kB.keep hb3; have kE := kE.keep hb3; have hb4 := hb2.trans (hb3.mono hb2.size); have hsz3 : M < w2.heap.size := Nat.lt_of_lt_of_le hsz2 hb3.size; clear z0 z1 z2 z3 z4 z5 z6 z7 z8 z9 z10 z11 z12 hb3 hb2 HV2 c0 c1 c2 c3 c4 c5 c6 c7 c8 hbb hnS
      by_cases hp : PS = 0
      · have hS2 : SG = SF := funext fun j => by rw [HSN.out j, hp]; simp
        rw [← hS2] at HV3 HK; subst hp; go_wp2; exact ⟨⟨k + 1, m, n, by omega, by go_num, by rw [HSG.out]; exact HV3, by rw [HSG.out]; exact HK, by omega, hsz3, Lib.hid kA, Lib.hid kB, hb4⟩, by simp [intOf]; omega⟩
      · have hp' : ¬ PS = 0 := hp; have z4 := kE.cell 0 rfl; have HKY := Lib.hid (k13.in1Key (f1 : Int) (WalkArith.wf_i64 (by omega))); obtain ⟨T, hT⟩ : ∃ z, SF f1 + PS = z := ⟨_, rfl⟩; have hwT : IntKind.i64.wrap (SF f1 + PS) = T := by rw [hT]; exact IntWalk.i64_in _ (by omega)
        have hg1 : (rndV SF (f1 : Int)).getD (.int .i64 0) = .int .i64 (SF f1) := rndV_getD _ _; have HS1 : Hid (∀ j, j ≠ (f1 : Int) → SG j = SF j) := Lib.hid (fun j hj => by rw [HSN.out j, if_neg (fun e => hj e.symm)]; simp); have HS2 : Hid (SG f1 = T) := Lib.hid (by rw [HSN.out, if_pos rfl, hT]); clear HSN hT; generalize hSe : SF (f1 : Int) = SE at *; have hHK2 := HK.out.put (f1 : Int) (.int .i64 T); have hg2 : (fput (rndV SF) (f1 : Int) (.int .i64 T) (f1 : Int)).getD (.int .i64 0) = .int .i64 T := by rw [fput_same]; rfl
        clear hSe
        by_cases hT0 : T = 0
        · subst hT0; have hHK3 := hHK2.del (f1 : Int); have hS3 := rndV_del SF SG (f1 : Int) (.int .i64 0) HS1.out HS2.out; rw [hS3] at hHK3
          go_wp2_with (first | (at_lookup; refine wpList_vmap_look _ rfl _ _ rfl k13.in1 Try.underlying118 (Try.zeroI _) rfl HV3.out (f1 : Int) rfl HKY.out (.int .i64 SE) hg1 ?_) | (at_lookup; refine wpList_vmap_look _ rfl _ _ rfl k13.in1 Try.underlying118 (Try.zeroI _) rfl hV3 (f1 : Int) rfl HKY.out (.int .i64 0) hg2 ?_) | (at_mapUpdate; refine wpList_vmap_put _ rfl _ _ _ rfl k13.in1 In1.inj Try.underlying118 rfl HV3.out (by unfold maxLen; omega) (f1 : Int) rfl HKY.out (.int .i64 0) rfl ?_; intro w3 hV3 hg3; have kA := kA.grown hg3 (fun e => by cases e; omega); have kB := kB.grown hg3 (fun e => by cases e; omega); have kE := kE.grown hg3 (fun e => by cases e; omega); have hsz4 : M < w3.heap.size := Nat.lt_of_lt_of_le hsz3 hg3.size; have z4 := kE.cell 0 rfl; have hb5 := hb4.grown hg3 hb4.size (fun j hj => by cases hj; omega)) | (at_delete; refine wpList_vmap_del _ rfl _ _ rfl k13.in1 In1.inj Try.underlying118 rfl hV3 (f1 : Int) rfl HKY.out ?_; intro w4 hV4 hg4; have kA := kA.grown hg4 (fun e => by cases e; omega); have kB := kB.grown hg4 (fun e => by cases e; omega); have hsz5 : M < w4.heap.size := Nat.lt_of_lt_of_le hsz4 hg4.size; have hb6 := hb5.grown hg4 hb5.size (fun j hj => by cases hj; omega)) | fail)
          rw [hS3] at hV4; clear hHK2 hV3; go_wp2; exact ⟨⟨k + 1, _, _, by omega, by go_num, Lib.hid (by rw [HSG.out]; exact hV4), Lib.hid (by rw [HSG.out]; exact hHK3), by omega, hsz5, Lib.hid kA, Lib.hid kB, hb6⟩, by simp [intOf]; omega⟩
        · have hT0' : ¬ T = 0 := hT0; have hS3 := rndV_put SF SG (f1 : Int) T HS1.out HS2.out hT0; rw [hS3] at hHK2
          go_wp2_with (first | (at_lookup; refine wpList_vmap_look _ rfl _ _ rfl k13.in1 Try.underlying118 (Try.zeroI _) rfl HV3.out (f1 : Int) rfl HKY.out (.int .i64 SE) hg1 ?_) | (at_lookup; refine wpList_vmap_look _ rfl _ _ rfl k13.in1 Try.underlying118 (Try.zeroI _) rfl hV3 (f1 : Int) rfl HKY.out (.int .i64 T) hg2 ?_) | (at_mapUpdate; refine wpList_vmap_put _ rfl _ _ _ rfl k13.in1 In1.inj Try.underlying118 rfl HV3.out (by unfold maxLen; omega) (f1 : Int) rfl HKY.out (.int .i64 T) rfl ?_; intro w3 hV3 hg3; have kA := kA.grown hg3 (fun e => by cases e; omega); have kB := kB.grown hg3 (fun e => by cases e; omega); have kE := kE.grown hg3 (fun e => by cases e; omega); have hsz4 : M < w3.heap.size := Nat.lt_of_lt_of_le hsz3 hg3.size; have z4 := kE.cell 0 rfl; have hb5 := hb4.grown hg3 hb4.size (fun j hj => by cases hj; omega)) | fail)
          rw [hS3] at hV3; exact ⟨⟨k + 1, _, _, by omega, by go_num, Lib.hid (by rw [HSG.out]; exact hV3), Lib.hid (by rw [HSG.out]; exact hHK2), by omega, hsz4, Lib.hid kA, Lib.hid kB, hb5⟩, by simp [intOf]; omega⟩
    · have h1' : ¬ (k : Int) < (N : Int) := by omega
      obtain rfl : k = N := by omega
      rw [List.take_of_length_le (by rw [HN.out]; exact Nat.le_refl _)] at HV HK; go_wp2; rw [HME.out]; exact bodyPost_ret (v := .map (some M)) (by simp [results, Try.results63, go_sem]) rfl ⟨rfl, ⟨m, n, HV.out, HK.out⟩, hbl⟩
end Go.Proofs.Ytccamjnomjcchaa
/- cover.sided. -/
set_option linter.unusedVariables false
set_option linter.unusedSimpArgs false
set_option maxRecDepth 100000
namespace Go
open Go.RowKit
def sideOk (l : List Ed) (x : Ed) : Prop :=
  (∀ j, sumF x.s.a x.s.b (rowsF l ((x.s.a.y + x.s.b.y) / 2 / 64)) j = if j = (x.s.f : Int) then 1 else 0) ∧ sumF x.s.b x.s.a (rowsF l ((x.s.b.y + x.s.a.y) / 2 / 64)) x.s.f = 0
def IsBool (e : Ending) (P : Prop) : Prop := ∃ bb, e = .returned (.bool bb) ∧ (bb = true ↔ P)
theorem ksz_one {S : Int → Int} {m : Nat} (h : KSz (rndV S) m) (i : Int) (hi : S i = 1) : m = 1 ↔ ∀ j, S j = if j = i then 1 else 0 := by
  obtain ⟨ks, h1, h2, rfl⟩ := h; have hs : ∀ j, j ∈ ks ↔ S j ≠ 0 := fun j => by
    rw [h2]; unfold rndV; split <;> simp_all
  have hin : i ∈ ks := (hs i).2 (by rw [hi]; decide); constructor
  · intro hl j; obtain ⟨k, hk⟩ := List.length_eq_one_iff.1 hl; rw [hk] at hin hs; have hik : i = k := by simpa using hin
    split
    · rename_i e; rw [e]; exact hi
    · rename_i e; have := hs j
      by_cases h0 : S j = 0
      · exact h0
      · have := this.2 h0; simp at this; exact absurd (this.trans hik.symm) e
  · intro hall; have : ∀ j ∈ ks, j = i := fun j hj => by
      by_cases e : j = i
      · exact e
      · have := (hs j).1 hj; rw [hall j, if_neg e] at this; exact absurd rfl this
    match ks, h1, hin, this with
    | [], _, hin, _ => simp at hin
    | [k], _, _, _ => rfl
    | k :: k' :: r, h1, _, this =>
      have e1 := this k (by simp); have e2 := this k' (by simp); simp [e1, e2] at h1
end Go
namespace Go.Proofs.Ytccamjnomjcchaa
open Go.RowKit

set_option maxHeartbeats 6400000 in
theorem sided_any (a : Option Addr) (c : Nat) (l : List Ed) (hlen : l.length ≤ 1000000) (hok : ∀ e ∈ l, okPt e.s.a = true ∧ okPt e.s.b = true ∧ e.s.f ≤ 1000000) (w : World) (hr : Rd w a (eds l)) :
    Calls Try.prog 34 #[.slice a l.length c] w fun e w' => IsBool e (∀ x ∈ l, sideOk l x) ∧ Below w.heap.size w w' := by
  have HR := Lib.hid hr; have HPD := Lib.hid (passed_any a c l hlen (fun e he => ⟨(hok e he).1, (hok e he).2.1⟩) w hr); have hrl : ∀ y, (rowsF l y).length ≤ 1000000 := fun y => Nat.le_trans (List.length_filter_le _ _) hlen; have hro : ∀ y, ∀ e ∈ rowsF l y, okPt e.s.a = true ∧ okPt e.s.b = true ∧ e.s.f ≤ 1000000 := fun y e he => hok e (List.mem_filter.1 he).1; have HRO := Lib.hid (fun B base (p q : Pt) hp hq W hG => round_any B base (rowsF l) p q hp hq hrl hro W hG); have HOK := Lib.hid hok; obtain ⟨N, hN⟩ : ∃ N, l.length = N := ⟨_, rfl⟩; have HN := Lib.hid hN; rw [hN] at hlen HPD ⊢; clear hr hN hok hrl hro
  go_enter Try.func34, Try.ntmps34
  go_wp2_with fail
  refine HPD.out.mono ?_; rintro e w1 ⟨rfl, hG, hb1⟩; have HG := Lib.hid hG; clear hG; go_wp2
  go_loopw [12] (fun i wr => ∃ (k : Nat), k ≤ N ∧ i = .int .i64 k ∧ Hid (∀ x ∈ l.take k, sideOk l x) ∧ Below w1.heap.size w1 wr) (fun i _ => N - (intOf i).toNat)
  case atStart => exact ⟨0, by omega, rfl, Lib.hid (by simp), Below.refl _ _⟩
  case round =>
    obtain ⟨k, hk, rfl, HA, hbl⟩ := hrel
    by_cases h1 : k < N
    · have h1' : (k : Int) < (N : Int) := by omega
      have hkl : k < l.length := by rw [HN.out]; exact h1
      obtain ⟨b, off, rfl, hbb, c0, c1, c2, c3, c4, c5, c6, c7, c8⟩ := ((HR.out.keep hb1).keep hbl).ed k hkl; have HT : Hid (∀ x, x ∈ l.take (k + 1) ↔ x ∈ l.take k ∨ x = l[k]) := Lib.hid (fun x => by rw [List.take_succ_eq_append_getElem hkl, List.mem_append, List.mem_singleton]); have HIN : Hid (l[k] ∈ l) := Lib.hid (List.getElem_mem hkl); obtain ⟨p1, p2, p3⟩ := HOK.out _ (List.getElem_mem hkl); generalize l[k] = p at *; obtain ⟨⟨f1, r1, ⟨x1, y1⟩, ⟨x2, y2⟩⟩, g1, n1, m1⟩ := p; dsimp only at c0 c1 c2 c3 c4 c5 c6 c7 c8 p1 p2 p3; have kE := Blk.new wr [.int .i64 f1, .int .i64 r1, .int .i64 x1, .int .i64 y1, .int .i64 x2, .int .i64 y2, .int .i64 g1, .int .i64 n1, .int .i64 m1] 100; have hbE := Below.new wr (.cells #[.int .i64 f1, .int .i64 r1, .int .i64 x1, .int .i64 y1, .int .i64 x2, .int .i64 y2, .int .i64 g1, .int .i64 n1, .int .i64 m1] 100); have hb2 := hbl.trans (hbE.mono hbl.size); obtain ⟨S, hS⟩ : ∃ S, wr.heap.size = S := ⟨_, rfl⟩; rw [hS] at kE; have hnS : b ≠ S := by omega
      clear hbE; go_wp2; generalize wr.alloc (.cells #[.int .i64 f1, .int .i64 r1, .int .i64 x1, .int .i64 y1, .int .i64 x2, .int .i64 y2, .int .i64 g1, .int .i64 n1, .int .i64 m1] 100) = w2 at *; refine wp_region_lit_txt [0, 1, 2, 3, 4, 5, 6, 8, 9, 10, 11, 12, 13, 14, 16, 17] (fun W => Below w2.heap.size w2 W) (by kernel_rfl) (by kernel_rfl) (by kernel_rfl) (Below.refl _ _).drew ?_; have hb3 : Below w2.heap.size w2 w2.drew := (Below.refl _ _).drew; have HL1 := Lib.hid (HRO.out _ _ ⟨x1, y1⟩ ⟨x2, y2⟩ p1 p2 _ (HG.out.keep (hb2.drew))); generalize w2.drew = w3 at *
      iterate 3 ((refine txt_light ?_ rfl rfl ?_ ?_; rotate_left; · (intro w' hS; (try dsimp only at hS); go_simp; with_reducible rfl)); try simp only [Act.put, List.setIfInBounds_toArray, List.set_cons_zero, List.set_cons_succ])
      refine txt_light (.agg #[.int .i64 x1, .int .i64 y1]) rfl rfl ?_ ?_
      · intro w' hS; have kE := kE.keep hS; have z2 := kE.cell 2 rfl; have z3 := kE.cell 3 rfl; clear hS; go_simp
      try simp only [Act.put, List.setIfInBounds_toArray, List.set_cons_zero, List.set_cons_succ]
      iterate 2 ((refine txt_light ?_ rfl rfl ?_ ?_; rotate_left; · (intro w' hS; (try dsimp only at hS); go_simp; with_reducible rfl)); try simp only [Act.put, List.setIfInBounds_toArray, List.set_cons_zero, List.set_cons_succ])
      refine txt_light (.agg #[.int .i64 x2, .int .i64 y2]) rfl rfl ?_ ?_
      · intro w' hS; have kE := kE.keep hS; have z2 := kE.cell 4 rfl; have z3 := kE.cell 5 rfl; clear hS; go_simp
      try simp only [Act.put, List.setIfInBounds_toArray, List.set_cons_zero, List.set_cons_succ]
      refine txt_call [.map (some w.heap.size), .agg #[.int .i64 x1, .int .i64 y1], .agg #[.int .i64 x2, .int .i64 y2]] Try.f63 rfl rfl Try.func63 (by kernel_rfl) (by kernel_rfl) rfl (HL1.out.mono ?_); rintro e w4 ⟨rfl, hR1, hb4⟩; have hb5 := hb3.trans (hb4.mono hb3.size); refine ⟨_, rfl, hb5, ?_⟩
      try simp only [Act.put, List.setIfInBounds_toArray, List.set_cons_zero, List.set_cons_succ]
      have HL2 := Lib.hid (HRO.out _ _ ⟨x2, y2⟩ ⟨x1, y1⟩ p2 p1 _ (HG.out.keep (hb2.trans (hb5.mono hb2.size))))
      iterate 3 ((refine txt_light ?_ rfl rfl ?_ ?_; rotate_left; · (intro w' hS; (try dsimp only at hS); go_simp; with_reducible rfl)); try simp only [Act.put, List.setIfInBounds_toArray, List.set_cons_zero, List.set_cons_succ])
      refine txt_light (.agg #[.int .i64 x2, .int .i64 y2]) rfl rfl ?_ ?_
      · intro w' hS; have kE := kE.keep hS; have z2 := kE.cell 4 rfl; have z3 := kE.cell 5 rfl; clear hS; go_simp
      try simp only [Act.put, List.setIfInBounds_toArray, List.set_cons_zero, List.set_cons_succ]
      iterate 2 ((refine txt_light ?_ rfl rfl ?_ ?_; rotate_left; · (intro w' hS; (try dsimp only at hS); go_simp; with_reducible rfl)); try simp only [Act.put, List.setIfInBounds_toArray, List.set_cons_zero, List.set_cons_succ])
      refine txt_light (.agg #[.int .i64 x1, .int .i64 y1]) rfl rfl ?_ ?_
      · intro w' hS; have kE := kE.keep hS; have z2 := kE.cell 2 rfl; have z3 := kE.cell 3 rfl; clear hS; go_simp
      try simp only [Act.put, List.setIfInBounds_toArray, List.set_cons_zero, List.set_cons_succ]
      refine txt_call [.map (some w.heap.size), .agg #[.int .i64 x2, .int .i64 y2], .agg #[.int .i64 x1, .int .i64 y1]] Try.f63 rfl rfl Try.func63 (by kernel_rfl) (by kernel_rfl) rfl (HL2.out.mono ?_); rintro e w5 ⟨rfl, hR2, hb6⟩; have hb7 := hb5.trans (hb6.mono hb5.size); refine ⟨_, rfl, hb7, ?_⟩
      try simp only [Act.put, List.setIfInBounds_toArray, List.set_cons_zero, List.set_cons_succ]
      iterate 2 ((refine txt_light ?_ rfl rfl ?_ ?_; rotate_left; · (intro w' hS; (try dsimp only at hS); go_simp; with_reducible rfl)); try simp only [Act.put, List.setIfInBounds_toArray, List.set_cons_zero, List.set_cons_succ])
      refine txt_nil ?_; have HSO : Hid (sideOk l ⟨⟨f1, r1, ⟨x1, y1⟩, ⟨x2, y2⟩⟩, g1, n1, m1⟩ ↔ (∀ j, sumF ⟨x1, y1⟩ ⟨x2, y2⟩ (rowsF l ((y1 + y2) / 2 / 64)) j = if j = (f1 : Int) then 1 else 0) ∧ sumF ⟨x2, y2⟩ ⟨x1, y1⟩ (rowsF l ((y2 + y1) / 2 / 64)) f1 = 0) := Lib.hid Iff.rfl; dsimp only at hR1 hR2; generalize sumF ⟨x1, y1⟩ ⟨x2, y2⟩ (rowsF l ((y1 + y2) / 2 / 64)) = SL at *; generalize sumF ⟨x2, y2⟩ ⟨x1, y1⟩ (rowsF l ((y2 + y1) / 2 / 64)) = SR at *; replace kE := kE.keep hb7; have hb8 := hb2.trans (hb7.mono hb2.size); obtain ⟨m, n, hV1, hK1⟩ := hR1.keep hb6; obtain ⟨m', n', hV2, hK2⟩ := hR2; have hwf : (Lit.int .i64 (f1 : Int)).wf = true := WalkArith.wf_i64 (by omega); have hlq := hV1.len Try.underlying118 3; have hk1 := hV1.look k13.in1 Try.underlying118 (Try.zeroI _) (k13.in1Key (f1 : Int) hwf); have hk2 := hV2.look k13.in1 Try.underlying118 (Try.zeroI _) (k13.in1Key (f1 : Int) hwf); rw [rndV_getD] at hk1 hk2; dsimp only [In1.val] at hk1 hk2; have hone := Lib.hid (ksz_one hK1 (f1 : Int)); have z0 := kE.cell 0 rfl; clear hV1 hK1 hV2 hK2 HL1 HL2 hb3 hb4 hb5 hb6 hb7 c0 c1 c2 c3 c4 c5 c6 c7 c8; generalize w3.heap.size + 1 + 1 = M1 at *; generalize w4.heap.size + 1 + 1 = M2 at *; generalize hv1 : SL (f1 : Int) = v1 at *; generalize hv2 : SR (f1 : Int) = v2 at *; have HV1 := Lib.hid hv1; clear hv1 hv2; have hno : ∀ b : Bool, b = false → ¬ sideOk l ⟨⟨f1, r1, ⟨x1, y1⟩, ⟨x2, y2⟩⟩, g1, n1, m1⟩ → (b = true ↔ ∀ x ∈ l, sideOk l x) := fun b hb hn => ⟨fun h => (by rw [hb] at h; cases h), fun h => absurd (h _ HIN.out) hn⟩
      have HNO := Lib.hid hno; clear hno
      by_cases hm : m = 1
      · by_cases hv : v1 = 1
        · by_cases hv0 : v2 = 0
          · have HA2 : Hid (∀ x ∈ l.take (k + 1), sideOk l x) := Lib.hid (fun x hx => by
              rcases (HT.out x).1 hx with h | rfl
              · exact HA.out x h
              · exact HSO.out.2 ⟨(hone.out hv).1 hm, hv0⟩)
            subst hm; subst hv; subst hv0; go_wp2; exact ⟨⟨k + 1, by omega, by go_num, HA2, hb8⟩, by simp [intOf]; omega⟩
          · have hN : ¬ sideOk l ⟨⟨f1, r1, ⟨x1, y1⟩, ⟨x2, y2⟩⟩, g1, n1, m1⟩ := fun h => hv0 (HSO.out.1 h).2; have HN2 := Lib.hid hN; clear hN; subst hm; subst hv; go_wp2; exact bodyPost_ret (v := .bool false) (by simp [results, Try.results34, go_sem]) rfl ⟨⟨false, rfl, HNO.out _ rfl HN2.out⟩, hb1.trans (hb8.mono hb1.size)⟩
        · have hN : ¬ sideOk l ⟨⟨f1, r1, ⟨x1, y1⟩, ⟨x2, y2⟩⟩, g1, n1, m1⟩ := fun h => hv (by have := (HSO.out.1 h).1 f1; rw [if_pos rfl, HV1.out] at this; exact this); have HN2 := Lib.hid hN; clear hN; subst hm; go_wp2; exact bodyPost_ret (v := .bool false) (by simp [results, Try.results34, go_sem]) rfl ⟨⟨false, rfl, HNO.out _ rfl HN2.out⟩, hb1.trans (hb8.mono hb1.size)⟩
      · have hm' : ¬ (m : Int) = 1 := by omega
        have hN : ¬ sideOk l ⟨⟨f1, r1, ⟨x1, y1⟩, ⟨x2, y2⟩⟩, g1, n1, m1⟩ := fun h => by
          have h2 := (HSO.out.1 h).1; have h3 := h2 f1; rw [if_pos rfl] at h3; exact hm ((hone.out (HV1.out.symm.trans h3)).2 h2)
        have HN2 := Lib.hid hN; clear hN; go_wp2; exact bodyPost_ret (v := .bool false) (by simp [results, Try.results34, go_sem]) rfl ⟨⟨false, rfl, HNO.out _ rfl HN2.out⟩, hb1.trans (hb8.mono hb1.size)⟩
    · have h1' : ¬ (k : Int) < (N : Int) := by omega
      obtain rfl : k = N := by omega
      rw [List.take_of_length_le (by rw [HN.out]; exact Nat.le_refl _)] at HA; go_wp2; exact bodyPost_ret (v := .bool true) (by simp [results, Try.results34, go_sem]) rfl ⟨⟨true, rfl, ⟨fun _ => HA.out, fun _ => rfl⟩⟩, hb1.trans (hbl.mono hb1.size)⟩
end Go.Proofs.Ytccamjnomjcchaa
/- cover.single. -/
set_option linter.unusedVariables false
set_option linter.unusedSimpArgs false
set_option maxRecDepth 100000
namespace Go
open Go.RowKit
def singleF (r : List Pt) : Bool := decide (2 < r.length) && decide r.Nodup && r.all okPt
end Go
namespace Go.Proofs.Ytccamjnomjcchaa
open Go.RowKit

set_option maxHeartbeats 3200000 in
theorem single_any (a : Option Addr) (c : Nat) (r : List Pt) (hlen : r.length ≤ 1000000) (hwf : ∀ p ∈ r, p.Wf) (w : World) (hr : Rd w a (pts r)) :
    Calls Try.prog 30 #[.slice a r.length c] w fun e w' => e = .returned (.bool (singleF r)) ∧ Below w.heap.size w w' := by
  have HR := Lib.hid hr; have HWF := Lib.hid hwf; obtain ⟨SF, hSF⟩ : ∃ S, singleF r = S := ⟨_, rfl⟩; have HSF := Lib.hid hSF; rw [hSF]; obtain ⟨N, hN⟩ : ∃ N, r.length = N := ⟨_, rfl⟩; have HN := Lib.hid hN; have HXR := Lib.hid (fun W h => xright_any a c r (by unfold maxLen; omega) W h); rw [hN] at hlen HXR ⊢; have hmm := @run_makeMap Try.prog; have hS0 := VSet.made Try.prog 46 Pt.val w _ rfl; have hb0 := (Below.refl w.heap.size w).alloc (Nat.le_refl _) (.map #[] 0); clear hr hwf hSF hN
  go_enter Try.func30, Try.ntmps30
  go_wp2; generalize w.alloc (.map #[] 0) = w0 at *
  go_loopw [9] (fun i wr => ∃ (k : Nat), k ≤ N ∧ i = .int .i64 k ∧ Hid (VSet Try.prog 46 Pt.val wr w.heap.size (r.take k)) ∧ Below w.heap.size w wr) (fun i _ => N - (intOf i).toNat)
  case atStart => exact ⟨0, by omega, rfl, Lib.hid hS0, hb0⟩
  case round =>
    obtain ⟨k, hk, rfl, HS, hbl⟩ := hrel
    by_cases h1 : k < N
    · have h1' : (k : Int) < (N : Int) := by omega
      have hkl : k < r.length := by rw [HN.out]; exact h1
      obtain ⟨b, off, rfl, hbb, c0, c1⟩ := (HR.out.keep hbl).pt k hkl; have HT : Hid (r.take (k + 1) = r.take k ++ [r[k]]) := Lib.hid (List.take_succ_eq_append_getElem hkl); have HKEY := Lib.hid (k13.ptKey r[k] (HWF.out _ (List.getElem_mem hkl))); have HKL : Hid ((r.take k).length = k) := Lib.hid (by rw [List.length_take]; omega); generalize r[k] = p at *; obtain ⟨x, y⟩ := p; dsimp only at c0 c1; have hs := hbl.size
      go_wp2_with (first | (at_mapUpdate; refine wpList_vset_put _ rfl _ _ _ rfl k13.pt Pt.inj Try.underlying98 rfl (b := w.heap.size) (l := r.take k) ?_ (by rw [HKL.out]; unfold maxLen; omega) ⟨x, y⟩ rfl HKEY.out rfl ?_) | fail)
      · exact HS.out.kept (World.grownBy_alloc wr _ none) (by simp)
      · intro w' hS' hg'; have hb2 := (hbl.alloc hs (.cells #[.int .i64 x, .int .i64 y] 46)).grown hg' (by simp; omega) (fun j hj => by cases hj; exact Nat.le_refl _); rw [← HT.out] at hS'; clear HT HKEY HS hbl hg' c0 c1; go_wp2; exact ⟨⟨k + 1, by omega, by go_num, Lib.hid hS', hb2⟩, by simp [intOf]; omega⟩
    · have h1' : ¬ (k : Int) < (N : Int) := by omega
      have hall : Hid (r.take k = r) := Lib.hid (List.take_of_length_le (by have := HN.out; omega)); have HS2 := Lib.hid (hall.out ▸ HS.out); clear HS hall
      by_cases h2 : 2 < N
      · have h2' : (2 : Int) < (N : Int) := by omega
        obtain ⟨m, hV, hm, hiff⟩ := HS2.out; have hlq := hV.len Try.underlying98 3; clear hV HS2; rw [HN.out] at hm
        by_cases h3 : m = N
        · have h3' : (m : Int) = (N : Int) := by omega
          have hnd : decide r.Nodup = true := decide_eq_true (hiff.1 (by rw [HN.out]; exact h3)); have HSV : Hid (SF = r.all okPt) := Lib.hid (by rw [← HSF.out]; unfold singleF; rw [hnd, HN.out, decide_eq_true h2]; simp); clear hiff hnd
          go_wp2_with fail
          refine (HXR.out _ (HR.out.keep hbl)).mono ?_; rintro e w1 ⟨rfl, hb1⟩; have hb2 := hbl.trans (hb1.mono hbl.size); rw [← HSV.out]; go_wp2; go_ret; exact ⟨ret_bool rfl, hb2⟩
        · have h3' : ¬ (m : Int) = (N : Int) := by omega
          have HSV : Hid (SF = false) := Lib.hid (by
            rw [← HSF.out]; unfold singleF; rw [decide_eq_false (p := r.Nodup) (fun h => h3 (by rw [hiff.2 h, HN.out]))]; simp)
          clear hiff; go_wp2; go_ret; exact ⟨ret_bool (by rw [HSV.out]), hbl⟩
      · have h2' : ¬ (2 : Int) < (N : Int) := by omega
        have HSV : Hid (SF = false) := Lib.hid (by
          rw [← HSF.out]; unfold singleF; rw [HN.out, decide_eq_false h2]; simp)
        go_wp2; go_ret; exact ⟨ret_bool (by rw [HSV.out]), hbl⟩
end Go.Proofs.Ytccamjnomjcchaa
/- What cover.Valid tells (plain). -/
set_option linter.unusedVariables false
set_option linter.unusedSimpArgs false
namespace Go
open Go.RowKit
theorem mem_ringEd {i k g : Nat} {r : List Pt} {e : Ed} : e ∈ ringEd i k g r ↔ ∃ n, n < r.length ∧ e = ⟨⟨i, k, r[n]!, r[(n + 1) % r.length]!⟩, g, n, r.length⟩ := by
  unfold ringEd; rw [List.mem_map]; constructor
  · rintro ⟨n, hn, rfl⟩; exact ⟨n, List.mem_range.1 hn, rfl⟩
  · rintro ⟨n, hn, rfl⟩; exact ⟨n, List.mem_range.2 hn, rfl⟩
theorem mem_allEd {F : List (List (List Pt))} {e : Ed} : e ∈ allEd F ↔ ∃ i k n : Nat, i < F.length ∧ k < (F[i]!).length ∧ n < ((F[i]!)[k]!).length ∧ e = ⟨⟨i, k, ((F[i]!)[k]!)[n]!, ((F[i]!)[k]!)[(n + 1) % ((F[i]!)[k]!).length]!⟩, cntR (F.take i) + k, n, ((F[i]!)[k]!).length⟩ := by
  unfold allEd someEd faceEd; constructor
  · intro h; obtain ⟨i, hi, h⟩ := List.mem_flatMap.1 h; obtain ⟨k, hk, h⟩ := List.mem_flatMap.1 h; obtain ⟨n, hn, rfl⟩ := mem_ringEd.1 h; exact ⟨i, k, n, List.mem_range.1 hi, List.mem_range.1 hk, hn, rfl⟩
  · rintro ⟨i, k, n, hi, hk, hn, rfl⟩; exact List.mem_flatMap.2 ⟨i, List.mem_range.2 hi, List.mem_flatMap.2 ⟨k, List.mem_range.2 hk, mem_ringEd.2 ⟨n, hn, rfl⟩⟩⟩
theorem mem_getE {α : Type} [Inhabited α] {l : List α} {n : Nat} (h : n < l.length) : l[n]! ∈ l := by
  rw [getElem!_pos l n h]; exact List.getElem_mem h
theorem ed_in {F : List (List (List Pt))} {e : Ed} (h : e ∈ allEd F) : ∃ f ∈ F, ∃ r ∈ f, e.s.a ∈ r ∧ e.s.b ∈ r ∧ e.n < e.m ∧ e.m = r.length ∧ e.s.f < F.length := by
  obtain ⟨i, k, n, hi, hk, hn, rfl⟩ := mem_allEd.1 h; exact ⟨F[i]!, mem_getE hi, (F[i]!)[k]!, mem_getE hk, mem_getE hn, mem_getE (Nat.mod_lt _ (by omega)), hn, rfl, hi⟩
def rightR (F : List (List (List Pt))) : Bool := F.all fun f => f.all singleF
def ValidIs (F : List (List (List Pt))) (x : Int) : Prop :=
  (rightR F = false ∧ x = 9) ∨ (rightR F = true ∧ ∃ y, MeetsIs (allEd F) y ∧ ((y ≠ 0 ∧ x = y) ∨ (y = 0 ∧ ((twiceF (allEd F) = true ∧ x = 8) ∨ (twiceF (allEd F) = false ∧ ((¬ (∀ e ∈ allEd F, sideOk (allEd F) e) ∧ x = 11) ∨ ((∀ e ∈ allEd F, sideOk (allEd F) e) ∧ x = 0)))))))
theorem right_ok {F : List (List (List Pt))} (h : rightR F = true) {f : List (List Pt)} (hf : f ∈ F) {r : List Pt} (hr : r ∈ f) {p : Pt} (hp : p ∈ r) : okPt p = true := by
  have h1 := List.all_eq_true.1 (List.all_eq_true.1 h f hf) r hr; unfold singleF at h1; simp only [Bool.and_eq_true] at h1; exact List.all_eq_true.1 h1.2 p hp
theorem right_ed {F : List (List (List Pt))} (h : rightR F = true) : ∀ e ∈ allEd F, okPt e.s.a = true ∧ okPt e.s.b = true := by
  intro e he; obtain ⟨f, hf, r, hr, ha, hb, -⟩ := ed_in he; exact ⟨right_ok h hf hr ha, right_ok h hf hr hb⟩
end Go
/- slices.ContainsFunc of rings that are not right (cover.Valid). -/
set_option linter.unusedVariables false
set_option linter.unusedSimpArgs false
set_option maxRecDepth 100000
namespace Go.Proofs.Ytccamjnomjcchaa
open Go.RowKit

set_option maxHeartbeats 800000 in
theorem valid1_any (x : PC) (hlen : x.l.length ≤ 1000000) (hwf : ∀ p ∈ x.l, p.Wf) (w : World) (hr : Rd w x.p (pts x.l)) :
    Calls Try.prog 29 #[x.val] w fun e w' => e = .returned (.bool (!singleF x.l)) ∧ Below w.heap.size w w' := by
  have H := Lib.hid (single_any x.p x.c x.l hlen hwf w hr); generalize singleF x.l = BB at *; obtain ⟨l, a, c⟩ := x; dsimp only [PC.val] at *; generalize l.length = N at *; clear hwf hr
  go_enter Try.func29, Try.ntmps29
  go_wp2_with fail
  refine H.out.mono ?_; rintro e w1 ⟨rfl, hb1⟩
  cases BB with
  | true =>
    go_wp2; go_ret; exact ⟨rfl, hb1⟩
  | false =>
    go_wp2; go_ret; exact ⟨rfl, hb1⟩

set_option maxHeartbeats 1600000 in
theorem indexS_any (a : Option Addr) (c : Nat) (L : List PC) (hlen : L.length ≤ 1000000) (hl2 : ∀ r ∈ L, r.l.length ≤ 1000000) (hwf : ∀ r ∈ L, ∀ p ∈ r.l, p.Wf) (w : World) (hr : Rd w a (rcs L)) (hok : ∀ r ∈ L, r.Ok w) :
    Calls Try.prog 55 #[.slice a L.length c, .func (.func 29) #[] #[]] w fun e w' => ∃ z : Int, e = .returned (.int .i64 z) ∧ Hid (0 ≤ z ↔ (L.map PC.l).all singleF = false) ∧ Below w.heap.size w w' := by
  have HR := Lib.hid hr; have HOK := Lib.hid hok; have HWF := Lib.hid hwf; have HL2 := Lib.hid hl2; obtain ⟨N, hN⟩ : ∃ N, L.length = N := ⟨_, rfl⟩; have HN := Lib.hid hN; rw [hN] at hlen ⊢; obtain ⟨AB, hAB⟩ : ∃ B, (L.map PC.l).all singleF = B := ⟨_, rfl⟩; have HAB := Lib.hid hAB; rw [hAB]; clear hr hN hAB hok hwf hl2
  go_enter Try.func55, Try.ntmps55
  go_wp2
  go_loopw [8] (fun i wr => ∃ k : Nat, k ≤ N ∧ i = .int .i64 k ∧ Hid (((L.take k).map PC.l).all singleF = true) ∧ Below w.heap.size w wr) (fun i _ => N - (intOf i).toNat)
  case atStart => exact ⟨0, by omega, rfl, Lib.hid rfl, Below.refl _ _⟩
  case round =>
    obtain ⟨k, hk, rfl, HA, hbl⟩ := hrel
    by_cases h1 : k < N
    · have h1' : (k : Int) < (N : Int) := by omega
      have hkl : k < L.length := by rw [HN.out]; exact h1
      obtain ⟨b, o, rfl, hb, c0⟩ := (HR.out.keep hbl).rc k hkl; have hm := List.getElem_mem hkl; have HM := Lib.hid hm; have HT : Hid (L.take (k + 1) = L.take k ++ [L[k]]) := Lib.hid (List.take_succ_eq_append_getElem hkl); have HCP := Lib.hid (valid1_any L[k] (HL2.out _ hm) (HWF.out _ hm) wr ((HOK.out _ hm).keep hbl).1); clear hm; generalize L[k] = P at *; obtain ⟨BB, hBB⟩ : ∃ B, singleF P.l = B := ⟨_, rfl⟩; rw [hBB] at HCP; have HBB := Lib.hid hBB; clear hBB; obtain ⟨pl, pp, pc⟩ := P; dsimp only [PC.val] at c0 HCP
      go_wp2_with fail
      refine HCP.out.mono ?_; rintro e w1 ⟨rfl, hb1⟩; have hb2 := hbl.trans (hb1.mono hbl.size)
      cases BB with
      | true =>
        have HA2 : Hid (((L.take (k + 1)).map PC.l).all singleF = true) := Lib.hid (by rw [HT.out, List.map_append, List.all_append, HA.out]; simp [HBB.out]); go_wp2; exact ⟨⟨k + 1, by omega, by go_num, HA2, hb2⟩, by simp [intOf]; omega⟩
      | false =>
        have HF : Hid (AB = false) := Lib.hid (by rw [← HAB.out, List.all_eq_false]; exact ⟨_, List.mem_map.2 ⟨_, HM.out, rfl⟩, by rw [HBB.out]; simp⟩); go_wp2; go_ret; exact ⟨k, rfl, Lib.hid ⟨fun _ => HF.out, fun _ => by omega⟩, hb2⟩
    · have h1' : ¬ (k : Int) < (N : Int) := by omega
      have hall : L.take k = L := List.take_of_length_le (by rw [HN.out]; omega); have HAT : Hid (AB = true) := Lib.hid (by rw [← HAB.out, ← hall]; exact HA.out); clear hall; go_wp2; go_ret; exact ⟨-1, rfl, Lib.hid ⟨fun h => by omega, fun h => by rw [HAT.out] at h; cases h⟩, hbl⟩

set_option maxHeartbeats 800000 in
theorem containsS_any (a : Option Addr) (c : Nat) (L : List PC) (hlen : L.length ≤ 1000000) (hl2 : ∀ r ∈ L, r.l.length ≤ 1000000) (hwf : ∀ r ∈ L, ∀ p ∈ r.l, p.Wf) (w : World) (hr : Rd w a (rcs L)) (hok : ∀ r ∈ L, r.Ok w) :
    Calls Try.prog 28 #[.slice a L.length c, .func (.func 29) #[] #[]] w fun e w' => e = .returned (.bool (!(L.map PC.l).all singleF)) ∧ Below w.heap.size w w' := by
  have H := Lib.hid (indexS_any a c L hlen hl2 hwf w hr hok); generalize (L.map PC.l).all singleF = BB at *; generalize L.length = N at *; clear hr hok hwf hl2
  go_enter Try.func28, Try.ntmps28
  go_wp2_with fail
  refine H.out.mono ?_; rintro e w1 ⟨z, rfl, HZ, hb⟩
  by_cases q : 0 ≤ z
  · go_wp2; go_ret; exact ⟨by rw [HZ.out.1 q]; simp [q], hb⟩
  · have e1 : BB = true := by
      cases BB with
      | true => rfl
      | false => exact absurd (HZ.out.2 rfl) q
    have HE := Lib.hid e1; clear e1; go_wp2; go_ret; exact ⟨by rw [HE.out]; simp [q], hb⟩
end Go.Proofs.Ytccamjnomjcchaa
/- A staged region (XStage), inside a round of a range over a function. -/
set_option linter.unusedVariables false
set_option linter.unusedSimpArgs false
namespace Go
open Go.RowKit
theorem wpIn_region_stage {P : Program} {ops : Array Oper} {Q : Exit → Act → World → Prop} {l m : Nat} {id : Nat} {a : Act} {w : World} (n : Nat) (lts H F : List Nat) (S I : World → Prop) (hn : ops.size = n) (hm : P.follows .mixedOrders = true) (hs : Region.noSelect ops = true) (hd : noDefer ops = true)
    (h : wpStg P ops (lts.contains ·) (OnlyQ Q) S I H F n (Array.replicate n false) a w.drew) : (Code.region id ops true).wpIn (Fence.wide.inRound l) m P Q a w := by
  subst hn; refine wpIn_mono ?_ OnlyQ.imp; refine wpIn_region_any hm ?_; refine wpAnyIn_of_any hd onlyQ_letsOut .any _ _ _ _ ?_; refine wpAny_of_G (S := S) (I := I) (H := H) (F := F) _ _ _ _ ?_; exact wpStg_sound hs (fun c a w h => h) _ _ _ _ h
end Go
