/-
  The chapter's example. graticulelaw10.Cut. graticulelaw30.Cut. The document's faces in memory.
-/
import Derived.Test.YtkfgbjjelcigcaaGreatDoorPk14
import Derived.Test.YtkfgbjjelcigcaaGreatDoorPk2
import Derived.Test.YtkfgbjjelcigcaaGreatDoorPk3
import Derived.Test.YtkfgbjjelcigcaaGreatDoorPk12
import Derived.Test.YtkfgbjjelcigcaaGreatDoorPk13
import Derived.Test.YtkfgbjjelcigcaaGreatDoorPk7
import Derived.OneCell
/- The chapter's example. -/
set_option linter.unusedVariables false
set_option linter.unusedSimpArgs false
set_option maxRecDepth 100000
namespace Go
open Go.RowKit
theorem chkI_core {x y : It} (h : x.core = y.core) : chkI x = chkI y := by
  cases x; cases y
  simp only [It.core, Prod.mk.injEq] at h; obtain ⟨rfl, rfl, rfl, rfl⟩ := h
  rfl
theorem stepF_core {x y : It} (h : x.core = y.core) (s : FS) : stepF s x = stepF s y := by
  cases x; cases y
  simp only [It.core, Prod.mk.injEq] at h; obtain ⟨rfl, rfl, rfl, rfl⟩ := h
  rfl
theorem kind_core {x y : It} (h : x.core = y.core) : x.kind = y.kind := congrArg (·.1) h
theorem foldG_core : ∀ (G X : List It) (s : FS) (i : Nat), G.map It.core = X.map It.core → foldG s i G = foldG s i X
  | [], [], _, _, _ => rfl
  | [], _ :: _, _, _, h => by simp at h
  | _ :: _, [], _, _, h => by simp at h
  | g :: G, x :: X, s, i, h => by
    simp only [List.map_cons, List.cons.injEq] at h; unfold foldG; rw [chkI_core h.1, kind_core h.1, stepF_core h.1, foldG_core G X _ _ h.2]
def X0 : List It := [⟨1, [5], ⟨#[]⟩, vZ, none, 0⟩, ⟨4, [], ⟨#[]⟩, vZ, none, 0⟩, ⟨5, [0, 0, 16, 0, 0, 16], ⟨#[]⟩, vZ, none, 0⟩, ⟨6, [], ⟨#[110, 97, 109, 101]⟩, (1, ⟨#[97, 32, 98]⟩, 0), none, 0⟩, ⟨8, [4, 1, 1, 1], ⟨#[]⟩, vZ, none, 0⟩]
theorem itoa_0 : Lib.itoa 0 = [48] := by simp [Lib.itoa, Lib.decDigits]
theorem itoa_1 : Lib.itoa 1 = [49] := by simp [Lib.itoa, Lib.decDigits]
theorem itoa_4 : Lib.itoa 4 = [52] := by simp [Lib.itoa, Lib.decDigits]
theorem itoa_5 : Lib.itoa 5 = [53] := by simp [Lib.itoa, Lib.decDigits]
theorem itoa_16 : Lib.itoa 16 = [49, 54] := by simp [Lib.itoa, Lib.decDigits]
theorem chk_X0 : ∀ x ∈ X0, chkI x = 0 := by
  intro x hx; simp only [X0, List.mem_cons, List.not_mem_nil, or_false] at hx
  rcases hx with rfl | rfl | rfl | rfl | rfl <;> kernel_rfl
theorem text_X0 : textF X0 ++ [] = [98, 117, 102, 102, 101, 114, 32, 53, 10, 102, 97, 99, 101, 10, 114, 105, 110, 103, 32, 48, 32, 48, 32, 49, 54, 32, 48, 32, 48, 32, 49, 54, 10, 97, 116, 116, 114, 32, 110, 97, 109, 101, 32, 34, 97, 32, 98, 34, 10, 108, 111, 99, 97, 116, 101, 32, 52, 32, 49, 32, 49, 32, 49, 10] := by
  have hq : quoteF ⟨#[97, 32, 98]⟩ = [34, 97, 32, 98, 34] := by kernel_rfl
  simp [textF, X0, lineF, rest6, tl, pw, vw, itoa_0, itoa_1, itoa_4, itoa_5, itoa_16, hq, kwS, kws]
theorem fold_X0 : foldG fs0 0 X0 = (⟨[([[⟨0, 0⟩, ⟨16, 0⟩, ⟨0, 16⟩]], [⟨⟨#[110, 97, 109, 101]⟩, 1, ⟨#[97, 32, 98]⟩, 0⟩])], 5, 0, [], [(8, [4, 1, 1, 1], ⟨#[]⟩, vZ)]⟩, 0, 0) := by kernel_rfl
end Go
namespace Go.Proofs.YtkfgbjjelcigcaaGreatDoor
open Go.RowKit
set_option maxHeartbeats 3200000 in
theorem known30_any (w : World) :
    Calls Tryz.prog 9 #[] w fun e w' => e = .returned (.bool true) ∧ Below w.heap.size w w' := by
  have HP := Lib.hid (iparse_any X0 chk_X0 [] RT.nil (by rw [text_X0]; decide) w); rw [text_X0] at HP
  go_enter Tryz.func9, Tryz.ntmps9
  go_wp2_with fail
  refine HP.out.mono ?_; intro e w1 hpost
  rcases hpost with ⟨-, G, p, c, rfl, hG, hown, hIT, hb1⟩ | ⟨h, -⟩
  · have hl : G.length = 5 := by
      have := congrArg List.length hG
      simpa [X0] using this
    obtain ⟨p', c', e, q1, q2, q3, q4, -⟩ := hown.form
    cases e
    have hcore : ∀ g ∈ G, g.n.length ≤ 100000 ∧ g.Sz := by
      intro g hg; have h1 : g.core ∈ X0.map It.core := by rw [← hG]; exact List.mem_map_of_mem hg
      simp only [X0, List.map_cons, List.map_nil, It.core, List.mem_cons, List.not_mem_nil, or_false, Prod.mk.injEq] at h1; unfold It.Sz maxLen
      rcases h1 with ⟨_, e1, e2, e3⟩ | ⟨_, e1, e2, e3⟩ | ⟨_, e1, e2, e3⟩ | ⟨_, e1, e2, e3⟩ | ⟨_, e1, e2, e3⟩ <;> (rw [e1, e2, e3]; decide)
    have HFD := Lib.hid (fold_any p c G q1 q2 (by omega) (fun g hg => (hcore g hg).1) (fun g hg => (hcore g hg).2) w1 q4 (fun g hg => (hIT g hg).1)); have hfe := foldG_core G X0 fs0 0 hG; rw [fold_X0] at hfe; have HFE := Lib.hid hfe; rw [hl] at HFD; rw [hl]; clear HP hG hown hIT hcore hfe q4
    go_wp2_with fail
    refine HFD.out.mono ?_; intro e w2 hp2; unfold FoldPost at hp2; rw [HFE.out] at hp2; obtain ⟨LF, fp, fc, zp, zc, G2, ap, ac, rfl, h1, h2, h3, h4, h5, h6, h7, hb2⟩ := hp2; dsimp only at h1 h2 h3 h5; have hl1 : LF.length = 1 := by have := congrArg List.length h1; simpa using this
    have hl2 : G2.length = 1 := by have := congrArg List.length h2; simpa using this
    obtain ⟨f, rfl⟩ : ∃ f, LF = [f] := by
      match LF, hl1 with
      | [f], _ => exact ⟨f, rfl⟩
    simp only [List.map_cons, List.map_nil, Fc.tell, List.cons.injEq, and_true, Prod.mk.injEq] at h1; have hr1 : f.rs.length = 1 := by
      have := congrArg List.length h1.1
      simpa [Fc.rings] using this
    have ha1 : f.ls.length = 1 := by rw [h1.2]; rfl
    have hbw := hb1.trans (hb2.mono hb1.size); have hrd := Rd.of_owns h3; obtain ⟨fb, fo, rfl, hfb, cr, ca⟩ := hrd.fc 0 (by simp); simp only [List.getElem_cons_zero, Nat.zero_mul, Nat.add_zero, Fc.rval, Fc.aval, hr1, ha1] at cr ca; rw [hl2]; simp only [List.length_cons, List.length_nil, Nat.zero_add]; have hbx := Below.new w2 (.cells #[.slice (some ⟨fb, fo, none⟩) 1 fc, .int .i64 5, .int .i64 0, .slice zp 0 zc] 27); obtain ⟨B, hB⟩ : ∃ B, w2.heap.size = B := ⟨_, rfl⟩; have bB := Blk.lit w2 B [.slice (some ⟨fb, fo, none⟩) 1 fc, .int .i64 5, .int .i64 0, .slice zp 0 zc] 27 hB; have e0 := bB.cell 0 rfl; have e1 := bB.cell 1 rfl; have e2 := (hbx.cell (p := ⟨fb, fo, none⟩) hfb).trans cr; have e3 := (hbx.cell (p := ⟨fb, fo + 1, none⟩) hfb).trans ca; have hbz := hbw.trans (hbx.mono hbw.size); clear HFD HFE h1 h2 h3 h4 h5 h6 h7 hrd cr ca hbx hbw hb1 hb2; go_wp2; go_ret; exact ⟨rfl, hbz⟩
  · exact absurd rfl h
end Go.Proofs.YtkfgbjjelcigcaaGreatDoor
/- graticulelaw10.Cut. -/
set_option linter.unusedVariables false
set_option linter.unusedSimpArgs false
set_option maxRecDepth 100000
namespace Go.Proofs.YtkfgbjjelcigcaaGreatDoor
open Go.RowKit
set_option maxHeartbeats 1000000 in
theorem vcut_any (k n : Int) (t : ByteArray) (ht : t.size ≤ maxLen) (w : World) :
    Calls Tryz.prog 21 #[vVal (k, t, n)] w fun e w' => e = .returned (vVal (k, t.extract 0 (min t.size 100), n)) ∧ Below w.heap.size w w' := by
  have ht2 : t.size ≤ 9223372036854775807 := by unfold maxLen at ht; omega
  dsimp only [vVal]
  go_enter Tryz.func21, Tryz.ntmps21
  by_cases h : 100 < t.size
  · have h2 : (100 : Int) < (t.size : Int) := by omega
    have hm : min (t.size : Int) 100 = 100 := by omega
    go_wp2; refine bodyPost_ret (v := .agg #[.int .i64 k, .string (t.extract 0 (min t.size 100)), .int .i64 n]) ?_ rfl ⟨rfl, (Below.new w _).alloc (by simp) _⟩; have q := Blk.lit (w.alloc (.cells #[.int .i64 k, .string (t.extract 0 100), .int .i64 n] 44)) (w.heap.size + 1) [.int .i64 k, .string (t.extract 0 100), .int .i64 n] 44 (by simp); have q0 := q.cell 0 rfl; have q1 := q.cell 1 rfl; have q2 := q.cell 2 rfl; rw [show min t.size 100 = 100 by omega]; simp [results, Tryz.results21, go_sem, q0, q1, q2]
  · have h2 : ¬ (100 : Int) < (t.size : Int) := by omega
    have hm : min (t.size : Int) 100 = (t.size : Int) := by omega
    go_wp2; refine bodyPost_ret (v := .agg #[.int .i64 k, .string (t.extract 0 (min t.size 100)), .int .i64 n]) ?_ rfl ⟨rfl, (Below.new w _).alloc (by simp) _⟩; have q := Blk.lit (w.alloc (.cells #[.int .i64 k, .string t, .int .i64 n] 44)) (w.heap.size + 1) [.int .i64 k, .string t, .int .i64 n] 44 (by simp); have q0 := q.cell 0 rfl; have q1 := q.cell 1 rfl; have q2 := q.cell 2 rfl; rw [show min t.size 100 = t.size by omega, show t.extract 0 t.size = t by simp]; simp [results, Tryz.results21, go_sem, q0, q1, q2]
end Go.Proofs.YtkfgbjjelcigcaaGreatDoor
/- graticulelaw30.Cut. -/
set_option linter.unusedVariables false
set_option linter.unusedSimpArgs false
set_option maxRecDepth 100000
namespace Go
open Go.RowKit
def cutIt (m : Nat) (x : It) : It := ⟨x.kind, x.n.take m, x.key.extract 0 (min x.key.size 100), (x.v.1, x.v.2.1.extract 0 (min x.v.2.1.size 100), x.v.2.2), x.np, x.nc⟩
def szN (l : List It) : Nat := (l.map fun x => x.n.length).sum
def cutG (X : List It) : List It := X.foldl (fun Y x => Y ++ [cutIt (610 - szN Y) x]) []
theorem cutG_snoc (X : List It) (x : It) : cutG (X ++ [x]) = cutG X ++ [cutIt (610 - szN (cutG X)) x] := by simp [cutG, List.foldl_append]
theorem szN_snoc (X : List It) (x : It) : szN (X ++ [x]) = szN X + x.n.length := by simp [szN]
theorem list_snoc_ind {α : Type} {P : List α → Prop} (h0 : P []) (h1 : ∀ X x, P X → P (X ++ [x])) (X : List α) : P X := by
  have : ∀ Y : List α, P Y.reverse := by
    intro Y
    induction Y with
    | nil => exact h0
    | cons a Y ih => rw [List.reverse_cons]; exact h1 _ _ ih
  have h := this X.reverse
  rwa [List.reverse_reverse] at h
theorem cutG_sz (X : List It) : szN (cutG X) ≤ 610 := by
  induction X using list_snoc_ind with
  | h0 => simp [cutG, szN]
  | h1 X x ih => rw [cutG_snoc, szN_snoc]; simp only [cutIt, List.length_take]; omega
theorem cutG_len (X : List It) : (cutG X).length = X.length := by
  induction X using list_snoc_ind with
  | h0 => rfl
  | h1 X x ih => rw [cutG_snoc, List.length_append, List.length_append, ih]; rfl
theorem cutIt_ok {W : World} {x : It} (h : x.Ok W) (m : Nat) : (cutIt m x).Ok W :=
  ⟨by show Rd W x.np ((x.n.take m).map _); rw [List.map_take]; exact h.1.take m, by have := h.2.1; simp [cutIt]; omega, h.2.2.1, h.2.2.2⟩
def It.Cut (x : It) : Prop := x.key.size ≤ 100 ∧ x.v.2.1.size ≤ 100 ∧ x.n.length ≤ 610
theorem cutIt_cut (m : Nat) (hm : m ≤ 610) (x : It) : (cutIt m x).Cut := by
  refine ⟨?_, ?_, ?_⟩
  · simp [cutIt]; omega
  · simp [cutIt]; omega
  · simp [cutIt]; omega
theorem cutG_mem {P : It → Prop} (X : List It) (h : ∀ x ∈ X, ∀ m ≤ 610, P (cutIt m x)) : ∀ y ∈ cutG X, P y := by
  induction X using list_snoc_ind with
  | h0 => intro y hy; cases hy
  | h1 X x ih =>
    rw [cutG_snoc]; intro y hy
    rcases List.mem_append.1 hy with hy | hy
    · exact ih (fun z hz => h z (List.mem_append_left _ hz)) y hy
    · rw [List.mem_singleton.1 hy]; exact h x (by simp) _ (by omega)
end Go
namespace Go.Proofs.YtkfgbjjelcigcaaGreatDoor
open Go.RowKit
set_option maxHeartbeats 4000000 in
theorem icut_any (a : Option Addr) (c : Nat) (X : List It) (hlc : X.length ≤ c) (hcm : c ≤ maxLen) (w : World) (hok : ∀ x ∈ X, x.Ok w ∧ x.Sz) (hr : Rd w a (its X)) :
    Calls Tryz.prog 5 #[.slice a X.length c] w fun e w' => ∃ v, e = .returned v ∧ w'.ownsRow w.heap.size 46 6 v (cutG (X.take 40)).length (its (cutG (X.take 40))) ∧ Below w.heap.size w w' := by
  have HC := Lib.hid (fun k n s hs w => vcut_any k n s hs w); have HOK := Lib.hid hok; have HR := Lib.hid hr; unfold maxLen at hcm; obtain ⟨N, hN⟩ : ∃ N, X.length = N := ⟨_, rfl⟩; have HN := Lib.hid hN; rw [hN] at hlc ⊢; have hml : (cutG (X.take 40)).length = min 40 N := by rw [cutG_len, List.length_take, hN]
  rw [hml]; clear hr hN hok hml
  go_enter Tryz.func5, Tryz.ntmps5
  go_wp2
  go_loopw [3, 4, 5] (fun o s i wr => ∃ k : Nat, k ≤ N ∧ k ≤ 40 ∧ i = .int .i64 k ∧ s = .int .i64 (szN (cutG (X.take k)) : Nat) ∧ wr.ownsRow w.heap.size 46 6 o k (its (cutG (X.take k))) ∧ Below w.heap.size w wr) (fun _ _ i _ => 40 - (intOf i).toNat)
  case atStart => exact ⟨0, by omega, by omega, rfl, rfl, World.ownsRow_nil _ _ _ _, Below.refl _ _⟩
  case round =>
    obtain ⟨i, hi, hi10, rfl, rfl, ho, hbl⟩ := hrel
    by_cases hlt : i < N ∧ i < 40
    · obtain ⟨h1, h2⟩ := hlt; have h1' : (i : Int) < (N : Int) := by omega
      have h2' : (i : Int) < 40 := by omega
      have hil : i < X.length := by rw [HN.out]; exact h1
      obtain ⟨b1, o1, rfl, hbb, c0, c1, c2, c3, c4, c5⟩ := (HR.out.keep hbl).it i hil; obtain ⟨⟨-, k1, k2, -⟩, k3, k4⟩ := HOK.out X[i] (List.getElem_mem hil); have hsz := cutG_sz (X.take i); have HSN : Hid (its (cutG (X.take (i + 1))) = its (cutG (X.take i)) ++ (cutIt (610 - szN (cutG (X.take i))) X[i]).cells) := Lib.hid (by
        rw [List.take_succ_eq_append_getElem hil, cutG_snoc, its_snoc])
      have HSZ : Hid (szN (cutG (X.take (i + 1))) = szN (cutG (X.take i)) + min (610 - szN (cutG (X.take i))) X[i].n.length) := Lib.hid (by
        rw [List.take_succ_eq_append_getElem hil, cutG_snoc, szN_snoc]; simp [cutIt])
      generalize szN (cutG (X.take i)) = SZ at *; have hcc : (cutIt (610 - SZ) X[i]).cells = [.int .i64 X[i].kind, .slice X[i].np (min (610 - SZ) X[i].n.length) X[i].nc, .string (X[i].key.extract 0 (min X[i].key.size 100)), .int .i64 X[i].v.1, .string (X[i].v.2.1.extract 0 (min X[i].v.2.1.size 100)), .int .i64 X[i].v.2.2] := by
        simp [cutIt, It.cells, It.nval]
      rw [hcc] at HSN; have HC10 := Lib.hid (fun w => HC.out X[i].v.1 X[i].v.2.2 X[i].v.2.1 k4 w); dsimp only [vVal] at HC10; unfold It.nval at c1; clear hcc k4; generalize X[i].v.2.1.extract 0 (min X[i].v.2.1.size 100) = T2 at *; generalize X[i].kind = kd at *; generalize X[i].v.2.1 = T1 at *; generalize X[i].v.1 = v1 at *; generalize X[i].v.2.2 = v3 at *; generalize X[i].np = np at *; generalize X[i].nc = nc at *; generalize X[i].n.length = NL at *; generalize X[i].key = K1 at *; obtain ⟨K2, hK2⟩ : ∃ K, K1.extract 0 (min K1.size 100) = K := ⟨_, rfl⟩; rw [hK2] at HSN; obtain ⟨z0, hz0⟩ : ∃ z : Int, (if (100 : Int) < (K1.size : Int) then (100 : Int) else (K1.size : Int)) = z := ⟨_, rfl⟩; have e0 : z0.toNat = min K1.size 100 := by rw [← hz0]; split <;> omega
      have hz1 : 0 ≤ z0 ∧ z0 ≤ (K1.size : Int) := by rw [← hz0]; split <;> omega
      have hzm : min (K1.size : Int) 100 = z0 := by rw [← hz0]; split <;> omega
      obtain ⟨ZN, hZN⟩ : ∃ z, min (610 - SZ) NL = z := ⟨_, rfl⟩; rw [hZN] at HSN HSZ; have hy0 : (if (610 - (SZ : Int)) < (NL : Int) then (610 - (SZ : Int)) else (NL : Int)) = (ZN : Int) := by split <;> omega
      have hym : min (NL : Int) (610 - (SZ : Int)) = (ZN : Int) := by omega
      have hyn : ZN ≤ nc := by omega
      have hyl : ZN ≤ 610 := by omega
      unfold maxLen at k2 k3; go_wp2; have hb0 := hbl.alloc hbl.size (.cells #[.int .i64 kd, .slice np ZN nc, .string K1, .int .i64 v1, .string T1, .int .i64 v3] 46); have ho0 := ho.below (Below.new wr (.cells #[.int .i64 kd, .slice np ZN nc, .string K1, .int .i64 v1, .string T1, .int .i64 v3] 46)); obtain ⟨C, hC⟩ : ∃ C, wr.heap.size = C := ⟨_, rfl⟩; have bC0 := BT.lit wr C [.int .i64 kd, .slice np ZN nc, .string K1, .int .i64 v1, .string T1, .int .i64 v3] 46 hC; have hCw : w.heap.size ≤ C := by rw [← hC]; exact hbl.size
      have HCne : Hid (∀ k, u3.ownBlock = some k → k ≠ C) := Lib.hid (fun k hk => by have := (ho.lt k hk).2; omega); rw [hC]; clear c0 c1 c2 c3 c4 c5 hbb ho hbl hC; generalize wr.alloc (.cells #[.int .i64 kd, .slice np ZN nc, .string K1, .int .i64 v1, .string T1, .int .i64 v3] 46) = W9 at *; refine wp_region_stage 14 [0, 1, 2, 3, 4, 5, 6, 7, 8, 10, 12] [11, 13] [0, 2, 4, 5, 6, 7, 10, 12] (fun W => BT W C 46 [.int .i64 kd, .slice np ZN nc, .string K1, .int .i64 v1, .string T1, .int .i64 v3]) (fun _ => True) rfl (by kernel_rfl) (by kernel_rfl) ?_; have hI : True := trivial; have hS0 := bC0.drew; have ho1 : W9.drew.ownsRow w.heap.size 46 6 u3 i (its (cutG (X.take i))) := ho0; have hb1 := hb0.drew; clear bC0 ho0 hb0; generalize W9.drew = W1 at *
      (refine stg_free 0 _ ?_ (by kernel_rfl) (by kernel_rfl) (by kernel_rfl) rfl rfl ?_ hI ?_; rotate_left; · (intro w' _; go_simp; with_reducible rfl)); try simp only [Act.put, List.getElem_toArray, List.getElem_cons_succ, List.getElem_cons_zero, List.setIfInBounds_toArray, List.set_cons_zero, List.set_cons_succ]
      refine stg_light 1 _ (.string K1) (by kernel_rfl) (by kernel_rfl) (by kernel_rfl) rfl rfl ?_ hS0 hI ?_
      · intro w' hS _; have e2 := hS.blk.cell 2 rfl; clear hS; go_simp
      try simp only [Act.put, List.getElem_toArray, List.getElem_cons_succ, List.getElem_cons_zero, List.setIfInBounds_toArray, List.set_cons_zero, List.set_cons_succ]
      (refine stg_free 2 _ ?_ (by kernel_rfl) (by kernel_rfl) (by kernel_rfl) rfl rfl ?_ hI ?_; rotate_left; · (intro w' _; go_simp; with_reducible rfl)); try simp only [Act.put, List.getElem_toArray, List.getElem_cons_succ, List.getElem_cons_zero, List.setIfInBounds_toArray, List.set_cons_zero, List.set_cons_succ]
      refine stg_light 3 _ (.string K1) (by kernel_rfl) (by kernel_rfl) (by kernel_rfl) rfl rfl ?_ hS0 hI ?_
      · intro w' hS _; have e2 := hS.blk.cell 2 rfl; clear hS; go_simp
      try simp only [Act.put, List.getElem_toArray, List.getElem_cons_succ, List.getElem_cons_zero, List.setIfInBounds_toArray, List.set_cons_zero, List.set_cons_succ]
      (refine stg_free 4 _ ?_ (by kernel_rfl) (by kernel_rfl) (by kernel_rfl) rfl rfl ?_ hI ?_; rotate_left; · (intro w' _; go_simp; with_reducible rfl)); try simp only [Act.put, List.getElem_toArray, List.getElem_cons_succ, List.getElem_cons_zero, List.setIfInBounds_toArray, List.set_cons_zero, List.set_cons_succ]
      refine stg_free 5 _ (.int .i64 z0) (by kernel_rfl) (by kernel_rfl) (by kernel_rfl) rfl rfl ?_ hI ?_
      · intro w' _; go_simp
      try simp only [Act.put, List.getElem_toArray, List.getElem_cons_succ, List.getElem_cons_zero, List.setIfInBounds_toArray, List.set_cons_zero, List.set_cons_succ]
      refine stg_free 6 _ (.string K2) (by kernel_rfl) (by kernel_rfl) (by kernel_rfl) rfl rfl ?_ hI ?_
      · intro w' _; go_simp
      try simp only [Act.put, List.getElem_toArray, List.getElem_cons_succ, List.getElem_cons_zero, List.setIfInBounds_toArray, List.set_cons_zero, List.set_cons_succ]
      (refine stg_free 7 _ ?_ (by kernel_rfl) (by kernel_rfl) (by kernel_rfl) rfl rfl ?_ hI ?_; rotate_left; · (intro w' _; go_simp; with_reducible rfl)); try simp only [Act.put, List.getElem_toArray, List.getElem_cons_succ, List.getElem_cons_zero, List.setIfInBounds_toArray, List.set_cons_zero, List.set_cons_succ]
      refine stg_light 8 _ (.agg #[.int .i64 v1, .string T1, .int .i64 v3]) (by kernel_rfl) (by kernel_rfl) (by kernel_rfl) rfl rfl ?_ hS0 hI ?_
      · intro w' hS _; have e3 := hS.blk.cell 3 rfl; have e4 := hS.blk.cell 4 rfl; have e5 := hS.blk.cell 5 rfl; clear hS; go_simp
      try simp only [Act.put, List.getElem_toArray, List.getElem_cons_succ, List.getElem_cons_zero, List.setIfInBounds_toArray, List.set_cons_zero, List.set_cons_succ]
      (refine stg_free 10 _ ?_ (by kernel_rfl) (by kernel_rfl) (by kernel_rfl) rfl rfl ?_ hI ?_; rotate_left; · (intro w' _; go_simp; with_reducible rfl)); try simp only [Act.put, List.getElem_toArray, List.getElem_cons_succ, List.getElem_cons_zero, List.setIfInBounds_toArray, List.set_cons_zero, List.set_cons_succ]
      refine stg_oneS 9 _ (by kernel_rfl) (by kernel_rfl) (by kernel_rfl) rfl rfl (fun K hK => ?_); go_step; refine (HC10.out W1).mono ?_; rintro e W2 ⟨rfl, hx⟩; have bC2 := hS0.keep hx; have ho2 := ho1.below hx; have hb2 := hb1.trans (hx.mono hb1.size); refine hK.out _ _ bC2 trivial ?_; clear hK K hS0 ho1 hb1 hx HC10
      try simp only [Act.put, List.getElem_toArray, List.getElem_cons_succ, List.getElem_cons_zero, List.setIfInBounds_toArray, List.set_cons_zero, List.set_cons_succ]
      refine stg_one 11 _ (by kernel_rfl) (by kernel_rfl) (by kernel_rfl) rfl rfl (fun K hK => ?_); have e2 := bC2.blk.cell 2 rfl; have f2 := bC2.blk.free 2; go_step; have bC3 : BT (W2.setCell ⟨C, 2, none⟩ (.string K2)) C 46 [.int .i64 kd, .slice np ZN nc, .string K2, .int .i64 v1, .string T1, .int .i64 v3] := bC2.set 2 (.string K2); have ho3 := ownsRow_setCell_other ho2 (a := ⟨C, 2, none⟩) (fun h => HCne.out _ h rfl) (.string K2); have hb3 := hb2.setCell (p := ⟨C, 2, none⟩) hCw (.string K2); refine hK.out _ _ trivial ?_; clear hK K bC2 ho2 hb2 e2 f2; generalize W2.setCell ⟨C, 2, none⟩ (.string K2) = W3 at *
      try simp only [Act.put, List.getElem_toArray, List.getElem_cons_succ, List.getElem_cons_zero, List.setIfInBounds_toArray, List.set_cons_zero, List.set_cons_succ]
      (refine stg_free 12 _ ?_ (by kernel_rfl) (by kernel_rfl) (by kernel_rfl) rfl rfl ?_ hI ?_; rotate_left; · (intro w' _; go_simp; with_reducible rfl)); try simp only [Act.put, List.getElem_toArray, List.getElem_cons_succ, List.getElem_cons_zero, List.setIfInBounds_toArray, List.set_cons_zero, List.set_cons_succ]
      refine stg_one 13 _ (by kernel_rfl) (by kernel_rfl) (by kernel_rfl) rfl rfl (fun K hK => ?_); have e3 := bC3.blk.cell 3 rfl; have e4 := bC3.blk.cell 4 rfl; have e5 := bC3.blk.cell 5 rfl; have f3 := bC3.blk.free 3; have f4 := bC3.blk.free 4; have f5 := bC3.blk.free 5; go_step; have bC4 : BT (((W3.setCell ⟨C, 3, none⟩ (.int .i64 v1)).setCell ⟨C, 4, none⟩ (.string T2)).setCell ⟨C, 5, none⟩ (.int .i64 v3)) C 46 [.int .i64 kd, .slice np ZN nc, .string K2, .int .i64 v1, .string T2, .int .i64 v3] := ((bC3.set 3 (.int .i64 v1)).set 4 (.string T2)).set 5 (.int .i64 v3); have ho4 := ownsRow_setCell_other (ownsRow_setCell_other (ownsRow_setCell_other ho3 (a := ⟨C, 3, none⟩) (fun h => HCne.out _ h rfl) (.int .i64 v1)) (a := ⟨C, 4, none⟩) (fun h => HCne.out _ h rfl) (.string T2)) (a := ⟨C, 5, none⟩) (fun h => HCne.out _ h rfl) (.int .i64 v3); have hb4 := ((hb3.setCell (p := ⟨C, 3, none⟩) hCw (.int .i64 v1)).setCell (p := ⟨C, 4, none⟩) hCw (.string T2)).setCell (p := ⟨C, 5, none⟩) hCw (.int .i64 v3); refine hK.out _ _ trivial ?_; clear hK K bC3 ho3 hb3 e3 e4 e5 f3 f4 f5; generalize ((W3.setCell ⟨C, 3, none⟩ (.int .i64 v1)).setCell ⟨C, 4, none⟩ (.string T2)).setCell ⟨C, 5, none⟩ (.int .i64 v3) = W4 at *
      try simp only [Act.put, List.getElem_toArray, List.getElem_cons_succ, List.getElem_cons_zero, List.setIfInBounds_toArray, List.set_cons_zero, List.set_cons_succ]
      refine stg_end (by kernel_rfl) ?_; have c0 := bC4.blk.cell 0 rfl; have c1 := bC4.blk.cell 1 rfl; have c2 := bC4.blk.cell 2 rfl; have c3 := bC4.blk.cell 3 rfl; have c4 := bC4.blk.cell 4 rfl; have c5 := bC4.blk.cell 5 rfl; clear hz0 hz1 e0 hzm hK2 hy0 hym
      go_wp2_with (at_builtin; go_must (refine wpList_appLitAt w hb4 rfl (.tmp 48) (.tmp 50) 22 rfl 46 (.agg #[.int .i64 0, .slice none 0 0, .string ⟨#[]⟩, .int .i64 0, .string ⟨#[]⟩, .int .i64 0]) 6 80 Tryz.underlying22 Tryz.infoIt rfl (by decide) (by decide) u3 i (its (cutG (X.take i))) rfl ho4 1 1 W4.heap.size rfl [.int .i64 kd, .slice np ZN nc, .string K2, .int .i64 v1, .string T2, .int .i64 v3] _ rfl rfl (by simp [Value.oneCell']) (by omega) ?_); intro v2 w2 hown2 _ hbl2 _; clear ho4 hb4)
      go_roundw
      case rel =>
        refine ⟨i + 1, by omega, by omega, by go_num, ?_, ?_, hbl2⟩
        · rw [HSZ.out]; go_num
        · rw [HSN.out]; exact hown2
      case measure => simp [intOf]; omega
    · have HML : Hid (i = min 40 N) := Lib.hid (by omega); have HTK : Hid (X.take i = X.take 40) := Lib.hid (by
        by_cases h10 : i = 40
        · rw [h10]
        · rw [List.take_of_length_le (by rw [HN.out]; omega), List.take_of_length_le (by rw [HN.out]; omega)])
      have HO9 : Hid (wr.ownsRow w.heap.size 46 6 u3 (min 40 N) (its (cutG (X.take 40)))) := Lib.hid (by rw [← HML.out, ← HTK.out]; exact ho)
      by_cases h1 : i < N
      · have h1' : (i : Int) < (N : Int) := by omega
        have h2' : ¬ (i : Int) < 40 := by omega
        go_wp2; go_ret; exact ⟨u3, rfl, HO9.out, hbl⟩
      · have h1' : ¬ (i : Int) < (N : Int) := by omega
        go_wp2; go_ret; exact ⟨u3, rfl, HO9.out, hbl⟩
end Go.Proofs.YtkfgbjjelcigcaaGreatDoor
/- The document's faces in memory. -/
set_option linter.unusedVariables false
set_option linter.unusedSimpArgs false
set_option maxRecDepth 100000
namespace Go.Proofs.YtkfgbjjelcigcaaGreatDoor
open Go.RowKit
def PrT (W : World) (x : PC) : Prop := x.Ok W ∧ TypB W x.p 77
def RfT (W : World) (f : Fc) : Prop := f.Ok W ∧ TypB W f.ra 76 ∧ (∀ r ∈ f.rs, PrT W r) ∧ TypB W f.aa 79
def refS (T : TypeId) : Prop := T = 77 ∨ T = 76 ∨ T = 79
theorem PrT.keepS {S : TypeId → Prop} {A B : World} {x : PC} (h : PrT A x) (hS : S 77) (k : KeepS S A B) : PrT B x :=
  ⟨⟨h.1.1.keepS h.2 hS k, h.1.2⟩, h.2.keepS hS k⟩
theorem RfT.keepS {A B : World} {f : Fc} (h : RfT A f) (k : KeepS refS A B) : RfT B f := by
  obtain ⟨⟨h1, h2, h3⟩, t1, t2, t3⟩ := h; exact ⟨⟨⟨h1.1.keepS t1 (.inr (.inl rfl)) k, h1.2⟩, fun r hr => ((t2 r hr).keepS (.inl rfl) k).1, ⟨h3.1.keepS t3 (.inr (.inr rfl)) k, h3.2⟩⟩, t1.keepS (.inr (.inl rfl)) k, fun r hr => (t2 r hr).keepS (.inl rfl) k, t3.keepS (.inr (.inr rfl)) k⟩
theorem RfT.keep {A B : World} {f : Fc} (h : RfT A f) (hb : Below A.heap.size A B) : RfT B f := h.keepS (KeepS.of_below hb)
theorem PrT.keep {A B : World} {f : PC} (h : PrT A f) (hb : Below A.heap.size A B) : PrT B f := h.keepS (S := refS) (.inl rfl) (KeepS.of_below hb)
theorem refS_face : ¬ refS 75 := by unfold refS; decide
theorem Tryz.infoRA : (Tryz.prog.info? 79).map (fun i => (i.zero, i.size, i.bytes)) = some (some (.agg #[.string ⟨#[]⟩, .int .i64 0, .string ⟨#[]⟩, .int .i64 0]), 4, 48) := by kernel_rfl
theorem Tryz.infoRF : (Tryz.prog.info? 75).map (fun i => (i.zero, i.size, i.bytes)) = some (some (.agg #[.slice none 0 0, .slice none 0 0]), 2, 48) := by kernel_rfl
theorem Tryz.infoRR : (Tryz.prog.info? 76).map (fun i => (i.zero, i.size, i.bytes)) = some (some (.slice none 0 0), 1, 24) := by kernel_rfl
end Go.Proofs.YtkfgbjjelcigcaaGreatDoor
