/-
  script.Parse, of the lines of right items, and of what lacks its last byte. Plain: what is wrong with items; their text. Plain: items that are all right; texts joined. Owned rows of several cells an element, written in place. slices.Clone of numbers. What items fold to: plain; faces that grow, in memory. A region that draws its order, walked over each order in which its heavy operations may come up; the light ones are taken first.
-/
import Derived.Test.YtkfgbjjelcigcaaGreatDoorPk11
import Derived.Test.YtkfgbjjelcigcaaGreatDoorPk8
import Derived.Test.YtkfgbjjelcigcaaGreatDoorPk1
import Derived.Test.YtkfgbjjelcigcaaGreatDoorShelf
/- script.Parse, of the lines of right items, and of what lacks its last byte. -/
set_option linter.unusedVariables false
set_option linter.unusedSimpArgs false
set_option maxRecDepth 100000
namespace Go
open Go.RowKit
def It.core (x : It) : Int × List Int × ByteArray × VV := (x.kind, x.n, x.key, x.v)
def textF (X : List It) : List UInt8 := X.flatMap (fun x => lineF x ++ [10])
theorem text_cons (x : It) (X : List It) : textF (x :: X) = lineF x ++ 10 :: textF X := by simp [textF]
theorem text_drop (X : List It) (k : Nat) (h : k < X.length) : textF (X.drop k) = lineF X[k] ++ 10 :: textF (X.drop (k + 1)) := by
  rw [List.drop_eq_getElem_cons h, text_cons]
theorem text_len (X : List It) (k : Nat) : (textF (X.drop k)).length ≤ (textF X).length := by
  induction X generalizing k with
  | nil => simp
  | cons x X ih =>
    cases k with
    | zero => simp
    | succ k =>
      rw [List.drop_succ_cons, text_cons, List.length_append, List.length_cons]; have := ih k; omega
theorem text_many (X : List It) : X.length ≤ (textF X).length := by
  induction X with
  | nil => simp
  | cons x X ih =>
    rw [text_cons, List.length_append, List.length_cons, List.length_cons]; omega
end Go
namespace Go.Proofs.YtkfgbjjelcigcaaGreatDoor
open Go.RowKit
def ItT (W : World) (x : It) : Prop := x.Ok W ∧ TypB W x.np 3
theorem ItT.keepS {A B : World} {x : It} (h : ItT A x) (k : KeepS (· = 3) A B) : ItT B x :=
  ⟨⟨h.1.1.keepS (S := (· = 3)) h.2 rfl k, h.1.2⟩, h.2.keepS (S := (· = 3)) rfl k⟩
theorem ItT.keep {A B : World} {x : It} (h : ItT A x) (hb : Below A.heap.size A B) : ItT B x := h.keepS (KeepS.of_below hb)
def ParsePost (X : List It) (T : List UInt8) (w : World) (e : Ending) (w' : World) : Prop :=
  (T = [] ∧ ∃ (G : List It) (p : Option Addr) (c : Nat), e = .returned (.tuple #[.slice p G.length c, .int .i64 0, .int .i64 0]) ∧ G.map It.core = X.map It.core ∧ w'.ownsRow w.heap.size 46 6 (.slice p G.length c) G.length (its G) ∧ (∀ g ∈ G, ItT w' g) ∧ Below w.heap.size w w') ∨
  (T ≠ [] ∧ e = .returned (.tuple #[.slice none 0 0, .int .i64 X.length, .int .i64 4]) ∧ Below w.heap.size w w')
set_option maxHeartbeats 12800000 in
theorem iparse_any (X : List It) (hX : ∀ x ∈ X, chkI x = 0) (T : List UInt8) (hT : RT T) (hl : (textF X ++ T).length ≤ 10000000) (w : World) :
    Calls Tryz.prog 20 #[.string ⟨(textF X ++ T).toArray⟩] w (ParsePost X T w) := by
  have HX := Lib.hid hX; have HT := Lib.hid hT; have HTL := Lib.hid (text_len X); have HTM := Lib.hid (text_many X); have HE := Lib.hid (fun s h W => end_any s h W); have HLI := Lib.hid (fun x h W => line_any x h W); have hS0 : (⟨(textF X ++ T).toArray⟩ : ByteArray) = ⟨(textF (X.drop 0) ++ T).toArray⟩ := rfl; rw [hS0]; have hl0 : (textF X).length + T.length ≤ 10000000 := by rw [List.length_append] at hl; exact hl
  clear hS0 hX hT hl; have HPP : Hid (∀ e w', ((T = [] ∧ ∃ (G : List It) (p : Option Addr) (c : Nat), e = .returned (.tuple #[.slice p G.length c, .int .i64 0, .int .i64 0]) ∧ G.map It.core = X.map It.core ∧ w'.ownsRow w.heap.size 46 6 (.slice p G.length c) G.length (its G) ∧ (∀ g ∈ G, ItT w' g) ∧ Below w.heap.size w w') ∨
    (T ≠ [] ∧ e = .returned (.tuple #[.slice none 0 0, .int .i64 X.length, .int .i64 4]) ∧ Below w.heap.size w w')) → ParsePost X T w e w') := Lib.hid (fun _ _ h => h)
  obtain ⟨Q, hQ⟩ : ∃ Q, ParsePost X T w = Q := ⟨_, rfl⟩; rw [hQ] at HPP ⊢; clear hQ; obtain ⟨S0, hS0⟩ : ∃ S : ByteArray, (⟨(textF (X.drop 0) ++ T).toArray⟩ : ByteArray) = S := ⟨_, rfl⟩; rw [hS0]; have HS0 := Lib.hid hS0; clear hS0
  go_enter Tryz.func20, Tryz.ntmps20
  go_wp2; refine wp_goto_pre 0 (fun n a' w' => ∃ (S : ByteArray) (G : List It) (o u2 u3 u4 u6 u7 u8 u9 u10 u11 u12 u13 u14 u15 u16 u17 u18 u19 u20 u21 u22 u23 u24 u25 u26 u27 u28 u29 u30 u31 u32 u33 u34 u35 u36 u37 : Value),
    (Hid (n = X.length - G.length ∧ G.length ≤ X.length) ∧ Hid (S = ⟨(textF (X.drop G.length) ++ T).toArray⟩) ∧ Hid (G.map It.core = (X.take G.length).map It.core) ∧ w'.ownsRow w.heap.size 46 6 o G.length (its G) ∧ Hid (∀ g ∈ G, ItT w' g) ∧ Below w.heap.size w w') ∧
    a' = { tmps := #[.string S, undef, u2, u3, u4, o, u6, u7, u8, u9, u10, u11, u12, u13, u14, u15, u16, u17, u18, u19, u20, u21, u22, u23, u24, u25, u26, u27, u28, u29, u30, u31, u32, u33, u34, u35, u36, u37], defers := [] }) rfl ?_ ?_
  · rintro n a' w0 ⟨S, G, o, u2, u3, u4, u6, u7, u8, u9, u10, u11, u12, u13, u14, u15, u16, u17, u18, u19, u20, u21, u22, u23, u24, u25, u26, u27, u28, u29, u30, u31, u32, u33, u34, u35, u36, u37, ⟨HN, HS, HG, ho, HO, hb⟩, rfl⟩ J hJ; have HJ := Lib.hid hJ; clear hJ; obtain ⟨oa, oc, rfl, hoc, hom, hon, -, hob⟩ := ho.form
    by_cases hk : G.length < X.length
    · have HXK := Lib.hid (HX.out _ (List.getElem_mem hk)); have HL : Hid (textF (X.drop G.length) = lineF X[G.length] ++ 10 :: textF (X.drop (G.length + 1))) := Lib.hid (text_drop X G.length hk); obtain ⟨hrt, hl1⟩ := line_runes _ HXK.out; have hlen := HTL.out G.length; have hmany := HTM.out; have hSS : S.data.toList = lineF X[G.length] ++ 10 :: (textF (X.drop (G.length + 1)) ++ T) := by
        rw [HS.out, HL.out]; simp
      have hsz : S.size = (lineF X[G.length]).length + 1 + ((textF (X.drop (G.length + 1))).length + T.length) := by
        have := congrArg List.length hSS; rw [Array.length_toList] at this; have e : S.size = S.data.size := rfl; rw [e, this]; simp only [List.length_append, List.length_cons]; omega
      have hsb : S.size ≤ 10000000 := by
        rw [HL.out, List.length_append, List.length_cons] at hlen; omega
      have hnl : nlF S = ((lineF X[G.length]).length : Int) := by
        have := nl_some (T := lineF X[G.length]) (R := textF (X.drop (G.length + 1)) ++ T) hrt; rw [← hSS] at this; exact this
      have hne := ba_ne S (by omega); have HE2 := Lib.hid (fun W => HE.out S (by unfold maxLen; omega) W); rw [hnl] at HE2; have HLX := Lib.hid (HLI.out X[G.length] HXK.out); have hx1 : S.extract 0 (lineF X[G.length]).length = ⟨(lineF X[G.length]).toArray⟩ := by
        apply ByteArray.ext; apply Array.ext'; rw [ByteArray.data_extract, Array.toList_extract, hSS]; simp
      have HX2 : Hid (S.extract ((lineF X[G.length]).length + 1) S.size = ⟨(textF (X.drop (G.length + 1)) ++ T).toArray⟩) := Lib.hid (by
        apply ByteArray.ext; apply Array.ext'; rw [ext_drop, hSS]; simp)
      have HCT : Hid ((X.take (G.length + 1)).map It.core = (X.take G.length).map It.core ++ [X[G.length].core]) := Lib.hid (by
        rw [List.take_succ_eq_append_getElem hk, List.map_append]; rfl)
      have hco : X[G.length].core = (X[G.length].kind, X[G.length].n, X[G.length].key, X[G.length].v) := rfl; obtain ⟨S1, hS1⟩ : ∃ s, (⟨(lineF X[G.length]).toArray⟩ : ByteArray) = s := ⟨_, rfl⟩; rw [hS1] at HLX hx1; have HN2 : Hid (n = X.length - G.length) := Lib.hid HN.out.1; have HSZ := Lib.hid hsz; clear hrt hlen hSS hnl HN HL hS1; generalize (lineF X[G.length]).length = M at *; have hMl : M + 1 ≤ S.size := by omega
      have hMi : (M : Int) + 1 ≤ (S.size : Int) := by omega
      have hM1 : (0 : Int) ≤ (M : Int) + 1 := by omega
      have hMw : IntKind.i64.wrap ((M : Int) + 1) = (M : Int) + 1 := IntWalk.i64_in _ (by omega); have hMt : ((M : Int) + 1).toNat = M + 1 := by omega
      clear hsz; have hM0 : ¬ (M : Int) < 0 := by omega
      generalize X[G.length] = x at *; have hGb : G.length ≤ 10000000 := by omega
      obtain ⟨S2, hS2⟩ : ∃ s, S.extract (M + 1) S.size = s := ⟨_, rfl⟩; rw [hS2] at HX2; have HS2 := Lib.hid hS2; clear hS2 hmany
      go_wp2_with fail
      refine (HE2.out _).mono ?_; rintro e w1 ⟨rfl, hb1⟩; have ho1 := ho.below hb1; have hbl1 := hb.trans (hb1.mono hb.size); have HO1 : Hid (∀ g ∈ G, ItT w1 g) := Lib.hid (fun g hg => (HO.out g hg).keep hb1); clear HE2 ho hb hb1 HO
      go_wp2_with fail
      refine (HLX.out _).mono ?_; rintro e w2 ⟨g, rfl, g1, g2, g3, g4, hog, hb2⟩; have hgc : g.core = x.core := by rw [hco]; unfold It.core; rw [g1, g2, g3, g4]
      have ho2 := ho1.below hb2; have hbl2 := hbl1.trans (hb2.mono hbl1.size); have HO2 : Hid (∀ y ∈ G ++ [g], ItT w2 y) := Lib.hid (fun y hy => by
        rcases List.mem_append.1 hy with h | h
        · exact (HO1.out y h).keep hb2
        · rw [List.mem_singleton] at h; subst h; obtain ⟨na, nc, e, q1, q2, q3, q4, -⟩ := hog.form; unfold It.nval at e
          cases e
          exact ⟨⟨q4, q1, q2, q3⟩, TypB.of_owns hog⟩)
      have HGC := Lib.hid hgc; clear HLX ho1 hbl1 HO1 hb2 hog g1 g2 g3 g4 hgc hco; have hits : its (G ++ [g]) = its G ++ g.cells := its_snoc G g; have HIT := Lib.hid hits; clear hits; obtain ⟨D, hD⟩ : ∃ D, w2.heap.size = D := ⟨_, rfl⟩; have hb3 := Below.new w2 (.cells #[.int .i64 g.kind, g.nval, .string g.key, .int .i64 g.v.1, .string g.v.2.1, .int .i64 g.v.2.2] 46); have kD := Blk.lit w2 D [.int .i64 g.kind, g.nval, .string g.key, .int .i64 g.v.1, .string g.v.2.1, .int .i64 g.v.2.2] 46 hD; have ho3 := ho2.below hb3; have hbl3 := hbl2.trans (hb3.mono hbl2.size); have HO3 : Hid (∀ y ∈ G ++ [g], ItT (w2.alloc (.cells #[.int .i64 g.kind, g.nval, .string g.key, .int .i64 g.v.1, .string g.v.2.1, .int .i64 g.v.2.2] 46)) y) := Lib.hid (fun y hy => (HO2.out y hy).keep hb3); have HNV : Hid (g.nval.oneCell' = true) := Lib.hid rfl; obtain ⟨gk, gn, gkey, ⟨gv1, gv2, gv3⟩, gp, gc⟩ := g; dsimp only [It.nval, It.val, It.cells] at *; generalize gn.length = gl at *; have hoLT := ho2.lt; clear ho2 hbl2 HO2 hb3; have HLT : Hid (∀ j, (Value.slice oa G.length oc).ownBlock = some j → j < D) := Lib.hid (fun j hj => by have := (hoLT j hj).2; omega); clear hoLT; go_wp2; generalize w2.alloc (.cells #[.int .i64 gk, .slice gp gl gc, .string gkey, .int .i64 gv1, .string gv2, .int .i64 gv3] 46) = w4 at *; refine wp_region_lit_txt [0, 1, 4, 5, 6, 7, 8, 9] (fun W => Blk W D [.int .i64 gk, .slice gp gl gc, .string gkey, .int .i64 gv1, .string gv2, .int .i64 gv3]) (by kernel_rfl) (by kernel_rfl) (by kernel_rfl) kD.drew ?_
      (refine txt_light ?_ rfl rfl ?_ ?_; rotate_left; · (intro w' hS; (try dsimp only at hS); go_simp; with_reducible rfl)); try simp only [Act.put, List.getElem_toArray, List.getElem_cons_succ, List.getElem_cons_zero, List.setIfInBounds_toArray, List.set_cons_zero, List.set_cons_succ]
      refine txt_light (.agg #[.int .i64 gk, .slice gp gl gc, .string gkey, .int .i64 gv1, .string gv2, .int .i64 gv3]) rfl rfl ?_ ?_
      · intro w' hS; have e0 := hS.cell 0 rfl; have e1 := hS.cell 1 rfl; have e2 := hS.cell 2 rfl; have e3 := hS.cell 3 rfl; have e4 := hS.cell 4 rfl; have e5 := hS.cell 5 rfl; clear hS; go_simp
      try simp only [Act.put, List.getElem_toArray, List.getElem_cons_succ, List.getElem_cons_zero, List.setIfInBounds_toArray, List.set_cons_zero, List.set_cons_succ]
      have ho4 := ho3.drew; have hbl4 := hbl3.drew; have HO4 : Hid (∀ y ∈ G ++ [(⟨gk, gn, gkey, (gv1, gv2, gv3), gp, gc⟩ : It)], ItT w4.drew y) := HO3; have kD4 := kD.drew; generalize w4.drew = w5 at *; refine txt_heavy rfl rfl (fun K hK => ?_); go_step; have ho6 := ho4.alloc (.cells #[.int .i64 gk, .slice gp gl gc, .string gkey, .int .i64 gv1, .string gv2, .int .i64 gv3] 46); have hbl6 := hbl4.alloc hbl4.size (.cells #[.int .i64 gk, .slice gp gl gc, .string gkey, .int .i64 gv1, .string gv2, .int .i64 gv3] 46); have HO6 : Hid (∀ y ∈ G ++ [(⟨gk, gn, gkey, (gv1, gv2, gv3), gp, gc⟩ : It)], ItT (w5.alloc (.cells #[.int .i64 gk, .slice gp gl gc, .string gkey, .int .i64 gv1, .string gv2, .int .i64 gv3] 46)) y) := Lib.hid (fun y hy => (HO4.out y hy).keep (Below.new _ _)); have kD6 := kD4.alloc (.cells #[.int .i64 gk, .slice gp gl gc, .string gkey, .int .i64 gv1, .string gv2, .int .i64 gv3] 46); have rd := Rd.lit w5 w5.heap.size [.int .i64 gk, .slice gp gl gc, .string gkey, .int .i64 gv1, .string gv2, .int .i64 gv3] 46 rfl; refine hK.out _ _ kD6 ?_; clear hK K ho4 hbl4 HO4 kD4; generalize w5.alloc (.cells #[.int .i64 gk, .slice gp gl gc, .string gkey, .int .i64 gv1, .string gv2, .int .i64 gv3] 46) = w6 at *
      try simp only [Act.put, List.getElem_toArray, List.getElem_cons_succ, List.getElem_cons_zero, List.setIfInBounds_toArray, List.set_cons_zero, List.set_cons_succ]
      refine txt_app w hbl6 rfl rfl (.tmp 30) (.tmp 32) 22 rfl 46 (.agg #[.int .i64 0, .slice none 0 0, .string ⟨#[]⟩, .int .i64 0, .string ⟨#[]⟩, .int .i64 0]) 6 80 Tryz.underlying22 Tryz.infoIt rfl (by decide) (.slice oa G.length oc) G.length (its G) rfl ho6 (some ⟨w5.heap.size, 0, none⟩) 1 1 [.int .i64 gk, .slice gp gl gc, .string gkey, .int .i64 gv1, .string gv2, .int .i64 gv3] rfl (fun h => by cases h) rd rfl (by simp [Value.oneCell']) (by omega) (by decide) ?_; intro v7 w7 ho7 hg7 hbl7; have kD7 := kD6.grown hg7 (fun h => Nat.lt_irrefl _ (HLT.out _ h.symm)); have HO7 : Hid (∀ y ∈ G ++ [(⟨gk, gn, gkey, (gv1, gv2, gv3), gp, gc⟩ : It)], ItT w7 y) := Lib.hid (fun y hy => (HO6.out y hy).keepS (KeepS.of_row (S := (· = 3)) ho6 (by decide) hg7)); clear ho6 hbl6 HO6 kD6 hg7 rd; refine ⟨kD7, ?_⟩
      try simp only [Act.put, List.getElem_toArray, List.getElem_cons_succ, List.getElem_cons_zero, List.setIfInBounds_toArray, List.set_cons_zero, List.set_cons_succ]
      iterate 3 ((refine txt_light ?_ rfl rfl ?_ ?_; rotate_left; · (intro w' hS; (try dsimp only at hS); go_simp; with_reducible rfl)); try simp only [Act.put, List.getElem_toArray, List.getElem_cons_succ, List.getElem_cons_zero, List.setIfInBounds_toArray, List.set_cons_zero, List.set_cons_succ])
      refine txt_light (.string S2) rfl rfl ?_ ?_
      · intro w' hS; clear hS; go_simp
        try rw [HS2.out]
      try simp only [Act.put, List.getElem_toArray, List.getElem_cons_succ, List.getElem_cons_zero, List.setIfInBounds_toArray, List.set_cons_zero, List.set_cons_succ]
      iterate 2 ((refine txt_light ?_ rfl rfl ?_ ?_; rotate_left; · (intro w' hS; (try dsimp only at hS); go_simp; with_reducible rfl)); try simp only [Act.put, List.getElem_toArray, List.getElem_cons_succ, List.getElem_cons_zero, List.setIfInBounds_toArray, List.set_cons_zero, List.set_cons_succ])
      refine txt_nil ?_; go_wp2
      go_step3
      show (0 : Nat) = 0 ∧ J _ _; have hln : (G ++ [(⟨gk, gn, gkey, (gv1, gv2, gv3), gp, gc⟩ : It)]).length = G.length + 1 := by simp
      have HJ2 : ∀ a' w', _ → J a' w' := HJ.out (X.length - (G.length + 1)) |> fun h a' w' q => h a' w' (by rw [HN2.out]; omega) q; refine ⟨rfl, HJ2 _ _ ⟨S2, G ++ [(⟨gk, gn, gkey, (gv1, gv2, gv3), gp, gc⟩ : It)], v7, _, _, _, _, _, _, _, _, _, _, _, _, _, _, _, _, _, _, _, _, _, _, _, _, _, _, _, _, _, _, _, _, _, _, _, ⟨Lib.hid ⟨by rw [hln], by rw [hln]; omega⟩, Lib.hid (by rw [hln]; exact HX2.out), Lib.hid ?_, ?_, HO7, hbl7⟩, rfl⟩⟩
      · rw [hln, HCT.out, List.map_append, HG.out, List.map_singleton, HGC.out]
      · rw [hln, HIT.out]; exact ho7
    · have hkl : G.length = X.length := by have := HN.out.2; omega
      have hST : S = ⟨T.toArray⟩ := by
        rw [HS.out, hkl, List.drop_length]; rfl
      have HGX : Hid (G.map It.core = X.map It.core) := Lib.hid (by rw [HG.out, hkl, List.take_length]); have HKL := Lib.hid hkl; have hsT : S.size = T.length := by rw [hST, lsize]
      clear HS HG HX HTL HLI HN hkl
      by_cases hT0 : T = []
      · subst hT0; have hse : S = ⟨#[]⟩ := hST; subst hse; clear hST hsT HE; go_wp2
        try rw [Exit.jump_ret]
        refine bodyPost_ret (v := .tuple #[.slice oa G.length oc, .int .i64 0, .int .i64 0]) (by simp [results, Tryz.results20, go_sem]) rfl (HPP.out _ _ (.inl ⟨by first | rfl | trivial, G, oa, oc, rfl, HGX.out, ho, HO.out, hb⟩))
      · have hTl : 0 < T.length := List.length_pos_iff.2 hT0; have hne := ba_ne S (by omega); have hnl : nlF S = -1 := by rw [hST]; exact nl_none HT.out
        have HE2 := Lib.hid (fun W => HE.out S (by unfold maxLen; omega) W); rw [hnl] at HE2; have HT0 := Lib.hid hT0; clear hST hT0 hnl HE hsT
        go_wp2_with fail
        refine (HE2.out _).mono ?_; rintro e w1 ⟨rfl, hb1⟩; have hbl1 := hb.trans (hb1.mono hb.size); have hpp := HPP.out _ w1 (.inr ⟨HT0.out, rfl, hbl1⟩); rw [← HKL.out] at hpp; have HP2 := Lib.hid hpp; clear hpp HE2 hb1 HPP; go_wp2
        try rw [Exit.jump_ret]
        refine bodyPost_ret (v := .tuple #[.slice none 0 0, .int .i64 G.length, .int .i64 4]) (by simp [results, Tryz.results20, go_sem]) rfl HP2.out
  · intro J hJ; go_wp2
    go_step3
    go_step; go_step; refine hJ.out X.length _ _ ⟨S0, [], .slice none 0 0, _, _, _, _, _, _, _, _, _, _, _, _, _, _, _, _, _, _, _, _, _, _, _, _, _, _, _, _, _, _, _, _, _, _, _, ⟨Lib.hid ⟨rfl, Nat.zero_le _⟩, Lib.hid HS0.out.symm, Lib.hid rfl, World.ownsRow_nil _ _ _ _, Lib.hid (by simp), Below.refl _ _⟩, rfl⟩
end Go.Proofs.YtkfgbjjelcigcaaGreatDoor
/- Plain: what is wrong with items; their text. -/
set_option linter.unusedVariables false
set_option linter.unusedSimpArgs false
set_option maxRecDepth 100000
namespace Go
open Go.RowKit
def badI (X : List It) : Int := ((X.map chkI).find? (· ≠ 0)).getD 0
def prS (X : List It) : ByteArray := if badI X = 0 then ⟨(textF X).toArray⟩ else ⟨#[]⟩
theorem badI_ok (X : List It) (h : ∀ x ∈ X, chkI x = 0) : badI X = 0 := by
  unfold badI; rw [List.find?_eq_none.2 (by intro y hy; obtain ⟨x, hx, rfl⟩ := List.mem_map.1 hy; simp [h x hx])]
  rfl
theorem badI_at : ∀ (X : List It) (k : Nat) (hk : k < X.length), (∀ j (hj : j < X.length), j < k → chkI X[j] = 0) → chkI X[k] ≠ 0 → badI X = chkI X[k]
  | [], k, hk, _, _ => by simp at hk
  | x :: X, 0, hk, _, h => by simp at h; simp [badI, List.find?_cons, h]
  | x :: X, k + 1, hk, h0, h => by
    have hx := h0 0 (by simp) (by omega); have ih := badI_at X k (by simpa using hk) (fun j hj hjk => h0 (j + 1) (by simpa using hj) (by omega)) (by simpa using h); simp only [List.getElem_cons_zero] at hx; simp only [List.getElem_cons_succ]; rw [← ih]; simp [badI, List.find?_cons, hx]
theorem text_snoc (X : List It) (x : It) : textF (X ++ [x]) = textF X ++ lineF x ++ [10] := by simp [textF]
end Go
namespace Go.Proofs.YtkfgbjjelcigcaaGreatDoor
open Go.RowKit
theorem app_eqI (l : List UInt8) (s : ByteArray) : (⟨l.toArray⟩ : ByteArray) ++ s = ⟨(l ++ s.data.toList).toArray⟩ := by
  apply ByteArray.ext; rw [ByteArray.data_append]; apply Array.ext'; simp
theorem text_bd : ∀ (X : List It), (∀ x ∈ X, chkI x = 0) → (textF X).length ≤ 20001 * X.length
  | [], _ => by simp [textF]
  | x :: X, h => by
    have h1 := line_len x (h x (by simp)); have h2 := text_bd X (fun y hy => h y (List.mem_cons_of_mem _ hy)); rw [text_cons, List.length_append, List.length_cons, List.length_cons]; omega
theorem tl_app (a b : List (List UInt8 × (List UInt8 × Bool))) : tl (a ++ b) = tl a ++ tl b := by simp [tl]
theorem tl_take (l : List Int) (j : Nat) : (tl ((l.take j).map (fun n => pw (Lib.itoa n)))).length ≤ (tl (l.map (fun n => pw (Lib.itoa n)))).length := by
  have : l.map (fun n => pw (Lib.itoa n)) = (l.take j).map (fun n => pw (Lib.itoa n)) ++ (l.drop j).map (fun n => pw (Lib.itoa n)) := by rw [← List.map_append, List.take_append_drop]
  rw [this, tl_app, List.length_append]; omega
theorem tl_le (x : It) (h : chkI x = 0) : (tl (x.n.map (fun n => pw (Lib.itoa n)))).length ≤ 20000 := by
  have h1 := line_len x h; obtain ⟨-, -, -, h4⟩ := chkI_zero x h
  rcases h4 with ⟨hk, -, -⟩ | ⟨-, hn, -, -⟩
  · unfold lineF rest6 at h1; rw [if_neg hk, List.length_append] at h1; omega
  · rw [hn]; simp [tl]
theorem kwS_size (k : Int) : (kwS k).size ≤ 6 := by
  rcases kwS_cases k with ⟨h, -⟩ | ⟨-, h⟩
  · rw [h]; decide
  · have : k = 1 ∨ k = 2 ∨ k = 3 ∨ k = 4 ∨ k = 5 ∨ k = 6 ∨ k = 7 ∨ k = 8 ∨ k = 9 ∨ k = 10 ∨ k = 11 := by omega
    rcases this with rfl | rfl | rfl | rfl | rfl | rfl | rfl | rfl | rfl | rfl | rfl <;> decide
end Go.Proofs.YtkfgbjjelcigcaaGreatDoor
/- Plain: items that are all right; texts joined. -/
set_option linter.unusedVariables false
set_option linter.unusedSimpArgs false
namespace Go
open Go.RowKit
theorem bad_zero : ∀ (X : List It), badI X = 0 → ∀ x ∈ X, chkI x = 0
  | [], _, x, hx => by cases hx
  | y :: Y, h, x, hx => by
    unfold badI at h; rw [List.map_cons, List.find?_cons] at h
    by_cases h0 : chkI y = 0
    · simp only [h0, ne_eq, not_true_eq_false, decide_false] at h
      rcases List.mem_cons.1 hx with rfl | hx
      · exact h0
      · exact bad_zero Y h x hx
    · simp [h0] at h
theorem text_app (X Y : List It) : textF (X ++ Y) = textF X ++ textF Y := by simp [textF]
theorem its_app (X Y : List It) : its (X ++ Y) = its X ++ its Y := by simp [its]
end Go
/- Owned rows of several cells an element, written in place. -/
set_option linter.unusedVariables false
set_option linter.unusedSimpArgs false
namespace Go
open Go.RowKit

theorem ownsRow_cur {W : World} {base g c n s : Nat} {e : TypeId} {xs : List Value} (h : W.ownsRow base e s (.slice (some ⟨g, 0, none⟩) n c) n xs) :
    ∃ cur : Array Value, W.heap[g]? = some (.cells cur e (0, 0)) ∧ n ≤ c ∧ c ≤ maxLen ∧ cur.size = c * s ∧ cur.toList.take (n * s) = xs ∧ xs.length = n * s ∧ base ≤ g := by
  obtain ⟨h1, h2⟩ := h
  rcases h2 with ⟨hv, _⟩ | ⟨g', cap, cur, hv, hb, hg, h3, h4, h5, h6⟩
  · cases hv
  · cases hv
    exact ⟨cur, hg, h3, h4, h5, h6, h1, hb⟩

theorem ownsRow_setS {W : World} {base g c n s i : Nat} {e : TypeId} {xs : List Value} (h : W.ownsRow base e s (.slice (some ⟨g, 0, none⟩) n c) n xs) (u : Value) :
    (W.setCell ⟨g, i, none⟩ u).ownsRow base e s (.slice (some ⟨g, 0, none⟩) n c) n (xs.set i u) := by
  obtain ⟨cur, hg, h3, h4, h5, h6, h1, hb⟩ := ownsRow_cur h; refine ⟨by simpa using h1, .inr ⟨g, c, cur.setIfInBounds i u, rfl, hb, ?_, h3, h4, by simpa using h5, ?_⟩⟩
  · show (W.setCell ⟨g, i, none⟩ u).heap[g]? = _; simp [World.setCell, Array.getElem?_modify, hg]
  · rw [← h6]; simp [List.take_set]

theorem ownsRow_cellS {W : World} {base g c n s i : Nat} {e : TypeId} {xs : List Value} (h : W.ownsRow base e s (.slice (some ⟨g, 0, none⟩) n c) n xs) {v : Value} (hv : xs[i]? = some v) :
    W.cell? ⟨g, i, none⟩ = some v ∧ W.frozen? ⟨g, i, none⟩ = false ∧ g < W.heap.size := by
  obtain ⟨cur, hg, h3, h4, h5, h6, h1, hb⟩ := ownsRow_cur h; refine ⟨?_, by simp [World.frozen?, hg], (Array.getElem?_eq_some_iff.1 hg).1⟩; rw [cell_of_row W g i cur e (0, 0) hg]; rw [← h6, List.getElem?_take] at hv
  split at hv
  · simpa using hv
  · cases hv

structure Cu where
  x : Int
  y : Int
  p : Int
  w : Int
instance : Inhabited Cu := ⟨⟨0, 0, 0, 0⟩⟩
def Cu.cells (c : Cu) : List Value := [.int .i64 c.x, .int .i64 c.y, .int .i64 c.p, .int .i64 c.w]
def Cu.val (c : Cu) : Value := .agg #[.int .i64 c.x, .int .i64 c.y, .int .i64 c.p, .int .i64 c.w]
def cus (l : List Cu) : List Value := l.flatMap Cu.cells
def cmpC (a b : Cu) : Int := a.p * b.w - b.p * a.w
def CuOk (c : Cu) : Prop := (0 ≤ c.p ∧ c.p ≤ 67108864) ∧ (1 ≤ c.w ∧ c.w ≤ 67108864)
end Go
/- slices.Clone of numbers. -/
set_option linter.unusedVariables false
set_option linter.unusedSimpArgs false
set_option maxRecDepth 100000
namespace Go.Proofs.YtkfgbjjelcigcaaGreatDoor
open Go.RowKit
theorem cloneN_any (a : Option Addr) (c : Nat) (l : List Int) (hn : l.length ≤ 1000000) (w : World) (hr : Rd w a (l.map (Value.int .i64))) :
    Calls Tryz.prog 22 #[.slice a l.length c] w fun e w' => ∃ v, e = .returned v ∧ w'.ownsRow w.heap.size 3 1 v l.length (l.map (Value.int .i64)) ∧ Below w.heap.size w w' := by
  cases a with
  | none =>
    refine (Tryz.slices_Clone_int_nil l.length c w).mono ?_; rintro e w' ⟨rfl, rfl⟩; have h0 : l = [] := by
      rcases hr with h | ⟨_, _, h, _⟩
      · simpa using h
      · cases h
    subst h0; exact ⟨_, rfl, World.ownsRow_nil _ _ _ _, Below.refl _ _⟩
  | some ad =>
    by_cases h0 : l = []
    · subst h0; refine (Tryz.slices_Clone_int_zero ad c w).mono ?_; rintro e w' ⟨v, rfl, h, -, hb⟩; exact ⟨v, rfl, h, hb⟩
    rcases hr with h | ⟨b, off, ha, hc⟩
    · exact absurd (by simpa using h) h0
    · cases ha
      refine (Tryz.slices_Clone_int b off l.length c l w (Nat.le_refl _) (by omega) ?_).mono ?_
      · intro j hj; exact hc j _ (by simp [List.getD_eq_getElem?_getD, hj])
      · rintro e w' ⟨v, rfl, h, -, hb⟩; rw [List.take_length] at h; exact ⟨v, rfl, h, hb⟩
end Go.Proofs.YtkfgbjjelcigcaaGreatDoor
/- What items fold to: plain; faces that grow, in memory. -/
set_option linter.unusedVariables false
set_option linter.unusedSimpArgs false
set_option maxRecDepth 100000
namespace Go
open Go.RowKit
abbrev FTell := List (List Pt) × List At
structure FS where
  faces : List FTell
  buf : Int
  tol : Int
  zooms : List Int
  asked : List (Int × List Int × ByteArray × VV)
def fs0 : FS := ⟨[], 0, 0, [], []⟩
def pairsF : List Int → List Pt
  | a :: b :: l => ⟨a, b⟩ :: pairsF l
  | _ => []
def modLast {α : Type} (f : α → α) : List α → List α
  | [] => []
  | [x] => [f x]
  | x :: y :: l => x :: modLast f (y :: l)
theorem modLast_snoc {α : Type} (f : α → α) : ∀ (l : List α) (x : α), modLast f (l ++ [x]) = l ++ [f x]
  | [], x => rfl
  | [a], x => rfl
  | a :: b :: l, x => by
    have := modLast_snoc f (b :: l) x; simp only [List.cons_append] at this ⊢; rw [modLast, this]
def stepF (s : FS) (x : It) : FS :=
  if x.kind = 5 then { s with faces := modLast (fun f => (f.1 ++ [pairsF x.n], f.2)) s.faces }
  else if x.kind = 6 then { s with faces := modLast (fun f => (f.1, f.2 ++ [⟨x.key, x.v.1, x.v.2.1, x.v.2.2⟩])) s.faces }
  else if x.kind = 4 then { s with faces := s.faces ++ [([], [])] }
  else if x.kind = 1 then { s with buf := x.n.getD 0 0 }
  else if x.kind = 2 then { s with tol := x.n.getD 0 0 }
  else if x.kind = 3 then { s with zooms := x.n }
  else { s with asked := s.asked ++ [x.core] }
def foldG (s : FS) : Nat → List It → FS × Nat × Int
  | _, [] => (s, 0, 0)
  | i, x :: l => if chkI x ≠ 0 then (fs0, i, chkI x) else if (x.kind = 5 ∨ x.kind = 6) ∧ s.faces = [] then (fs0, i, 7) else foldG (stepF s x) (i + 1) l
def Fc.tell (f : Fc) : FTell := (f.rings, f.ls)
theorem KeepS.grown_above {S : TypeId → Prop} {A B C : World} {row : Option Nat} (h : KeepS S A B) (hg : B.grownBy C row) (hr : ∀ r, row = some r → A.heap.size ≤ r) : KeepS S A C := by
  refine ⟨Nat.le_trans h.1 hg.size, fun k cs V fr hk hv => ?_⟩; have h1 := h.2 k cs V fr hk hv; have hkA : k < A.heap.size := (Array.getElem?_eq_some_iff.1 hk).1; rw [hg.block k (Nat.lt_of_lt_of_le hkA h.1) (fun e => by have := hr k e.symm; omega), h1]
theorem KeepS.sub {S T : TypeId → Prop} {A B : World} (h : KeepS S A B) (hs : ∀ V, T V → S V) : KeepS T A B := ⟨h.1, fun k cs V fr hk hv => h.2 k cs V fr hk (hs V hv)⟩
theorem KeepS.set_row {S : TypeId → Prop} {A : World} {n₀ : Nat} {e : TypeId} {size g n c : Nat} {xs : List Value} (h : A.ownsRow n₀ e size (.slice (some ⟨g, 0, none⟩) n c) n xs) (hS : ¬ S e) (i : Nat) (u : Value) : KeepS S A (A.setCell ⟨g, i, none⟩ u) := by
  obtain ⟨cur, hg, -⟩ := ownsRow_cur h; exact KeepS.store (p := ⟨g, i, none⟩) hg hS u
theorem KeepS.drew {S : TypeId → Prop} {A B : World} (h : KeepS S A B) : KeepS S A B.drew := h
theorem World.ownsRow.keepS {S : TypeId → Prop} {A B : World} {base : Nat} {e : TypeId} {size : Nat} {v : Value} {n : Nat} {xs : List Value} (h : A.ownsRow base e size v n xs) (hS : S e) (k : KeepS S A B) : B.ownsRow base e size v n xs := by
  refine ⟨h.1, ?_⟩
  rcases h.2 with h2 | ⟨g, cap, cur, rfl, hg, hh, r⟩
  · exact .inl h2
  · exact .inr ⟨g, cap, cur, rfl, hg, (k.2 g cur e (0, 0) hh hS).trans hh, r⟩
theorem cells_other {A : World} {b1 b2 : Nat} {c1 c2 : Array Value} {t1 t2 : TypeId} {f1 f2 : Nat × Nat} (h1 : A.heap[b1]? = some (.cells c1 t1 f1)) (h2 : A.heap[b2]? = some (.cells c2 t2 f2)) (hne : t1 ≠ t2) : b1 ≠ b2 := by
  rintro rfl; rw [h1] at h2
  cases h2
  exact hne rfl
end Go
namespace Go.Proofs.YtkfgbjjelcigcaaGreatDoor
open Go.RowKit
def Grow (base : Nat) (W : World) (LF : List Fc) : Prop :=
  LF = [] ∨ ∃ (L0 : List Fc) (f : Fc) (Wf : World), LF = L0 ++ [f] ∧ base ≤ Wf.heap.size ∧ (∀ x ∈ L0, FcT Wf x) ∧ KeepS faceS Wf W ∧ W.ownsRow Wf.heap.size 67 1 f.rval f.rs.length (rcs f.rs) ∧ (∀ r ∈ f.rs, PcT W r) ∧ W.ownsRow Wf.heap.size 71 4 f.aval f.ls.length (ats f.ls)
theorem Grow.keepS {base : Nat} {A B : World} {LF : List Fc} (h : Grow base A LF) (k : KeepS faceS A B) : Grow base B LF := by
  rcases h with rfl | ⟨L0, f, Wf, rfl, h1, h2, h3, h4, h5, h6⟩
  · exact .inl rfl
  · exact .inr ⟨L0, f, Wf, rfl, h1, h2, h3.trans k, h4.keepS (.inr (.inl rfl)) k, fun r hr => (h5 r hr).keepS (S := faceS) (.inl rfl) k, h6.keepS (.inr (.inr rfl)) k⟩
theorem Grow.keep {base : Nat} {A B : World} {LF : List Fc} (h : Grow base A LF) (hb : Below A.heap.size A B) : Grow base B LF := h.keepS (KeepS.of_below hb)
theorem Grow.all {base : Nat} {W : World} {LF : List Fc} (h : Grow base W LF) : ∀ f ∈ LF, FcT W f := by
  rcases h with rfl | ⟨L0, f, Wf, rfl, h1, h2, h3, h4, h5, h6⟩
  · simp
  · intro x hx
    rcases List.mem_append.1 hx with hx | hx
    · exact (h2 x hx).keepS h3
    · rw [List.mem_singleton] at hx; subst hx; obtain ⟨ra, rc, e1, q1, q2, q3, q4, -⟩ := h4.form; obtain ⟨aa, ac, e2, p1, p2, p3, p4, -⟩ := h6.form; unfold Fc.rval at e1; unfold Fc.aval at e2
      cases e1
      cases e2
      exact ⟨⟨⟨q4, q1, q2, q3⟩, fun r hr => (h5 r hr).1, ⟨p4, p1, p2, p3⟩⟩, TypB.of_owns h4, h5, TypB.of_owns h6⟩
theorem Grow.face {base : Nat} {W : World} {LF : List Fc} (h : Grow base W LF) (hb : base ≤ W.heap.size) : Grow base W (LF ++ [⟨[], none, 0, [], none, 0⟩]) :=
  .inr ⟨LF, _, W, rfl, hb, h.all, KeepS.refl W, World.ownsRow_nil _ _ _ _, by simp, World.ownsRow_nil _ _ _ _⟩
end Go.Proofs.YtkfgbjjelcigcaaGreatDoor
namespace Go
open Go.RowKit
def BT (w : World) (b : Nat) (T : TypeId) (vs : List Value) : Prop := w.heap[b]? = some (.cells vs.toArray T (0, 0))
section
variable {w w' : World} {b : Nat} {T : TypeId} {vs : List Value}
theorem BT.blk (h : BT w b T vs) : Blk w b vs := ⟨T, h⟩
theorem BT.of_same (h : BT w b T vs) (hb : w'.heap[b]? = w.heap[b]?) : BT w' b T vs := hb.trans h
theorem BT.keep (h : BT w b T vs) (hb : Below w.heap.size w w') : BT w' b T vs := h.of_same (hb.block b h.blk.lt)
theorem BT.keepS {S : TypeId → Prop} (h : BT w b T vs) (hS : S T) (k : KeepS S w w') : BT w' b T vs := h.of_same (k.2 b _ T (0, 0) h hS)
theorem BT.alloc (h : BT w b T vs) (o : Obj) : BT (w.alloc o) b T vs := h.of_same (heap_alloc_old w o h.blk.lt)
theorem BT.drew (h : BT w b T vs) : BT w.drew b T vs := h
theorem BT.grown {r : Option Nat} (h : BT w b T vs) (hg : w.grownBy w' r) (hne : some b ≠ r) : BT w' b T vs := h.of_same (hg.block b h.blk.lt hne)
theorem BT.set (h : BT w b T vs) (i : Nat) (u : Value) : BT (w.setCell ⟨b, i, none⟩ u) b T (vs.set i u) := by
  have h' : w.heap[b]? = some (.cells vs.toArray T (0, 0)) := h; unfold BT; simp [World.setCell, Array.getElem?_modify, h']
theorem BT.set_at (h : BT w b T vs) {b' o : Nat} (hp : b ≠ b') (u : Value) : BT (w.setCell ⟨b', o, none⟩ u) b T vs := h.of_same (Below.heap_setCell _ ⟨b', o, none⟩ _ _ hp)
theorem BT.lit (w : World) (b : Nat) (vs : List Value) (T : TypeId) (hb : w.heap.size = b) : BT (w.alloc (.cells vs.toArray T)) b T vs := by subst hb; exact heap_alloc_new w _
theorem BT.keepSet (h : BT w b T vs) {S : TypeId → Prop} (hS : ¬ S T) (i : Nat) (u : Value) : KeepS S w (w.setCell ⟨b, i, none⟩ u) := KeepS.store (p := ⟨b, i, none⟩) h hS u
end
theorem KeepS.row {A B : World} {n₀ : Nat} {e : TypeId} {size : Nat} {v : Value} {k : Nat} {xs : List Value} (hrow : A.ownsRow n₀ e size v k xs) (hg : A.grownBy B v.ownBlock) : KeepS (· ≠ e) A B :=
  KeepS.of_row hrow (fun h => h rfl) hg
theorem pairs_len : ∀ (l : List Int), (pairsF l).length = l.length / 2
  | [] => rfl
  | [_] => by simp [pairsF]
  | a :: b :: l => by
    have := pairs_len l; simp only [pairsF, List.length_cons, this]; omega
theorem pairs_get : ∀ (l : List Int) (j : Nat) (h : j < (pairsF l).length), (pairsF l)[j] = ⟨l.getD (2 * j) 0, l.getD (2 * j + 1) 0⟩
  | [], j, h => by simp [pairsF] at h
  | [_], j, h => by simp [pairsF] at h
  | a :: b :: l, 0, h => rfl
  | a :: b :: l, j + 1, h => by
    have h2 : j < (pairsF l).length := by simpa [pairsF] using h
    have := pairs_get l j h2; show (pairsF l)[j] = _; rw [this]; rw [show 2 * (j + 1) = 2 * j + 1 + 1 by omega, show 2 * j + 1 + 1 + 1 = (2 * j + 1) + 1 + 1 by omega]; simp
end Go
/- A region that draws its order, walked over each order in which its heavy operations may come up; the light ones are taken first. -/
set_option linter.unusedVariables false
set_option linter.unusedSimpArgs false
namespace Go
open Go.RowKit
section
variable {P : Program} {ops : Array Oper} {lt : Nat → Bool} {Q : Exit → Act → World → Prop} {S : World → Prop}

def wpSched (P : Program) (ops : Array Oper) (lt : Nat → Bool) (Q : Exit → Act → World → Prop) (S : World → Prop) : Nat → Array Bool → Act → World → Prop
  | 0, listed, a, w => Region.ready .any ops listed = [] ∧ Q .normal a w
  | f + 1, listed, a, w =>
    match (Region.ready .any ops listed).find? lt with
    | some j => Region.free .any ops listed j = true ∧ ∃ o v, ops[j]? = some o ∧ YieldsIf P ops S o v a ∧ S w ∧ wpSched P ops lt Q S f (listed.setIfInBounds j true) (a.put o.dst v) w
    | none => (Region.ready .any ops listed = [] → Q .normal a w) ∧
      ∀ i ∈ Region.ready .any ops listed, wpOp P ops Q i (fun a' w' => S w' ∧ wpSched P ops lt Q S f (listed.setIfInBounds i true) a' w') a w

theorem wpSched_sound (hs : Region.noSelect ops = true) (hQ : ∀ c a w, ¬ Q (.panic c) a w) : ∀ (f : Nat) (listed : Array Bool) (a : Act) (w : World),
    wpSched P ops lt Q S f listed a w → wpAnyZ P .any ops Q S none f listed a w := by
  intro f
  induction f with
  | zero => intro listed a w h; exact wpAnyZ_done h.1 h.2 0
  | succ f ih =>
    intro listed a w h; unfold wpSched at h
    cases hf : (Region.ready .any ops listed).find? lt with
    | some j =>
      rw [hf] at h; simp only at h; obtain ⟨h1, o, v, ho, hy, hS, h2⟩ := h; have hr : (Region.ready .any ops listed).contains j = true := by
        have := List.mem_of_find?_eq_some hf
        simpa using this
      exact wpAnyZ_take rfl ho hs (fun c a w h => absurd h (hQ c _ w)) f listed a w h1 hr hy hS (ih _ _ _ h2)
    | none =>
      rw [hf] at h; simp only at h; exact ⟨h.1, fun i hi => wpOp_mono (fun a' w' h' => ⟨fun _ => h'.1, ih _ _ _ h'.2⟩) (h.2 i hi)⟩

theorem sched_light {f : Nat} {listed : Array Bool} {a : Act} {w : World} (j : Nat) (o : Oper) (v : Value) (hr : (Region.ready .any ops listed).find? lt = some j) (hf : Region.free .any ops listed j = true) (ho : ops[j]? = some o)
    (hw : Region.wanted o (yielded ops a.tmps) = true) (hv : ∀ w', S w' → (execOp a.eval o).run P w' = .ok (.value v) w') (hS : S w) (h : wpSched P ops lt Q S f (listed.setIfInBounds j true) (a.put o.dst v) w) : wpSched P ops lt Q S (f + 1) listed a w := by
  unfold wpSched; rw [hr]; exact ⟨hf, o, v, ho, .inl ⟨hw, hv⟩, hS, h⟩
theorem sched_fork {f : Nat} {listed : Array Bool} {a : Act} {w : World} (rs : List Nat) (hr : Region.ready .any ops listed = rs) (hl : rs.find? lt = none) (hne : rs ≠ [])
    (h : ∀ i ∈ rs, wpOp P ops Q i (fun a' w' => S w' ∧ wpSched P ops lt Q S f (listed.setIfInBounds i true) a' w') a w) : wpSched P ops lt Q S (f + 1) listed a w := by
  unfold wpSched; rw [hr, hl]; exact ⟨fun h0 => absurd h0 hne, h⟩
theorem sched_heavy {f : Nat} {listed : Array Bool} {a : Act} {w : World} (i : Nat) (o : Oper) (ho : ops[i]? = some o) (hw : Region.wanted o (yielded ops a.tmps) = true)
    (h : ∀ K : Act → World → Prop, Hid (∀ a w, S w → wpSched P ops lt Q S f (listed.setIfInBounds i true) a w → K a w) → o.wp P a w K Q) :
    wpOp P ops Q i (fun a' w' => S w' ∧ wpSched P ops lt Q S f (listed.setIfInBounds i true) a' w') a w := by
  unfold wpOp; simp only [ho]; rw [if_pos hw]; exact .inl (h _ (fun a w h1 h2 => ⟨h1, h2⟩))
theorem sched_done {listed : Array Bool} {a : Act} {w : World} (hr : Region.ready .any ops listed = []) (h : Q .normal a w) : wpSched P ops lt Q S 0 listed a w := ⟨hr, h⟩

theorem sched_end {listed : Array Bool} {a : Act} {w : World} (hr : Region.ready .any ops listed = []) (h : Q .normal a w) : wpSched P ops lt (OnlyQ Q) S 0 listed a w := sched_done hr h

theorem wp_region_sched {id : Nat} {a : Act} {w : World} (n : Nat) (lts : List Nat) (S : World → Prop) (hn : ops.size = n) (hm : P.follows .mixedOrders = true) (hs : Region.noSelect ops = true)
    (h : wpSched P ops (lts.contains ·) (OnlyQ Q) S n (Array.replicate n false) a w.drew) : (Code.region id ops true).wp P Q a w := by
  subst hn; refine Code.wp_mono OnlyQ.imp ?_; refine wp_region_any hm (wpAny_of_Z (S := S) (z := none) _ _ _ _ ?_); exact wpSched_sound hs (fun c a w h => h) _ _ _ _ h
end
attribute [irreducible] wpSched
end Go
