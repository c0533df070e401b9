/-
  The chapter's example. graticulelaw10.Cut, graticulelaw11.Cut. Rows of points in a block: read, and written in place. Plain: few faces. Plain: how many rings and points. Attributes that are left (plain).
-/
import Derived.Test.YtkfgbjjelcigcaaDoorPk15
import Derived.Test.YtkfgbjjelcigcaaDoorPk2
import Derived.Test.YtkfgbjjelcigcaaDoorPk8
/- The chapter's example. -/
set_option linter.unusedVariables false
set_option linter.unusedSimpArgs false
set_option maxRecDepth 100000
namespace Go
open Go.RowKit
theorem chkI_core {x y : It} (h : x.core = y.core) : chkI x = chkI y := by
  cases x; cases y
  simp only [It.core, Prod.mk.injEq] at h; obtain ⟨rfl, rfl, rfl, rfl⟩ := h
  rfl
theorem stepF_core {x y : It} (h : x.core = y.core) (s : FS) : stepF s x = stepF s y := by
  cases x; cases y
  simp only [It.core, Prod.mk.injEq] at h; obtain ⟨rfl, rfl, rfl, rfl⟩ := h
  rfl
theorem kind_core {x y : It} (h : x.core = y.core) : x.kind = y.kind := congrArg (·.1) h
theorem foldG_core : ∀ (G X : List It) (s : FS) (i : Nat), G.map It.core = X.map It.core → foldG s i G = foldG s i X
  | [], [], _, _, _ => rfl
  | [], _ :: _, _, _, h => by simp at h
  | _ :: _, [], _, _, h => by simp at h
  | g :: G, x :: X, s, i, h => by
    simp only [List.map_cons, List.cons.injEq] at h; unfold foldG; rw [chkI_core h.1, kind_core h.1, stepF_core h.1, foldG_core G X _ _ h.2]
def X0 : List It := [⟨1, [5], ⟨#[]⟩, vZ, none, 0⟩, ⟨4, [], ⟨#[]⟩, vZ, none, 0⟩, ⟨5, [0, 0, 16, 0, 0, 16], ⟨#[]⟩, vZ, none, 0⟩, ⟨6, [], ⟨#[110, 97, 109, 101]⟩, (1, ⟨#[97, 32, 98]⟩, 0), none, 0⟩, ⟨8, [4, 1, 1, 1], ⟨#[]⟩, vZ, none, 0⟩]
theorem itoa_0 : Lib.itoa 0 = [48] := by simp [Lib.itoa, Lib.decDigits]
theorem itoa_1 : Lib.itoa 1 = [49] := by simp [Lib.itoa, Lib.decDigits]
theorem itoa_4 : Lib.itoa 4 = [52] := by simp [Lib.itoa, Lib.decDigits]
theorem itoa_5 : Lib.itoa 5 = [53] := by simp [Lib.itoa, Lib.decDigits]
theorem itoa_16 : Lib.itoa 16 = [49, 54] := by simp [Lib.itoa, Lib.decDigits]
theorem chk_X0 : ∀ x ∈ X0, chkI x = 0 := by
  intro x hx; simp only [X0, List.mem_cons, List.not_mem_nil, or_false] at hx
  rcases hx with rfl | rfl | rfl | rfl | rfl <;> kernel_rfl
theorem text_X0 : textF X0 ++ [] = [98, 117, 102, 102, 101, 114, 32, 53, 10, 102, 97, 99, 101, 10, 114, 105, 110, 103, 32, 48, 32, 48, 32, 49, 54, 32, 48, 32, 48, 32, 49, 54, 10, 97, 116, 116, 114, 32, 110, 97, 109, 101, 32, 34, 97, 32, 98, 34, 10, 108, 111, 99, 97, 116, 101, 32, 52, 32, 49, 32, 49, 32, 49, 10] := by
  have hq : quoteF ⟨#[97, 32, 98]⟩ = [34, 97, 32, 98, 34] := by kernel_rfl
  simp [textF, X0, lineF, rest6, tl, pw, vw, itoa_0, itoa_1, itoa_4, itoa_5, itoa_16, hq, kwS, kws]
theorem fold_X0 : foldG fs0 0 X0 = (⟨[([[⟨0, 0⟩, ⟨16, 0⟩, ⟨0, 16⟩]], [⟨⟨#[110, 97, 109, 101]⟩, 1, ⟨#[97, 32, 98]⟩, 0⟩])], 5, 0, [], [(8, [4, 1, 1, 1], ⟨#[]⟩, vZ)]⟩, 0, 0) := by kernel_rfl
end Go
namespace Go.Proofs.YtkfgbjjelcigcaaDoor
open Go.RowKit
set_option maxHeartbeats 3200000 in
theorem known30_any (w : World) :
    Calls Tryd.prog 9 #[] w fun e w' => e = .returned (.bool true) ∧ Below w.heap.size w w' := by
  have HP := Lib.hid (iparse_any X0 chk_X0 [] RT.nil (by rw [text_X0]; decide) w); rw [text_X0] at HP
  go_enter Tryd.func9, Tryd.ntmps9
  go_wp2_with fail
  refine HP.out.mono ?_; intro e w1 hpost
  rcases hpost with ⟨-, G, p, c, rfl, hG, hown, hIT, hb1⟩ | ⟨h, -⟩
  · have hl : G.length = 5 := by
      have := congrArg List.length hG
      simpa [X0] using this
    obtain ⟨p', c', e, q1, q2, q3, q4, -⟩ := hown.form
    cases e
    have hcore : ∀ g ∈ G, g.n.length ≤ 100000 ∧ g.Sz := by
      intro g hg; have h1 : g.core ∈ X0.map It.core := by rw [← hG]; exact List.mem_map_of_mem hg
      simp only [X0, List.map_cons, List.map_nil, It.core, List.mem_cons, List.not_mem_nil, or_false, Prod.mk.injEq] at h1; unfold It.Sz maxLen
      rcases h1 with ⟨_, e1, e2, e3⟩ | ⟨_, e1, e2, e3⟩ | ⟨_, e1, e2, e3⟩ | ⟨_, e1, e2, e3⟩ | ⟨_, e1, e2, e3⟩ <;> (rw [e1, e2, e3]; decide)
    have HFD := Lib.hid (fold_any p c G q1 q2 (by omega) (fun g hg => (hcore g hg).1) (fun g hg => (hcore g hg).2) w1 q4 (fun g hg => (hIT g hg).1)); have hfe := foldG_core G X0 fs0 0 hG; rw [fold_X0] at hfe; have HFE := Lib.hid hfe; rw [hl] at HFD; rw [hl]; clear HP hG hown hIT hcore hfe q4
    go_wp2_with fail
    refine HFD.out.mono ?_; intro e w2 hp2; unfold FoldPost at hp2; rw [HFE.out] at hp2; obtain ⟨LF, fp, fc, zp, zc, G2, ap, ac, rfl, h1, h2, h3, h4, h5, h6, h7, hb2⟩ := hp2; dsimp only at h1 h2 h3 h5; have hl1 : LF.length = 1 := by have := congrArg List.length h1; simpa using this
    have hl2 : G2.length = 1 := by have := congrArg List.length h2; simpa using this
    obtain ⟨f, rfl⟩ : ∃ f, LF = [f] := by
      match LF, hl1 with
      | [f], _ => exact ⟨f, rfl⟩
    simp only [List.map_cons, List.map_nil, Fc.tell, List.cons.injEq, and_true, Prod.mk.injEq] at h1; have hr1 : f.rs.length = 1 := by
      have := congrArg List.length h1.1
      simpa [Fc.rings] using this
    have ha1 : f.ls.length = 1 := by rw [h1.2]; rfl
    have hbw := hb1.trans (hb2.mono hb1.size); have hrd := Rd.of_owns h3; obtain ⟨fb, fo, rfl, hfb, cr, ca⟩ := hrd.fc 0 (by simp); simp only [List.getElem_cons_zero, Nat.zero_mul, Nat.add_zero, Fc.rval, Fc.aval, hr1, ha1] at cr ca; rw [hl2]; simp only [List.length_cons, List.length_nil, Nat.zero_add]; have hbx := Below.new w2 (.cells #[.slice (some ⟨fb, fo, none⟩) 1 fc, .int .i64 5, .int .i64 0, .slice zp 0 zc] 25); obtain ⟨B, hB⟩ : ∃ B, w2.heap.size = B := ⟨_, rfl⟩; have bB := Blk.lit w2 B [.slice (some ⟨fb, fo, none⟩) 1 fc, .int .i64 5, .int .i64 0, .slice zp 0 zc] 25 hB; have e0 := bB.cell 0 rfl; have e1 := bB.cell 1 rfl; have e2 := (hbx.cell (p := ⟨fb, fo, none⟩) hfb).trans cr; have e3 := (hbx.cell (p := ⟨fb, fo + 1, none⟩) hfb).trans ca; have hbz := hbw.trans (hbx.mono hbw.size); clear HFD HFE h1 h2 h3 h4 h5 h6 h7 hrd cr ca hbx hbw hb1 hb2; go_wp2; go_ret; exact ⟨rfl, hbz⟩
  · exact absurd rfl h
end Go.Proofs.YtkfgbjjelcigcaaDoor
/- graticulelaw10.Cut, graticulelaw11.Cut. -/
set_option linter.unusedVariables false
set_option linter.unusedSimpArgs false
set_option maxRecDepth 100000
namespace Go
open Go.RowKit
def cutS (s : ByteArray) : ByteArray := s.extract 0 (min s.size 100)
def cutA (a : At) : At := ⟨cutS a.key, a.kind, cutS a.text, a.n⟩
def AtOk (a : At) : Prop := a.key.size ≤ maxLen ∧ a.text.size ≤ maxLen
theorem cutS_ok (s : ByteArray) : (cutS s).size ≤ maxLen := by unfold cutS maxLen; simp; omega
theorem cutA_ok (a : At) : AtOk (cutA a) := ⟨cutS_ok _, cutS_ok _⟩
end Go
namespace Go.Proofs.YtkfgbjjelcigcaaDoor
open Go.RowKit
set_option maxHeartbeats 800000 in
theorem cut10_any (k n : Int) (s : ByteArray) (hs : s.size ≤ maxLen) (w : World) :
    Calls Tryd.prog 30 #[.agg #[.int .i64 k, .string s, .int .i64 n]] w fun e w' => e = .returned (.agg #[.int .i64 k, .string (cutS s), .int .i64 n]) ∧ Below w.heap.size w w' := by
  have hs2 : s.size ≤ 9223372036854775807 := by unfold maxLen at hs; omega
  obtain ⟨z0, hz0⟩ : ∃ z : Int, (if (100 : Int) < (s.size : Int) then (100 : Int) else (s.size : Int)) = z := ⟨_, rfl⟩; have e0 : z0.toNat = min s.size 100 := by rw [← hz0]; split <;> omega
  have hz1 : 0 ≤ z0 ∧ z0 ≤ (s.size : Int) := by rw [← hz0]; split <;> omega
  have hzm : min (s.size : Int) 100 = z0 := by rw [← hz0]; split <;> omega
  have HC : Hid (cutS s = s.extract 0 (min s.size 100)) := Lib.hid rfl; generalize cutS s = CS at *
  go_enter Tryd.func30, Tryd.ntmps30
  go_wp2; refine bodyPost_ret (v := .agg #[.int .i64 k, .string CS, .int .i64 n]) ?_ rfl ⟨rfl, (Below.new _ _).alloc (by simp) _⟩; rw [← HC.out]; simp [results, Tryd.results30, go_sem]

set_option maxHeartbeats 3200000 in
theorem cut11_any (a : Option Addr) (c : Nat) (l : List At) (hlc : l.length ≤ c) (hcm : c ≤ maxLen) (hok : ∀ x ∈ l, AtOk x) (w : World) (hr : Rd w a (ats l)) :
    Calls Tryd.prog 16 #[.slice a l.length c] w fun e w' => ∃ v, e = .returned v ∧ w'.ownsRow w.heap.size 57 4 v ((l.take 10).map cutA).length (ats ((l.take 10).map cutA)) ∧ Below w.heap.size w w' := by
  have HC := Lib.hid (fun k n s hs w => cut10_any k n s hs w); have HOK := Lib.hid hok; have HR := Lib.hid hr; unfold maxLen at hcm; obtain ⟨N, hN⟩ : ∃ N, l.length = N := ⟨_, rfl⟩; have HN := Lib.hid hN; rw [hN] at hlc ⊢; have hml : ((l.take 10).map cutA).length = min 10 N := by rw [List.length_map, List.length_take, hN]
  rw [hml]; clear hr hN hok hml
  go_enter Tryd.func16, Tryd.ntmps16
  go_wp2
  go_loopw [3, 4] (fun o i wr => ∃ k : Nat, k ≤ N ∧ k ≤ 10 ∧ i = .int .i64 k ∧ wr.ownsRow w.heap.size 57 4 o k (ats ((l.take k).map cutA)) ∧ Below w.heap.size w wr) (fun _ i _ => 10 - (intOf i).toNat)
  case atStart => exact ⟨0, by omega, by omega, rfl, World.ownsRow_nil _ _ _ _, Below.refl _ _⟩
  case round =>
    obtain ⟨i, hi, hi10, rfl, ho, hbl⟩ := hrel
    by_cases hlt : i < N ∧ i < 10
    · obtain ⟨h1, h2⟩ := hlt; have h1' : (i : Int) < (N : Int) := by omega
      have h2' : (i : Int) < 10 := by omega
      have hil : i < l.length := by rw [HN.out]; exact h1
      obtain ⟨b1, o1, rfl, hbb, c0, c1, c2, c3⟩ := HR.out.atr i hil; obtain ⟨k1, k2⟩ := HOK.out l[i] (List.getElem_mem hil); have HSN : Hid (ats ((l.take (i + 1)).map cutA) = ats ((l.take i).map cutA) ++ (cutA l[i]).cells) := Lib.hid (by
        rw [List.take_succ_eq_append_getElem hil, List.map_append, List.map_singleton, ats_snoc])
      have hcc : (cutA l[i]).cells = [.string (cutS l[i].key), .int .i64 l[i].kind, .string (cutS l[i].text), .int .i64 l[i].n] := rfl; rw [hcc] at HSN; have HC10 := Lib.hid (fun w => HC.out l[i].kind l[i].n l[i].text k2 w); generalize cutS l[i].text = T2 at *; obtain ⟨K1, hK1⟩ : ∃ K, l[i].key = K := ⟨_, rfl⟩; rw [hK1] at c0 HSN k1 hcc; obtain ⟨K2, hK2⟩ : ∃ K, cutS K1 = K := ⟨_, rfl⟩; rw [hK2] at HSN; obtain ⟨z0, hz0⟩ : ∃ z : Int, (if (100 : Int) < (K1.size : Int) then (100 : Int) else (K1.size : Int)) = z := ⟨_, rfl⟩; have e0 : z0.toNat = min K1.size 100 := by rw [← hz0]; split <;> omega
      have hz1 : 0 ≤ z0 ∧ z0 ≤ (K1.size : Int) := by rw [← hz0]; split <;> omega
      have hzm : min (K1.size : Int) 100 = z0 := by rw [← hz0]; split <;> omega
      have hks : K1.extract 0 (min K1.size 100) = K2 := hK2; generalize l[i].kind = kd at *; generalize l[i].text = T1 at *; generalize l[i].n = nn at *; clear hK1 hK2 hcc k2; unfold maxLen at k1; go_wp2; refine wp_region_lit_txt [0, 1, 2, 3, 4, 5, 6, 7, 8, 9, 10, 11, 12, 13, 14, 15, 16, 17, 18, 20, 23] (fun W => Below w.heap.size w W) (by kernel_rfl) (by kernel_rfl) (by kernel_rfl) (hbl.drew) ?_
      iterate 5 ((refine txt_light ?_ rfl rfl ?_ ?_; rotate_left; · (intro w' hS; (try dsimp only at hS); go_simp; with_reducible rfl)); try simp only [Act.put, List.setIfInBounds_toArray, List.set_cons_zero, List.set_cons_succ])
      refine txt_light (.string K1) rfl rfl ?_ ?_
      · intro w' hS; have e0 := (hS.cell (p := ⟨b1, o1 + i * 4, none⟩) hbb).trans c0; go_simp
      try simp only [Act.put, List.setIfInBounds_toArray, List.set_cons_zero, List.set_cons_succ]
      iterate 4 ((refine txt_light ?_ rfl rfl ?_ ?_; rotate_left; · (intro w' hS; (try dsimp only at hS); go_simp; with_reducible rfl)); try simp only [Act.put, List.setIfInBounds_toArray, List.set_cons_zero, List.set_cons_succ])
      refine txt_light (.string K1) rfl rfl ?_ ?_
      · intro w' hS; have e0 := (hS.cell (p := ⟨b1, o1 + i * 4, none⟩) hbb).trans c0; go_simp
      try simp only [Act.put, List.setIfInBounds_toArray, List.set_cons_zero, List.set_cons_succ]
      (refine txt_light ?_ rfl rfl ?_ ?_; rotate_left; · (intro w' hS; (try dsimp only at hS); go_simp; with_reducible rfl)); try simp only [Act.put, List.setIfInBounds_toArray, List.set_cons_zero, List.set_cons_succ]
      refine txt_light (.int .i64 z0) rfl rfl ?_ ?_
      · intro w' hS; go_simp
      try simp only [Act.put, List.setIfInBounds_toArray, List.set_cons_zero, List.set_cons_succ]
      refine txt_light (.string K2) rfl rfl ?_ ?_
      · intro w' hS; go_simp
      try simp only [Act.put, List.setIfInBounds_toArray, List.set_cons_zero, List.set_cons_succ]
      iterate 4 ((refine txt_light ?_ rfl rfl ?_ ?_; rotate_left; · (intro w' hS; (try dsimp only at hS); go_simp; with_reducible rfl)); try simp only [Act.put, List.setIfInBounds_toArray, List.set_cons_zero, List.set_cons_succ])
      refine txt_light (.agg #[.int .i64 kd, .string T1, .int .i64 nn]) rfl rfl ?_ ?_
      · intro w' hS; have e1 := (hS.cell (p := ⟨b1, o1 + i * 4 + 1, none⟩) hbb).trans c1; have e2 := (hS.cell (p := ⟨b1, o1 + i * 4 + 2, none⟩) hbb).trans c2; have e3 := (hS.cell (p := ⟨b1, o1 + i * 4 + 3, none⟩) hbb).trans c3; go_simp
      try simp only [Act.put, List.setIfInBounds_toArray, List.set_cons_zero, List.set_cons_succ]
      have ho0 : wr.drew.ownsRow w.heap.size 57 4 u3 i (ats ((l.take i).map cutA)) := ho; have hbd : Below w.heap.size w wr.drew := hbl.drew; generalize wr.drew = W0 at *; refine txt_call [.agg #[.int .i64 kd, .string T1, .int .i64 nn]] Tryd.f30 rfl rfl Tryd.func30 (by kernel_rfl) (by kernel_rfl) rfl ((HC10.out _).mono ?_); rintro e W1 ⟨rfl, hx1⟩; have ho1 := ho0.below hx1; have hb1 := hbd.trans (hx1.mono hbd.size); refine ⟨_, rfl, hb1, ?_⟩; clear hx1 ho0 hbd
      try simp only [Act.put, List.setIfInBounds_toArray, List.set_cons_zero, List.set_cons_succ]
      refine txt_light (.agg #[.string K2, .int .i64 kd, .string T2, .int .i64 nn]) rfl rfl ?_ ?_
      · intro w' hS; go_simp
      try simp only [Act.put, List.setIfInBounds_toArray, List.set_cons_zero, List.set_cons_succ]
      refine txt_heavy rfl rfl (fun K hK => ?_); go_step; have ho2 := ho1.below (Below.new W1 (.cells #[.string K2, .int .i64 kd, .string T2, .int .i64 nn] 57)); have hb2 := hb1.alloc hb1.size (.cells #[.string K2, .int .i64 kd, .string T2, .int .i64 nn] 57); have rd := Rd.lit W1 W1.heap.size [.string K2, .int .i64 kd, .string T2, .int .i64 nn] 57 rfl; refine hK.out _ _ hb2 ?_; clear hK K ho1 hb1; generalize W1.alloc (.cells #[.string K2, .int .i64 kd, .string T2, .int .i64 nn] 57) = W2 at *
      try simp only [Act.put, List.setIfInBounds_toArray, List.set_cons_zero, List.set_cons_succ]
      refine txt_app w hb2 rfl rfl (.tmp 15) (.tmp 36) 47 rfl 57 (.agg #[.string ⟨#[]⟩, .int .i64 0, .string ⟨#[]⟩, .int .i64 0]) 4 48 Tryd.underlying47 Tryd.infoAt rfl (by decide) u3 i (ats ((l.take i).map cutA)) rfl ho2 (some ⟨W1.heap.size, 0, none⟩) 1 1 [.string K2, .int .i64 kd, .string T2, .int .i64 nn] rfl (fun h => by cases h) rd rfl (by simp [Value.oneCell']) (by omega) (by decide) ?_; intro v3 W3 ho3 hg3 hb3; refine ⟨hb3, ?_⟩
      try simp only [Act.put, List.setIfInBounds_toArray, List.set_cons_zero, List.set_cons_succ]
      (refine txt_light ?_ rfl rfl ?_ ?_; rotate_left; · (intro w' hS; (try dsimp only at hS); go_simp; with_reducible rfl)); try simp only [Act.put, List.setIfInBounds_toArray, List.set_cons_zero, List.set_cons_succ]
      refine txt_nil ?_; clear c0 c1 c2 c3 ho2 hb2 hg3 rd; have HO9 : Hid (W3.ownsRow w.heap.size 57 4 v3 (i + 1) (ats ((l.take (i + 1)).map cutA))) := Lib.hid (by rw [HSN.out]; exact ho3); clear ho3; go_wp2; exact ⟨⟨i + 1, by omega, by omega, by go_num, by have := HO9.out; simpa only [List.map_take] using this, hb3⟩, by simp [intOf]; omega⟩
    · have HML : Hid (i = min 10 N) := Lib.hid (by omega); have HTK : Hid (l.take i = l.take 10) := Lib.hid (by
        by_cases h10 : i = 10
        · rw [h10]
        · rw [List.take_of_length_le (by rw [HN.out]; omega), List.take_of_length_le (by rw [HN.out]; omega)])
      have HO9 : Hid (wr.ownsRow w.heap.size 57 4 u3 (min 10 N) (ats ((l.take 10).map cutA))) := Lib.hid (by rw [← HML.out, ← HTK.out]; exact ho)
      by_cases h1 : i < N
      · have h1' : (i : Int) < (N : Int) := by omega
        have h2' : ¬ (i : Int) < 10 := by omega
        go_wp2; go_ret; exact ⟨u3, rfl, by have := HO9.out; simpa only [List.map_take] using this, hbl⟩
      · have h1' : ¬ (i : Int) < (N : Int) := by omega
        go_wp2; go_ret; exact ⟨u3, rfl, by have := HO9.out; simpa only [List.map_take] using this, hbl⟩
end Go.Proofs.YtkfgbjjelcigcaaDoor
/- Rows of points in a block: read, and written in place. -/
/- A ring, the other way round: in plain terms. -/
namespace Go
def turnedP (l : List Pt) : List Pt := match l with | [] => [] | p :: t => p :: t.reverse
theorem turnedP_len (l : List Pt) : (turnedP l).length = l.length := by cases l <;> simp [turnedP]
theorem turnedP_map (f : Pt → Pt) (l : List Pt) : (turnedP l).map f = turnedP (l.map f) := by cases l <;> simp [turnedP]
theorem turnedP_all (f : Pt → Bool) (l : List Pt) : (turnedP l).all f = l.all f := by cases l <;> simp [turnedP]
end Go
set_option linter.unusedVariables false
set_option linter.unusedSimpArgs false
set_option maxRecDepth 100000
namespace Go
open Go.RowKit
theorem cellP {w : World} {g : Nat} {R : List Pt} {TL : List Value} {e : TypeId} (h : w.heap[g]? = some (.cells (pts R ++ TL).toArray e (0, 0))) (i : Nat) (hi : i < R.length) :
    w.cell? ⟨g, i * 2, none⟩ = some (.int .i64 R[i]!.x) ∧ w.cell? ⟨g, i * 2 + 1, none⟩ = some (.int .i64 R[i]!.y) := by
  have hb : Blk w g (pts R ++ TL) := ⟨_, h⟩; have hl := pts_len R; have g0 := pts_get R i 0 hi (by omega); have g1 := pts_get R i 1 hi (by omega); rw [getElem!_pos R i hi]; constructor
  · refine hb.cell (i * 2) ?_; rw [List.getElem?_append_left (by omega)]; exact g0
  · refine hb.cell (i * 2 + 1) ?_; rw [List.getElem?_append_left (by omega)]; exact g1
theorem blkT_set {w : World} {b : Nat} {T : TypeId} {vs : List Value} (h : w.heap[b]? = some (.cells vs.toArray T (0, 0))) (i : Nat) (u : Value) : (w.setCell ⟨b, i, none⟩ u).heap[b]? = some (.cells (vs.set i u).toArray T (0, 0)) := by
  simp [World.setCell, Array.getElem?_modify, h]
theorem row_set (C D : List Pt) (q p : Pt) (TL : List Value) (kk : Nat) (hk : C.length = kk) :
    ((pts (C ++ q :: D) ++ TL).set (kk * 2) (.int .i64 p.x)).set (kk * 2 + 1) (.int .i64 p.y) = pts ((C ++ [p]) ++ D) ++ TL := by
  have e1 : pts (C ++ q :: D) ++ TL = pts C ++ (.int .i64 q.x :: .int .i64 q.y :: (pts D ++ TL)) := by simp [pts, Pt.cells]
  have e2 : pts ((C ++ [p]) ++ D) ++ TL = pts C ++ (.int .i64 p.x :: .int .i64 p.y :: (pts D ++ TL)) := by simp [pts, Pt.cells]
  have hl : (pts C).length = kk * 2 := by rw [pts_len, hk]
  rw [e1, e2, List.set_append_right _ _ (by omega), List.set_append_right _ _ (by omega), hl]; simp
end Go
/- Plain: few faces. -/
set_option linter.unusedVariables false
set_option linter.unusedSimpArgs false
set_option maxRecDepth 100000
namespace Go
open Go.RowKit
structure Fp where
  rings : List (List Pt)
  ls : List At
def Fc.plain (f : Fc) : Fp := ⟨f.rings, f.ls⟩
def fewStep (most : Nat) (s : List (List Pt) × Nat) (r : List Pt) : List (List Pt) × Nat := (s.1 ++ [r.take (most - s.2)], s.2 + (r.take (most - s.2)).length)
def fewRs (most p : Nat) (l : List (List Pt)) : List (List Pt) × Nat := l.foldl (fewStep most) ([], p)
def fewStepF (most : Nat) (s : List Fp × Nat) (f : Fp) : List Fp × Nat := (s.1 ++ [⟨(fewRs most s.2 (f.rings.take 8)).1, (f.ls.take 10).map cutA⟩], (fewRs most s.2 (f.rings.take 8)).2)
def fewFs (most : Nat) (l : List Fp) : List Fp × Nat := l.foldl (fewStepF most) ([], 0)
def fewF (most : Nat) (l : List Fp) : List Fp := (fewFs most (l.take 10)).1
theorem fewRs_snoc (most p : Nat) (l : List (List Pt)) (r : List Pt) : fewRs most p (l ++ [r]) = fewStep most (fewRs most p l) r := by simp [fewRs, List.foldl_append]
theorem fewFs_snoc (most : Nat) (l : List Fp) (f : Fp) : fewFs most (l ++ [f]) = fewStepF most (fewFs most l) f := by simp [fewFs, List.foldl_append]
theorem fewRs_le (most p : Nat) (hp : p ≤ most) (l : List (List Pt)) : (fewRs most p l).2 ≤ most := by
  have key : ∀ (l : List (List Pt)) (s : List (List Pt) × Nat), s.2 ≤ most → (l.foldl (fewStep most) s).2 ≤ most := by
    intro l
    induction l with
    | nil => intro s h; exact h
    | cons r l ih =>
      intro s h; refine ih _ ?_; simp only [fewStep, List.length_take]; omega
  exact key l _ hp
theorem fewFs_le (most : Nat) (l : List Fp) : (fewFs most l).2 ≤ most := by
  have key : ∀ (l : List Fp) (s : List Fp × Nat), s.2 ≤ most → (l.foldl (fewStepF most) s).2 ≤ most := by
    intro l
    induction l with
    | nil => intro s h; exact h
    | cons r l ih =>
      intro s h; exact ih _ (fewRs_le most _ h _)
  exact key l _ (Nat.zero_le _)
def Fc.In (W : World) (f : Fc) : Prop := f.Ok W ∧ ∀ x ∈ f.ls, AtOk x
end Go
namespace Go
open Go.RowKit
theorem ownsRow_box {W : World} {base : Nat} {e T : TypeId} {size n B : Nat} {v : Value} {xs : List Value} {cs : Array Value} (h : W.ownsRow base e size v n xs) (hk : W.heap[B]? = some (.cells cs T (0, 0))) (hT : T ≠ e) (i : Nat) (u : Value) : (W.setCell ⟨B, i, none⟩ u).ownsRow base e size v n xs := by
  refine h.kept (row := some B) ⟨rfl, rfl, rfl, by simp [World.setCell], fun k _ hk => Below.heap_setCell W ⟨B, i, none⟩ u k (fun e => hk (by rw [e]))⟩ ?_
  rcases h.2 with ⟨rfl, _⟩ | ⟨g, cap, cur, rfl, _, hgb, _⟩
  · exact .inl rfl
  · refine .inr fun e' => ?_; obtain rfl : g = B := by simpa [Value.ownBlock] using e'
    rw [hk] at hgb
    cases hgb
    exact hT rfl
end Go
/- Plain: how many rings and points. -/
set_option linter.unusedVariables false
set_option linter.unusedSimpArgs false
set_option maxRecDepth 100000
namespace Go
open Go.RowKit
def lenS : List (List Pt) → Nat
  | [] => 0
  | r :: l => r.length + lenS l
def cntR : List (List (List Pt)) → Nat
  | [] => 0
  | f :: l => f.length + cntR l
def cntP : List (List (List Pt)) → Nat
  | [] => 0
  | f :: l => lenS f + cntP l
theorem lenS_append (a b : List (List Pt)) : lenS (a ++ b) = lenS a + lenS b := by
  induction a with
  | nil => simp [lenS]
  | cons r a ih => simp only [List.cons_append, lenS, ih]; omega
theorem cntR_append (a b : List (List (List Pt))) : cntR (a ++ b) = cntR a + cntR b := by
  induction a with
  | nil => simp [cntR]
  | cons r a ih => simp only [List.cons_append, cntR, ih]; omega
theorem cntP_append (a b : List (List (List Pt))) : cntP (a ++ b) = cntP a + cntP b := by
  induction a with
  | nil => simp [cntP]
  | cons r a ih => simp only [List.cons_append, cntP, ih]; omega
theorem lenS_take (l : List (List Pt)) (k : Nat) : lenS (l.take k) ≤ lenS l := by
  have := lenS_append (l.take k) (l.drop k); rw [List.take_append_drop] at this; omega
theorem cntR_take (l : List (List (List Pt))) (k : Nat) : cntR (l.take k) ≤ cntR l := by
  have := cntR_append (l.take k) (l.drop k); rw [List.take_append_drop] at this; omega
theorem cntP_take (l : List (List (List Pt))) (k : Nat) : cntP (l.take k) ≤ cntP l := by
  have := cntP_append (l.take k) (l.drop k); rw [List.take_append_drop] at this; omega
theorem lenS_snoc (l : List (List Pt)) (k : Nat) (h : k < l.length) : lenS (l.take (k + 1)) = lenS (l.take k) + l[k].length := by
  rw [List.take_succ_eq_append_getElem h, lenS_append]; simp [lenS]
theorem cntR_snoc (l : List (List (List Pt))) (k : Nat) (h : k < l.length) : cntR (l.take (k + 1)) = cntR (l.take k) + l[k].length := by
  rw [List.take_succ_eq_append_getElem h, cntR_append]; simp [cntR]
theorem cntP_snoc (l : List (List (List Pt))) (k : Nat) (h : k < l.length) : cntP (l.take (k + 1)) = cntP (l.take k) + lenS l[k] := by
  rw [List.take_succ_eq_append_getElem h, cntP_append]; simp [cntP]
end Go
/- Attributes that are left (plain). -/
set_option linter.unusedVariables false
set_option linter.unusedSimpArgs false
set_option maxRecDepth 100000
namespace Go
open Go.RowKit
def AtsOk (l : List At) : Prop := l.length ≤ 10 ∧ ∀ x ∈ l, x.key.size ≤ 100 ∧ x.text.size ≤ 100
theorem cutS_le (s : ByteArray) : (cutS s).size ≤ 100 := by unfold cutS; simp; omega
theorem atsOk_cut (l : List At) : AtsOk ((l.take 10).map cutA) := by
  refine ⟨by simp; omega, fun x hx => ?_⟩; obtain ⟨y, -, rfl⟩ := List.mem_map.1 hx; exact ⟨cutS_le _, cutS_le _⟩
end Go
