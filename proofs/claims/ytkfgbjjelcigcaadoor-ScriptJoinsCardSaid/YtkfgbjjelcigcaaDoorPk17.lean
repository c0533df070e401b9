/-
  Opening a law's arguments: items of a script. A guarded operation whose guard says yes, as one without a guard. ScriptJoins: the walk. ScriptJoins: the walk under what the row lays.
-/
import Derived.Test.YtkfgbjjelcigcaaDoorPk2
import Derived.Test.YtkfgbjjelcigcaaDoorPk3
import Derived.Test.YtkfgbjjelcigcaaDoorPk1
import Derived.Test.YtkfgbjjelcigcaaDoorPk15
import Derived.Test.YtkfgbjjelcigcaaDoorPk16
import Derived.Test.YtkfgbjjelcigcaaDoorRows
import Derived.LaidSub
import Derived.Lib.LaidTab
/- Opening a law's arguments: items of a script. -/
set_option linter.unusedVariables false
set_option linter.unusedSimpArgs false
set_option maxRecDepth 100000
namespace Go
open Go.RowKit
def ItIn (W : World) (x : It) : Prop := x.Ok W ∧ x.Sz
end Go
namespace Go.Proofs.YtkfgbjjelcigcaaDoor
open Go.RowKit Go.ChangeShapes Go.WideShapes Go.ChangeAt
theorem one_sliceI {cs : List Value} {H : Type} {enc : TypeId × Value → H} {W : World} {base : Nat} {spare : Nat → Bool} {held : Bool} {n : Nat} {v : Value} {z : DataW H × List MemPlace} {t e : TypeId} (ht : Tryd.prog.underlying t = some (.slice e))
    (h : DataW.trod enc Tryd.prog W base spare held n t [v] = some z) : ∃ a l c, v = .slice a l c := by
  rcases DataW.trod_slice ht h with ⟨hc, _⟩ | ⟨a, l, c, _, _, _, _, hc, _⟩
  · simp at hc; exact ⟨_, _, _, hc⟩
  · simp at hc; exact ⟨_, _, _, hc⟩
theorem one_item {H : Type} {enc : TypeId × Value → H} {W : World} {base : Nat} {spare : Nat → Bool} {held : Bool} (hsp : ∀ b, spare b = true) (n : Nat) (cs : List Value) (z : DataW H × List MemPlace) (hcl : cs.length = 6)
    (ht : DataW.trod enc Tryd.prog W base spare held n 34 cs = some z) : ∃ y : It, cs = y.cells ∧ ItIn W y := by
  have c3 : Tryd.prog.cellsOf 3 = 1 := by kernel_rfl
  have c1 : Tryd.prog.cellsOf 9 = 1 := by kernel_rfl
  have cv : Tryd.prog.cellsOf 32 = 3 := by kernel_rfl
  have cs1 : Tryd.prog.cellsOf 23 = 1 := by kernel_rfl
  obtain ⟨ys, k, hk, hxy, _, hxl, hf⟩ := DataW.trod_struct Tryd.underlying34 ht
  match ys, hxl, cs, hcl with
  | [y0, y1, y2, y3], _, [v0, v1, v2, v3, v4, v5], _ =>
    have g0 := hf 0 _ rfl; have g1 := hf 1 _ rfl; have g2 := hf 2 _ rfl; have g3 := hf 3 _ rfl; simp [c1, c3, cv, cs1] at g0 g1 g2 g3; obtain ⟨n0, e0, -, w0⟩ := DataW.trod_int Tryd.underlying3 g0; obtain ⟨b, m, e, rfl⟩ := one_sliceI (cs := []) Tryd.underlying23 g1; obtain ⟨s2, e2, -, w2⟩ := DataW.trod_string Tryd.underlying9 g2; simp at e0 e2; subst e0 e2; obtain ⟨ns, rfl, k1, k2, k3, k4, k5⟩ : ∃ L : List Int, m = L.length ∧ m ≤ e ∧ e ≤ maxLen ∧ (b = none → e = 0) ∧ Rd W b (L.map (Value.int .i64)) ∧ ∀ n ∈ L, (Lit.int .i64 n).wf = true :=
      open_rowRd Tryd.underlying23 Tryd.underlying3 (by kernel_rfl) hsp g1
    obtain ⟨zs, k2', hk2, hxy2, _, hzl, hf2⟩ := DataW.trod_struct Tryd.underlying32 g3
    match zs, hzl with
    | [u0, u1, u2], _ =>
      have g4 := hf2 0 _ rfl; have g5 := hf2 1 _ rfl; have g6 := hf2 2 _ rfl; simp [c1, c3] at g4 g5 g6; obtain ⟨n1, e1, -, w1⟩ := DataW.trod_int Tryd.underlying3 g4; obtain ⟨s3, e3, -, w3⟩ := DataW.trod_string Tryd.underlying9 g5; obtain ⟨n4, e4, -, w4⟩ := DataW.trod_int Tryd.underlying3 g6; simp at e1 e3 e4; subst e1 e3 e4; exact ⟨⟨n0, ns, s2, (n1, s3, n4), b, e⟩, rfl, ⟨k4, k1, k2, k3⟩, w2, w3⟩
theorem open_items {H : Type} {enc : TypeId × Value → H} {W : World} {base : Nat} {spare : Nat → Bool} {fuel : Nat} {a : Option Addr} {len cap : Nat} {x : DataW H × List MemPlace} {held : Bool} (hsp : ∀ b, spare b = true)
    (h : DataW.trod enc Tryd.prog W base spare held fuel 27 [.slice a len cap] = some x) :
    ∃ xs : List It, len = xs.length ∧ len ≤ cap ∧ cap ≤ maxLen ∧ (a = none → cap = 0) ∧ Rd W a (its xs) ∧ ∀ y ∈ xs, ItIn W y :=
  open_flat 6 (by decide) It.cells (ItIn W) (fun _ => rfl) Tryd.underlying27 (by kernel_rfl) (fun n cs' z hl hz => one_item hsp n cs' z hl hz) h
end Go.Proofs.YtkfgbjjelcigcaaDoor
/- A guarded operation whose guard says yes, as one without a guard. -/
set_option linter.unusedVariables false
set_option linter.unusedSimpArgs false
namespace Go
open Go.RowKit
theorem wpList_unguard {P : Program} {ops : Array Oper} {Q : Exit → Act → World → Prop} {a : Act} {w : World} {rest : List Oper} {o o' : Oper} (hw : Region.wanted o (yielded ops a.tmps) = true) (ho : o' = { o with guard := none }) (h : wpList P ops Q (o' :: rest) a w) : wpList P ops Q (o :: rest) a w := by
  subst ho; unfold wpList at h ⊢; rw [if_pos hw]; rw [if_pos (by simp [Region.wanted])] at h; exact h
end Go
/- ScriptJoins: the walk. -/
set_option linter.unusedVariables false
set_option linter.unusedSimpArgs false
set_option maxRecDepth 100000
namespace Go
open Go.RowKit
theorem bad_zero : ∀ (X : List It), badI X = 0 → ∀ x ∈ X, chkI x = 0
  | [], _, x, hx => by cases hx
  | y :: Y, h, x, hx => by
    unfold badI at h; rw [List.map_cons, List.find?_cons] at h
    by_cases h0 : chkI y = 0
    · simp only [h0, ne_eq, not_true_eq_false, decide_false] at h
      rcases List.mem_cons.1 hx with rfl | hx
      · exact h0
      · exact bad_zero Y h x hx
    · simp [h0] at h
theorem text_app (X Y : List It) : textF (X ++ Y) = textF X ++ textF Y := by simp [textF]
theorem its_app (X Y : List It) : its (X ++ Y) = its X ++ its Y := by simp [its]
end Go
namespace Go.Proofs.YtkfgbjjelcigcaaDoor
open Go.RowKit
set_option maxHeartbeats 12800000 in
theorem joins_walk {w : World} (a : Option Addr) (c : Nat) (X : List It) (hlc : X.length ≤ c) (hcm : c ≤ maxLen) (hn0 : a = none → c = 0) (hr : Rd w a (its X)) (hw : ∀ x ∈ X, ItIn w x)
    (b : Option Addr) (d : Nat) (Y : List It) (hld : Y.length ≤ d) (hdm : d ≤ maxLen) (hn1 : b = none → d = 0) (hr2 : Rd w b (its Y)) (hw2 : ∀ x ∈ Y, ItIn w x) (htab : TabOk w) :
    Calls Tryd.prog 4 #[.slice a X.length c, .slice b Y.length d] w fun e w' => e = .returned (.bool true) ∧ Below w.heap.size w w' := by
  have HTB := Lib.hid (fun W (h : Below w.heap.size w W) => (Joins.tab_stays (B := w.heap.size) (by kernel_rfl : Tryd.prog.globalNamed "internal/strconv.uint64pow10" = some 0) htab h (Nat.le_refl _) : TabOk W))
  have HKN := Lib.hid (fun W => known30_any W); have HCT := Lib.hid (icut_any a c X hlc hcm w hw hr); have HCT2 := Lib.hid (fun (W : World) (hW : Below w.heap.size w W) => icut_any b d Y hld hdm W (fun y hy => ⟨(hw2 y hy).1.keep hW, (hw2 y hy).2⟩) (hr2.keep hW)); obtain ⟨P, hP⟩ : ∃ Y, cutG (X.take 40) = Y := ⟨_, rfl⟩; obtain ⟨Q, hQ⟩ : ∃ Z, cutG (Y.take 40) = Z := ⟨_, rfl⟩; have hPl : P.length ≤ 40 := by rw [← hP, cutG_len, List.length_take]; omega
  have hQl : Q.length ≤ 40 := by rw [← hQ, cutG_len, List.length_take]; omega
  have hPo : ∀ y ∈ P, y.Ok w ∧ y.Cut := by
    rw [← hP]; exact cutG_mem _ (fun x hx m hm => ⟨cutIt_ok (hw x (List.mem_of_mem_take hx)).1 m, cutIt_cut m hm x⟩)
  have hQo : ∀ y ∈ Q, y.Ok w ∧ y.Cut := by
    rw [← hQ]; exact cutG_mem _ (fun x hx m hm => ⟨cutIt_ok (hw2 x (List.mem_of_mem_take hx)).1 m, cutIt_cut m hm x⟩)
  rw [hP] at HCT; rw [hQ] at HCT2; have HPO := Lib.hid hPo; have HQO := Lib.hid hQo; clear hP hQ hw hw2 hr hr2 hPo hQo htab; generalize X.length = XL at *; generalize Y.length = YL at *; have hPt : ∀ (T : List UInt8), T = textF P → badI P = 0 → T.length ≤ 20001 * 40 := by
    intro T hT h; subst hT; have := text_bd P (bad_zero P h); omega
  have hQt : ∀ (T : List UInt8), T = textF Q → badI Q = 0 → T.length ≤ 20001 * 40 := by
    intro T hT h; subst hT; have := text_bd Q (bad_zero Q h); omega
  have HPS1 : Hid (prS P = if badI P = 0 then ⟨(textF P).toArray⟩ else ⟨#[]⟩) := Lib.hid rfl; have HPS2 : Hid (prS Q = if badI Q = 0 then ⟨(textF Q).toArray⟩ else ⟨#[]⟩) := Lib.hid rfl; have HPT := Lib.hid hPt; have HQT := Lib.hid hQt; clear hPt hQt
  go_enter Tryd.func4, Tryd.ntmps4
  go_wp2_with fail
  refine HCT.out.mono ?_; rintro e w1 ⟨v, rfl, ho1, hb1⟩; obtain ⟨pa, pc, rfl, p1, p2, p3, hrP, -⟩ := ho1.form; clear ho1
  go_wp2_with fail
  refine (HCT2.out w1 hb1).mono ?_; rintro e w2 ⟨v, rfl, ho2, hb2⟩; obtain ⟨qa, qc, rfl, q1, q2, q3, hrQ, -⟩ := ho2.form; have hrP2 := hrP.keep hb2; have b02 := hb1.trans (hb2.mono hb1.size); have HP1 := Lib.hid (fun (W : World) (hW : Below w2.heap.size w2 W) => iprint_any pa pc P (by omega) (fun y hy => by have := (HPO.out y hy).2.2.2; omega) (fun y hy => ⟨by have := (HPO.out y hy).2.1; omega, by have := (HPO.out y hy).2.2.1; omega⟩) W (hrP2.keep hW) (fun y hy => ((HPO.out y hy).1.keep b02).keep hW) (HTB.out W (b02.trans (hW.mono b02.size)))); have HP2 := Lib.hid (fun (W : World) (hW : Below w2.heap.size w2 W) => iprint_any qa qc Q (by omega) (fun y hy => by have := (HQO.out y hy).2.2.2; omega) (fun y hy => ⟨by have := (HQO.out y hy).2.1; omega, by have := (HQO.out y hy).2.2.1; omega⟩) W (hrQ.keep hW) (fun y hy => ((HQO.out y hy).1.keep b02).keep hW) (HTB.out W (b02.trans (hW.mono b02.size)))); have HRP := Lib.hid (fun (W : World) (hW : Below w2.heap.size w2 W) => hrP2.keep hW); have HRQ := Lib.hid (fun (W : World) (hW : Below w2.heap.size w2 W) => hrQ.keep hW); have HPK := Lib.hid (fun (W : World) (hW : Below w2.heap.size w2 W) (y : It) (hy : y ∈ P) => ((HPO.out y hy).1.keep b02).keep hW); have HQK := Lib.hid (fun (W : World) (hW : Below w2.heap.size w2 W) (y : It) (hy : y ∈ Q) => ((HQO.out y hy).1.keep b02).keep hW); clear HCT HCT2 ho2 hrP hrQ hrP2 hb1 hb2 HTB; obtain ⟨E1, hE1⟩ : ∃ b, badI P = b := ⟨_, rfl⟩; obtain ⟨E2, hE2⟩ : ∃ b, badI Q = b := ⟨_, rfl⟩; obtain ⟨S1, hS1⟩ : ∃ b, prS P = b := ⟨_, rfl⟩
  obtain ⟨S2, hS2⟩ : ∃ b, prS Q = b := ⟨_, rfl⟩; rw [hE1, hS1] at HP1; rw [hE2, hS2] at HP2; rw [hE1] at HPT HPS1; rw [hE2] at HQT HPS2; rw [hS1] at HPS1; rw [hS2] at HPS2; have HE1 := Lib.hid hE1; have HE2 := Lib.hid hE2; clear hE1 hE2 hS1 hS2; obtain ⟨NP, hNP⟩ : ∃ n, P.length = n := ⟨_, rfl⟩; obtain ⟨NQ, hNQ⟩ : ∃ n, Q.length = n := ⟨_, rfl⟩; have HNP := Lib.hid hNP; have HNQ := Lib.hid hNQ; rw [hNP] at HP1 hPl p1 ⊢; rw [hNQ] at HP2 hQl q1 ⊢; clear hNP hNQ
  go_wp2_with fail
  refine (HP1.out w2 (Below.refl _ _)).mono ?_; rintro e w3 ⟨rfl, hb3⟩
  go_wp2_with fail
  refine (HP2.out w3 hb3).mono ?_; rintro e w4 ⟨rfl, hb4⟩; have b24 := hb3.trans (hb4.mono hb3.size); have b04 := b02.trans (b24.mono b02.size); clear HP1 HP2 hb3 hb4; have bad : (E1 ≠ 0 ∨ E2 ≠ 0) → True := fun _ => trivial; clear bad
  by_cases h1 : E1 = 0
  · subst h1
    by_cases h2 : E2 = 0
    · subst h2; have hs1 := HPS1.out; have hs2 := HPS2.out; rw [if_pos rfl] at hs1 hs2; have hT1 := HPT.out _ rfl (by first | rfl | trivial); have hT2 := HQT.out _ rfl (by first | rfl | trivial); have hz1 : S1.size = (textF P).length := by rw [hs1]; exact List.size_toArray
      have hz2 : S2.size = (textF Q).length := by rw [hs2]; exact List.size_toArray
      have hPc := bad_zero P HE1.out; have hQc := bad_zero Q HE2.out; have hcat : S1 ++ S2 = ⟨(textF (P ++ Q) ++ []).toArray⟩ := by rw [hs1, hs2, app_eqI, text_app]; simp
      have HPA := Lib.hid (fun W => iparse_any (P ++ Q) (fun x hx => by
        rcases List.mem_append.1 hx with h | h
        · exact hPc x h
        · exact hQc x h) [] RT.nil (by rw [List.append_nil, text_app, List.length_append]; omega) W)
      rw [← hcat] at HPA; have hb1 : S1.size ≤ 20001 * 40 := by omega
      have hb2 : S2.size ≤ 20001 * 40 := by omega
      have HMANY : Hid (S1.size = 0 → NP = 0) := Lib.hid (fun h => by have := text_many P; rw [HNP.out] at this; omega); have HCUT : Hid (S1.size ≠ 0 → ∃ P' x, P = P' ++ [x] ∧ S1.extract 0 (S1.size - 1) = ⟨(textF P' ++ lineF x).toArray⟩) := Lib.hid (fun h => by
        rcases List.eq_nil_or_concat P with h0 | ⟨P', x, h0⟩
        · rw [h0] at hz1; exact absurd hz1 (by simpa [textF] using h)
        · refine ⟨P', x, by simpa using h0, ?_⟩; have h3 : textF P = textF P' ++ lineF x ++ [10] := by rw [h0, List.concat_eq_append, text_snoc]
          have h4 := congrArg List.length h3; rw [List.length_append, List.length_singleton] at h4; rw [hz1, hs1]; apply ByteArray.ext; apply Array.ext'; rw [h3]; simp)
      have HPC := Lib.hid hPc; clear hs1 hs2 hT1 hT2 hz1 hz2 hPc hQc hcat HPS1 HPS2 HPT HQT HE1 HE2; have hfit : ¬ 9223372036854775807 < S1.size + S2.size := by omega
      go_wp2_with fail
      refine (HPA.out w4).mono ?_; intro e w5 hpost
      rcases hpost with ⟨-, G, p, cg, rfl, hG, hown, hIT, hb5⟩ | ⟨h, -⟩
      · obtain ⟨p', c', e, g1, g2, g3, hrG, -⟩ := hown.form
        cases e
        have b25 := b24.trans (hb5.mono b24.size); have b05 := b04.trans (hb5.mono b04.size); have hGl : G.length = NP + NQ := by
          have := congrArg List.length hG; rw [List.length_map, List.length_map, List.length_append, HNP.out, HNQ.out] at this; exact this
        have HSM := Lib.hid (fun (W : World) (u : Option Addr) (uc : Nat) (hW : Below w5.heap.size w5 W) (hu : Rd W u (its (P ++ Q))) => isameg_any p u cg uc G (P ++ Q) (by omega) (by rw [List.length_append, HNP.out, HNQ.out]; omega)
          (fun x hx => by
            have hm := List.mem_map_of_mem (f := It.core) hx; rw [hG] at hm; obtain ⟨y, hy, hye⟩ := List.mem_map.1 hm; have hn : x.n = y.n := (congrArg (·.2.1) hye).symm; rw [hn]
            rcases List.mem_append.1 hy with h | h
            · have := (HPO.out y h).2.2.2; omega
            · have := (HQO.out y h).2.2.2; omega)
          (fun y hy => by
            rcases List.mem_append.1 hy with h | h
            · have := (HPO.out y h).2.2.2; omega
            · have := (HQO.out y h).2.2.2; omega) W (hrG.keep hW) hu (fun g hg => (hIT g hg).1.keep hW) (fun y hy => by
            rcases List.mem_append.1 hy with h | h
            · exact HPK.out W (b25.trans (hW.mono b25.size)) y h
            · exact HQK.out W (b25.trans (hW.mono b25.size)) y h))
        have hPQ : (P ++ Q).length = NP + NQ := by rw [List.length_append, HNP.out, HNQ.out]
        rw [hPQ, hGl, hG, decide_eq_true rfl] at HSM; rw [hGl]; clear hGl hPQ hG hown hrG HPA; have hrPa := HRP.out w5 b25; have hrQa := HRQ.out w5 b25
        go_wp2_with (first
          | (at_builtin; refine wpList_unguard rfl rfl ?_; refine wpList_app' w5 (Below.new w5 (.cells #[] 34)) rfl (.tmp 51) (.tmp 52) 27 rfl 34 (.agg #[.int .i64 0, .slice none 0 0, .string ⟨#[]⟩, .int .i64 0, .string ⟨#[]⟩, .int .i64 0]) 6 80 Tryd.underlying27 Tryd.infoIt rfl (by decide) (.slice (some ⟨w5.heap.size, 0, none⟩) 0 0) 0 [] rfl (ownsRow_empty w5 _ _) pa NP pc (its P) rfl p3 (hrPa.alloc _) (by rw [its_len, HNP.out]) (its_one P) (by omega) (by decide) ?_; intro v6 w6 hown6 hg6 hbl6)
          | (at_builtin; refine wpList_unguard rfl rfl ?_; refine wpList_app' w5 hbl6 rfl (.tmp 53) (.tmp 54) 27 rfl 34 (.agg #[.int .i64 0, .slice none 0 0, .string ⟨#[]⟩, .int .i64 0, .string ⟨#[]⟩, .int .i64 0]) 6 80 Tryd.underlying27 Tryd.infoIt rfl (by decide) v6 (0 + NP) ([] ++ its P) rfl hown6 qa NQ qc (its Q) rfl q3 (hrQa.keep hbl6) (by rw [its_len, HNQ.out]) (its_one Q) (by omega) (by decide) ?_; intro v7 w7 hown7 hg7 hbl7; rw [Nat.zero_add, List.nil_append, ← its_app] at hown7))
        obtain ⟨ua, uc, rfl, u1, u2, u3, hrU, -⟩ := hown7.form; have b07 := b05.trans (hbl7.mono b05.size); refine (HSM.out w7 ua uc hbl7 hrU).mono ?_; rintro e w8 ⟨rfl, hb8⟩; have b08 := b07.trans (hb8.mono b07.size); clear hown7 hrU hg6 hg7 hown6 hbl6 hbl7 HSM hrPa hrQa hIT hb8 b07 b05 b25 hb5
        by_cases hz : S1.size = 0
        · have hn := HMANY.out hz; clear HCUT HMANY HNP; subst hn
          go_wp2_with fail
          refine (HKN.out w8).mono ?_; rintro e w9 ⟨rfl, hb9⟩; go_wp2; go_ret; exact ⟨rfl, b08.trans (hb9.mono b08.size)⟩
        · obtain ⟨P', x, hPx, hex⟩ := HCUT.out hz; have hx := line_runes x (HPC.out x (by rw [hPx]; simp)); have hbd : (textF P' ++ lineF x).length ≤ 10000000 := by
            have h3 := congrArg ByteArray.size hex; have h4 : (⟨(textF P' ++ lineF x).toArray⟩ : ByteArray).size = (textF P' ++ lineF x).length := List.size_toArray; rw [h4, ByteArray.size_extract] at h3; omega
          have HPB := Lib.hid (fun W => iparse_any P' (fun y hy => HPC.out y (by rw [hPx]; simp [hy])) (lineF x) hx.1 hbd W); rw [← hex] at HPB; have hl0 : lineF x ≠ [] := by intro h0; rw [h0] at hx; simp at hx
          obtain ⟨m, hm⟩ : ∃ m, P'.length = m := ⟨_, rfl⟩; have hNPm : NP = m + 1 := by rw [← HNP.out, hPx, List.length_append, hm]; rfl
          have HL0 := Lib.hid hl0; have HPB2 : Hid (∀ W, Calls Tryd.prog 14 #[.string (S1.extract 0 (S1.size - 1))] W fun e w' => e = .returned (.tuple #[.slice none 0 0, .int .i64 m, .int .i64 4]) ∧ Below W.heap.size W w') := Lib.hid (fun W => (HPB.out W).mono (by
            intro e w9 hpost
            rcases hpost with ⟨h, -⟩ | ⟨-, h2, h3⟩
            · exact absurd h hl0
            · exact ⟨by rw [h2, hm], h3⟩))
          clear HPB hx hl0 hbd hex hm HCUT HMANY HNP; subst hNPm; generalize hSX : S1.extract 0 (S1.size - 1) = SX at *; have hs1 : ((S1.size : Int) - 1).toNat = S1.size - 1 := by omega
          go_wp2_with fail
          refine (HPB2.out w8).mono ?_; rintro e w9 ⟨rfl, hb9⟩; have b09 := b08.trans (hb9.mono b08.size)
          go_wp2_with fail
          refine (HKN.out w9).mono ?_; rintro e w10 ⟨rfl, hb10⟩; go_wp2; go_ret; exact ⟨rfl, b09.trans (hb10.mono b09.size)⟩
      · exact absurd rfl h
    · clear HPS1 HPS2 HPT HQT HE1 HE2
      go_wp2_with fail
      refine (HKN.out w4).mono ?_; rintro e w5 ⟨rfl, hb5⟩; go_wp2; go_ret; exact ⟨rfl, b04.trans (hb5.mono b04.size)⟩
  · clear HPS1 HPS2 HPT HQT HE1 HE2
    go_wp2_with fail
    refine (HKN.out w4).mono ?_; rintro e w5 ⟨rfl, hb5⟩; go_wp2; go_ret; exact ⟨rfl, b04.trans (hb5.mono b04.size)⟩
end Go.Proofs.YtkfgbjjelcigcaaDoor
/- ScriptJoins: the walk under what the row lays. -/
set_option linter.unusedVariables false
set_option linter.unusedSimpArgs false
set_option maxRecDepth 100000
namespace Go.Proofs.YtkfgbjjelcigcaaDoor
open Go.RowKit
theorem tab_of {W : World} (hL : laidMetH Tryd.prog Rows.scriptJoinsRow.laid W) : TabOk W := by
  have h1 := hL.filter (fun x => x.1 == "internal/strconv.uint64pow10")
  have e : Rows.scriptJoinsRow.laid.filter (fun x => x.1 == "internal/strconv.uint64pow10") = [("internal/strconv.uint64pow10", Lib.tabData .u64 Lib.pow10Tab)] := by kernel_rfl
  rw [e] at h1; have h2 : laidMet Tryd.prog [("internal/strconv.uint64pow10", Lib.tabData .u64 Lib.pow10Tab)] W := h1
  exact Lib.tabIs_of_head (g := 0) (t := 140) (e := 123) (n := 20) (by kernel_rfl) (by kernel_rfl) (by kernel_rfl) (by kernel_rfl) (by kernel_rfl) (by kernel_rfl) h2
theorem joins_law {w : World} (hL : laidMetH Tryd.prog Rows.scriptJoinsRow.laid w) (a : Option Addr) (c : Nat) (X : List It) (hlc : X.length ≤ c) (hcm : c ≤ maxLen) (hn0 : a = none → c = 0) (hr : Rd w a (its X)) (hw : ∀ x ∈ X, ItIn w x)
    (b : Option Addr) (d : Nat) (Y : List It) (hld : Y.length ≤ d) (hdm : d ≤ maxLen) (hn1 : b = none → d = 0) (hr2 : Rd w b (its Y)) (hw2 : ∀ x ∈ Y, ItIn w x) :
    Calls Tryd.prog 4 #[.slice a X.length c, .slice b Y.length d] w fun e w' => e = .returned (.bool true) ∧ Below w.heap.size w w' :=
  joins_walk a c X hlc hcm hn0 hr hw b d Y hld hdm hn1 hr2 hw2 (tab_of hL)
end Go.Proofs.YtkfgbjjelcigcaaDoor
