/-
  Opening a law's arguments: items of a script. ScriptPrints: the walk. ScriptPrints: the walk under what the row lays.
-/
import Derived.Test.YtkfgbjjelcigcaaGreatDoorPk2
import Derived.Test.YtkfgbjjelcigcaaGreatDoorPk3
import Derived.Test.YtkfgbjjelcigcaaGreatDoorPk12
import Derived.Test.YtkfgbjjelcigcaaGreatDoorPk15
import Derived.Test.YtkfgbjjelcigcaaGreatDoorPk18
import Derived.Test.YtkfgbjjelcigcaaGreatDoorPk20
import Derived.Test.YtkfgbjjelcigcaaGreatDoorPk21
import Derived.Test.YtkfgbjjelcigcaaGreatDoorRows
import Derived.LaidSub
import Derived.Lib.LaidTab
/- Opening a law's arguments: items of a script. -/
set_option linter.unusedVariables false
set_option linter.unusedSimpArgs false
set_option maxRecDepth 100000
namespace Go
open Go.RowKit
def ItIn (W : World) (x : It) : Prop := x.Ok W ∧ x.Sz
end Go
namespace Go.Proofs.YtkfgbjjelcigcaaGreatDoor
open Go.RowKit Go.ChangeShapes Go.WideShapes Go.ChangeAt
theorem one_sliceI {cs : List Value} {H : Type} {enc : TypeId × Value → H} {W : World} {base : Nat} {spare : Nat → Bool} {held : Bool} {n : Nat} {v : Value} {z : DataW H × List MemPlace} {t e : TypeId} (ht : Tryz.prog.underlying t = some (.slice e))
    (h : DataW.trod enc Tryz.prog W base spare held n t [v] = some z) : ∃ a l c, v = .slice a l c := by
  rcases DataW.trod_slice ht h with ⟨hc, _⟩ | ⟨a, l, c, _, _, _, _, hc, _⟩
  · simp at hc; exact ⟨_, _, _, hc⟩
  · simp at hc; exact ⟨_, _, _, hc⟩
theorem one_item {H : Type} {enc : TypeId × Value → H} {W : World} {base : Nat} {spare : Nat → Bool} {held : Bool} (hsp : ∀ b, spare b = true) (n : Nat) (cs : List Value) (z : DataW H × List MemPlace) (hcl : cs.length = 6)
    (ht : DataW.trod enc Tryz.prog W base spare held n 46 cs = some z) : ∃ y : It, cs = y.cells ∧ ItIn W y := by
  have c3 : Tryz.prog.cellsOf 3 = 1 := by kernel_rfl
  have c1 : Tryz.prog.cellsOf 9 = 1 := by kernel_rfl
  have cv : Tryz.prog.cellsOf 44 = 3 := by kernel_rfl
  have cs1 : Tryz.prog.cellsOf 25 = 1 := by kernel_rfl
  obtain ⟨ys, k, hk, hxy, _, hxl, hf⟩ := DataW.trod_struct Tryz.underlying46 ht
  match ys, hxl, cs, hcl with
  | [y0, y1, y2, y3], _, [v0, v1, v2, v3, v4, v5], _ =>
    have g0 := hf 0 _ rfl; have g1 := hf 1 _ rfl; have g2 := hf 2 _ rfl; have g3 := hf 3 _ rfl; simp [c1, c3, cv, cs1] at g0 g1 g2 g3; obtain ⟨n0, e0, -, w0⟩ := DataW.trod_int Tryz.underlying3 g0; obtain ⟨b, m, e, rfl⟩ := one_sliceI (cs := []) Tryz.underlying25 g1; obtain ⟨s2, e2, -, w2⟩ := DataW.trod_string Tryz.underlying9 g2; simp at e0 e2; subst e0 e2; obtain ⟨ns, rfl, k1, k2, k3, k4, k5⟩ : ∃ L : List Int, m = L.length ∧ m ≤ e ∧ e ≤ maxLen ∧ (b = none → e = 0) ∧ Rd W b (L.map (Value.int .i64)) ∧ ∀ n ∈ L, (Lit.int .i64 n).wf = true :=
      open_rowRd Tryz.underlying25 Tryz.underlying3 (by kernel_rfl) hsp g1
    obtain ⟨zs, k2', hk2, hxy2, _, hzl, hf2⟩ := DataW.trod_struct Tryz.underlying44 g3
    match zs, hzl with
    | [u0, u1, u2], _ =>
      have g4 := hf2 0 _ rfl; have g5 := hf2 1 _ rfl; have g6 := hf2 2 _ rfl; simp [c1, c3] at g4 g5 g6; obtain ⟨n1, e1, -, w1⟩ := DataW.trod_int Tryz.underlying3 g4; obtain ⟨s3, e3, -, w3⟩ := DataW.trod_string Tryz.underlying9 g5; obtain ⟨n4, e4, -, w4⟩ := DataW.trod_int Tryz.underlying3 g6; simp at e1 e3 e4; subst e1 e3 e4; exact ⟨⟨n0, ns, s2, (n1, s3, n4), b, e⟩, rfl, ⟨k4, k1, k2, k3⟩, w2, w3⟩
theorem open_items {H : Type} {enc : TypeId × Value → H} {W : World} {base : Nat} {spare : Nat → Bool} {fuel : Nat} {a : Option Addr} {len cap : Nat} {x : DataW H × List MemPlace} {held : Bool} (hsp : ∀ b, spare b = true)
    (h : DataW.trod enc Tryz.prog W base spare held fuel 22 [.slice a len cap] = some x) :
    ∃ xs : List It, len = xs.length ∧ len ≤ cap ∧ cap ≤ maxLen ∧ (a = none → cap = 0) ∧ Rd W a (its xs) ∧ ∀ y ∈ xs, ItIn W y :=
  open_flat 6 (by decide) It.cells (ItIn W) (fun _ => rfl) Tryz.underlying22 (by kernel_rfl) (fun n cs' z hl hz => one_item hsp n cs' z hl hz) h
end Go.Proofs.YtkfgbjjelcigcaaGreatDoor
/- ScriptPrints: the walk. -/
set_option linter.unusedVariables false
set_option linter.unusedSimpArgs false
set_option maxRecDepth 100000
namespace Go.Proofs.YtkfgbjjelcigcaaGreatDoor
open Go.RowKit
set_option maxHeartbeats 12800000 in
theorem prints_walk {w : World} (a : Option Addr) (c : Nat) (X : List It) (hlc : X.length ≤ c) (hcm : c ≤ maxLen) (hn0 : a = none → c = 0) (hr : Rd w a (its X)) (hw : ∀ x ∈ X, ItIn w x)
    (b : Option Addr) (d : Nat) (Y : List It) (hld : Y.length ≤ d) (hdm : d ≤ maxLen) (hn1 : b = none → d = 0) (hr2 : Rd w b (its Y)) (hw2 : ∀ x ∈ Y, ItIn w x) (z : Int) (htab : TabOk w) :
    Calls Tryz.prog 4 #[.slice a X.length c, .slice b Y.length d, .int .i64 z] w fun e w' => e = .returned (.bool true) ∧ Below w.heap.size w w' := by
  have HTB := Lib.hid (fun W (h : Below w.heap.size w W) => (Joins.tab_stays (B := w.heap.size) (by kernel_rfl : Tryz.prog.globalNamed "internal/strconv.uint64pow10" = some 0) htab h (Nat.le_refl _) : TabOk W))
  have HKN := Lib.hid (fun W => known30_any W); have HCT := Lib.hid (icut_any a c X hlc hcm w hw hr); have HCT2 := Lib.hid (fun (W : World) (hW : Below w.heap.size w W) => icut_any b d Y hld hdm W (fun y hy => ⟨(hw2 y hy).1.keep hW, (hw2 y hy).2⟩) (hr2.keep hW)); obtain ⟨P, hP⟩ : ∃ Y, cutG (X.take 40) = Y := ⟨_, rfl⟩; obtain ⟨Q, hQ⟩ : ∃ Z, cutG (Y.take 40) = Z := ⟨_, rfl⟩; have hPl : P.length ≤ 40 := by rw [← hP, cutG_len, List.length_take]; omega
  have hQl : Q.length ≤ 40 := by rw [← hQ, cutG_len, List.length_take]; omega
  have hPo : ∀ y ∈ P, y.Ok w ∧ y.Cut := by
    rw [← hP]; exact cutG_mem _ (fun x hx m hm => ⟨cutIt_ok (hw x (List.mem_of_mem_take hx)).1 m, cutIt_cut m hm x⟩)
  have hQo : ∀ y ∈ Q, y.Ok w ∧ y.Cut := by
    rw [← hQ]; exact cutG_mem _ (fun x hx m hm => ⟨cutIt_ok (hw2 x (List.mem_of_mem_take hx)).1 m, cutIt_cut m hm x⟩)
  rw [hP] at HCT; rw [hQ] at HCT2; have HPO := Lib.hid hPo; have HQO := Lib.hid hQo; clear hP hQ hw hw2 hr hr2 hPo hQo htab; generalize X.length = XL at *; generalize Y.length = YL at *; have HPS1 : Hid (prS P = if badI P = 0 then ⟨(textF P).toArray⟩ else ⟨#[]⟩) := Lib.hid rfl; have HPT : Hid (badI P = 0 → (textF P).length ≤ 20001 * 40) := Lib.hid (fun h => by have := text_bd P (bad_zero P h); omega)
  go_enter Tryz.func4, Tryz.ntmps4
  go_wp2_with fail
  refine HCT.out.mono ?_; rintro e w1 ⟨v, rfl, ho1, hb1⟩; obtain ⟨pa, pc, rfl, p1, p2, p3, hrP, -⟩ := ho1.form; clear ho1
  go_wp2_with fail
  refine (HCT2.out w1 hb1).mono ?_; rintro e w2 ⟨v, rfl, ho2, hb2⟩; obtain ⟨qa, qc, rfl, q1, q2, q3, hrQ, -⟩ := ho2.form; have hrP2 := hrP.keep hb2; have b02 := hb1.trans (hb2.mono hb1.size); have HNP2 : Hid (∀ y ∈ P, y.n.length ≤ 1000000) := Lib.hid (fun y hy => by have := (HPO.out y hy).2.2.2; omega); have HNQ2 : Hid (∀ y ∈ Q, y.n.length ≤ 1000000) := Lib.hid (fun y hy => by have := (HQO.out y hy).2.2.2; omega); have HPK := Lib.hid (fun (W : World) (hW : Below w2.heap.size w2 W) (y : It) (hy : y ∈ P) => ((HPO.out y hy).1.keep b02).keep hW); have HQK := Lib.hid (fun (W : World) (hW : Below w2.heap.size w2 W) (y : It) (hy : y ∈ Q) => ((HQO.out y hy).1.keep b02).keep hW); have HP1 := Lib.hid (fun (W : World) (hW : Below w2.heap.size w2 W) => iprint_any pa pc P (by omega) (fun y hy => by have := (HPO.out y hy).2.2.2; omega) (fun y hy => ⟨by have := (HPO.out y hy).2.1; omega, by have := (HPO.out y hy).2.2.1; omega⟩) W (hrP2.keep hW) (HPK.out W hW) (HTB.out W (b02.trans (hW.mono b02.size)))); have HP2 := Lib.hid (fun (W : World) (u : Option Addr) (uc : Nat) (hW : Below w2.heap.size w2 W) (hu : Rd W u (its P)) => rprint30_any u uc P (by omega) (fun y hy => by have := (HPO.out y hy).2.2.2; omega) (fun y hy => ⟨by have := (HPO.out y hy).2.1; omega, by have := (HPO.out y hy).2.2.1; omega⟩) W hu (HPK.out W hW)); have HOF1 := Lib.hid (fun (W : World) (hW : Below w2.heap.size w2 W) => iofs_any pa pc P (by omega) W (hrP2.keep hW)); have HOF2 := Lib.hid (fun (W : World) (hW : Below w2.heap.size w2 W) => iofs_any qa qc Q (by omega) W (hrQ.keep hW))
  have HSM1 := Lib.hid (fun (W : World) (hW : Below w2.heap.size w2 W) => isameg_any pa qa pc qc P Q (by omega) (by omega) HNP2.out HNQ2.out W (hrP2.keep hW) (hrQ.keep hW) (HPK.out W hW) (HQK.out W hW)); have HSM2 := Lib.hid (fun (W : World) (u : Option Addr) (uc : Nat) (hW : Below w2.heap.size w2 W) (hu : Rd W u (its Q)) => ismg_any pa u pc uc P Q (by omega) (by omega) HNP2.out HNQ2.out W (hrP2.keep hW) hu (HPK.out W hW) (HQK.out W hW)); have HSM3 := Lib.hid (fun (W : World) (hW : Below w2.heap.size w2 W) => isameg_any pa pa pc pc P P (by omega) (by omega) HNP2.out HNP2.out W (hrP2.keep hW) (hrP2.keep hW) (HPK.out W hW) (HPK.out W hW)); have HSM4 := Lib.hid (fun (W : World) (G : List It) (u : Option Addr) (uc : Nat) (hG : G.map It.core = P.map It.core) (hW : Below w2.heap.size w2 W) (hu : Rd W u (its G)) (hgo : ∀ g ∈ G, g.Ok W) => isameg_any u pa uc pc G P (by have := congrArg List.length hG; rw [List.length_map, List.length_map] at this; omega) (by omega)
    (fun x hx => by
      have hm := List.mem_map_of_mem (f := It.core) hx; rw [hG] at hm; obtain ⟨y, hy, hye⟩ := List.mem_map.1 hm; have hn : x.n = y.n := (congrArg (·.2.1) hye).symm; rw [hn]; exact HNP2.out y hy) HNP2.out W hu (hrP2.keep hW) hgo (HPK.out W hW))
  have HPA : Hid (badI P = 0 → ∀ W, Calls Tryz.prog 20 #[.string (prS P)] W (ParsePost P [] W)) := Lib.hid (fun h W => by
    have h1 := iparse_any P (bad_zero P h) [] RT.nil (by rw [List.append_nil]; have := HPT.out h; omega) W; rw [List.append_nil] at h1; rw [HPS1.out, if_pos h]; exact h1)
  have HRP := Lib.hid hrP2; have HSZ : Hid (∀ y ∈ P, y.Sz ∧ (y.key.size ≤ 100000 ∧ y.v.2.1.size ≤ 100000)) := Lib.hid (fun y hy => by
    obtain ⟨-, g1, g2, -⟩ := HPO.out y hy; exact ⟨⟨by unfold maxLen; omega, by unfold maxLen; omega⟩, by omega, by omega⟩)
  clear HCT HCT2 ho2 hrP hrQ hrP2 hb1 hb2 HTB HPO HQO HNQ2 HQK HPS1 HPT; obtain ⟨E1, hE1⟩ : ∃ b, badI P = b := ⟨_, rfl⟩; obtain ⟨S1, hS1⟩ : ∃ b, prS P = b := ⟨_, rfl⟩; obtain ⟨DE, hDE⟩ : ∃ b, decide (P.map It.core = Q.map It.core) = b := ⟨_, rfl⟩; rw [hE1, hS1] at HP1 HP2 HPA; rw [hDE] at HSM1 HSM2; rw [decide_eq_true rfl] at HSM3; obtain ⟨NP, hNP⟩ : ∃ n, P.length = n := ⟨_, rfl⟩; obtain ⟨NQ, hNQ⟩ : ∃ n, Q.length = n := ⟨_, rfl⟩; have HNP := Lib.hid hNP; rw [hNP] at HP1 HP2 HOF1 HSM1 HSM2 HSM3 HSM4 hPl p1 ⊢; rw [hNQ] at HOF2 HSM1 HSM2 hQl q1 ⊢; clear hNP hNQ hE1 hS1 hDE; go_wp2
  go_loopw [7] (fun i wr => ∃ k : Nat, k ≤ NP ∧ i = .int .i64 k ∧ Below w2.heap.size w2 wr) (fun i _ => NP - (intOf i).toNat)
  case atStart => exact ⟨0, Nat.zero_le _, rfl, Below.refl _ _⟩
  case round =>
    obtain ⟨k, hk, rfl, hbl⟩ := hrel
    by_cases hlt : k < NP
    · have hlt' : (k : Int) < (NP : Int) := by omega
      have hkX : k < P.length := by rw [HNP.out]; exact hlt
      obtain ⟨b1, o1, rfl, hbb, c0, c1, c2, c3, c4, c5⟩ := HRP.out.it k hkX; have hmx := List.getElem_mem hkX; have HC1 := Lib.hid (fun (W : World) (hW : Below w2.heap.size w2 W) => icheck_any (P[k]'hkX) (HSZ.out _ hmx).1 (HNP2.out _ hmx) W (HPK.out W hW _ hmx)); have HC2 := Lib.hid (fun (W : World) (hW : Below w2.heap.size w2 W) => of30r_any (P[k]'hkX) W); have HC3 := Lib.hid (fun (W : World) (hW : Below w2.heap.size w2 W) => richeck_any (P[k]'hkX) (HSZ.out _ hmx).2 (HNP2.out _ hmx) W (HPK.out W hW _ hmx)); clear hmx; generalize P[k] = x at *; dsimp only [It.val] at HC1 HC2 HC3; generalize x.nval = nv at *; generalize chkI x = CK at *; go_wp2; refine wp_region_lit_txt [0, 1, 2, 3, 5, 6, 7, 8, 11] (fun W => Below w2.heap.size w2 W) (by kernel_rfl) (by kernel_rfl) (by kernel_rfl) hbl.drew ?_; have hba := hbl.drew; generalize wr.drew = wa at *
      iterate 3 ((refine txt_light ?_ rfl rfl ?_ ?_; rotate_left; · (intro w' hS; (try dsimp only at hS); go_simp; with_reducible rfl)); try simp only [Act.put, List.getElem_toArray, List.getElem_cons_succ, List.getElem_cons_zero, List.setIfInBounds_toArray, List.set_cons_zero, List.set_cons_succ])
      refine txt_light (.agg #[.int .i64 x.kind, nv, .string x.key, .int .i64 x.v.1, .string x.v.2.1, .int .i64 x.v.2.2]) rfl rfl ?_ ?_
      · intro w' hS; have e0 := (hS.cell (p := ⟨b1, o1 + k * 6, none⟩) hbb).trans c0; have e1 := (hS.cell (p := ⟨b1, o1 + k * 6 + 1, none⟩) hbb).trans c1; have e2 := (hS.cell (p := ⟨b1, o1 + k * 6 + 2, none⟩) hbb).trans c2; have e3 := (hS.cell (p := ⟨b1, o1 + k * 6 + 3, none⟩) hbb).trans c3; have e4 := (hS.cell (p := ⟨b1, o1 + k * 6 + 4, none⟩) hbb).trans c4; have e5 := (hS.cell (p := ⟨b1, o1 + k * 6 + 5, none⟩) hbb).trans c5; clear hS; go_simp
      try simp only [Act.put, List.getElem_toArray, List.getElem_cons_succ, List.getElem_cons_zero, List.setIfInBounds_toArray, List.set_cons_zero, List.set_cons_succ]
      refine txt_call [.agg #[.int .i64 x.kind, nv, .string x.key, .int .i64 x.v.1, .string x.v.2.1, .int .i64 x.v.2.2]] Tryz.f12 rfl rfl Tryz.func12 (by kernel_rfl) (by kernel_rfl) rfl ((HC1.out _ hba).mono ?_); rintro e wb ⟨rfl, hc⟩; have hbb1 := hba.trans (hc.mono hba.size); clear hc; refine ⟨_, rfl, hbb1, ?_⟩
      try simp only [Act.put, List.getElem_toArray, List.getElem_cons_succ, List.getElem_cons_zero, List.setIfInBounds_toArray, List.set_cons_zero, List.set_cons_succ]
      iterate 3 ((refine txt_light ?_ rfl rfl ?_ ?_; rotate_left; · (intro w' hS; (try dsimp only at hS); go_simp; with_reducible rfl)); try simp only [Act.put, List.getElem_toArray, List.getElem_cons_succ, List.getElem_cons_zero, List.setIfInBounds_toArray, List.set_cons_zero, List.set_cons_succ])
      refine txt_light (.agg #[.int .i64 x.kind, nv, .string x.key, .int .i64 x.v.1, .string x.v.2.1, .int .i64 x.v.2.2]) rfl rfl ?_ ?_
      · intro w' hS; have e0 := (hS.cell (p := ⟨b1, o1 + k * 6, none⟩) hbb).trans c0; have e1 := (hS.cell (p := ⟨b1, o1 + k * 6 + 1, none⟩) hbb).trans c1; have e2 := (hS.cell (p := ⟨b1, o1 + k * 6 + 2, none⟩) hbb).trans c2; have e3 := (hS.cell (p := ⟨b1, o1 + k * 6 + 3, none⟩) hbb).trans c3; have e4 := (hS.cell (p := ⟨b1, o1 + k * 6 + 4, none⟩) hbb).trans c4; have e5 := (hS.cell (p := ⟨b1, o1 + k * 6 + 5, none⟩) hbb).trans c5; clear hS; go_simp
      try simp only [Act.put, List.getElem_toArray, List.getElem_cons_succ, List.getElem_cons_zero, List.setIfInBounds_toArray, List.set_cons_zero, List.set_cons_succ]
      refine txt_call [.agg #[.int .i64 x.kind, nv, .string x.key, .int .i64 x.v.1, .string x.v.2.1, .int .i64 x.v.2.2]] Tryz.f14 rfl rfl Tryz.func14 (by kernel_rfl) (by kernel_rfl) rfl ((HC2.out _ hbb1).mono ?_); rintro e wc ⟨rfl, hc⟩; have hbb2 := hbb1.trans (hc.mono hbb1.size); clear hc; refine ⟨_, rfl, hbb2, ?_⟩
      try simp only [Act.put, List.getElem_toArray, List.getElem_cons_succ, List.getElem_cons_zero, List.setIfInBounds_toArray, List.set_cons_zero, List.set_cons_succ]
      refine txt_call [.agg #[.int .i64 x.kind, nv, .string x.key, .int .i64 x.v.1, .string x.v.2.1, .int .i64 x.v.2.2]] Tryz.f13 rfl rfl Tryz.func13 (by kernel_rfl) (by kernel_rfl) rfl ((HC3.out _ hbb2).mono ?_); rintro e wd ⟨rfl, hc⟩; have hbb3 := hbb2.trans (hc.mono hbb2.size); clear hc; refine ⟨_, rfl, hbb3, ?_⟩
      try simp only [Act.put, List.getElem_toArray, List.getElem_cons_succ, List.getElem_cons_zero, List.setIfInBounds_toArray, List.set_cons_zero, List.set_cons_succ]
      refine txt_light (.bool false) rfl rfl ?_ ?_
      · intro w' hS; go_simp
      try simp only [Act.put, List.getElem_toArray, List.getElem_cons_succ, List.getElem_cons_zero, List.setIfInBounds_toArray, List.set_cons_zero, List.set_cons_succ]
      refine txt_nil ?_; clear c0 c1 c2 c3 c4 c5; go_wp2; go_roundw
      case rel => exact ⟨k + 1, by omega, by go_num, hbb3⟩
      case measure => simp [intOf]; omega
    · obtain rfl : k = NP := by omega
      have hlt' : ¬ (k : Int) < (k : Int) := by omega
      go_wp2_with fail
      refine (HP1.out _ hbl).mono ?_; rintro e w3 ⟨rfl, hb3⟩; have c3 := hbl.trans (hb3.mono hbl.size); clear hb3 hbl HP1
      go_wp2_with fail
      refine (HOF1.out _ c3).mono ?_; rintro e w4 ⟨v4, rfl, ho4, hb4⟩; obtain ⟨ua, uc, rfl, u1, u2, u3, hrU, -⟩ := ho4.form; have c4 := c3.trans (hb4.mono c3.size); clear hb4 ho4 c3
      go_wp2_with fail
      refine (HP2.out _ ua uc c4 hrU).mono ?_; rintro e w5 ⟨rfl, hb5⟩; have c5 := c4.trans (hb5.mono c4.size); clear hb5 hrU c4 HP2; have HKW := Lib.hid (fun W => kword_any z W); have HRW := Lib.hid (fun W => rkword_any z W); generalize kwS z = KZ at *
      go_wp2_with fail
      refine (HKW.out _).mono ?_; rintro e w6 ⟨rfl, hb6⟩; have c6 := c5.trans (hb6.mono c5.size); clear hb6 c5
      go_wp2_with fail
      refine (HRW.out _).mono ?_; rintro e w7 ⟨rfl, hb7⟩; have c7 := c6.trans (hb7.mono c6.size); clear hb7 c6
      go_wp2_with fail
      refine (HSM1.out _ c7).mono ?_; rintro e w8 ⟨rfl, hb8⟩; have c8 := c7.trans (hb8.mono c7.size); clear hb8 c7
      go_wp2_with fail
      refine (HOF2.out _ c8).mono ?_; rintro e w9 ⟨v9, rfl, ho9, hb9⟩; obtain ⟨ta, tc, rfl, t1, t2, t3, hrT, -⟩ := ho9.form; have c9 := c8.trans (hb9.mono c8.size); clear hb9 ho9 c8
      go_wp2_with fail
      refine (HSM2.out _ ta tc c9 hrT).mono ?_; rintro e w10 ⟨rfl, hb10⟩; have c10 := c9.trans (hb10.mono c9.size); clear hb10 hrT c9; have hDD : (DE != DE) = false := by cases DE <;> rfl
      go_wp2_with fail
      refine (HSM3.out _ c10).mono ?_; rintro e w11 ⟨rfl, hb11⟩; have c11 := c10.trans (hb11.mono c10.size); have b11 := b02.trans (c11.mono b02.size); clear hb11 c10
      by_cases hE : E1 = 0
      · subst hE; have HPB := Lib.hid (fun W => HPA.out rfl W); clear HPA
        go_wp2_with fail
        refine (HPB.out _).mono ?_; intro e w12 hpost
        rcases hpost with ⟨-, G, p, cg, rfl, hG, hown, hIT, hb12⟩ | ⟨h, -⟩
        · obtain ⟨p', c', e, g1, g2, g3, hrG, -⟩ := hown.form
          cases e
          have c12 := c11.trans (hb12.mono c11.size); have b12 := b11.trans (hb12.mono b11.size); have hGl : G.length = k := by
            have := congrArg List.length hG; rw [List.length_map, List.length_map, HNP.out] at this; exact this
          have HS4 := Lib.hid (fun (W : World) (hW : Below w12.heap.size w12 W) => HSM4.out W G p cg hG (c12.trans (hW.mono c12.size)) (hrG.keep hW) (fun g hg => (hIT g hg).1.keep hW)); rw [hG, decide_eq_true rfl, hGl] at HS4; rw [hGl]; clear hown hrG hIT hG hGl HSM4
          go_wp2_with fail
          refine (HKN.out w12).mono ?_; rintro e w13 ⟨rfl, hb13⟩; have b13 := b12.trans (hb13.mono b12.size)
          go_wp2_with fail
          refine (HS4.out w13 hb13).mono ?_; rintro e w14 ⟨rfl, hb14⟩; have b14 := b13.trans (hb14.mono b13.size); go_wp2; go_ret; exact ⟨rfl, b14⟩
        · exact absurd rfl h
      · clear HPA
        go_wp2_with fail
        refine (HKN.out w11).mono ?_; rintro e w12 ⟨rfl, hb12⟩; go_wp2; go_ret; exact ⟨rfl, b11.trans (hb12.mono b11.size)⟩
end Go.Proofs.YtkfgbjjelcigcaaGreatDoor
/- ScriptPrints: the walk under what the row lays. -/
set_option linter.unusedVariables false
set_option linter.unusedSimpArgs false
set_option maxRecDepth 100000
namespace Go.Proofs.YtkfgbjjelcigcaaGreatDoor
open Go.RowKit
theorem tab_of {W : World} (hL : laidMetH Tryz.prog Rows.scriptPrintsRow.laid W) : TabOk W := by
  have h1 := hL.filter (fun x => x.1 == "internal/strconv.uint64pow10")
  have e : Rows.scriptPrintsRow.laid.filter (fun x => x.1 == "internal/strconv.uint64pow10") = [("internal/strconv.uint64pow10", Lib.tabData .u64 Lib.pow10Tab)] := by kernel_rfl
  rw [e] at h1; have h2 : laidMet Tryz.prog [("internal/strconv.uint64pow10", Lib.tabData .u64 Lib.pow10Tab)] W := h1
  exact Lib.tabIs_of_head (g := 0) (t := 169) (e := 120) (n := 20) (by kernel_rfl) (by kernel_rfl) (by kernel_rfl) (by kernel_rfl) (by kernel_rfl) (by kernel_rfl) h2
theorem prints_law {w : World} (hL : laidMetH Tryz.prog Rows.scriptPrintsRow.laid w) (a : Option Addr) (c : Nat) (X : List It) (hlc : X.length ≤ c) (hcm : c ≤ maxLen) (hn0 : a = none → c = 0) (hr : Rd w a (its X)) (hw : ∀ x ∈ X, ItIn w x)
    (b : Option Addr) (d : Nat) (Y : List It) (hld : Y.length ≤ d) (hdm : d ≤ maxLen) (hn1 : b = none → d = 0) (hr2 : Rd w b (its Y)) (hw2 : ∀ x ∈ Y, ItIn w x) (z : Int) (wfz : (Lit.int .i64 z).wf = true) :
    Calls Tryz.prog 4 #[.slice a X.length c, .slice b Y.length d, .int .i64 z] w fun e w' => e = .returned (.bool true) ∧ Below w.heap.size w w' :=
  prints_walk a c X hlc hcm hn0 hr hw b d Y hld hdm hn1 hr2 hw2 z (tab_of hL)
end Go.Proofs.YtkfgbjjelcigcaaGreatDoor
