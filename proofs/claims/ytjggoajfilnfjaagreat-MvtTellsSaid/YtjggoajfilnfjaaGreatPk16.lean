/-
  geom's reader: part, where nothing is wrong. Plain: where a part's numbers stand; what a geometry that is right has. What a reader of rows hands back. varint.Row. geom.Read of a geometry's numbers; geom.Bytes, geom.Parse. Plain: how great a geometry's numbers are; rows behind values as slices.
-/
import Derived.Test.YtjggoajfilnfjaaGreatPk15
import Derived.Test.YtjggoajfilnfjaaGreatProg
import Derived.Test.YtjggoajfilnfjaaGreatPk1
import Derived.Test.YtjggoajfilnfjaaGreatPk3
import Derived.Test.YtjggoajfilnfjaaGreatPk2
import Derived.WalkSmall
import Derived.Test.YtjggoajfilnfjaaGreatPk8
set_option linter.unusedVariables false
set_option linter.unusedSimpArgs false
set_option maxRecDepth 100000
namespace Go
open Go.RowKit Go.Vint

def lastP (at' : Pt) (l : List Pt) (i : Nat) : Pt := if i = 0 then at' else l[i - 1]!

structure PartAt (kind : Int) (at' : Pt) (l : List Pt) (L : List Int) (k : Nat) : Prop where
 c0 : L[k]? = some 9
 pt : ∀ i, i < l.length → L[if i = 0 then k + 1 else k + 2 + 2 * i]? = some (zig (l[i]!.x - (lastP at' l i).x)) ∧ L[(if i = 0 then k + 1 else k + 2 + 2 * i) + 1]? = some (zig (l[i]!.y - (lastP at' l i).y))
 c3 : L[k + 3]? = some (((l.length - 1 : Nat) : Int) * 8 + 2)
 cl : kind = 3 → L[k + 2 + 2 * l.length]? = some 15

theorem grown_then {w a b : World} {B : Nat} {r : Option Nat} (h : w.grownBy a (some B)) (k : a.grownBy b r) (hr : ∀ g, r = some g → w.heap.size ≤ g) : w.grownBy b (some B) := by
 refine ⟨k.os.trans h.os, k.tape.trans h.tape, k.output.trans h.output, Nat.le_trans h.size k.size, fun i hi hn => ?_⟩; rw [k.block i (Nat.lt_of_lt_of_le hi h.size) (fun e => by have := hr i e.symm; omega)]; exact h.block i hi hn
theorem RdS.app {w0 w w' : World} {B b off c : Nat} {L : List Int} {k : Nat} {p : Pt} (h : RdS w0 w B b off c L k p) {r : Option Nat} (hg : w.grownBy w' r) (hr : ∀ g, r = some g → B < g) : RdS w0 w' B b off c L k p :=
 ⟨h.1, h.2.1, h.2.2.1.grown hg (fun e => by have := hr _ e.symm; omega), h.2.2.2.grown hg h.2.2.2.size (fun g e => by have := hr g e; have := h.2.1; omega)⟩
theorem partE_len {kind : Int} {first : Bool} {l : List Pt} (h : partE kind first l = 0) : kind ≤ (l.length : Int) := by
 unfold partE at h
 split at h
 ·simp at h
 ·split at h
  ·simp at h
  ·omega
theorem close_last {at' : Pt} {l : List Pt} {i : Nat} (ha : Close at') (hl : ∀ p ∈ l, Close p) (hi : i ≤ l.length) : Close (lastP at' l i) := by
 unfold lastP
 split
 ·exact ha
 ·rw [getElem!_pos l (i - 1) (by omega)]; exact hl _ (List.getElem_mem _)
end Go
namespace Go.Proofs.YtjggoajfilnfjaaGreat
open Go.RowKit Go.Vint
theorem Tryz.infoPt : (Tryz.prog.info? 79).map (fun i => (i.zero, i.size, i.bytes)) = some (some (.agg #[.int .i64 0, .int .i64 0]), 2, 16) := by kernel_rfl

set_option maxHeartbeats 3200000 in
theorem rpart_ok (w0 w : World) (B b off c : Nat) (L : List Int) (k : Nat) (at' : Pt) (kind : Int) (first : Bool) (l : List Pt) (hk : kind = 2 ∨ kind = 3) (hl2 : 2 ≤ l.length) (hl3 : l.length ≤ 1000) (hcl : ∀ p ∈ l, Close p) (hat : Close at')
  (hP : PartAt kind at' l L k) (hE : partE kind first l = 0) (hL : L.length ≤ 1000000) (hc : L.length ≤ c) (h : RdS w0 w B b off c L k at') :
  Calls Tryz.prog 125 #[.pointer (some ⟨B, 0, none⟩), .int .i64 kind, .bool first] w fun e w' => ∃ v, e = .returned (.tuple #[v, .int .i64 0]) ∧
   w'.ownsRow w.heap.size 79 2 v l.length (pts l) ∧ RdS w0 w' B b off c L (k + 2 + 2 * l.length + (if kind = 3 then 1 else 0)) l[l.length - 1]! ∧ w.grownBy w' (some B) := by
 have hBl := h.2.2.1.lt; have hw0 := h.2.2.2.size; have HK := Lib.hid hk; have h15 := fun W C h1 h2 h3 => command_only w0 W B b off c L (k + 2 + 2 * l.length) l[l.length - 1]! C 15 h1 (by decide) hL hc h2 h3; have h9 := fun W C h2 h3 => command_only w0 W B b off c L k at' C 9 hP.c0 (by decide) hL hc h2 h3; have hm := fun W C h2 h3 => command_part w0 W B b off c L (k + 3) l[0]! C ((l.length - 1 : Nat) : Int) kind hP.c3 (by have := partE_len hE; omega) (by omega) hL hc h2 h3; have hpart := fun W a c h => gpart_any kind first ⟨l, a, c⟩ hl3 hk W h; simp only [hE] at hpart; have hpt := fun W i (hi : i < l.length) h => point_ok w0 W B b off c L (if i = 0 then k + 1 else k + 2 + 2 * i) (lastP at' l i) l[i]! (hP.pt i hi).1 (hP.pt i hi).2 (close_last hat hcl (by omega)) (by rw [getElem!_pos l i hi]; exact hcl _ (List.getElem_mem _)) hL hc h; have H15 := Lib.hid h15; have H9 := Lib.hid h9; have HM := Lib.hid hm; have HPART := Lib.hid hpart; have HPT := Lib.hid hpt; have HPA := Lib.hid hP; clear h15 h9 hm hpart hpt hE hP hk hL hc hcl hat
 go_enter Tryz.func125, Tryz.ntmps125
 go_wp2; refine wp_goto_pre 0 (fun n a' w' => ∃ (i T s lf : Nat) (o : Value) (u6 u7 u10 u11 u12 u13 u14 u15 u16 u17 u18 u19 u20 u21 u22 u23 u24 u25 u26 u27 u28 u29 u30 u31 u32 u33 u34 u35 u36 u37 u38 u39 u40 u41 u42 u43 u44 u45 u46 u47 u48 u49 u50 u51 u52 u53 u54 u55 u56 u57 u58 u59 u60 u61 u62 u63 u64 u65 u66 u67 u68 u69 u70 u71 u72 : Value),
  (n = 1 - i ∧ (i = 0 ∧ T = 1 ∧ s = k + 1 ∨ i = 1 ∧ T = l.length ∧ s = k + 2) ∧ lf + i = T ∧ w'.ownsRow (w.heap.size + 1) 79 2 o i (pts (l.take i)) ∧ RdS w0 w' B b off c L (s + 2 * i) (lastP at' l i) ∧ Cell1 w' w.heap.size (.int .i64 kind) ∧ w.grownBy w' (some B)) ∧
  a' = { tmps := List.toArray ((.pointer (some ⟨B, 0, none⟩)) :: (.int .i64 kind) :: (.bool first) :: undef :: (.pointer (some ⟨w.heap.size, 0, none⟩)) :: undef :: u6 :: u7 :: o :: (.int .u64 lf) :: u10 :: u11 :: u12 :: u13 :: u14 :: u15 :: u16 :: u17 :: u18 :: u19 :: u20 :: u21 :: u22 :: u23 :: u24 :: u25 :: u26 :: u27 :: u28 :: u29 :: u30 :: u31 :: u32 :: u33 :: u34 :: u35 :: u36 :: u37 :: u38 :: u39 :: u40 :: u41 :: u42 :: u43 :: u44 :: u45 :: u46 :: u47 :: u48 :: u49 :: u50 :: u51 :: u52 :: u53 :: u54 :: u55 :: u56 :: u57 :: u58 :: u59 :: u60 :: u61 :: u62 :: u63 :: u64 :: u65 :: u66 :: u67 :: u68 :: u69 :: u70 :: u71 :: u72 :: []), defers := [] }) rfl ?_ ?_
 ·rintro n a' w' ⟨i0, T, s, lf, o, u6, u7, u10, u11, u12, u13, u14, u15, u16, u17, u18, u19, u20, u21, u22, u23, u24, u25, u26, u27, u28, u29, u30, u31, u32, u33, u34, u35, u36, u37, u38, u39, u40, u41, u42, u43, u44, u45, u46, u47, u48, u49, u50, u51, u52, u53, u54, u55, u56, u57, u58, u59, u60, u61, u62, u63, u64, u65, u66, u67, u68, u69, u70, u71, u72, ⟨hn, hph, hlf, hown, hrd, hcl, hg⟩, rfl⟩ J hJ; have HJ := Lib.hid hJ; have HN := Lib.hid hn; clear hJ hn; have hT : T ≤ l.length := by omega
  have hT1 : 1 ≤ T := by omega
  have HPH := Lib.hid hph; have hi0 : i0 ≤ 1 := by omega
  have hi0T : i0 ≤ T := by omega
  go_wp2
  go_loopw [8, 9] (fun o lf wr => ∃ i left : Nat, i0 ≤ i ∧ i ≤ T ∧ lf = .int .u64 left ∧ left + i = T ∧ wr.ownsRow (w.heap.size + 1) 79 2 o i (pts (l.take i)) ∧ RdS w0 wr B b off c L (s + 2 * i) (lastP at' l i) ∧ Cell1 wr w.heap.size (.int .i64 kind) ∧ w.grownBy wr (some B)) (fun _ lf _ => (intOf lf).toNat)
  case atStart => exact ⟨i0, lf, Nat.le_refl _, hi0T, rfl, hlf, hown, hrd, hcl, hg⟩
  case round =>
   obtain ⟨i, left, hi, hiT, rfl, hleft, hown', hrd', hcl', hg'⟩ := hrel
   by_cases hlt : i < T
   ·have hidx : (if i = 0 then k + 1 else k + 2 + 2 * i) = s + 2 * i := by rcases HPH.out with ⟨h1, h2, h3⟩ | ⟨h1, h2, h3⟩ <;> split <;> omega
    have hp := HPT.out wr i (by omega); rw [hidx] at hp; have hp := hp hrd'; have hst : Hid (pts (l.take (i + 1)) = pts (l.take i) ++ (l[i]!).cells) := by
     refine Lib.hid ?_; rw [List.take_succ_eq_append_getElem (by omega), pts_snoc, getElem!_pos l i (by omega)]
    have hla : Hid (lastP at' l (i + 1) = l[i]!) := Lib.hid (by unfold lastP; rw [if_neg (by omega)]; rfl); generalize l[i]! = q at *; have HP := Lib.hid hp; have hszw := hg'.size; have hlf0 : (0 : Int) < (left : Int) := by omega
    obtain ⟨x, y⟩ := q; dsimp only [Pt.val] at HP; obtain ⟨nx, hnx⟩ : ∃ nx : Nat, left = nx + 1 := ⟨left - 1, by omega⟩; subst hnx; clear hp hown hrd hcl hg hrd' hidx hlf
    go_wp2_with fail
    refine HP.out.mono ?_; rintro e w1 ⟨rfl, h1, hg1⟩; have hB1 := h1.2.2.1.lt; have hown1 := hown'.kept hg1 (.inr (by intro e; have := (hown'.lt _ e).1; omega)); have hcl1 := hcl'.grown hg1 (by simp; omega); have hg2 := hg'.trans hg1; have hs1 := hg1.size; clear HP hown' hcl' hg' hg1; obtain ⟨ti, hti, hz0, hz1, hz2⟩ := info_parts Tryz.infoPt
    go_wp2_with (at_builtin; go_must (refine wpList_append_own_at ((w1.alloc (.cells #[.int .i64 x, .int .i64 y] 79)).alloc (.cells #[.int .i64 x, .int .i64 y] 79)) rfl (.tmp 39) (.tmp 41) 80 rfl (w.heap.size + 1) 79 ti (.agg #[.int .i64 0, .int .i64 0]) 2 16 Tryz.underlying80 hti hz0 hz1 hz2 rfl (by decide) u8 i (pts (l.take i)) rfl ((hown1.below (Below.new _ _)).below (Below.new _ _)) ⟨w1.heap.size + 1, 0, none⟩ 1 1 [.int .i64 x, .int .i64 y] rfl rfl (Rd.lit (w1.alloc (.cells #[.int .i64 x, .int .i64 y] 79)) (w1.heap.size + 1) [.int .i64 x, .int .i64 y] 79 (by simp)).add (by simp [Value.oneCell']) (by unfold maxLen; omega) (by omega) (by have := hcl1.lt; simp; omega) ?_); intro v2 w2 hown2 hg3 _ _)
    have hob : ∀ g, u8.ownBlock = some g → w.heap.size + 1 ≤ g := fun g e => (hown1.lt g e).1; refine ⟨⟨i + 1, nx, by omega, by omega, rfl, by omega, ?_, ?_, ?_, ?_⟩, by simp [intOf]⟩
    ·rw [hst.out]; exact hown2
    ·rw [hla.out]; have := ((h1.grown (grown_alloc w1 (.cells #[.int .i64 x, .int .i64 y] 79) none)).grown (grown_alloc _ (.cells #[.int .i64 x, .int .i64 y] 79) none)).app hg3 (fun g e => by have := hob g e; omega)
     rwa [show s + 2 * i + 2 = s + 2 * (i + 1) by omega] at this
    ·exact ((hcl1.alloc _).alloc _).grown hg3 (fun e => by have := hob _ e.symm; omega)
    ·exact grown_then ((hg2.trans (grown_alloc w1 (.cells #[.int .i64 x, .int .i64 y] 79) (some B))).trans (grown_alloc _ (.cells #[.int .i64 x, .int .i64 y] 79) (some B))) hg3 (fun g e => by have := hob g e; omega)
   ·obtain rfl : i = T := by omega
    obtain rfl : left = 0 := by omega
    have hob := hown'.lt; obtain ⟨oa, oc, rfl, hoc, hom, hon, hor, -⟩ := hown'.form; clear hown hrd hcl hg hlf; obtain ⟨m, hm⟩ : ∃ m, l.length - 1 = m := ⟨_, rfl⟩
    rcases HPH.out with ⟨rfl, rfl, rfl⟩ | ⟨rfl, rfl, rfl⟩
    ·have e1 : lastP at' l 1 = l[0]! := by unfold lastP; rw [if_neg (by omega)]
     rw [e1] at hrd'; have hc := HM.out wr w.heap.size hcl' (by omega) hrd'; rw [hm] at hc; have HC := Lib.hid hc; have HM := Lib.hid hm; have hm8 : ((m : Int) * 8 + 2) / 8 = (m : Int) := by omega
     have hmb : (m : Int) ≤ 1000 := by omega
     have HE1 := Lib.hid e1; clear hc hm e1
     go_wp2_with fail
     refine HC.out.mono ?_; rintro e w1 ⟨rfl, h1, hg1⟩; have hown1 := hown'.kept hg1 (.inr (by intro e; have := (hown'.lt _ e).1; have := hrd'.2.2.1.lt; omega)); have hcl1 := hcl'.grown hg1 (by simp; omega); have hg2 := hg'.trans hg1; go_wp2
     go_step3
     show (0 : Nat) = 0 ∧ J _ _; refine ⟨rfl, HJ.out 0 _ _ (by rw [HN.out]; omega) ⟨1, l.length, k + 2, m, _, _, _, _, _, _, _, _, _, _, _, _, _, _, _, _, _, _, _, _, _, _, _, _, _, _, _, _, _, _, _, _, _, _, _, _, _, _, _, _, _, _, _, _, _, _, _, _, _, _, _, _, _, _, _, _, _, _, _, _, _, _, _, _, _, _, ⟨rfl, .inr ⟨rfl, rfl, rfl⟩, by have := HM.out; omega, hown1, by rw [HE1.out]; exact h1, hcl1, hg2⟩, rfl⟩⟩
    ·have e1 : lastP at' l l.length = l[l.length - 1]! := by unfold lastP; rw [if_neg (by omega)]
     rw [e1] at hrd'; rw [List.take_length] at hown' hor; have hne1 : ¬ l.length = 1 := by omega
     have hne1' : ((l.length : Int) == 1) = false := by simp; omega
     have hcell := hcl'.cell
     rcases HK.out with rfl | rfl
     ·have hpa := HPART.out wr oa oc ⟨hor, hoc, hom, hon⟩; have HPA2 := Lib.hid hpa; have HRD : Hid (RdS w0 wr B b off c L (k + 2 + 2 * l.length + 0) l[l.length - 1]!) := Lib.hid hrd'; dsimp only [PC.val] at HPA2; clear hpa hrd' e1 hm
      go_wp2_with fail
      refine HPA2.out.mono ?_; rintro e w1 ⟨rfl, hb1⟩; have hg1 : wr.grownBy w1 none := ⟨hb1.os, hb1.tape, hb1.output, hb1.size, fun i hi _ => hb1.block i hi⟩; go_wp2; simp only [Exit.jump_ret]; refine bodyPost_ret (v := .tuple #[.slice oa l.length oc, .int .i64 0]) (by simp [results, Tryz.results125, go_sem]) rfl ⟨_, rfl, (hown'.below hb1).mono (by omega), ?_, grown_then hg' hg1 (by simp)⟩; exact HRD.out.grown hg1
     ·have hrd2 := hrd'.grown (grown_alloc wr (.cells #[.int .u64 15] 70) none); have h15 := H15.out _ wr.heap.size (HPA.out.cl rfl) (Cell1.new wr (.int .u64 15) 70) (by have := hrd'.2.2.1.lt; omega) hrd2; have HC15 := Lib.hid h15; have hB1 := hrd'.2.2.1.lt; have hown1 := hown'.below (Below.new wr (.cells #[.int .u64 15] 70)); have hcl1 := hcl'.alloc (.cells #[.int .u64 15] 70); have hor1 := hor.keep (Below.new wr (.cells #[.int .u64 15] 70)); have hg1 := hg'.trans (grown_alloc wr (.cells #[.int .u64 15] 70) (some B)); clear h15 hrd2 hrd' e1 hm hown' hcl' hg' hor
      go_wp2_with fail
      refine (only_any 15 _).mono ?_; rintro e w1 ⟨rfl, rfl⟩
      go_wp2_with fail
      refine HC15.out.mono ?_; rintro e w2 ⟨rfl, h2, hg2⟩; have hob1 := hown1.lt; have hown2 := hown1.kept hg2 (.inr (by intro e; have := (hown1.lt _ e).1; omega)); have hcell2 := (hcl1.grown hg2 (by simp; omega)).cell; have hor2 : Rd w2 oa (pts l) := Rd.of_owns hown2; have hg3 := hg1.trans hg2; have hpa := HPART.out w2 oa oc ⟨hor2, hoc, hom, hon⟩; have HPA2 := Lib.hid hpa; dsimp only [PC.val] at HPA2; clear hpa hg1 hg2 hown1 hor1 hcell
      go_wp2_with fail
      refine HPA2.out.mono ?_; rintro e w3 ⟨rfl, hb1⟩; have hg4 : w2.grownBy w3 none := ⟨hb1.os, hb1.tape, hb1.output, hb1.size, fun i hi _ => hb1.block i hi⟩; go_wp2; simp only [Exit.jump_ret]; refine bodyPost_ret (v := .tuple #[.slice oa l.length oc, .int .i64 0]) (by simp [results, Tryz.results125, go_sem]) rfl ⟨_, rfl, (hown2.below hb1).mono (by omega), ?_, grown_then hg3 hg4 (by simp)⟩; exact h2.grown hg4
 ·intro J hJ; have k0 := h.grown (grown_alloc w (.cells #[.int .i64 kind] 3) none); have k1 := k0.grown (grown_alloc _ (.cells #[.int .u64 9] 70) none); have kc := (Cell1.new w (.int .i64 kind) 3).alloc (.cells #[.int .u64 9] 70); have kd := Cell1.lit (w.alloc (.cells #[.int .i64 kind] 3)) (w.heap.size + 1) (.int .u64 9) 70 (by simp); have kg := (grown_alloc w (.cells #[.int .i64 kind] 3) (some B)).trans (grown_alloc _ (.cells #[.int .u64 9] 70) (some B)); have HJ := Lib.hid hJ.out; clear hJ k0 h
  go_wp2_with fail
  refine (only_any 9 _).mono ?_; rintro e w1 ⟨rfl, rfl⟩; generalize (w.alloc (.cells #[.int .i64 kind] 3)).alloc (.cells #[.int .u64 9] 70) = w1 at *; have h9 := H9.out w1 (w.heap.size + 1) kd (by omega) k1; have H9' := Lib.hid h9; clear h9
  go_wp2_with fail
  refine H9'.out.mono ?_; rintro e w2 ⟨rfl, h2, hg2⟩; have kc2 := kc.grown hg2 (by simp; omega); have kg2 := kg.trans hg2; clear H9' k1 kc kd kg hg2; go_wp2
  go_step3
  go_step; go_step; refine HJ.out 1 _ _ ⟨0, 1, k + 1, 1, _, _, _, _, _, _, _, _, _, _, _, _, _, _, _, _, _, _, _, _, _, _, _, _, _, _, _, _, _, _, _, _, _, _, _, _, _, _, _, _, _, _, _, _, _, _, _, _, _, _, _, _, _, _, _, _, _, _, _, _, _, _, _, _, _, _, ⟨rfl, .inl ⟨rfl, rfl, rfl⟩, rfl, World.ownsRow_nil _ _ _ _, h2, kc2, kg2⟩, rfl⟩
end Go.Proofs.YtjggoajfilnfjaaGreat
namespace Go
open Go.RowKit Go.Vint

theorem pn_get (l : List Pt) : ∀ (a : Pt) (i : Nat), i < l.length → (pn a l)[2 * i]? = some (zig (l[i]!.x - (lastP a l i).x)) ∧ (pn a l)[2 * i + 1]? = some (zig (l[i]!.y - (lastP a l i).y)) := by
 induction l with
 | nil => intro a i h; simp at h
 | cons p l ih =>
  intro a i h; rw [pn]
  cases i with
  | zero => simp [byN, lastP]
  | succ i =>
   have hl : (byN a p).length = 2 := rfl; have := ih p i (by simpa using h); rw [List.getElem?_append_right (by rw [hl]; omega), List.getElem?_append_right (by rw [hl]; omega), hl]; rw [show 2 * (i + 1) - 2 = 2 * i by omega, show 2 * (i + 1) + 1 - 2 = 2 * i + 1 by omega]; have e1 : (p :: l)[i + 1]! = l[i]! := by simp
   have e2 : lastP a (p :: l) (i + 1) = lastP p l i := by
    unfold lastP; rw [if_neg (by omega), Nat.add_sub_cancel]
    cases i with
    | zero => simp
    | succ i => rw [if_neg (by omega)]; simp
   rw [e1, e2]; exact this

theorem partN_len' (kind : Int) (a : Pt) (l : List Pt) (h : 1 ≤ l.length) : (partN kind a l).length = 2 + 2 * l.length + (if kind = 3 then 1 else 0) := by
 unfold partN; simp only [List.length_append, pn_len, List.length_drop]
 split <;> simp [byN] <;> omega

theorem partAt_of {kind : Int} {a : Pt} {l : List Pt} {L rest : List Int} {k : Nat} (h : L.drop k = partN kind a l ++ rest) (hl : 2 ≤ l.length) : PartAt kind a l L k := by
 have hd : ∀ i, L[k + i]? = (partN kind a l ++ rest)[i]? := fun i => by rw [← h, List.getElem?_drop]
 have hln := partN_len' kind a l (by omega); have hsm : ∀ i, i < 2 + 2 * l.length → L[k + i]? = ([(9 : Int)] ++ byN a l[0]! ++ [((l.length : Int) - 1) * 8 + 2] ++ pn l[0]! (l.drop 1))[i]? := fun i hi => by
  rw [hd, List.getElem?_append_left (by omega)]; unfold partN; rw [List.getElem?_append_left (by simp [pn_len, byN]; omega)]
 have hbl : ([(9 : Int)] ++ byN a l[0]! ++ [((l.length : Int) - 1) * 8 + 2]).length = 4 := rfl; refine ⟨?_, ?_, ?_, ?_⟩
 ·have := hsm 0 (by omega)
  simpa using this
 ·intro i hi
  by_cases h0 : i = 0
  ·subst h0; rw [if_pos rfl]; have e1 := hsm 1 (by omega); have e2 := hsm 2 (by omega); rw [List.getElem?_append_left (by rw [hbl]; omega)] at e1 e2; unfold lastP; rw [if_pos rfl]; exact ⟨by rw [e1]; rfl, by rw [show k + 1 + 1 = k + 2 by omega, e2]; rfl⟩
  ·rw [if_neg h0]; have e := pn_get (l.drop 1) l[0]! (i - 1) (by simp; omega); have e3 : (l.drop 1)[i - 1]! = l[i]! := by
    rw [getElem!_pos (l.drop 1) (i - 1) (by simp; omega), List.getElem_drop, getElem!_pos l i hi]
    congr 1; omega
   have e4 : lastP l[0]! (l.drop 1) (i - 1) = lastP a l i := by
    unfold lastP; rw [if_neg h0]
    by_cases h1 : i = 1
    ·subst h1; simp
    ·rw [if_neg (by omega), getElem!_pos (l.drop 1) (i - 1 - 1) (by simp; omega), List.getElem_drop, getElem!_pos l (i - 1) (by omega)]
     congr 1; omega
   rw [e3, e4] at e; have f1 := hsm (2 + 2 * i) (by omega); have f2 := hsm (2 + 2 * i + 1) (by omega); rw [List.getElem?_append_right (by rw [hbl]; omega), hbl] at f1 f2; rw [show 2 + 2 * i - 4 = 2 * (i - 1) by omega] at f1; rw [show 2 + 2 * i + 1 - 4 = 2 * (i - 1) + 1 by omega] at f2; rw [e.1] at f1; rw [e.2] at f2; exact ⟨by rw [← f1]; congr 1; omega, by rw [← f2]; congr 1; omega⟩
 ·have := hsm 3 (by omega); rw [List.getElem?_append_left (by rw [hbl]; omega)] at this; rw [this]; have : ((l.length - 1 : Nat) : Int) = (l.length : Int) - 1 := by omega
  rw [this]; rfl
 ·intro hk; subst hk; have := hd (2 + 2 * l.length); rw [List.getElem?_append_left (by rw [hln]; simp)] at this; unfold partN at this; rw [List.getElem?_append_right (by simp [pn_len, byN]; omega)] at this; have e : 2 + 2 * l.length - ([(9 : Int)] ++ byN a l[0]! ++ [((l.length : Int) - 1) * 8 + 2] ++ pn l[0]! (l.drop 1)).length = 0 := by simp [pn_len, byN]; omega
  rw [e] at this; rw [← Nat.add_assoc] at this; rw [this]; rfl

theorem chk_get {kind : Int} (G : List (List Pt)) : ∀ {first : Bool}, chk kind first G = 0 → ∀ (j : Nat) (h : j < G.length), partE kind (first && decide (j = 0)) G[j] = 0 := by
 induction G with
 | nil => intro first _ j h; simp at h
 | cons l t ih =>
  intro first hc j h; rw [chk] at hc
  by_cases hp : partE kind first l = 0
  ·rw [if_neg (by simpa using hp)] at hc
   cases j with
   | zero => simpa using hp
   | succ j =>
    have := ih hc j (by simpa using h)
    simpa using this
  ·rw [if_pos hp] at hc; exact absurd hc hp

theorem checkE_get {kind : Int} {G : List (List Pt)} (h : checkE kind G = 0) (j : Nat) (hj : j < G.length) : partE kind (decide (j = 0)) G[j] = 0 := by
 unfold checkE at h
 split at h
 ·simp at h
 ·split at h
  ·simp at h
  ·simpa using chk_get G h j hj
end Go
namespace Go.Proofs.YtjggoajfilnfjaaGreat
open Go.RowKit Go.Vint

def IsRowRes (B : Nat) (r : List Int × Int × Int) (e : Ending) (w' : World) : Prop :=
 ∃ v, e = .returned (.tuple #[v, .int .i64 r.2.1, .int .i64 r.2.2]) ∧ w'.ownsRow B 70 1 v r.1.length (r.1.map (Value.int .u64))
end Go.Proofs.YtjggoajfilnfjaaGreat
namespace Go.Proofs.YtjggoajfilnfjaaGreat
open Go.RowKit Go.Vint

theorem vrow_any (a : Option Addr) (c : Nat) (L : List Int) (hb : ∀ x ∈ L, 0 ≤ x ∧ x ≤ 255) (hlen : L.length ≤ 1073741824) (hc : L.length ≤ c) (hcm : c ≤ maxLen) (w : World) (hr : Rd w a (L.map (Value.int .u8))) :
    Calls Tryz.prog 111 #[.slice a L.length c] w fun e w' => IsRowRes w.heap.size (row L) e w' ∧ Below w.heap.size w w' := by
  unfold maxLen at hcm
  go_enter Tryz.func111, Tryz.ntmps111
  go_wp2
  go_loopg [] (L.length) (fun g wr => ∃ (k f : Nat) (acc : List Int) (v : Value), g = L.length - k ∧ k ≤ L.length ∧
     Cell1 wr w.heap.size (.slice a L.length c) ∧ Cell1 wr (w.heap.size + 1) v ∧ Cell1 wr (w.heap.size + 1 + 1) (.int .i64 k) ∧
     wr.ownsRow (w.heap.size + 3) 70 1 v acc.length (acc.map (Value.int .u64)) ∧ Below w.heap.size w wr ∧ acc.length ≤ k ∧ L.length < k + f ∧ rowF f L k acc = row L)
  case atStart =>
    exact ⟨0, L.length + 1, [], .slice none 0 0, rfl, Nat.zero_le _, ((Cell1.new w _ _).alloc _).alloc _, (Cell1.lit _ _ _ _ (by simp)).alloc _, Cell1.lit _ _ _ _ (by simp), World.ownsRow_nil _ _ _ _, (((Below.new w _).alloc (by simp) _).alloc (by simp; omega) _), Nat.le_refl _, by omega, rfl⟩
  case round =>
    obtain ⟨k, f, acc, v, hg, hk, hBB, hOO, hPP, hown, hbl, hacc, hf, hrow⟩ := hrel; obtain ⟨f, rfl⟩ : ∃ g, f = g + 1 := ⟨f - 1, by omega⟩; have HR := Lib.hid hrow; have HGK := Lib.hid hg; clear hrow hg; have hB := hBB.cell; have hO := hOO.cell; have hP := hPP.cell; have hsz := hPP.lt
    by_cases hlt : k < L.length
    · obtain ⟨b, off, rfl, -, -⟩ := (hr.keep hbl).at (i := k) (v := .int .u8 L[k]) (by simp [hlt]); have hrk := (hr.keep hbl).drop k; rw [← List.map_drop] at hrk; have hD : ∀ x ∈ L.drop k, 0 ≤ x ∧ x ≤ 255 := fun x hx => hb x (List.mem_of_mem_drop hx); have hDl : (L.drop k).length = L.length - k := by simp
      obtain ⟨D, hDD⟩ : ∃ D, D = L.drop k := ⟨_, rfl⟩; rw [← hDD] at hrk hD hDl; have hrd := vread_any (some ⟨b, off + k, none⟩) (c - k) D hD (by omega) wr hrk; rw [hDl] at hrd; have HRD := Lib.hid hrd; have HD := Lib.hid hDD; have hck : ¬ (c = k) := by omega
      clear hrk hDD hrd
      by_cases he : (rd D).2.2 = 0
      · obtain ⟨m, hm, hrdd, -⟩ := rd_ok D he; have hbd := rd_bd D hD he; have HS : Hid (rowF f L (k + (m + 1)) (acc ++ [val (D.take (m + 1))]) = row L) := by
          show _ = _; rw [← HR.out, rowF_step _ _ _ _ hlt (by rw [← HD.out]; exact he), ← HD.out, hrdd]; rfl
        rw [hrdd] at hbd; simp only at hbd; have hm' : m + 1 ≤ L.length - k := by omega
        generalize val (D.take (m + 1)) = rn at *; have HRR := Lib.hid hrdd; clear he hDl hD hrdd hm HD HR; have hwn : Below w.heap.size w w := Below.refl _ _
        go_wp2_with (first | (go_at_call 106; go_must (refine HRD.out.mono ?_); rintro e w1 ⟨he1, rfl⟩; rw [HRR.out] at he1; simp only [Rd3] at he1; subst he1) | (at_builtin; go_must (refine wpList_appLit rfl (.tmp 17) (.tmp 19) 151 rfl (w.heap.size + 3) 70 (.int .u64 0) 1 8 Tryz.underlying151 Tryz.infoU64 rfl (by decide) (by decide) v _ _ rfl hown 1 1 [.int .u64 rn] _ rfl rfl (ints_one .u64 [rn]) (by omega) (by omega) ?_); intro v2 w2 hown2 hgrow2; have hBB2 := hBB.grown hgrow2 (hown.ne (by omega)); have hOO2 := hOO.grown hgrow2 (hown.ne (by omega)); have hPP2 := hPP.grown hgrow2 (hown.ne (by omega)); have hbl2 := hbl.grown hgrow2 hbl.size (fun k hk => Nat.le_trans (by omega) (hown.lt k hk).1); clear hgrow2 hB hO hP hBB hOO hPP hown hbl; have hO := hOO2.cell; have hOf := hOO2.free; have hP := hPP2.cell; have hPf := hPP2.free; obtain ⟨a2, c2, rfl, -, -, -, -, -⟩ := hown2.form) | go_in)
        clear hO hOf hP hPf
        go_roundg (L.length - (k + (m + 1)))
        case measure => rw [HGK.out]; omega
        case rel =>
          refine ⟨k + (m + 1), f, acc ++ [rn], _, rfl, by omega, (hBB2.set_at (by omega) _).set_at (by omega) _, (hOO2.set _).set_at (by omega) _, (hPP2.set_at (by omega) _).set _, ?_, (hbl2.set_at (by omega) _).set_at (by omega) _, by simp; omega, by omega, HS.out⟩; have h4 := (hown2.set_lt (b := w.heap.size + 1) (o := 0) (by omega) (.slice a2 (acc.length + 1) c2)).set_lt (b := w.heap.size + 1 + 1) (o := 0) (by omega) (.int .i64 ((k : Int) + ((m : Int) + 1)))
          simpa using h4
      · have hne : ((rd D).2.2 == 0) = false := by simpa using he
        have hne' : ((rd D).2.2 != 0) = true := by simpa using he
        have HE : Hid (row L = ([], (k : Int), (rd D).2.2)) := by
          show _ = _; rw [← HR.out, rowF_err _ _ _ _ hlt (by rw [← HD.out]; exact he), ← HD.out]
        clear he hDl hD; obtain ⟨rn, rk, re, hrdd⟩ : ∃ rn rk re, rd D = (rn, rk, re) := ⟨_, _, _, rfl⟩; rw [hrdd] at hne hne' HE; have HRR := Lib.hid hrdd; clear hrdd
        go_wp2_with (first | (go_at_call 106; go_must (refine HRD.out.mono ?_); rintro e w1 ⟨he1, rfl⟩; rw [HRR.out] at he1; simp only [Rd3] at he1; subst he1) | go_in)
        go_quiet (fail)
        go_wp2
        go_ret3
        rw [HE.out]; exact ⟨⟨_, rfl, World.ownsRow_nil _ _ _ _⟩, below_drewN hbl _⟩
    · have HE : Hid (row L = (acc, 0, 0)) := by
        show _ = _; rw [← HR.out, rowF_end _ _ _ _ hlt]
      go_wp2
      go_ret3
      rw [HE.out]; exact ⟨⟨_, rfl, hown.mono (by omega)⟩, hbl⟩
end Go.Proofs.YtjggoajfilnfjaaGreat
namespace Go
open Go.RowKit Go.Vint

def InP (e : TypeId) (H : Nat) (W : World) (vals : List Value) (G : List (List Pt)) : Prop :=
 vals.length = G.length ∧ ∀ (j : Nat) (v : Value) (g : List Pt), vals[j]? = some v → G[j]? = some g → W.ownsRow H e 2 v g.length (pts g)
theorem InP.keep {e : TypeId} {H : Nat} {W W' : World} {vals : List Value} {G : List (List Pt)} (h : InP e H W vals G) (hb : Below W.heap.size W W') : InP e H W' vals G := ⟨h.1, fun j v g h1 h2 => (h.2 j v g h1 h2).below hb⟩
theorem InP.kept {e : TypeId} {H B : Nat} {W W' : World} {vals : List Value} {G : List (List Pt)} (h : InP e H W vals G) (hg : W.grownBy W' (some B)) (hB : B < H) : InP e H W' vals G :=
 ⟨h.1, fun j v g h1 h2 => (h.2 j v g h1 h2).kept hg (.inr (fun e => by have := ((h.2 j v g h1 h2).lt _ e).1; omega))⟩
theorem InP.grown {e e2 : TypeId} {H b s n : Nat} {W W' : World} {vals : List Value} {G : List (List Pt)} {o : Value} {xs : List Value} (h : InP e H W vals G) (ho : W.ownsRow b e2 s o n xs) (he : e ≠ e2) (hg : W.grownBy W' o.ownBlock) : InP e H W' vals G :=
 ⟨h.1, fun j v g h1 h2 => (h.2 j v g h1 h2).kept hg (ownsRow_ne_type (h.2 j v g h1 h2) ho he)⟩
theorem InP.snoc {e : TypeId} {H : Nat} {W : World} {vals : List Value} {G : List (List Pt)} (h : InP e H W vals G) {v : Value} {g : List Pt} (hv : W.ownsRow H e 2 v g.length (pts g)) : InP e H W (vals ++ [v]) (G ++ [g]) := by
 refine ⟨by simp [h.1], fun j u k h1 h2 => ?_⟩
 by_cases hj : j < vals.length
 ·rw [List.getElem?_append_left hj] at h1; rw [List.getElem?_append_left (by rw [← h.1]; exact hj)] at h2; exact h.2 j u k h1 h2
 ·have hl := (List.getElem?_eq_some_iff.1 h1).1; obtain rfl : j = vals.length := by simp at hl; omega
  rw [List.getElem?_append_right (Nat.le_refl _)] at h1; rw [h.1, List.getElem?_append_right (Nat.le_refl _)] at h2; simp at h1 h2; subst h1 h2; exact hv
theorem InP.mono {e : TypeId} {H H' : Nat} {W : World} {vals : List Value} {G : List (List Pt)} (h : InP e H W vals G) (hh : H' ≤ H) : InP e H' W vals G := ⟨h.1, fun j v g h1 h2 => (h.2 j v g h1 h2).mono hh⟩
theorem numsF_ne {kind : Int} {a : Pt} {l : List Pt} {t : List (List Pt)} : numsF kind a (l :: t) = partN kind a l ++ numsF kind l[l.length - 1]! t := rfl
end Go
namespace Go.Proofs.YtjggoajfilnfjaaGreat
open Go.RowKit Go.Vint

set_option maxHeartbeats 1600000 in
theorem gread_ok (kind : Int) (G : List (List Pt)) (hE : checkE kind G = 0) (hG : G.length ≤ 100) (hle : ∀ g ∈ G, g.length ≤ 1000) (a : Option Addr) (c : Nat) (L : List Int) (hL : numsF kind ⟨0, 0⟩ G = L) (hlen : L.length ≤ 1000000) (hc : L.length ≤ c) (w : World) (hr : Rd w a (L.map (Value.int .u64))) :
  Calls Tryz.prog 113 #[.int .i64 kind, .slice a L.length c] w fun e w' => ∃ v vals, e = .returned (.tuple #[v, .int .i64 0]) ∧
   w'.ownsRow w.heap.size 80 1 v G.length vals ∧ InP 79 w.heap.size w' vals G ∧ Below w.heap.size w w' := by
 obtain ⟨hk, hG1, hcl⟩ := checkE_zero hE; have hkk : ((kind != 2) && (kind != 3)) = false := by rcases hk with rfl | rfl <;> rfl
 have hp : ∀ (W : World) (B b off : Nat) (j k : Nat) (at' : Pt) (l : List Pt) (rest : List Int), G[j]? = some l → L.drop k = partN kind at' l ++ rest → Close at' → RdS w W B b off c L k at' → Calls Tryz.prog 125 #[.pointer (some ⟨B, 0, none⟩), .int .i64 kind, .bool (decide (j = 0))] W fun e w' => ∃ v, e = .returned (.tuple #[v, .int .i64 0]) ∧
   w'.ownsRow W.heap.size 79 2 v l.length (pts l) ∧ RdS w w' B b off c L (k + 2 + 2 * l.length + (if kind = 3 then 1 else 0)) l[l.length - 1]! ∧ W.grownBy w' (some B) := by
  intro W B b off j k at' l rest hg hd hat h; obtain ⟨hj, hgj⟩ := List.getElem?_eq_some_iff.1 hg; have hm : l ∈ G := by rw [← hgj]; exact List.getElem_mem _
  have hx := hcl l hm; exact rpart_ok w W B b off c L k at' kind _ l hk hx.1 (hle l hm) hx.2 hat (partAt_of hd hx.1) (by rw [← hgj]; exact checkE_get hE j hj) hlen hc h
 have hLne : 1 ≤ L.length := by
  cases G with
  | nil => simp at hG1
  | cons l t =>
   rw [← hL, numsF_ne, List.length_append, partN_len' _ _ _ (by have := (hcl l (by simp)).1; omega)]; omega
 obtain ⟨b, off, rfl, -, -⟩ := hr.at (i := 0) (v := .int .u64 L[0]) (by simp [hLne]); have HL0 : Hid (L.drop 0 = numsF kind ⟨0, 0⟩ (G.drop 0)) := Lib.hid (by simp [hL]); have hstep : ∀ (j k : Nat) (at' : Pt) (l : List Pt), Hid (L.drop k = numsF kind at' (G.drop j)) → G[j]? = some l → k < L.length ∧ L.drop k = partN kind at' l ++ numsF kind l[l.length - 1]! (G.drop (j + 1)) ∧ k + 2 + 2 * l.length + (if kind = 3 then 1 else 0) ≤ L.length ∧
   Hid (L.drop (k + 2 + 2 * l.length + (if kind = 3 then 1 else 0)) = numsF kind l[l.length - 1]! (G.drop (j + 1))) ∧ Close l[l.length - 1]! := by
  intro j k at' l hd hl; have hl1 : l ∈ G := List.mem_of_getElem? hl; obtain ⟨hlt, hgj⟩ := List.getElem?_eq_some_iff.1 hl; have hdr : G.drop j = l :: G.drop (j + 1) := by rw [List.drop_eq_getElem_cons hlt, hgj]
  have hd := hd.out; rw [hdr, numsF] at hd; have hl2 := hcl l hl1; have hln := partN_len' kind at' l (by omega); have hle := congrArg List.length hd; rw [List.length_append, List.length_drop, hln] at hle; refine ⟨by omega, hd, by omega, Lib.hid ?_, by rw [getElem!_pos l (l.length - 1) (by omega)]; exact hl2.2 _ (List.getElem_mem _)⟩; have e : k + 2 + 2 * l.length + (if kind = 3 then 1 else 0) = k + (partN kind at' l).length := by rw [hln]; omega
  rw [e, ← List.drop_drop, hd, List.drop_left]
 obtain ⟨D, hD⟩ : ∃ D : Nat, (if kind = (3 : Int) then 1 else 0) = D := ⟨_, rfl⟩; simp only [hD] at hstep hp; clear hD; have HST := Lib.hid hstep; have HP := Lib.hid hp; have HCL := Lib.hid hcl; obtain ⟨N, hN⟩ : ∃ N, L.length = N := ⟨_, rfl⟩; have hR0 : RdS w (w.alloc (.cells #[.slice (some ⟨b, off, none⟩) L.length c, .int .i64 0, .int .i64 0, .int .i64 0] 219)) w.heap.size b off c L 0 ⟨0, 0⟩ := ⟨hr, Nat.le_refl _, Blk.new w [_, _, _, _] _, Below.new w _⟩; have HR0 := Lib.hid hR0; have hNE : (N : Int) ≠ 0 := by omega
 have HN := Lib.hid hN; rw [hN] at hlen hc ⊢; clear hp hcl hstep hL hr hE hR0 hN hLne; have HLE := Lib.hid hle; clear hle; have HK := Lib.hid hk; clear hk; have core : ∀ kk : Bool, True := fun _ => trivial; clear core
 rcases HK.out with rfl | rfl
 all_goals
  go_enter Tryz.func113, Tryz.ntmps113
  go_wp2
  go_loopg [7] (G.length) (fun g o wr => ∃ (j k : Nat) (at' : Pt) (vals : List Value), g = G.length - j ∧ j ≤ G.length ∧ Hid (L.drop k = numsF _ at' (G.drop j)) ∧ k ≤ N ∧ Close at' ∧ RdS w wr w.heap.size b off c L k at' ∧
   wr.ownsRow (w.heap.size + 1) 80 1 o j vals ∧ InP 79 (w.heap.size + 1) wr vals (G.take j) ∧ Below w.heap.size w wr)
  case atStart => exact ⟨0, 0, ⟨0, 0⟩, [], rfl, Nat.zero_le _, HL0, Nat.zero_le _, ⟨⟨by decide, by decide⟩, by decide, by decide⟩, by rw [← HN.out]; exact HR0.out, World.ownsRow_nil _ _ _ _, ⟨rfl, by simp⟩, Below.new w _⟩
  case round =>
   obtain ⟨j, k, at', vals, hgk, hj, hd, hkN, hat, hrs, hown, hin, hbl⟩ := hrel; have HGK := Lib.hid hgk; have c1 := hrs.2.2.1.cell 1 rfl; have hsz := hrs.2.2.1.lt; clear hgk
   by_cases hlt : j < G.length
   ·obtain ⟨l, hl⟩ : ∃ l, G[j]? = some l := ⟨_, List.getElem?_eq_getElem hlt⟩; have hl1 : l ∈ G := List.mem_of_getElem? hl; have hle := HLE.out l hl1; obtain ⟨hkl, hdd, hk2, hd2, hc2⟩ := HST.out j k at' l hd hl; rw [HN.out] at hkl hk2; have hp := HP.out wr w.heap.size b off j k at' l _ hl hdd hat hrs; have htk : Hid (G.take (j + 1) = G.take j ++ [l]) := Lib.hid (by rw [List.take_add_one, hl]; rfl); have hjj : ((j : Int) == 0) = decide (j = 0) := by
     by_cases h : j = 0
     ·subst h; rfl
     ·rw [decide_eq_false h]; simpa using h
    have HPP := Lib.hid hp; have hgl : Hid (G.length - (j + 1) < G.length - j) := Lib.hid (by omega); have hob := hown.lt; obtain ⟨oa, oc, rfl, -, -, -, -, -⟩ := hown.form; have hs := hbl.size; clear hp hdd hd hl1 hl hrs
    go_wp2_with fail
    refine HPP.out.mono ?_; rintro e w1 ⟨v1, rfl, hv1, h1, hg1⟩; have hown1 := hown.kept hg1 (.inr (by intro e; have := (hob _ e).1; omega)); have hin1 := (hin.kept hg1 (by omega)).snoc (hv1.mono (by omega)); have hbl1 := hbl.grown hg1 hs (by simp); obtain ⟨va, vc, rfl, -, -, -, -, -⟩ := hv1.form; clear HPP hown hin hbl hg1 hv1 c1; generalize l[l.length - 1]! = at2 at *; generalize (k + 2 + 2 * l.length + D) = k2 at *; obtain ⟨ti, hti, hz0, hz1, hz2⟩ := info_parts Tryz.infoPts
    go_wp2_with (at_builtin; go_must (refine wpList_append_own_at (w1.alloc (.cells #[.slice va l.length vc] 80)) rfl (.tmp 43) (.tmp 45) 51 rfl (w.heap.size + 1) 80 ti (.slice none 0 0) 1 24 Tryz.underlying51 hti hz0 hz1 hz2 rfl (by decide) (.slice oa j oc) j vals rfl (hown1.below (Below.new _ _)) ⟨w1.heap.size, 0, none⟩ 1 1 [.slice va l.length vc] rfl rfl (Rd.new w1 [.slice va l.length vc] 80).add (by simp [Value.oneCell']) (by unfold maxLen; omega) (by omega) (by have := hbl1.size; have := h1.2.2.1.lt; simp; omega) ?_); intro v2 w2 hown2 hg3 _ _)
    go_roundg (G.length - (j + 1))
    case measure => rw [HGK.out]; exact hgl.out
    case rel =>
     have hin2 := (hin1.keep (Below.new _ (.cells #[.slice va l.length vc] 80))).grown (hown1.below (Below.new _ (.cells #[.slice va l.length vc] 80))) (by decide) hg3; have hgg : ∀ g, Value.ownBlock (.slice oa j oc) = some g → w.heap.size + 1 ≤ g := fun g e => (hob g e).1; refine ⟨j + 1, k2, at2, _, rfl, by omega, hd2, hk2, hc2, (h1.grown (grown_alloc w1 (.cells #[.slice va l.length vc] 80) none)).app hg3 (fun g e => by have := hgg g e; omega), hown2, by rw [htk.out]; exact hin2, (hbl1.alloc hbl1.size _).grown hg3 (by have := hbl1.size; simp; omega) (fun g e => by have := hgg g e; omega)⟩
   ·obtain rfl : j = G.length := by omega
    have hkl : ¬ k < N := by
     have := congrArg List.length hd.out; rw [List.drop_of_length_le (Nat.le_refl _), numsF, List.length_drop, HN.out] at this; simp at this; omega
    rw [List.take_length] at hin; obtain ⟨oa, oc, rfl, -, -, -, -, -⟩ := hown.form; clear hd hrs; go_wp2; refine bodyPost_ret (v := .tuple #[.slice oa G.length oc, .int .i64 0]) (by simp [results, Tryz.results113, go_sem]) rfl ⟨_, vals, rfl, hown.mono (by omega), hin.mono (by omega), hbl⟩

theorem gbytes_any (kind : Int) (a : Option Addr) (c : Nat) (xs : List PC) (hl : xs.length ≤ 100) (hle : ∀ x ∈ xs, x.l.length ≤ 1000) (w : World) (hr : Rd w a (xs.map PC.val)) (hok : ∀ x ∈ xs, x.Ok w) (R : List Int)
  (hR : R = (if checkE kind (xs.map (·.l)) = 0 then numsF kind ⟨0, 0⟩ (xs.map (·.l)) else [])) (hRl : R.length ≤ 1000000) (hRb : ∀ x ∈ R, 0 ≤ x ∧ x ≤ 18446744073709551615) :
  Calls Tryz.prog 80 #[.int .i64 kind, .slice a xs.length c] w fun e w' => ∃ v, e = .returned (.tuple #[v, .int .i64 (checkE kind (xs.map (·.l)))]) ∧
   w'.ownsRow w.heap.size 5 1 v (vbs R).length ((vbs R).map (Value.int .u8)) ∧ Below w.heap.size w w' := by
 have hc := gnums_any kind a c xs hl hle w hr hok R hR; have hE : checkE kind (xs.map (·.l)) ≠ 0 → R = [] := fun h => by rw [hR, if_neg h]
 generalize checkE kind (xs.map (·.l)) = E at *; have HC := Lib.hid hc; clear hc hR hr hok hle
 go_enter Tryz.func80, Tryz.ntmps80
 go_wp2_with fail
 refine HC.out.mono ?_; rintro e w1 ⟨v, rfl, hown, hb1⟩; obtain ⟨va, vc, rfl, -, -, -, hrv, -⟩ := hown.form; have hs := hb1.size
 by_cases hE0 : E = 0
 ·subst hE0; clear HC hE
  go_wp2_with fail
  refine (vbytes_any va vc R hRb hRl w1 hrv).mono ?_; rintro e w2 ⟨v2, rfl, hown2, hb2⟩; obtain ⟨ua, uc, rfl, -, -, -, -, -⟩ := hown2.form; clear hRb; go_wp2; refine bodyPost_ret (v := .tuple #[.slice ua (vbs R).length uc, .int .i64 0]) (by simp [results, Tryz.results80, go_sem]) rfl ⟨_, rfl, hown2.mono hs, hb1.trans (hb2.mono hs)⟩
 ·have hE' : (E != 0) = true := by simpa using hE0
  have hR0 := hE hE0; subst hR0; clear HC hE hE0; go_wp2; refine bodyPost_ret (v := .tuple #[.slice none 0 0, .int .i64 E]) (by simp [results, Tryz.results80, go_sem]) rfl ⟨_, rfl, World.ownsRow_nil _ _ _ _, hb1⟩

theorem gparse_ok (kind : Int) (G : List (List Pt)) (hE : checkE kind G = 0) (hG : G.length ≤ 100) (hle : ∀ g ∈ G, g.length ≤ 1000) (a : Option Addr) (c : Nat) (L : List Int) (hL : numsF kind ⟨0, 0⟩ G = L) (hlen : L.length ≤ 1000000) (hLb : ∀ x ∈ L, 0 ≤ x ∧ x ≤ 18446744073709551615)
  (hc : (vbs L).length ≤ c) (hcm : c ≤ maxLen) (w : World) (hr : Rd w a ((vbs L).map (Value.int .u8))) :
  Calls Tryz.prog 92 #[.int .i64 kind, .slice a (vbs L).length c] w fun e w' => ∃ v vals, e = .returned (.tuple #[v, .int .i64 0]) ∧
   w'.ownsRow w.heap.size 80 1 v G.length vals ∧ InP 79 w.heap.size w' vals G ∧ Below w.heap.size w w' := by
 have hvl := vbs_len L (fun x hx => (hLb x hx).2); have hrow := vrow_any a c (vbs L) (vbs_bd L hLb) (by omega) hc hcm w hr; rw [row_vbs L hLb] at hrow; have hrd := fun a c w h h2 => gread_ok kind G hE hG hle a c L hL hlen h w h2; have HROW := Lib.hid hrow; have HRD := Lib.hid hrd; clear hrow hrd hE hle hL hLb hr hvl
 go_enter Tryz.func92, Tryz.ntmps92
 go_wp2_with fail
 refine HROW.out.mono ?_; rintro e w1 ⟨⟨v, rfl, hown⟩, hb1⟩; dsimp only at *; obtain ⟨va, vc, rfl, hvc, -, -, hrv, -⟩ := hown.form; have hs := hb1.size; have HRD2 := Lib.hid (HRD.out va vc w1 hvc hrv); clear HROW HRD hown
 go_wp2_with fail
 refine HRD2.out.mono ?_; rintro e w2 ⟨v2, vals, rfl, hown2, hin2, hb2⟩; go_wp2; refine bodyPost_ret (v := .tuple #[v2, .int .i64 0]) (by simp [results, Tryz.results92, go_sem]) rfl ⟨_, vals, rfl, hown2.mono hs, hin2.mono hs, hb1.trans (hb2.mono hs)⟩
end Go.Proofs.YtjggoajfilnfjaaGreat
namespace Go
open Go.RowKit Go.Vint

theorem InP.rows {e : TypeId} {H : Nat} {W : World} (G : List (List Pt)) : ∀ {vals : List Value}, InP e H W vals G → ∃ ys : List PC, vals = ys.map PC.val ∧ ys.map (·.l) = G ∧ ∀ y ∈ ys, y.Ok W := by
 induction G with
 | nil =>
  intro vals h; have : vals = [] := List.length_eq_zero_iff.1 h.1; subst this; exact ⟨[], rfl, rfl, by simp⟩
 | cons g G ih =>
  intro vals h; obtain ⟨v, vs, rfl⟩ : ∃ v vs, vals = v :: vs := by
   cases vals with
   | nil => have := h.1; simp at this
   | cons v vs => exact ⟨v, vs, rfl⟩
  obtain ⟨ys, h1, h2, h3⟩ := ih (vals := vs) ⟨by have := h.1; simpa using this, fun j u k hu hk => h.2 (j + 1) u k (by simpa using hu) (by simpa using hk)⟩; obtain ⟨a, c, rfl, hc, hm, hn, hr, -⟩ := (h.2 0 v g rfl rfl).form; refine ⟨⟨g, a, c⟩ :: ys, by simp [h1, PC.val], by simp [h2], ?_⟩; intro y hy
  rcases List.mem_cons.1 hy with rfl | hy
  ·exact ⟨hr, hc, hm, hn⟩
  ·exact h3 y hy

theorem byN_bd {a p : Pt} (ha : Close a) (hp : Close p) : ∀ x ∈ byN a p, 0 ≤ x ∧ x ≤ 18446744073709551615 := by
 have h1 := zig_bd (p.x - a.x) (by have := ha.1; have := hp.1; omega) (by have := ha.1; have := hp.1; omega); have h2 := zig_bd (p.y - a.y) (by have := ha.2; have := hp.2; omega) (by have := ha.2; have := hp.2; omega); intro x hx; simp only [byN, List.mem_cons, List.not_mem_nil, or_false] at hx
 rcases hx with rfl | rfl
 ·exact h1
 ·exact h2

theorem pn_bd (l : List Pt) : ∀ {a : Pt}, Close a → (∀ p ∈ l, Close p) → ∀ x ∈ pn a l, 0 ≤ x ∧ x ≤ 18446744073709551615 := by
 induction l with
 | nil => intro a _ _ x hx; simp [pn] at hx
 | cons p l ih =>
  intro a ha h x hx; rw [pn] at hx
  rcases List.mem_append.1 hx with hx | hx
  ·exact byN_bd ha (h p (by simp)) x hx
  ·exact ih (h p (by simp)) (fun q hq => h q (by simp [hq])) x hx

theorem numsF_bd (kind : Int) (G : List (List Pt)) : ∀ {a : Pt}, Close a → (∀ g ∈ G, (2 ≤ g.length ∧ g.length ≤ 1000) ∧ ∀ p ∈ g, Close p) → ∀ x ∈ numsF kind a G, 0 ≤ x ∧ x ≤ 18446744073709551615 := by
 induction G with
 | nil => intro a _ _ x hx; simp [numsF] at hx
 | cons g G ih =>
  intro a ha h x hx; obtain ⟨⟨h2, h3⟩, hc⟩ := h g (by simp); have hq : ∀ i, i < g.length → Close g[i]! := fun i hi => by rw [getElem!_pos g i hi]; exact hc _ (List.getElem_mem _)
  rw [numsF] at hx
  rcases List.mem_append.1 hx with hx | hx
  ·unfold partN at hx
   rcases List.mem_append.1 hx with hx | hx
   ·rcases List.mem_append.1 hx with hx | hx
    ·rcases List.mem_append.1 hx with hx | hx
     ·rcases List.mem_append.1 hx with hx | hx
      ·obtain rfl := List.mem_singleton.1 hx; decide
      ·exact byN_bd ha (hq 0 (by omega)) x hx
     ·obtain rfl := List.mem_singleton.1 hx; omega
    ·exact pn_bd _ (hq 0 (by omega)) (fun p hp => hc p (List.mem_of_mem_drop hp)) x hx
   ·split at hx
    ·obtain rfl := List.mem_singleton.1 hx; decide
    ·simp at hx
  ·exact ih (hq _ (by omega)) (fun g' hg' => h g' (by simp [hg'])) x hx
end Go
