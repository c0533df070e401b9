/-
  mvt.feature. mvt.Check.
-/
import Derived.Test.YtjggoajfilnfjaaGreatPk10
import Derived.Test.YtjggoajfilnfjaaGreatPk15
import Derived.Test.YtjggoajfilnfjaaGreatPk17
import Derived.Test.YtjggoajfilnfjaaGreatPk20
import Derived.Test.YtjggoajfilnfjaaGreatPk16
import Derived.Test.YtjggoajfilnfjaaGreatPk13
set_option linter.unusedVariables false
set_option linter.unusedSimpArgs false
set_option maxRecDepth 100000
namespace Go.Proofs.YtjggoajfilnfjaaGreat
open Go.RowKit Go.Vint Go.Proto
set_option maxHeartbeats 12800000 in
theorem feature_any (B : Nat) (t : TB) (f : Ft) (hE : fchkF f.core = 0) (hz : f.Sz) (hw : FtC.Few f.core) (ht : t.1.length ≤ 1000 ∧ t.2.length ≤ 1000) (w0 w : World) (h0 : Below w0.heap.size w0 w) (hB : w0.heap.size ≤ B) (htb : TbIn w B t) (hok : f.Ok w0) :
  Calls Tryz.prog 52 #[f.val, .pointer (some ⟨B, 0, none⟩)] w fun e w' => ∃ v, e = .returned (.tuple #[v, .int .i64 0]) ∧ w'.ownsRow w.heap.size 5 1 v (ftB t f.core).length ((ftB t f.core).map (Value.int .u8)) ∧ TbIn w' B (addL t f.ls) ∧ w.grownBy w' (some B) := by
 obtain ⟨hid, hT, hG⟩ := fchkF_zero hE; obtain ⟨id, kd, ls, aa, ac, rs, ra, rc⟩ := f; dsimp only [Ft.core, Ft.rings] at hE hw hid hT hG ⊢; obtain ⟨zl, zo, zr, zp⟩ := hz; dsimp only at zl zo zr zp; obtain ⟨⟨hra, ha2, ha3, ha4⟩, ⟨hrr, hr2, hr3, hr4⟩, hro⟩ := hok; dsimp only at hra hrr hro; have htg := tag_ok t (id, kd, ls, rs.map (·.l)) hw ht; have hge := geo_ok (id, kd, ls, rs.map (·.l)) hG hw; have hft := feat_ok t (id, kd, ls, rs.map (·.l)) hE hw ht; dsimp only at htg hge; have HADD := Lib.hid (fun (W : World) (h : Below w.heap.size w W) => tadd_any B t aa ac ls hT zo (by omega) W (htb.keep h) ((hra.keep h0).keep h) (by
  rcases hra with he | ⟨b, o, rfl, hc⟩
  ·left
   apply List.eq_nil_of_length_eq_zero; have := congrArg List.length he; rw [ats_len] at this; simp only [List.length_nil] at this; omega
  ·by_cases hn : ls = []
   ·exact .inl hn
   ·refine .inr (fun b' hb' => ?_); obtain rfl : b = b' := by simpa using hb'
    obtain ⟨a1, a2, e, h1, h2⟩ := Rd.at (w := w0) (a := some ⟨b, o, none⟩) (vs := ats ls) (i := 0) (v := (ats ls)[0]'(by rw [ats_len]; have := List.length_pos_iff.2 hn; omega)) (.inr ⟨b, o, rfl, hc⟩) (List.getElem?_eq_getElem _)
    cases e
    omega))
 have HGB := Lib.hid (fun (W : World) (h : Below w0.heap.size w0 W) => gbytes_any kd ra rc rs (by have := hw.1; dsimp only at this; rw [List.length_map] at this; omega) zp W (by rw [← rcs_map]; exact hrr.keep h) (fun r hr => (hro r hr).keep h) _ rfl (by rw [if_pos hG]; have := hge.2.1; omega) (by rw [if_pos hG]; exact hge.1)); rw [if_pos hG, hG] at HGB; have HC : Hid (ftFlds t (id, kd, ls, rs.map (·.l)) = (if 0 < id then [⟨1, 0, id, []⟩] else []) ++ (if ls.length = 0 then [] else [⟨2, 2, 0, tagB t (id, kd, ls, rs.map (·.l))⟩]) ++ [⟨3, 0, kd, []⟩, ⟨4, 2, 0, vbs (numsF kd ⟨0, 0⟩ (rs.map (·.l)))⟩]) := Lib.hid rfl; have HTB : Hid (tagB t (id, kd, ls, rs.map (·.l)) = vbs (tagL t ls)) := Lib.hid rfl; have HFB : Hid (ftB t (id, kd, ls, rs.map (·.l)) = (ftFlds t (id, kd, ls, rs.map (·.l))).flatMap fby) := Lib.hid rfl; have hkd : kd = 2 ∨ kd = 3 := (checkE_zero hG).1; have htl := tagL_len ls t; have hge : (∀ x ∈ numsF kd ⟨0, 0⟩ (rs.map (·.l)), 0 ≤ x ∧ x ≤ 18446744073709551615) ∧ (numsF kd ⟨0, 0⟩ (rs.map (·.l))).length ≤ 830 ∧ (vbs (numsF kd ⟨0, 0⟩ (rs.map (·.l)))).length ≤ 8300 := ⟨hge.1, hge.2.1, hge.2.2.2⟩; have hBl := htb.lt; dsimp only [Ft.val, Ft.aval, Ft.rval]
 change Calls _ _ _ _ (fun e w' => ∃ v, e = _ ∧ w'.ownsRow w.heap.size 5 1 v (ftB t (id, kd, ls, rs.map (·.l))).length ((ftB t (id, kd, ls, rs.map (·.l))).map (Value.int .u8)) ∧ _ ∧ _)
 generalize ftB t (id, kd, ls, rs.map (·.l)) = FB at *; generalize ftFlds t (id, kd, ls, rs.map (·.l)) = FF at *; generalize tagB t (id, kd, ls, rs.map (·.l)) = GT at *; generalize numsF kd ⟨0, 0⟩ (rs.map (·.l)) = GN at *; generalize tagL t ls = TL at *; generalize addL t ls = T1 at *; generalize ls.length = n1 at *; generalize rs.length = n2 at *; clear hra hrr hro hE hG hT hw ht zl zo zr zp hr2 hr3 hr4 ha2 ha3 ha4 htb; have HHG := Lib.hid hge; have HHT := Lib.hid htg; have HHF := Lib.hid hft; have HTL := Lib.hid htl; clear hge htg hft htl; have hb0 := Below.new w (.cells #[.int .i64 id, .int .i64 kd, .slice aa n1 ac, .slice ra n2 rc] 53); have kF := Blk.lit w w.heap.size [.int .i64 id, .int .i64 kd, .slice aa n1 ac, .slice ra n2 rc] 53 rfl; obtain ⟨F, hF⟩ : ∃ F, w.heap.size = F := ⟨_, rfl⟩; have HBF : Hid (B < F) := Lib.hid (by rw [← hF]; exact hBl); rw [hF] at kF; have a2 := kF.cell 2 rfl
 go_enter Tryz.func52, Tryz.ntmps52
 go_wp2_with fail
 try rw [hF]
 generalize w.alloc (.cells #[.int .i64 id, .int .i64 kd, .slice aa n1 ac, .slice ra n2 rc] 53) = w1 at *; refine (HADD.out _ hb0).mono ?_; rintro e w2 ⟨v2, rfl, ho2, ht2, hg2⟩; have kF := kF.grown hg2 (fun e => by cases e; exact Nat.lt_irrefl _ HBF.out); have hgw := grown_into (grown_of hb0 (some B)) hg2 (fun k hk => by cases hk; exact .inr rfl); have h0w := h0.grown hgw h0.size (fun j hj => by cases hj; exact hB); obtain ⟨ta, tc, rfl, -, -, -, hrt, -⟩ := ho2.form; clear ho2 hg2 HADD a2 hb0; have a1 := kF.cell 1 rfl; have a3 := kF.cell 3 rfl
 go_wp2_with fail
 refine (HGB.out _ h0w).mono ?_; rintro e w3 ⟨v3, rfl, ho3, hb3⟩; have hgw := grown_into hgw (grown_of hb3 none) (fun k h => by cases h); have hs3 := hb3.size; have kF := kF.keep hb3; have ht3 := ht2.keep hb3; have hrt := hrt.keep hb3; obtain ⟨pa, pc, rfl, p1, p2, p3, hrp, -⟩ := ho3.form; clear ho3 hb3 a1 a3 HGB ht2 h0w; have a0 := kF.cell 0 rfl; have hif : ∃ X1 : List Fld, (if 0 < id then [⟨1, 0, id, []⟩] else []) = X1 := ⟨_, rfl⟩; obtain ⟨X1, hX1⟩ := hif; rw [hX1] at HC; have HX1 := Lib.hid hX1; clear hX1; have hb3 : Below w3.heap.size w3 w3 := Below.refl _ _; have htl := HTL.out
 by_cases hn : n1 = 0
 ·have hTL : ¬ 0 < TL.length := by omega
  rw [if_pos hn, List.append_nil] at HC; clear htl hn
  by_cases hi : 0 < id
  case' pos =>
   go_wp2_with fail
   refine (number_any 1 id w3).mono ?_; rintro e w4 ⟨rfl, hb4⟩
   go_wp2_with (at_builtin; go_must (refine wpList_appLitAt w3 hb4 rfl (.tmp 37) (.tmp 42) 68 rfl 72 (.agg #[.int .i64 0, .int .i64 0, .int .u64 0, .slice none 0 0]) 4 48 Tryz.underlying68 Tryz.infoField rfl (by decide) (by decide) (.slice none 0 0) 0 [] rfl (World.ownsRow_nil _ _ _ _) 1 1 w4.heap.size rfl [.int .i64 1, .int .i64 0, .int .u64 id, .slice none 0 0] _ rfl rfl (by simp [Value.oneCell']) (by omega) ?_); intro v5 w5 ho5 _ hb5 _; have y1 := (kF.keep hb5).cell 1 rfl)
   clear hb4 hb3; obtain ⟨L, hL⟩ : ∃ L : List FC, L = [⟨⟨1, 0, id, []⟩, none, 0⟩] := ⟨_, rfl⟩; have ho5 : w5.ownsRow w3.heap.size 72 4 v5 L.length (flat L) := by rw [hL]; exact ho5
   have HLf : Hid (L.map (·.f) = X1) := Lib.hid (by rw [hL, ← HX1.out, if_pos hi]; rfl); have HLn : Hid (∀ x ∈ L, x.p = none ∧ x.c = 0 ∧ x.f.bs = []) := Lib.hid (by rw [hL]; intro x hx; rw [List.mem_singleton.1 hx]; exact ⟨rfl, rfl, rfl⟩); have HLl : L.length ≤ 1 := by rw [hL]; simp
   clear hL
  case' neg =>
   obtain ⟨L, hL⟩ : ∃ L : List FC, L = [] := ⟨_, rfl⟩; obtain ⟨w5, hw5⟩ : ∃ W, W = w3 := ⟨_, rfl⟩; obtain ⟨v5, hv5⟩ : ∃ v, v = Value.slice none 0 0 := ⟨_, rfl⟩; have HW5 := Lib.hid hw5; have HV5 := Lib.hid hv5; have ho5 : w5.ownsRow w3.heap.size 72 4 v5 L.length (flat L) := by rw [hw5, hL, hv5]; exact World.ownsRow_nil _ _ _ _
   have HLf : Hid (L.map (·.f) = X1) := Lib.hid (by rw [hL, ← HX1.out, if_neg hi]; rfl); have HLn : Hid (∀ x ∈ L, x.p = none ∧ x.c = 0 ∧ x.f.bs = []) := Lib.hid (by rw [hL]; intro x hx; cases hx); have HLl : L.length ≤ 1 := by rw [hL]; simp
   have hb5 : Below w3.heap.size w3 w5 := by rw [hw5]; exact hb3
   clear hL hb3 hw5 hv5; have y1 := kF.cell 1 rfl
   go_wp2_with fail
   rw [← HW5.out, ← HV5.out]
  all_goals (
   clear y1; refine (number_any 3 kd _).mono ?_; rintro e w6 ⟨rfl, hb6⟩; have hbA := hb5.trans (hb6.mono hb5.size); have HLX : Hid (∀ x ∈ L, FdT w6 x) := Lib.hid (fun x hx => by obtain ⟨e1, e2, e3⟩ := HLn.out x hx; exact fdT_none e1 e2 e3); have ho6 := ho5.below hb6; clear hb6 ho5 hb5
   go_wp2_with fail
   refine (bytes_any 4 pa _ pc _).mono ?_; rintro e w7 ⟨rfl, hb7⟩; have hbB := hbA.trans (hb7.mono hbA.size); have ho7 := ho6.below hb7; have HLY : Hid (∀ x ∈ L, FdT w7 x) := Lib.hid (fun x hx => (HLX.out x hx).below hb7); clear hb7 hbA ho6 HLX; obtain ⟨M, hM⟩ : ∃ M : List FC, M = L ++ [⟨⟨3, 0, kd, []⟩, none, 0⟩, ⟨⟨4, 2, 0, vbs GN⟩, pa, pc⟩] := ⟨_, rfl⟩; have HM := Lib.hid hM; clear hM
   go_wp2_with (at_builtin; go_must (refine wpList_appLitAt w3 hbB rfl (.tmp 65) (.tmp 72) 68 rfl 72 (.agg #[.int .i64 0, .int .i64 0, .int .u64 0, .slice none 0 0]) 4 48 Tryz.underlying68 Tryz.infoField rfl (by decide) (by decide) v5 L.length (flat L) rfl ho7 2 2 w7.heap.size rfl [.int .i64 3, .int .i64 0, .int .u64 kd, .slice none 0 0, .int .i64 4, .int .i64 2, .int .u64 0, .slice pa (vbs GN).length pc] _ rfl rfl (by simp [Value.oneCell']) (by omega) ?_); intro v8 w8 ho8 hg8 hb8 _; have HO8 := Lib.hid ho8; have HLZ : Hid (∀ x ∈ L, FdT w8 x) := Lib.hid (fun x hx => (HLY.out x hx).grown hg8 ho7); replace ho8 : w8.ownsRow w3.heap.size 72 4 v8 M.length (flat M) := (by rw [HM.out]; simpa [flat, FC.cells] using ho8); obtain ⟨la, lc, rfl, -, -, -, hrl, -⟩ := ho8.form; clear ho7 HLY hbB ho8 HO8 hg8)
   have HMF : Hid (M.map (·.f) = FF) := Lib.hid (by rw [HM.out, HC.out, ← HLf.out]; simp); have HMO : Hid (∀ x ∈ M, x.Ok w8) := Lib.hid (by
    intro x hx; rw [HM.out] at hx
    rcases List.mem_append.1 hx with hx | hx
    ·exact (HLZ.out x hx).ok
    ·simp only [List.mem_cons, List.not_mem_nil, or_false] at hx
     rcases hx with rfl | rfl
     ·exact ⟨Rd.nil _ _, Nat.le_refl _, (show (0 : Nat) ≤ maxLen by decide), fun _ => rfl⟩
     ·exact ⟨hrp.keep hb8, p1, p2, p3⟩)
   have hpw := pwr_ok FF (fun f hf => (HHF.out.1 f hf).1.1); rw [← HFB.out, ← HMF.out] at hpw; have HW := pwrite_any la lc M (fun x hx => by
    have h := HHF.out.1 x.f (by rw [← HMF.out]; exact List.mem_map_of_mem hx); exact ⟨h.1.2.2.1, h.1.2.1.1, h.1.2.1.2, by omega⟩) (by
    have h := HHF.out.2.1; rw [← HMF.out, List.length_map] at h; omega) w8 hrl HMO.out
   rw [hpw] at HW; have HW2 := Lib.hid HW; clear hpw HW hrl; refine HW2.out.mono ?_; rintro e w9 ⟨v9, rfl, ho9, hb9⟩; have hbC := hb8.trans (hb9.mono hb8.size); have hgz := grown_into hgw (grown_of hbC none) (fun k h => by cases h); have ho10 : w9.ownsRow w.heap.size _ _ _ _ _ := ho9.mono (by have := hb8.size; have := hgw.size; omega); have htz := ht3.keep hbC; clear ho9 hb9 hb8 HW2; go_wp2; exact bodyPost_ret (v := .tuple #[v9, .int .i64 0]) (by simp [results, Tryz.results52, go_sem]) rfl ⟨v9, rfl, ho10, htz, hgz⟩)
 ·have hTL : 0 < TL.length := by omega
  rw [if_neg hn] at HC; clear htl hn
  by_cases hi : 0 < id
  case' pos =>
   go_wp2_with fail
   refine (number_any 1 id w3).mono ?_; rintro e w4 ⟨rfl, hb4⟩
   go_wp2_with (at_builtin; go_must (refine wpList_appLitAt w3 hb4 rfl (.tmp 37) (.tmp 42) 68 rfl 72 (.agg #[.int .i64 0, .int .i64 0, .int .u64 0, .slice none 0 0]) 4 48 Tryz.underlying68 Tryz.infoField rfl (by decide) (by decide) (.slice none 0 0) 0 [] rfl (World.ownsRow_nil _ _ _ _) 1 1 w4.heap.size rfl [.int .i64 1, .int .i64 0, .int .u64 id, .slice none 0 0] _ rfl rfl (by simp [Value.oneCell']) (by omega) ?_); intro v5 w5 ho5 _ hb5 _; have y1 := (kF.keep hb5).cell 1 rfl)
   clear hb4 hb3; obtain ⟨L, hL⟩ : ∃ L : List FC, L = [⟨⟨1, 0, id, []⟩, none, 0⟩] := ⟨_, rfl⟩; have ho5 : w5.ownsRow w3.heap.size 72 4 v5 L.length (flat L) := by rw [hL]; exact ho5
   have HLf : Hid (L.map (·.f) = X1) := Lib.hid (by rw [hL, ← HX1.out, if_pos hi]; rfl); have HLn : Hid (∀ x ∈ L, x.p = none ∧ x.c = 0 ∧ x.f.bs = []) := Lib.hid (by rw [hL]; intro x hx; rw [List.mem_singleton.1 hx]; exact ⟨rfl, rfl, rfl⟩); have HLl : L.length ≤ 1 := by rw [hL]; simp
   clear hL
  case' neg =>
   obtain ⟨L, hL⟩ : ∃ L : List FC, L = [] := ⟨_, rfl⟩; obtain ⟨w5, hw5⟩ : ∃ W, W = w3 := ⟨_, rfl⟩; obtain ⟨v5, hv5⟩ : ∃ v, v = Value.slice none 0 0 := ⟨_, rfl⟩; have HW5 := Lib.hid hw5; have HV5 := Lib.hid hv5; have ho5 : w5.ownsRow w3.heap.size 72 4 v5 L.length (flat L) := by rw [hw5, hL, hv5]; exact World.ownsRow_nil _ _ _ _
   have HLf : Hid (L.map (·.f) = X1) := Lib.hid (by rw [hL, ← HX1.out, if_neg hi]; rfl); have HLn : Hid (∀ x ∈ L, x.p = none ∧ x.c = 0 ∧ x.f.bs = []) := Lib.hid (by rw [hL]; intro x hx; cases hx); have HLl : L.length ≤ 1 := by rw [hL]; simp
   have hb5 : Below w3.heap.size w3 w5 := by rw [hw5]; exact hb3
   clear hL hb3 hw5 hv5; have y1 := kF.cell 1 rfl
   go_wp2_with fail
   rw [← HW5.out, ← HV5.out]
  all_goals (
   clear y1; have hs5 := hb5.size
   go_loopw [10, 49] (fun u10 i wr => ∃ k : Nat, k ≤ TL.length ∧ i = .int .i64 k ∧ wr.ownsRow w5.heap.size 5 1 u10 (vbs (TL.take k)).length ((vbs (TL.take k)).map (Value.int .u8)) ∧ Below w5.heap.size w5 wr) (fun _ i _ => TL.length - (intOf i).toNat)
   case atStart => exact ⟨0, Nat.zero_le _, rfl, (by first | exact World.ownsRow_nil _ _ _ _ | (rw [HV5.out]; exact World.ownsRow_nil _ _ _ _)), Below.refl _ _⟩
   case round =>
    obtain ⟨k, hk, rfl, hso, hbr⟩ := hrel; have hbw := hb5.trans (hbr.mono hs5); have hTB := HTB.out; have hTLb : TL.length ≤ 200 := by
     have h2 := vbs_len_ge TL; rw [← hTB] at h2; have h3 := HHT.out.2.2; omega
    by_cases hlt : k < TL.length
    ·have hlt' : (k : Int) < (TL.length : Int) := by omega
     obtain ⟨b1, o1, rfl, c0, -⟩ := (hrt.keep hbw).at (i := k) (v := .int .i64 TL[k]) (by simp [hlt]); have hx0 := (HHT.out.1 TL[k] (List.getElem_mem hlt)); have hlen : (vbs (TL.take k)).length ≤ 2000 := by
      have h1 := vbs_len (TL.take k) (fun y hy => by have := (HHT.out.1 y (List.mem_of_mem_take hy)).2; omega); have h2 := vbs_len_ge TL; rw [← hTB] at h2; have h3 := HHT.out.2.2; rw [List.length_take] at h1; omega
     have hvl := vbs_len [TL[k]] (fun y hy => by rw [List.mem_singleton.1 hy]; omega); have HT : Hid (vbs (TL.take (k + 1)) = vbs (TL.take k) ++ vbs [TL[k]]) := Lib.hid (by rw [List.take_succ_eq_append_getElem hlt, vbs_append]); clear hTB; generalize TL[k] = x at *; generalize vbs (TL.take k) = A at *; have hx1 : 0 ≤ x := hx0.1; have HVB := Lib.hid (fun (W : World) => vbytes_any (some ⟨W.heap.size, 0, none⟩) 1 [x] (by intro y hy; obtain rfl := List.mem_singleton.1 hy; omega) (by simp) _ (Rd.new W [.int .u64 x] 70))
     go_wp2_with fail
     refine (HVB.out _).mono ?_; rintro e w7 ⟨sv, rfl, hs, hb7⟩; have hbx := (Below.new wr (.cells #[.int .u64 x] 70)); have hb7 := hbx.trans (hb7.mono hbx.size); have hbq := hbr.trans (hb7.mono hbr.size); have ho7 := hso.below hb7; obtain ⟨sa, sc, rfl, s1, s2, s3, hrs, -⟩ := hs.form; clear hs hbx hb7 hso; simp only [List.length_singleton] at hvl
     go_wp2_with (at_builtin; go_must (refine wpList_app' w5 hbq rfl (.tmp 53) (.tmp 57) 31 rfl 5 (.int .u8 0) 1 1 Tryz.underlying31 Tryz.infoU8 rfl (by decide) u10 _ _ rfl ho7 sa (vbs [x]).length sc ((vbs [x]).map (Value.int .u8)) rfl s3 hrs (by simp) (ints_one .u8 _) (by omega) (by decide) ?_); intro v8 w8 ho8 hg8 hb8)
     clear hg8 hbq ho7 hrs hbr hbw c0 HVB; go_roundw
     case rel => exact ⟨k + 1, by omega, by go_num, by rw [HT.out]; simpa using ho8, hb8⟩
     case measure => simp [intOf]; omega
    ·obtain rfl : k = TL.length := by omega
     have hlt' : ¬ ((TL.length : Nat) : Int) < (TL.length : Int) := by omega
     rw [List.take_length] at hso; have hso : wr.ownsRow w5.heap.size 5 1 u10 GT.length (GT.map (Value.int .u8)) := by rw [hTB]; exact hso
     obtain ⟨sa, sc, rfl, -⟩ := hso.form; have ho5 := ho5.below hbr; clear hTB
     go_wp2_with fail
     refine (bytes_any 2 sa _ sc _).mono ?_; rintro e w6 ⟨rfl, hb6⟩; have hb9 := hbw.trans (hb6.mono hbw.size); have ho9 := ho5.below hb6; have hso := hso.below hb6; clear hb6 ho5 hbr; obtain ⟨L2, hL2⟩ : ∃ M : List FC, M = L ++ [⟨⟨2, 2, 0, GT⟩, sa, sc⟩] := ⟨_, rfl⟩; have HL2 := Lib.hid hL2; have hXf : L2.map (·.f) = X1 ++ [⟨2, 2, 0, GT⟩] := by rw [hL2, ← HLf.out]; simp
     have HLl2 : L2.length ≤ 2 := by rw [hL2, List.length_append, List.length_singleton]; omega
     obtain ⟨X2, hX2⟩ : ∃ X2, X1 ++ [⟨2, 2, 0, GT⟩] = X2 := ⟨_, rfl⟩; rw [hX2] at HC hXf; have HLf := Lib.hid hXf; clear hL2 hXf hX2
     go_wp2_with (at_builtin; go_must (refine wpList_appLitAt w3 hb9 rfl (.tmp 60) (.tmp 63) 68 rfl 72 (.agg #[.int .i64 0, .int .i64 0, .int .u64 0, .slice none 0 0]) 4 48 Tryz.underlying68 Tryz.infoField rfl (by decide) (by decide) v5 L.length (flat L) rfl ho9 1 1 w6.heap.size rfl [.int .i64 2, .int .i64 2, .int .u64 0, .slice sa GT.length sc] _ rfl rfl (by simp [Value.oneCell']) (by omega) ?_); intro v10 w10 ho10 hg10 hb10 _; have HLW : Hid (∀ x ∈ L2, FdT w10 x) := (Lib.hid (fun x hx => by
      rw [HL2.out] at hx
      rcases List.mem_append.1 hx with hx | hx
      ·obtain ⟨e1, e2, e3⟩ := HLn.out x hx; exact fdT_none e1 e2 e3
      ·rw [List.mem_singleton.1 hx]; exact FdT.grown ⟨_, hso⟩ hg10 ho9)); have ho10 : w10.ownsRow w3.heap.size 72 4 v10 L2.length (flat L2) := (by rw [HL2.out]; simpa [flat, FC.cells] using ho10); have y1 := (kF.keep hb10).cell 1 rfl; clear ho9 hg10 hso hb9)
     clear y1; refine (number_any 3 kd _).mono ?_; rintro e w6 ⟨rfl, hb6⟩; have hbA := hb10.trans (hb6.mono hb10.size); have HLX : Hid (∀ x ∈ L2, FdT w6 x) := Lib.hid (fun x hx => (HLW.out x hx).below hb6); have ho6 := ho10.below hb6; clear hb6 ho10 hb10
     go_wp2_with fail
     refine (bytes_any 4 pa _ pc _).mono ?_; rintro e w7 ⟨rfl, hb7⟩; have hbB := hbA.trans (hb7.mono hbA.size); have ho7 := ho6.below hb7; have HLY : Hid (∀ x ∈ L2, FdT w7 x) := Lib.hid (fun x hx => (HLX.out x hx).below hb7); clear hb7 hbA ho6 HLX; obtain ⟨M, hM⟩ : ∃ M : List FC, M = L2 ++ [⟨⟨3, 0, kd, []⟩, none, 0⟩, ⟨⟨4, 2, 0, vbs GN⟩, pa, pc⟩] := ⟨_, rfl⟩; have HM := Lib.hid hM; clear hM
     go_wp2_with (at_builtin; go_must (refine wpList_appLitAt w3 hbB rfl (.tmp 65) (.tmp 72) 68 rfl 72 (.agg #[.int .i64 0, .int .i64 0, .int .u64 0, .slice none 0 0]) 4 48 Tryz.underlying68 Tryz.infoField rfl (by decide) (by decide) v10 L2.length (flat L2) rfl ho7 2 2 w7.heap.size rfl [.int .i64 3, .int .i64 0, .int .u64 kd, .slice none 0 0, .int .i64 4, .int .i64 2, .int .u64 0, .slice pa (vbs GN).length pc] _ rfl rfl (by simp [Value.oneCell']) (by omega) ?_); intro v8 w8 ho8 hg8 hb8 _; have HO8 := Lib.hid ho8; have HLZ : Hid (∀ x ∈ L2, FdT w8 x) := Lib.hid (fun x hx => (HLY.out x hx).grown hg8 ho7); replace ho8 : w8.ownsRow w3.heap.size 72 4 v8 M.length (flat M) := (by rw [HM.out]; simpa [flat, FC.cells] using ho8); obtain ⟨la, lc, rfl, -, -, -, hrl, -⟩ := ho8.form; clear ho7 HLY hbB ho8 HO8 hg8)
     have HMF : Hid (M.map (·.f) = FF) := Lib.hid (by rw [HM.out, HC.out, ← HLf.out]; simp); have HMO : Hid (∀ x ∈ M, x.Ok w8) := Lib.hid (by
      intro x hx; rw [HM.out] at hx
      rcases List.mem_append.1 hx with hx | hx
      ·exact (HLZ.out x hx).ok
      ·simp only [List.mem_cons, List.not_mem_nil, or_false] at hx
       rcases hx with rfl | rfl
       ·exact ⟨Rd.nil _ _, Nat.le_refl _, (show (0 : Nat) ≤ maxLen by decide), fun _ => rfl⟩
       ·exact ⟨hrp.keep hb8, p1, p2, p3⟩)
     have hpw := pwr_ok FF (fun f hf => (HHF.out.1 f hf).1.1); rw [← HFB.out, ← HMF.out] at hpw; have HW := pwrite_any la lc M (fun x hx => by
      have h := HHF.out.1 x.f (by rw [← HMF.out]; exact List.mem_map_of_mem hx); exact ⟨h.1.2.2.1, h.1.2.1.1, h.1.2.1.2, by omega⟩) (by
      have h := HHF.out.2.1; rw [← HMF.out, List.length_map] at h; omega) w8 hrl HMO.out
     rw [hpw] at HW; have HW2 := Lib.hid HW; clear hpw HW hrl; refine HW2.out.mono ?_; rintro e w9 ⟨v9, rfl, ho9, hb9⟩; have hbC := hb8.trans (hb9.mono hb8.size); have hgz := grown_into hgw (grown_of hbC none) (fun k h => by cases h); have ho10 : w9.ownsRow w.heap.size _ _ _ _ _ := ho9.mono (by have := hb8.size; have := hgw.size; omega); have htz := ht3.keep hbC; clear ho9 hb9 hb8 HW2; go_wp2; exact bodyPost_ret (v := .tuple #[v9, .int .i64 0]) (by simp [results, Tryz.results52, go_sem]) rfl ⟨v9, rfl, ho10, htz, hgz⟩)
end Go.Proofs.YtjggoajfilnfjaaGreat
namespace Go
open Go.RowKit
def Ly.Sz (y : Ly) : Prop := y.name.size ≤ maxLen ∧ y.fs.length ≤ 100000 ∧ ∀ f ∈ y.fs, f.Sz
theorem fsChk_at {l : List FtC} : ∀ {j : Nat} (hj : j < l.length), fsChk (l.drop j) = if fchkF l[j] ≠ 0 then fchkF l[j] else fsChk (l.drop (j + 1)) := by
 intro j hj; rw [List.drop_eq_getElem_cons hj]
 rfl
theorem tlGo_at {l : List LyC} (met : List (List UInt8)) {k : Nat} (hk : k < l.length) : tlGo met (l.drop k) = if lyE met l[k] ≠ 0 then lyE met l[k] else tlGo (l[k].1.data.toList :: met) (l.drop (k + 1)) := by
 rw [List.drop_eq_getElem_cons hk]
 rfl
end Go
namespace Go.Proofs.YtjggoajfilnfjaaGreat
open Go.RowKit
set_option maxHeartbeats 12800000 in
theorem mcheck_any (a : Option Addr) (c : Nat) (Y : List Ly) (hl : Y.length ≤ 1000) (hz : ∀ y ∈ Y, y.Sz) (w : World) (hr : Rd w a (lys Y)) (hok : ∀ y ∈ Y, y.Ok w) :
  Calls Tryz.prog 9 #[.agg #[.slice a Y.length c]] w fun e w' => e = .returned (.int .i64 (tileE (Y.map Ly.core))) ∧ Below w.heap.size w w' := by
 have HR := Lib.hid hr; have HOK := Lib.hid hok; have HZ := Lib.hid hz; have HT : Hid (tileE (Y.map Ly.core) = if 16 < (Y.map Ly.core).length then 6 else tlGo [] ((Y.map Ly.core).drop 0)) := Lib.hid rfl; generalize tileE (Y.map Ly.core) = TC at *; have HAT := Lib.hid (fun met k h => @tlGo_at (Y.map Ly.core) met k h); obtain ⟨N, hN⟩ : ∃ N, Y.length = N := ⟨_, rfl⟩; have HN := Lib.hid hN; have hcl : (Y.map Ly.core).length = N := by rw [List.length_map, hN]
 rw [hcl] at HT; rw [hN] at hl ⊢; clear hr hok hz hN; have HCL := Lib.hid hcl; clear hcl; have hmm := @run_makeMap Tryz.prog; have kT := Blk.new w [.slice a N c] 24; have hb0 := Below.new w (.cells #[.slice a N c] 24); have hs0 : (w.alloc (.cells #[.slice a N c] 24)).heap.size = w.heap.size + 1 := by simp
 have a0 := kT.cell 0 rfl
 go_enter Tryz.func9, Tryz.ntmps9
 by_cases h8 : 16 < N
 ·have h8' : (16 : Int) < (N : Int) := by omega
  go_wp2; go_ret; exact ⟨ret_int (by rw [HT.out, if_pos h8]), hb0⟩
 ·have h8' : ¬ (16 : Int) < (N : Int) := by omega
  have HT2 : Hid (TC = tlGo [] ((Y.map Ly.core).drop 0)) := Lib.hid (by rw [HT.out, if_neg h8]); have hS0 := StrSet.made Tryz.prog 9 4 (w.alloc (.cells #[.slice a N c] 24)); have hb1 := hb0.alloc hb0.size (.map #[] 0); have kT2 := kT.alloc (.map #[] 0); have a1 := kT2.cell 0 rfl; obtain ⟨B, hB⟩ : ∃ B, w.heap.size + 1 = B := ⟨_, rfl⟩; rw [hs0, hB] at hS0; have HBE : Hid (w.heap.size ≤ B) := Lib.hid (by omega); clear HT; go_wp2
  try rw [hB]
  generalize (w.alloc (.cells #[.slice a N c] 24)).alloc (.map #[] 0) = w0 at *
  go_loopw [18] (fun i wr => ∃ (k : Nat) (met : List (List UInt8)), k ≤ N ∧ i = .int .i64 k ∧ Hid (TC = tlGo met ((Y.map Ly.core).drop k)) ∧ Hid (StrSet Tryz.prog 9 4 wr B k met) ∧ Below w.heap.size w wr) (fun i _ => N - (intOf i).toNat)
  case atStart => exact ⟨0, [], by omega, rfl, HT2, Lib.hid hS0, hb1⟩
  case round =>
   clear a0 a1 kT kT2 hS0 hb0 hb1 hs0 hB HT2; obtain ⟨k, met, hk, rfl, HZZ, HS, hbl⟩ := hrel
   by_cases h1 : k < N
   ·have h1' : (k : Int) < (N : Int) := by omega
    have hkl : k < Y.length := by rw [HN.out]; exact h1
    obtain ⟨b1, o1, rfl, hbb, c0, c1⟩ := (HR.out.keep hbl).ly k hkl; have hyo := (HOK.out Y[k] (List.getElem_mem hkl)); have hyz := HZ.out Y[k] (List.getElem_mem hkl); have hk2 : k < (Y.map Ly.core).length := by rw [HCL.out]; exact h1
    have hce : (Y.map Ly.core)[k] = (Y[k].name, Y[k].fs.map Ft.core) := by rw [List.getElem_map]; rfl
    have HZ2 := HZZ.out.trans (HAT.out met k hk2); rw [hce] at HZ2; dsimp only at HZ2; clear HZZ hce hk2; generalize Y[k] = y at *; obtain ⟨NM, fs, fa, fc⟩ := y; obtain ⟨⟨hrf, f2, f3, f4⟩, hfo⟩ := hyo; obtain ⟨z1, z2, z3⟩ := hyz; dsimp only [Ly.fval] at c0 c1 hrf f2 f3 f4 hfo z1 z2 z3 HZ2; have HRF := Lib.hid hrf; have HFO := Lib.hid hfo; have HFZ := Lib.hid z3; have HLE : Hid (lyE met (NM, fs.map Ft.core) = if namedF NM ≠ 0 then namedF NM else if NM.data.toList ∈ met then 8 else if (fs.map Ft.core).length = 0 then 7 else if 1024 < (fs.map Ft.core).length then 6 else fsChk ((fs.map Ft.core).drop 0)) := Lib.hid rfl; have HFA := Lib.hid (fun j h => @fsChk_at (fs.map Ft.core) j h); have hml : (fs.map Ft.core).length = fs.length := List.length_map _; rw [hml] at HLE; have HML := Lib.hid hml; obtain ⟨M, hM⟩ : ∃ M, fs.length = M := ⟨_, rfl⟩; have HM := Lib.hid hM; rw [hM] at c1 f2 z2 HLE; have HZ3 := Lib.hid HZ2; have HNA := Lib.hid (fun W => named_any NM z1 W); generalize lyE met (NM, fs.map Ft.core) = LE at *; generalize namedF NM = NF at *; clear hrf hfo z3 hml hM HZ2; have hxT := Below.new wr (.cells #[.string NM, .slice fa M fc] 46); have kL := Blk.new wr [.string NM, .slice fa M fc] 46; have hS1 := HS.out.below hxT; have hb1 := hbl.trans (hxT.mono hbl.size); have y0 := kL.cell 0 rfl; have hlB := HS.out.lt
    go_wp2_with fail
    obtain ⟨S, hS⟩ : ∃ S, wr.heap.size = S := ⟨_, rfl⟩; rw [hS] at kL y0 hlB ⊢; generalize wr.alloc (.cells #[.string NM, .slice fa M fc] 46) = W1 at *; clear hxT c0 c1 hS HS; refine (HNA.out W1).mono ?_; rintro e W2 ⟨rfl, hx2⟩; have kL := kL.keep hx2; have hS2 := hS1.below hx2; have hb2 := hb1.trans (hx2.mono hb1.size); clear hS1 hx2 hb1 y0; have y0 := kL.cell 0 rfl; have y1 := kL.cell 1 rfl
    by_cases hn : NF = 0
    ·subst hn; have hlk := hS2.look Tryz.underlying75 Tryz.underlying9 Tryz.underlying4 (Tryz.zeroB W2) NM z1
     by_cases hm : NM.data.toList ∈ met
     ·rw [decide_eq_true hm] at hlk; have he : LE = 8 := by rw [HLE.out, if_neg (by simp), if_pos hm]
      have hV : TC = 8 := by rw [HZ3.out, he]; rfl
      clear HZ3 HLE he hm; go_wp2; go_ret; exact ⟨ret_int hV.symm, hb2⟩
     ·rw [decide_eq_false hm] at hlk; have he := HLE.out; rw [if_neg (by simp), if_neg hm] at he; have HE := Lib.hid he; clear HLE he hm
      by_cases hM0 : M = 0
      ·have hV : TC = 7 := by
        have he := HE.out; rw [if_pos hM0] at he; rw [HZ3.out, he]; rfl
       subst hM0; clear HZ3 HE; go_wp2; go_ret; exact ⟨ret_int hV.symm, hb2⟩
      ·have hM0' : ((M : Int) == 0) = false := by simpa using hM0
       by_cases hM1 : 1024 < M
       ·have hM1' : (1024 : Int) < (M : Int) := by omega
        have hV : TC = 6 := by
         have he := HE.out; rw [if_neg hM0, if_pos hM1] at he; rw [HZ3.out, he]; rfl
        clear HZ3 HE; go_wp2; go_ret; exact ⟨ret_int hV.symm, hb2⟩
       ·have hM1' : ¬ (1024 : Int) < (M : Int) := by omega
        have HE2 : Hid (LE = fsChk ((fs.map Ft.core).drop 0)) := Lib.hid (by
         have he := HE.out; rw [if_neg hM0, if_neg hM1] at he; exact he)
        clear HE
        go_wp2_with (at_mapUpdate; go_must (refine wpList_set_add W2 rfl (.tmp 43) (.tmp 45) (.const (.bool true)) rfl Tryz.underlying75 Tryz.underlying9 Tryz.underlying4 B k met rfl hS2 (by unfold maxLen; omega) NM z1 rfl rfl ?_); intro W4 hS4 hg4; have y14 := (kL.grown hg4 (by simp; omega)).cell 1 rfl)
        have hb4 := hb2.grown hg4 hb2.size (fun j hj => by cases hj; exact HBE.out); clear kL y0 y1 hS2 hg4 hlk
        go_loopw [49] (fun i wr => ∃ q : Nat, q ≤ M ∧ i = .int .i64 q ∧ Hid (LE = fsChk ((fs.map Ft.core).drop q)) ∧ Hid (StrSet Tryz.prog 9 4 wr B (k + 1) (NM.data.toList :: met)) ∧ Below w.heap.size w wr) (fun i _ => M - (intOf i).toNat)
        case atStart => exact ⟨0, by omega, rfl, HE2, Lib.hid hS4, hb4⟩
        case round =>
         clear y14 hS4 hb4 HE2; obtain ⟨q, hq, rfl, HQ, HS4, hbq⟩ := hrel
         by_cases hqM : q < M
         ·have hqM' : (q : Int) < (M : Int) := by omega
          have hql : q < fs.length := by rw [HM.out]; exact hqM
          obtain ⟨b3, o3, rfl, hb3, e0, e1, e2, e3⟩ := (HRF.out.keep hbq).ft q hql; have hfo := HFO.out fs[q] (List.getElem_mem hql); have hfz := HFZ.out fs[q] (List.getElem_mem hql); have hq2 : q < (fs.map Ft.core).length := by rw [HML.out]; exact hql
          have hQ2 := HQ.out.trans (HFA.out q hq2); rw [List.getElem_map] at hQ2; have HQ2 := Lib.hid hQ2; clear hQ2 HQ; generalize fs[q] = f at *; have HFC := Lib.hid (fun (W : World) (h : Below w.heap.size w W) => fcheck1_any f hfz W (hfo.keep h)); have HVL : Hid (f.val = .agg #[.int .i64 f.id, .int .i64 f.kind, f.aval, f.rval]) := Lib.hid rfl; rw [HVL.out] at HFC; generalize fchkF f.core = FC at *; clear hfo hfz HVL; obtain ⟨fid, fki, fls, faa, fac, frs, fra, frc⟩ := f; dsimp only [Ft.aval, Ft.rval] at e0 e1 e2 e3 HFC; generalize fls.length = n1 at *; generalize frs.length = n2 at *; have hx3 := Below.new wr (.cells #[.int .i64 fid, .int .i64 fki, .slice faa n1 fac, .slice fra n2 frc] 53); have kF := Blk.new wr [.int .i64 fid, .int .i64 fki, .slice faa n1 fac, .slice fra n2 frc] 53; have g0 := kF.cell 0 rfl; have g1 := kF.cell 1 rfl; have g2 := kF.cell 2 rfl; have g3 := kF.cell 3 rfl; have hb5 := hbq.trans (hx3.mono hbq.size); have hS5 := HS4.out.below hx3
          go_wp2_with fail
          refine (HFC.out _ hb5).mono ?_; rintro e W5 ⟨rfl, hb6⟩; have hS6 := hS5.below hb6; have hb7 := hb5.trans (hb6.mono hb5.size); clear hx3 kF g0 g1 g2 g3 e0 e1 e2 e3 HFC HS4 hS5 hb6 hb5
          by_cases hFC : FC = 0
          ·subst hFC; have HQ3 : Hid (LE = fsChk ((fs.map Ft.core).drop (q + 1))) := Lib.hid (by have := HQ2.out; simpa using this); clear HQ2; go_wp2; go_roundw
           case rel => exact ⟨q + 1, by omega, by go_num, HQ3, Lib.hid hS6, hb7⟩
           case measure => simp [intOf]; omega
          ·have hF' : (FC != 0) = true := by simpa using hFC
           have he : LE = FC := by rw [HQ2.out, if_pos hFC]
           have hV : TC = FC := by rw [HZ3.out, he, if_pos hFC]
           clear HZ3 HQ2 he; go_wp2; go_ret; exact ⟨ret_int hV.symm, hb7⟩
         ·obtain rfl : q = M := by omega
          have hqM' : ¬ (q : Int) < (q : Int) := by omega
          have hd : (fs.map Ft.core).drop q = [] := List.drop_of_length_le (by rw [HML.out, HM.out]; exact Nat.le_refl _); have he : LE = 0 := by rw [HQ.out, hd]; rfl
          have HV : Hid (TC = tlGo (NM.data.toList :: met) ((Y.map Ly.core).drop (k + 1))) := Lib.hid (by rw [HZ3.out, he]; simp); clear HZ3 HQ he hd; go_wp2; go_roundw
          case rel => exact ⟨k + 1, _, by omega, by go_num, HV, HS4, hbq⟩
          case measure => simp [intOf]; omega
    ·have hn' : (NF != 0) = true := by simpa using hn
     have he : LE = NF := by rw [HLE.out, if_pos hn]
     have hV : TC = NF := by rw [HZ3.out, he, if_pos hn]
     clear HZ3 HLE he; go_wp2; go_ret; exact ⟨ret_int hV.symm, hb2⟩
   ·have h1' : ¬ (k : Int) < (N : Int) := by omega
    have hd : (Y.map Ly.core).drop k = [] := List.drop_of_length_le (by rw [HCL.out]; omega); rw [hd] at HZZ; go_wp2; go_ret; exact ⟨ret_int HZZ.out.symm, hbl⟩
end Go.Proofs.YtjggoajfilnfjaaGreat
