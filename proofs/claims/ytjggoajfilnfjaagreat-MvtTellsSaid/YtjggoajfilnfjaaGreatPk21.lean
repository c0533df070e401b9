/-
  mvt.head. mvt.readFeature: of a right feature's message. Plain: a right value's field is read as it was, other fields are passed over. Plain: a right value's bytes are read as it.
-/
import Derived.Test.YtjggoajfilnfjaaGreatPk18
import Derived.Test.YtjggoajfilnfjaaGreatPk20
import Derived.Test.YtjggoajfilnfjaaGreatPk17
import Derived.Test.YtjggoajfilnfjaaGreatPk7
import Derived.Test.YtjggoajfilnfjaaGreatPk9
set_option linter.unusedVariables false
set_option linter.unusedSimpArgs false
set_option maxRecDepth 100000
namespace Go.Proofs.YtjggoajfilnfjaaGreat
open Go.RowKit Go.Proto
theorem Tryz.fieldN (a b n : Int) (p : Option Addr) (m c : Nat) (W : World) : (Instr.field 72 (.agg #[.int .i64 a, .int .i64 b, .int .u64 n, .slice p m c]) 2).run Tryz.prog W = .ok (.int .u64 n) W := by kernel_rfl
theorem Tryz.fieldB (a b n : Int) (p : Option Addr) (m c : Nat) (W : World) : (Instr.field 72 (.agg #[.int .i64 a, .int .i64 b, .int .u64 n, .slice p m c]) 3).run Tryz.prog W = .ok (.slice p m c) W := by kernel_rfl
theorem head_nil (a : Option Addr) (c : Nat) (L : List FC) (hlen : L.length ≤ 1000000) (h0 : flt (L.map (·.f)) 15 = []) (w : World) (hr : Rd w a (flat L)) :
  Calls Tryz.prog 64 #[.slice a L.length c] w fun e w' => e = .returned (.int .i64 7) ∧ Below w.heap.size w w' := by
 have HC := Lib.hid (mcount_any a c L 15 hlen w hr); have hz : (flC L 15).length = 0 := by
  have := congrArg List.length h0; rw [← flC_flt, List.length_map] at this; exact this
 rw [hz] at HC; clear hz h0 hr; generalize L.length = N at *
 go_enter Tryz.func64, Tryz.ntmps64
 go_wp2_with fail
 refine HC.out.mono ?_; rintro e w1 ⟨rfl, hb⟩; go_wp2; go_ret; exact ⟨rfl, hb⟩
set_option maxHeartbeats 3200000 in
theorem head_ok (a : Option Addr) (c : Nat) (L : List FC) (NM : ByteArray) (hlen : L.length ≤ 1000000) (h1 : flt (L.map (·.f)) 15 ≠ []) (h2 : (fstF (L.map (·.f)) 15).n = 2) (h3 : flt (L.map (·.f)) 1 ≠ []) (h4 : (fstF (L.map (·.f)) 1).bs = bnums NM) (h5 : namedF NM = 0) (h6 : (fstF (L.map (·.f)) 5).n = 4096) (w : World) (hr : Rd w a (flat L)) (hok : ∀ x ∈ L, x.Ok w) :
  Calls Tryz.prog 64 #[.slice a L.length c] w fun e w' => e = .returned (.int .i64 0) ∧ Below w.heap.size w w' := by
 have HC := Lib.hid (fun k W (h : Below w.heap.size w W) => mcount_any a c L k hlen W (hr.keep h)); have HF := Lib.hid (fun k W (h : Below w.heap.size w W) => mfirst_any a c L k hlen W (hr.keep h)); have hlc : ∀ k, (flC L k).length ≤ 1000000 := fun k => Nat.le_trans (List.length_filter_le _ _) hlen; have n15 : 0 < (flC L 15).length := by
  rcases Nat.eq_zero_or_pos (flC L 15).length with h | h
  ·exact absurd (by rw [← flC_flt, List.eq_nil_of_length_eq_zero h]; rfl) h1
  ·exact h
 have n1 : 0 < (flC L 1).length := by
  rcases Nat.eq_zero_or_pos (flC L 1).length with h | h
  ·exact absurd (by rw [← flC_flt, List.eq_nil_of_length_eq_zero h]; rfl) h3
  ·exact h
 have l15 := hlc 15; have l1 := hlc 1; have l5 := hlc 5; have hf15 := fstC_f L 15; have hf1 := fstC_f L 1; have hf5 := fstC_f L 5; have hok1 := fstC_ok hok 1; rw [← hf15] at h2; rw [← hf1] at h4; rw [← hf5] at h6; obtain ⟨-, hnz, hsz⟩ := namedF_zero h5; have C15 := Lib.hid (HC.out 15); have C1 := Lib.hid (HC.out 1); have C5 := Lib.hid (HC.out 5); have F15 := Lib.hid (HF.out 15); have F1 := Lib.hid (HF.out 1); have F5 := Lib.hid (HF.out 5); clear HC HF hlc h1 h3 hf15 hf1 hf5 hnz hok; generalize (flC L 15).length = m15 at *; generalize (flC L 1).length = m1 at *; generalize (flC L 5).length = m5 at *; generalize fstC L 15 = x15 at *; generalize fstC L 1 = x1 at *; generalize fstC L 5 = x5 at *; generalize L.length = N at *; obtain ⟨⟨a1, a2, a3, a4⟩, a5, a6⟩ := x15; obtain ⟨⟨b1, b2, b3, b4⟩, b5, b6⟩ := x1; obtain ⟨⟨d1, d2, d3, d4⟩, d5, d6⟩ := x5; dsimp only [FC.val] at *; subst h2; subst h4; subst h6; obtain ⟨hr1, -⟩ := hok1; dsimp only at hr1; have HR1 := Lib.hid hr1; have HNA := Lib.hid (fun W => named_any NM (by unfold maxLen; omega) W); rw [h5] at HNA; have hbl := bnums_len NM; generalize a4.length = q1 at *; generalize d4.length = q2 at *; clear hr hr1 h5; have i15 : ((m15 : Int) == 0) = false := by simpa using (by omega : m15 ≠ 0)
 have i1 : ((m1 : Int) == 0) = false := by simpa using (by omega : m1 ≠ 0)
 have qn := @Tryz.fieldN; have qb := @Tryz.fieldB
 go_enter Tryz.func64, Tryz.ntmps64
 go_wp2_with fail
 refine (C15.out w (Below.refl _ _)).mono ?_; rintro e w1 ⟨rfl, hb1⟩
 go_wp2_with fail
 refine (F15.out w1 hb1).mono ?_; rintro e w2 ⟨rfl, hx⟩; have hb2 := hb1.trans (hx.mono hb1.size); clear hx
 go_wp2_with fail
 refine (C1.out w2 hb2).mono ?_; rintro e w3 ⟨rfl, hx⟩; have hb3 := hb2.trans (hx.mono hb2.size); clear hx
 go_wp2_with fail
 refine (F1.out w3 hb3).mono ?_; rintro e w4 ⟨rfl, hx⟩; have hb4 := hb3.trans (hx.mono hb3.size); clear hx; have hcv := run_convert_rd (P := Tryz.prog) w4 31 5 9 Tryz.underlying31 Tryz.underlying5 Tryz.underlying9 b5 b6 (bnums NM) (HR1.out.keep hb4); rw [strOfNums_bnums, hbl] at hcv
 go_wp2_with fail
 refine (HNA.out w4).mono ?_; rintro e w5 ⟨rfl, hx⟩; have hb5 := hb4.trans (hx.mono hb4.size); clear hx hcv
 go_wp2_with fail
 refine (C5.out w5 hb5).mono ?_; rintro e w6 ⟨rfl, hx⟩; have hb6 := hb5.trans (hx.mono hb5.size); clear hx
 by_cases h0 : m5 = 0
 ·subst h0; go_wp2; go_ret; exact ⟨rfl, hb6⟩
 ·have hp : (0 : Int) < (m5 : Int) := by omega
  go_wp2_with fail
  refine (F5.out w6 hb6).mono ?_; rintro e w7 ⟨rfl, hx⟩; have hb7 := hb6.trans (hx.mono hb6.size); clear hx; go_wp2; go_ret; exact ⟨rfl, hb7⟩
end Go.Proofs.YtjggoajfilnfjaaGreat
namespace Go
open Go.RowKit Go.Proto Go.Vint
theorem ft_facts (tt : TB) (c : FtC) (h0 : 0 ≤ c.1) : (fstF (ftFlds tt c) 1).n = c.1 ∧ (fstF (ftFlds tt c) 2).bs = vbs (tagL tt c.2.2.1) ∧ (fstF (ftFlds tt c) 3).n = c.2.1 ∧ flt (ftFlds tt c) 3 ≠ [] ∧ (fstF (ftFlds tt c) 4).bs = vbs (numsF c.2.1 ⟨0, 0⟩ c.2.2.2) ∧ flt (ftFlds tt c) 4 ≠ [] := by
 unfold fstF; rw [ft_flt, ft_flt, ft_flt, ft_flt]; simp only [Int.reduceEq, if_true, if_false]; refine ⟨?_, ?_, rfl, by simp, rfl, by simp⟩
 ·split
  ·rfl
  ·rename_i h; have : c.1 = 0 := by omega
   rw [this]
   rfl
 ·split
  ·rename_i h; have : c.2.2.1 = [] := List.eq_nil_of_length_eq_zero h; rw [this]
   rfl
  ·rfl
end Go
namespace Go.Proofs.YtjggoajfilnfjaaGreat
open Go.RowKit Go.Proto Go.Vint
set_option maxHeartbeats 25600000 in
theorem rfeat_ok (B : Nat) (kp : Option Addr) (kc : Nat) (vp : Option Addr) (vc : Nat) (t tt : TB) (cr : FtC) (hE : fchkF cr = 0) (hw : FtC.Few cr) (htt : tt.1.length ≤ 1000 ∧ tt.2.length ≤ 1000) (hext : TExt (addL tt cr.2.2.1) t) (hks : ∀ k ∈ t.1, k.size ≤ maxLen) (hl : t.1.length ≤ 1000 ∧ t.2.length ≤ 1000)
  (a : Option Addr) (c : Nat) (hc : (ftB tt cr).length ≤ c) (hcm : c ≤ maxLen) (w : World) (kB : Blk w B [.slice kp t.1.length kc, .slice vp t.2.length vc]) (hkr : Rd w kp (t.1.map Value.string)) (hvr : Rd w vp (vvs t.2)) (hr : Rd w a ((ftB tt cr).map (Value.int .u8))) :
  Calls Tryz.prog 67 #[.slice a (ftB tt cr).length c, .pointer (some ⟨B, 0, none⟩)] w fun e w' => ∃ f : Ft, e = .returned (.tuple #[f.val, .int .i64 0]) ∧ f.core = cr ∧ FtT w.heap.size w' f ∧ Below w.heap.size w w' := by
 obtain ⟨hid, hT, hG⟩ := fchkF_zero hE; obtain ⟨hkd, -⟩ := checkE_zero hG; have hft := feat_ok tt cr hE hw htt; have hge := geo_ok cr hG hw; have htg := tag_ok tt cr hw htt; have hfa := ft_facts tt cr hid.1; have hsg := sgGo_ft tt cr; have hpa := pall_ok (l := ftFlds tt cr) (fun f hf => (hft.1 f hf).1); have htz := tcF_zero _ hT; have hfb : (ftFlds tt cr).flatMap fby = ftB tt cr := rfl; rw [hfb] at hpa; have hall := protoAll_any a c (ftB tt cr) hft.2.2.2 (by omega) hc hcm; rw [hpa] at hall; have hto := tagsOf_addL cr.2.2.1 tt t hext; have HRT := Lib.hid (fun (W : World) (h : Below w.heap.size w W) (a : Option Addr) (c : Nat) (h1 : (vbs (tagL tt cr.2.2.1)).length ≤ c) (h2 : c ≤ maxLen) (h3 : Rd W a ((vbs (tagL tt cr.2.2.1)).map (Value.int .u8))) => rtags_ok B kp kc vp vc t a c (tagL tt cr.2.2.1) cr.2.2.1 hto htz.1 htz.2.2 hks hl htg.1 h1 h2 W (kB.keep h) (hkr.keep h) (hvr.keep h) h3); have HGP := Lib.hid (fun (W : World) (a : Option Addr) (c : Nat) (h1 : (vbs (numsF cr.2.1 ⟨0, 0⟩ cr.2.2.2)).length ≤ c) (h2 : c ≤ maxLen) (h3 : Rd W a ((vbs (numsF cr.2.1 ⟨0, 0⟩ cr.2.2.2)).map (Value.int .u8))) => gparse_ok cr.2.1 cr.2.2.2 hG (by have := hw.1; omega) (fun g hg => by have := hw.2.1 g hg; omega) a c _ rfl (by have := hge.2.1; omega) hge.1 h1 h2 W h3); have HALL := Lib.hid (fun (W : World) (h : Below w.heap.size w W) => hall W (hr.keep h)); have HFL4 : Hid ((ftFlds tt cr).length ≤ 4) := Lib.hid hft.2.1; have HFA := Lib.hid hfa; have HSG := Lib.hid hsg; have HLA : Hid (cr.2.2.1.length ≤ 8 ∧ cr.2.2.2.length ≤ 10) := Lib.hid ⟨htz.1, hw.1⟩
 clear hE hw htt hext hks hl hc hcm kB hkr hvr hr hT hG hft hge htg hfa hsg hpa htz hfb hall hto; generalize ftFlds tt cr = FL at *; generalize (ftB tt cr).length = M at *; generalize vbs (tagL tt cr.2.2.1) = TB1 at *; obtain ⟨id, kd, ls, G⟩ := cr; dsimp only at hid hkd HFA HRT HGP HLA; generalize vbs (numsF kd ⟨0, 0⟩ G) = GB at *; have hz : (Tryz.prog.info? 53).map (fun i => i.zero) = some (some (.agg #[.int .i64 0, .int .i64 0, .slice none 0 0, .slice none 0 0])) := by kernel_rfl
 have hb0 := Below.new w (.cells #[.int .i64 0, .int .i64 0, .slice none 0 0, .slice none 0 0] 53); have kR := Blk.lit w w.heap.size [.int .i64 0, .int .i64 0, .slice none 0 0, .slice none 0 0] 53 rfl; obtain ⟨R, hR⟩ : ∃ R, w.heap.size = R := ⟨_, rfl⟩; have hws : (w.alloc (.cells #[.int .i64 0, .int .i64 0, .slice none 0 0, .slice none 0 0] 53)).heap.size = R + 1 := by simp [hR]
 have HRE := Lib.hid hR; rw [hR] at kR; have qn := @Tryz.fieldN; have qb := @Tryz.fieldB
 go_enter Tryz.func67, Tryz.ntmps67
 go_wp2_with fail
 try rw [hR]
 generalize w.alloc (.cells #[.int .i64 0, .int .i64 0, .slice none 0 0, .slice none 0 0] 53) = w0 at *; clear hR; have hwR : w.heap.size ≤ R := by have := HRE.out; omega
 refine (HALL.out _ hb0).mono ?_; rintro e w1 ⟨v1, rfl, L, hLf, hLo, hLk, hx⟩; have hs1 := hx.size; have hb1 := hb0.trans (hx.mono hb0.size); have kR := kR.keep hx; obtain ⟨la, lc, rfl, -, -, -, hlr, -⟩ := hLo.form; have HFA2 := HFA.out; have hl4 := HFL4.out; rw [← hLf, List.length_map] at hl4; have hlen : L.length ≤ 1000000 := by omega
 have hsg := HSG.out; rw [← hLf] at HFA2 hsg; obtain ⟨f1, f2, f3, f4, f5, f6⟩ := HFA2; have HSI := Lib.hid (fun W (h : Below w1.heap.size w1 W) => single_ok la lc L hlen hsg W (hlr.keep h)); have HF := fun k W (h : Below w1.heap.size w1 W) => mfirst_any la lc L k hlen W (hlr.keep h); have HC := fun k W (h : Below w1.heap.size w1 W) => mcount_any la lc L k hlen W (hlr.keep h); have F1 := Lib.hid (HF 1); have F2 := Lib.hid (HF 2); have F3 := Lib.hid (HF 3); have F4 := Lib.hid (HF 4); have C3 := Lib.hid (HC 3); have C4 := Lib.hid (HC 4); have n3 : 0 < (flC L 3).length := by
  rcases Nat.eq_zero_or_pos (flC L 3).length with h | h
  ·exact absurd (by rw [← flC_flt, List.eq_nil_of_length_eq_zero h]; rfl) f4
  ·exact h
 have n4 : 0 < (flC L 4).length := by
  rcases Nat.eq_zero_or_pos (flC L 4).length with h | h
  ·exact absurd (by rw [← flC_flt, List.eq_nil_of_length_eq_zero h]; rfl) f6
  ·exact h
 have l3 : (flC L 3).length ≤ 4 := Nat.le_trans (List.length_filter_le _ _) hl4; have l4 : (flC L 4).length ≤ 4 := Nat.le_trans (List.length_filter_le _ _) hl4; rw [← fstC_f] at f1 f2 f3 f5; have ok2 := fstC_ok hLk 2; have ok4 := fstC_ok hLk 4; generalize fstC L 1 = y1 at *; generalize fstC L 2 = y2 at *; generalize fstC L 3 = y3 at *; generalize fstC L 4 = y4 at *; generalize (flC L 3).length = m3 at *; generalize (flC L 4).length = m4 at *; generalize L.length = N at *; obtain ⟨⟨a1, a2, a3, a4⟩, a5, a6⟩ := y1; obtain ⟨⟨b1, b2, b3, b4⟩, b5, b6⟩ := y2; obtain ⟨⟨c1, c2, c3, c4⟩, c5, c6⟩ := y3; obtain ⟨⟨d1, d2, d3, d4⟩, d5, d6⟩ := y4; dsimp only [FC.val] at *; subst f1; subst f2; subst f3; subst f5; obtain ⟨o1, o2, o3, -⟩ := ok2; obtain ⟨p1, p2, p3, -⟩ := ok4; dsimp only at o1 o2 o3 p1 p2 p3; have HO2 := Lib.hid (And.intro o1 (And.intro o2 o3)); have HO4 := Lib.hid (And.intro p1 (And.intro p2 p3)); generalize a4.length = q1 at *; generalize c4.length = q3 at *; have i3 : ((m3 : Int) == 0) = false := by simpa using (by omega : m3 ≠ 0)
 have i4 : ((m4 : Int) == 0) = false := by simpa using (by omega : m4 ≠ 0)
 have hb2 : Below w1.heap.size w1 w1 := Below.refl _ _; have hid1 : ¬ 9007199254740992 < a3 := by omega
 have hid0 : 0 ≤ a3 := hid.1; have hid2 : a3 ≤ 9007199254740992 := hid.2; clear o1 o2 o3 p1 p2 p3 hLk hLo hlr HF HC hsg f4 f6 hLf hx HALL n3 n4 HFA HSG HFL4 hl4 hlen hid hb0
 go_wp2_with fail
 refine (HSI.out w1 hb2).mono ?_; rintro e w2 ⟨rfl, hb3⟩; clear hb2 HSI
 go_wp2_with fail
 refine (F1.out w2 hb3).mono ?_; rintro e w3 ⟨rfl, hx⟩; have hb4 := hb3.trans (hx.mono hb3.size); clear hb3 hx
 go_wp2_with fail
 refine (F2.out w3 hb4).mono ?_; rintro e w4 ⟨rfl, hx⟩; have hb5 := hb4.trans (hx.mono hb4.size); clear hb4 hx; have hRT := HRT.out w4 (hb1.trans (hb5.mono hb1.size)) b5 b6 HO2.out.2.1 HO2.out.2.2 (HO2.out.1.keep hb5); have HRT2 := Lib.hid hRT; clear hRT HRT HO2
 go_wp2_with fail
 refine HRT2.out.mono ?_; rintro e w5 ⟨v5, rfl, ho5, hx⟩; have hb6 := hb5.trans (hx.mono hb5.size); have ho5 := ho5.mono (base' := R + 1) (by have := hb5.size; omega); clear hb5 hx HRT2
 go_wp2_with fail
 refine (F3.out w5 hb6).mono ?_; rintro e w6 ⟨rfl, hx⟩; have hb7 := hb6.trans (hx.mono hb6.size); have ho6 := ho5.below hx; clear hb6 hx ho5
 rcases hkd with rfl | rfl
 ·go_wp2_with fail
  refine (C3.out w6 hb7).mono ?_; rintro e w7 ⟨rfl, hx⟩; have hb8 := hb7.trans (hx.mono hb7.size); have ho7 := ho6.below hx; clear hb7 hx ho6
  go_wp2_with fail
  refine (C4.out w7 hb8).mono ?_; rintro e w8 ⟨rfl, hx⟩; have hb9 := hb8.trans (hx.mono hb8.size); have ho8 := ho7.below hx; clear hb8 hx ho7
  go_wp2_with fail
  refine (F4.out w8 hb9).mono ?_; rintro e w9 ⟨rfl, hx⟩; have hb10 := hb9.trans (hx.mono hb9.size); have ho9 := ho8.below hx; clear hb9 hx ho8; have hGP := HGP.out w9 d5 d6 HO4.out.2.1 HO4.out.2.2 (HO4.out.1.keep hb10); have HGP2 := Lib.hid hGP; clear hGP HGP HO4
  go_wp2_with fail
  refine HGP2.out.mono ?_; rintro e w10 ⟨v10, vals, rfl, ho10, hin10, hx⟩; have hb11 := hb10.trans (hx.mono hb10.size); have ho11 := ho9.below hx; have hs10 := hb10.size; have ho12 := ho10.mono (base' := R + 1) (by omega); obtain ⟨rs, rfl, hrl, hrok⟩ := inP_pcs (hin10.mono (by omega : R + 1 ≤ w9.heap.size)); clear hb10 hx ho9 HGP2 ho10 hin10
  go_wp2_with fail
  refine (F1.out w10 hb11).mono ?_; rintro e w11 ⟨rfl, hx⟩; have hb12 := hb11.trans (hx.mono hb11.size); have ho13 := ho11.below hx; have ho14 := ho12.below hx; have hrok2 : ∀ r ∈ rs, r.Ok w11 ∧ ByT w11 (R + 1) r.p 79 := fun r hr => ⟨(hrok r hr).1.keep hx, (hrok r hr).2.below hx⟩; have kR12 := kR.keep hb12; have hbz := hb1.trans (hb12.mono hb1.size); clear hb11 hx ho11 ho12 hrok; obtain ⟨aa, ac, rfl, p1, p2, p3, p4, -⟩ := ho13.form; obtain ⟨ra, rc, rfl, r1, r2, r3, r4, -⟩ := ho14.form; have hgl : G.length = rs.length := by rw [← hrl, List.length_map]
  have hFT : FtT (R + 1) w11 ⟨a3, 2, ls, aa, ac, rs, ra, rc⟩ := ⟨⟨⟨p4, p1, p2, p3⟩, ⟨r4, by dsimp only; omega, r2, r3⟩, fun r hr => (hrok2 r hr).1⟩, ByT.of_owns ho13, ByT.of_owns ho14, fun r hr => (hrok2 r hr).2⟩; have HFT := Lib.hid hFT; have HCO : Hid ((⟨a3, 2, ls, aa, ac, rs, ra, rc⟩ : Ft).core = (a3, 2, ls, G)) := Lib.hid (by rw [← hrl]; rfl); rw [hgl]; have HLS : Hid ((⟨a3, 2, ls, aa, ac, rs, ra, rc⟩ : Ft).val = .agg #[.int .i64 a3, .int .i64 2, .slice aa ls.length ac, .slice ra rs.length rc]) := Lib.hid rfl; have hla := HLA.out; generalize ls.length = n1 at *; generalize rs.length = n2 at *; clear ho13 ho14 p1 p2 p3 p4 r1 r2 r3 r4 hrok2 hFT hrl hgl; have c0 := kR12.cell 0 rfl; have c1 := kR12.cell 1 rfl; have c2 := kR12.cell 2 rfl; have c3 := kR12.cell 3 rfl; have g0 := kR12.free 0; have g1 := kR12.free 1; have g2 := kR12.free 2; have g3 := kR12.free 3; have kS := (((kR12.set 0 (.int .i64 a3)).set 1 (.int .i64 2)).set 2 (.slice aa n1 ac)).set 3 (.slice ra n2 rc); have hFS := (((HFT.out.gr (grown_set w11 R 0 (.int .i64 a3)) (Off.low (by omega))).gr (grown_set _ R 1 (.int .i64 2)) (Off.low (by omega))).gr (grown_set _ R 2 (.slice aa n1 ac)) (Off.low (by omega))).gr (grown_set _ R 3 (.slice ra n2 rc)) (Off.low (by omega)); have hbS := (((hbz.set_at (b := R) (o := 0) hwR (.int .i64 a3)).set_at (b := R) (o := 1) hwR (.int .i64 2)).set_at (b := R) (o := 2) hwR (.slice aa n1 ac)).set_at (b := R) (o := 3) hwR (.slice ra n2 rc); have HFS := Lib.hid (hFS.mono (by omega : w.heap.size ≤ R + 1)); clear hFS hbz HFT
  go_wp2; clear c0 c1 c2 c3 g0 g1 g2 g3; have c0 := kS.cell 0 rfl; have c1 := kS.cell 1 rfl; have c2 := kS.cell 2 rfl; have c3 := kS.cell 3 rfl; exact bodyPost_ret (v := .tuple #[.agg #[.int .i64 a3, .int .i64 2, .slice aa n1 ac, .slice ra n2 rc], .int .i64 0]) (by simp [results, Tryz.results67, go_sem, c0, c1, c2, c3]) rfl ⟨⟨a3, 2, ls, aa, ac, rs, ra, rc⟩, by rw [HLS.out], HCO.out, HFS.out, hbS⟩
 ·go_wp2_with fail
  refine (C3.out w6 hb7).mono ?_; rintro e w7 ⟨rfl, hx⟩; have hb8 := hb7.trans (hx.mono hb7.size); have ho7 := ho6.below hx; clear hb7 hx ho6
  go_wp2_with fail
  refine (C4.out w7 hb8).mono ?_; rintro e w8 ⟨rfl, hx⟩; have hb9 := hb8.trans (hx.mono hb8.size); have ho8 := ho7.below hx; clear hb8 hx ho7
  go_wp2_with fail
  refine (F4.out w8 hb9).mono ?_; rintro e w9 ⟨rfl, hx⟩; have hb10 := hb9.trans (hx.mono hb9.size); have ho9 := ho8.below hx; clear hb9 hx ho8; have hGP := HGP.out w9 d5 d6 HO4.out.2.1 HO4.out.2.2 (HO4.out.1.keep hb10); have HGP2 := Lib.hid hGP; clear hGP HGP HO4
  go_wp2_with fail
  refine HGP2.out.mono ?_; rintro e w10 ⟨v10, vals, rfl, ho10, hin10, hx⟩; have hb11 := hb10.trans (hx.mono hb10.size); have ho11 := ho9.below hx; have hs10 := hb10.size; have ho12 := ho10.mono (base' := R + 1) (by omega); obtain ⟨rs, rfl, hrl, hrok⟩ := inP_pcs (hin10.mono (by omega : R + 1 ≤ w9.heap.size)); clear hb10 hx ho9 HGP2 ho10 hin10
  go_wp2_with fail
  refine (F1.out w10 hb11).mono ?_; rintro e w11 ⟨rfl, hx⟩; have hb12 := hb11.trans (hx.mono hb11.size); have ho13 := ho11.below hx; have ho14 := ho12.below hx; have hrok2 : ∀ r ∈ rs, r.Ok w11 ∧ ByT w11 (R + 1) r.p 79 := fun r hr => ⟨(hrok r hr).1.keep hx, (hrok r hr).2.below hx⟩; have kR12 := kR.keep hb12; have hbz := hb1.trans (hb12.mono hb1.size); clear hb11 hx ho11 ho12 hrok; obtain ⟨aa, ac, rfl, p1, p2, p3, p4, -⟩ := ho13.form; obtain ⟨ra, rc, rfl, r1, r2, r3, r4, -⟩ := ho14.form; have hgl : G.length = rs.length := by rw [← hrl, List.length_map]
  have hFT : FtT (R + 1) w11 ⟨a3, 3, ls, aa, ac, rs, ra, rc⟩ := ⟨⟨⟨p4, p1, p2, p3⟩, ⟨r4, by dsimp only; omega, r2, r3⟩, fun r hr => (hrok2 r hr).1⟩, ByT.of_owns ho13, ByT.of_owns ho14, fun r hr => (hrok2 r hr).2⟩; have HFT := Lib.hid hFT; have HCO : Hid ((⟨a3, 3, ls, aa, ac, rs, ra, rc⟩ : Ft).core = (a3, 3, ls, G)) := Lib.hid (by rw [← hrl]; rfl); rw [hgl]; have HLS : Hid ((⟨a3, 3, ls, aa, ac, rs, ra, rc⟩ : Ft).val = .agg #[.int .i64 a3, .int .i64 3, .slice aa ls.length ac, .slice ra rs.length rc]) := Lib.hid rfl; have hla := HLA.out; generalize ls.length = n1 at *; generalize rs.length = n2 at *; clear ho13 ho14 p1 p2 p3 p4 r1 r2 r3 r4 hrok2 hFT hrl hgl; have c0 := kR12.cell 0 rfl; have c1 := kR12.cell 1 rfl; have c2 := kR12.cell 2 rfl; have c3 := kR12.cell 3 rfl; have g0 := kR12.free 0; have g1 := kR12.free 1; have g2 := kR12.free 2; have g3 := kR12.free 3; have kS := (((kR12.set 0 (.int .i64 a3)).set 1 (.int .i64 3)).set 2 (.slice aa n1 ac)).set 3 (.slice ra n2 rc); have hFS := (((HFT.out.gr (grown_set w11 R 0 (.int .i64 a3)) (Off.low (by omega))).gr (grown_set _ R 1 (.int .i64 3)) (Off.low (by omega))).gr (grown_set _ R 2 (.slice aa n1 ac)) (Off.low (by omega))).gr (grown_set _ R 3 (.slice ra n2 rc)) (Off.low (by omega)); have hbS := (((hbz.set_at (b := R) (o := 0) hwR (.int .i64 a3)).set_at (b := R) (o := 1) hwR (.int .i64 3)).set_at (b := R) (o := 2) hwR (.slice aa n1 ac)).set_at (b := R) (o := 3) hwR (.slice ra n2 rc); have HFS := Lib.hid (hFS.mono (by omega : w.heap.size ≤ R + 1)); clear hFS hbz HFT
  go_wp2; clear c0 c1 c2 c3 g0 g1 g2 g3; have c0 := kS.cell 0 rfl; have c1 := kS.cell 1 rfl; have c2 := kS.cell 2 rfl; have c3 := kS.cell 3 rfl; exact bodyPost_ret (v := .tuple #[.agg #[.int .i64 a3, .int .i64 3, .slice aa n1 ac, .slice ra n2 rc], .int .i64 0]) (by simp [results, Tryz.results67, go_sem, c0, c1, c2, c3]) rfl ⟨⟨a3, 3, ls, aa, ac, rs, ra, rc⟩, by rw [HLS.out], HCO.out, HFS.out, hbS⟩
end Go.Proofs.YtjggoajfilnfjaaGreat
namespace Go
open Go.RowKit Go.Proto Go.Vint
theorem knF_vFld (v : VV) (h : vE v = 0) : knF (vFld v) = (v, 0) := by
 obtain ⟨k, t, n⟩ := v
 rcases vE_zero _ h with ⟨a, b, c⟩ | ⟨a, b, c, d⟩ | ⟨a, b, c, d⟩ | ⟨a, b, c, d⟩ <;> (dsimp only at a b c; subst a; subst b; simp only [vFld])
 ·simp [knF, strOfNums_bnums]
 ·dsimp only at d; simp only [Int.reduceEq, if_false, if_true, knF]; rw [if_neg (by omega)]
 ·simp [knF, zag_zig]
 ·dsimp only at d; simp only [Int.reduceEq, if_false, if_true, knF]; rw [if_neg (by omega)]
theorem vE_kind (v : VV) (h : vE v = 0) : v.1 ≠ 0 := by
 rcases vE_zero _ h with ⟨a, -⟩ | ⟨a, -⟩ | ⟨a, -⟩ | ⟨a, -⟩ <;> omega
theorem vrd_flds (l : List Fld) (hx : ∀ x ∈ l, Proto.chk x = 0 ∧ 0 ≤ x.n ∧ x.n ≤ 18446744073709551615 ∧ x.bs.length ≤ 1000000) : vrd (l.flatMap fby) = vrdF vZ l := by
 rw [vrd, pall_fby l hx]; simp
section
variable (v u : VV) (m n : Int) (hv : vE v = 0) (hu : vE u = 0) (h : 8 ≤ m) (h1 : m ≤ 1007) (h2 : 0 ≤ n) (h3 : n ≤ 18446744073709551615)
include hv h h1 h2 h3
end
end Go
namespace Go
open Go.RowKit Go.Proto Go.Vint
theorem reads_v (v : VV) (hv : vE v = 0) : vrd (fby (vFld v)) = (v, 0) := by
 have hf := vFld_ok v hv; have e : fby (vFld v) = [vFld v].flatMap fby := by simp
 rw [e, vrd_flds _ (by
  intro x hx; obtain rfl := List.mem_singleton.1 hx; exact ⟨hf.1, hf.2.1, hf.2.2.1, by omega⟩)]
 have hk := vE_kind v hv; have he : vcF v.1 v.2.1 v.2.2 = 0 := hv; simp [vrdF, knF_vFld v hv, hk, he, vZ]
end Go
