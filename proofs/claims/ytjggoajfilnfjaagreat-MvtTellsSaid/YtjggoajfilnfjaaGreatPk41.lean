/-
  graticuleref24.layer: a right layer's message.
-/
import Derived.Test.YtjggoajfilnfjaaGreatPk37
import Derived.Test.YtjggoajfilnfjaaGreatPk38
import Derived.Test.YtjggoajfilnfjaaGreatPk39
import Derived.Test.YtjggoajfilnfjaaGreatPk40
import Derived.Test.YtjggoajfilnfjaaGreatPk25
set_option linter.unusedVariables false
set_option linter.unusedSimpArgs false
set_option maxRecDepth 100000
namespace Go
open Go.RowKit Go.Vint Go.Proto
def pX (nm : ByteArray) (C : List FtC) (k : Nat) : List Int := ([(⟨15, 0, 2, []⟩ : Fld), ⟨1, 2, 0, bnums nm⟩] ++ ftsB ([], []) (C.take k)).flatMap fby
def pK (nm : ByteArray) (C : List FtC) (j : Nat) : List Int := pX nm C C.length ++ (((ftsT ([], []) C).1.take j).map keyFld).flatMap fby
def pV (nm : ByteArray) (C : List FtC) (j : Nat) : List Int := pK nm C (ftsT ([], []) C).1.length ++ (((ftsT ([], []) C).2.take j).map valFld).flatMap fby
theorem pX_zero (nm : ByteArray) (C : List FtC) : fby ⟨15, 0, 2, []⟩ ++ fby ⟨1, 2, 0, bnums nm⟩ = pX nm C 0 := by simp [pX, ftsB]
theorem pX_snoc (nm : ByteArray) (C : List FtC) (k : Nat) (hk : k < C.length) : pX nm C k ++ fby ⟨2, 2, 0, ftB (ftsT ([], []) (C.take k)) C[k]⟩ = pX nm C (k + 1) := by
 unfold pX; rw [List.take_succ_eq_append_getElem hk, ftsB_snoc]; simp [List.flatMap_append]
theorem pK_snoc (nm : ByteArray) (C : List FtC) (j : Nat) (hj : j < (ftsT ([], []) C).1.length) : pK nm C j ++ fby (keyFld (ftsT ([], []) C).1[j]) = pK nm C (j + 1) := by
 unfold pK; rw [List.take_succ_eq_append_getElem hj, List.map_append, List.flatMap_append, List.map_singleton, List.flatMap_singleton, List.append_assoc]
theorem pV_snoc (nm : ByteArray) (C : List FtC) (j : Nat) (hj : j < (ftsT ([], []) C).2.length) : pV nm C j ++ fby (valFld (ftsT ([], []) C).2[j]) = pV nm C (j + 1) := by
 unfold pV; rw [List.take_succ_eq_append_getElem hj, List.map_append, List.flatMap_append, List.map_singleton, List.flatMap_singleton, List.append_assoc]
theorem pK_zero (nm : ByteArray) (C : List FtC) : pX nm C C.length = pK nm C 0 := by simp [pK]
theorem pV_zero (nm : ByteArray) (C : List FtC) : pK nm C (ftsT ([], []) C).1.length = pV nm C 0 := by simp [pV]
theorem pV_end (nm : ByteArray) (C : List FtC) : pV nm C (ftsT ([], []) C).2.length ++ fby ⟨5, 0, 4096, []⟩ = lyB (nm, C) := by
 simp [pV, pK, pX, lyB, lyFlds, lyHead, lyTab, List.append_assoc]
structure LayP (nm : ByteArray) (C : List FtC) : Prop where
 name : FOk ⟨1, 2, 0, bnums nm⟩
 len : C.length ≤ 6
 tab : ∀ k, (ftsT ([], []) (C.take k)).1.length ≤ 1000 ∧ (ftsT ([], []) (C.take k)).2.length ≤ 1000
 feat : ∀ k (hk : k < C.length), FOk ⟨2, 2, 0, ftB (ftsT ([], []) (C.take k)) C[k]⟩ ∧ (ftB (ftsT ([], []) (C.take k)) C[k]).length ≤ 33280 ∧ ∀ f ∈ ftFlds (ftsT ([], []) (C.take k)) C[k], FOk f ∧ f.bs.length ≤ 8300
 fch : ∀ k (hk : k < C.length), fchkF C[k] = 0 ∧ FtC.Few C[k]
 keys : ∀ k ∈ (ftsT ([], []) C).1, FOk (keyFld k) ∧ (keyFld k).bs.length ≤ 100
 vals : ∀ v ∈ (ftsT ([], []) C).2, (FOk (valFld v) ∧ (valFld v).bs.length ≤ 84) ∧ vE v = 0
 px : ∀ k, k ≤ C.length → (pX nm C k).length ≤ 300000
 pk : ∀ j, (pK nm C j).length ≤ 600000
 pv : ∀ j, (pV nm C j).length ≤ 900000
theorem layP (nm : ByteArray) (C : List FtC) (hE : lyE [] (nm, C) = 0) (hF : LyC.Few (nm, C)) : LayP nm C := by
 obtain ⟨h1, -, -, -, h5⟩ := lyE_zero hE; obtain ⟨p1, ⟨p2, p3⟩, p4, p5, p6⟩ := lay_parts (nm, C) h1 h5 hF; have hfc := fsChk_zero h5; obtain ⟨-, -, h7⟩ := namedF_zero h1; have h8 := key_len nm; dsimp only at h7; have hnm : FOk ⟨1, 2, 0, bnums nm⟩ := FOk.bytes (by omega) h8.1 (by omega); have hl : C.length ≤ 6 := hF.1; have hfew : ∀ c ∈ C, FtC.Few c := hF.2; have htk : ∀ k, (C.take k).length ≤ 6 := fun k => by rw [List.length_take]; omega
 have htab : ∀ k, (ftsT ([], []) (C.take k)).1.length ≤ 60 ∧ (ftsT ([], []) (C.take k)).2.length ≤ 60 := fun k => by
  have h := ftsT_len (C.take k) ([], []) (fun c hc => hfew c (List.mem_of_mem_take hc)); have := htk k; simp only [List.length_nil] at h; omega
 have hft : ∀ k (hk : k < C.length), FOk ⟨2, 2, 0, ftB (ftsT ([], []) (C.take k)) C[k]⟩ ∧ (ftB (ftsT ([], []) (C.take k)) C[k]).length ≤ 33280 ∧ ∀ f ∈ ftFlds (ftsT ([], []) (C.take k)) C[k], FOk f ∧ f.bs.length ≤ 8300 := fun k hk => by
  have ht := htab k; obtain ⟨q1, q2, q3, q4⟩ := feat_ok (ftsT ([], []) (C.take k)) C[k] (hfc _ (List.getElem_mem hk)) (hfew _ (List.getElem_mem hk)) (by omega); exact ⟨FOk.bytes (by omega) q4 (by omega), q3, q1⟩
 have hpx : ∀ k, k ≤ C.length → (pX nm C k).length ≤ 300000 := fun k hk => by
  have h := flds_len (K := 33280) (l := [(⟨15, 0, 2, []⟩ : Fld), ⟨1, 2, 0, bnums nm⟩] ++ ftsB ([], []) (C.take k)) (fun f hf => by
   rcases List.mem_append.1 hf with hf | hf
   ·simp only [List.mem_cons, List.not_mem_nil, or_false] at hf
    rcases hf with rfl | rfl
    ·exact ⟨FOk.num (by omega) (by omega), by simp⟩
    ·exact ⟨hnm, by show (bnums nm).length ≤ 33280; omega⟩
   ·have := htk k; exact fts_ok (C.take k) ([], []) (fun c hc => ⟨hfc c (List.mem_of_mem_take hc), hfew c (List.mem_of_mem_take hc)⟩) (by simp only [List.length_nil]; omega) (by simp only [List.length_nil]; omega) f hf)
  have h2 : ([(⟨15, 0, 2, []⟩ : Fld), ⟨1, 2, 0, bnums nm⟩] ++ ftsB ([], []) (C.take k)).length ≤ 8 := by
   have := htk k; rw [List.length_append, ftsB_len]; simp only [List.length_cons, List.length_nil]; omega
  unfold pX; omega
 have hpk : ∀ j, (pK nm C j).length ≤ 600000 := fun j => by
  have h := flds_len (K := 100) (l := ((ftsT ([], []) C).1.take j).map keyFld) (fun f hf => by
   obtain ⟨x, hx, rfl⟩ := List.mem_map.1 hf; exact p5 x (List.mem_of_mem_take hx))
  have h2 : (((ftsT ([], []) C).1.take j).map keyFld).length ≤ 60 := by
   have : (ftsT ([], []) C).1.length ≤ 60 := p2; rw [List.length_map, List.length_take]; omega
  have h3 := hpx C.length (Nat.le_refl _); unfold pK; rw [List.length_append]; omega
 have hpv : ∀ j, (pV nm C j).length ≤ 900000 := fun j => by
  have h := flds_len (K := 84) (l := ((ftsT ([], []) C).2.take j).map valFld) (fun f hf => by
   obtain ⟨x, hx, rfl⟩ := List.mem_map.1 hf; exact p6 x (List.mem_of_mem_take hx))
  have h2 : (((ftsT ([], []) C).2.take j).map valFld).length ≤ 60 := by
   have : (ftsT ([], []) C).2.length ≤ 60 := p3; rw [List.length_map, List.length_take]; omega
  have h3 := hpk (ftsT ([], []) C).1.length; unfold pV; rw [List.length_append]; omega
 exact ⟨hnm, hl, fun k => by have := htab k; omega, hft, fun k hk => ⟨hfc _ (List.getElem_mem hk), hfew _ (List.getElem_mem hk)⟩, p5, fun v hv => ⟨p6 v hv, p1.2.2.2 v hv⟩, hpx, hpk, hpv⟩
end Go
namespace Go.Proofs.YtjggoajfilnfjaaGreat
open Go.RowKit Go.Vint Go.Proto
def Rw (base : Nat) (W : World) (v : Value) (xs : List Int) : Prop := W.ownsRow base 5 1 v xs.length (xs.map (Value.int .u8))
theorem Rw.below {base : Nat} {W W' : World} {v : Value} {xs : List Int} (h : Rw base W v xs) (hb : Below W.heap.size W W') : Rw base W' v xs := World.ownsRow.below h hb
theorem rtell_app (base : Nat) (v : Value) (xs : List Int) (num kind n : Int) (bs : List Int) (S : ByteArray) (hS : strOfNums bs = S) (hck : FOk ⟨num, kind, n, bs⟩) (ys : List Int) (hy : xs ++ fby ⟨num, kind, n, bs⟩ = ys) (w : World) (hb : base ≤ w.heap.size) (ho : Rw base w v xs) (hn : xs.length ≤ 100000000) :
  Calls Tryz.prog 33 #[v, .int .i64 num, .int .i64 kind, .int .u64 n, .string S] w fun e w' => ∃ v', e = .returned v' ∧ Rw base w' v' ys ∧ w.grownBy w' v.ownBlock := by
 refine (rtell_any base v xs.length xs ⟨num, kind, n, bs⟩ S hS hck w hb ho hn).mono ?_; rintro e w' ⟨v', rfl, h1, h2⟩; refine ⟨v', rfl, ?_, h2⟩; subst hy; unfold Rw; rw [List.length_append]; exact h1
set_option maxHeartbeats 25600000 in
theorem rlayer_any (nm : ByteArray) (fs : List Ft) (fa : Option Addr) (fc : Nat) (hE : lyE [] (nm, fs.map Ft.core) = 0) (hF : LyC.Few (nm, fs.map Ft.core)) (hz : ∀ f ∈ fs, f.Sz) (w : World) (hr : Rd w fa (fts fs)) (hok : ∀ f ∈ fs, f.Ok w) :
  Calls Tryz.prog 34 #[.agg #[.string nm, .slice fa fs.length fc]] w fun e w' => e = .returned (.string (strOfNums (lyB (nm, fs.map Ft.core)))) ∧ Below w.heap.size w w' := by
 have HP := Lib.hid (layP nm (fs.map Ft.core) hE hF); have HR := Lib.hid hr; have HOK := Lib.hid hok; have HZ := Lib.hid hz; have HML : Hid ((fs.map Ft.core).length = fs.length) := Lib.hid (List.length_map _); have HCE : Hid (∀ k (hk : k < fs.length) (hk2 : k < (fs.map Ft.core).length), (fs.map Ft.core)[k] = fs[k].core) := Lib.hid (fun k hk hk2 => List.getElem_map _); generalize fs.map Ft.core = C at *; obtain ⟨M, hM⟩ : ∃ M, fs.length = M := ⟨_, rfl⟩; have HM := Lib.hid hM; have hM6 : M ≤ 6 := by rw [← hM, ← HML.out]; exact HP.out.len
 rw [hM] at HML ⊢; clear hE hF hr hok hz hM; have hzt : (Tryz.prog.info? 148).map (fun i => i.zero) = some (some (.agg #[.slice none 0 0, .slice none 0 0])) := by kernel_rfl
 have hzf : (Tryz.prog.info? 63).map (fun i => i.zero) = some (some (.agg #[.int .i64 0, .int .i64 0, .slice none 0 0, .slice none 0 0])) := by kernel_rfl
 go_enter Tryz.func34, Tryz.ntmps34
 have kL := BkT.lit w w.heap.size [.string nm, .slice fa M fc] 58 rfl; have hb0 := Below.new w (.cells #[.string nm, .slice fa M fc] 58)
 go_wp2_with fail
 generalize w.alloc (.cells #[.string nm, .slice fa M fc] 58) = w0 at *; obtain ⟨B, hB⟩ : ∃ B, w.heap.size = B := ⟨_, rfl⟩; have HBE := Lib.hid hB; rw [hB] at kL ⊢; have hwB : w.heap.size ≤ B := by omega
 have hs0 : w.heap.size ≤ w0.heap.size := hb0.size; refine (rtell_app w.heap.size (.slice none 0 0) [] 15 0 2 [] ⟨#[]⟩ rfl (FOk.num (by omega) (by omega)) (fby ⟨15, 0, 2, []⟩) rfl w0 hs0 (World.ownsRow_nil _ _ _ _) (by simp)).mono ?_; rintro e w1 ⟨v1, rfl, ho1, hg1⟩; have hb1 := hb0.grown hg1 hs0 (fun j hj => by cases hj); have kL1 := kL.grown hg1 (by simp [Value.ownBlock]); have hl15 : (fby (⟨15, 0, 2, []⟩ : Fld)).length ≤ 20 := by
  have := (FOk.num (k := 15) (n := 2) (by omega) (by omega)).len
  simpa using this
 have l0 := kL1.blk.cell 0 rfl; clear kL hb0 hg1 hB
 go_wp2_with fail
 refine (rtell_app w.heap.size v1 (fby ⟨15, 0, 2, []⟩) 1 2 0 (bnums nm) nm (strOfNums_bnums nm) HP.out.name (pX nm C 0) (pX_zero nm C) w1 hb1.size ho1 (by omega)).mono ?_; rintro e w2 ⟨v2, rfl, ho2, hg2⟩; have hb2 := hb1.grown hg2 hb1.size (fun j hj => (World.ownsRow.lt ho1 j hj).1); have kL2 := kL1.grown hg2 (bkt_neA kL1 ho1 (by decide)); clear l0 kL1 hb1 hg2 ho1 hl15; have hx := Below.new w2 (.cells #[.slice none 0 0, .slice none 0 0] 148); have kT := BkT.lit w2 w2.heap.size [.slice none 0 0, .slice none 0 0] 148 rfl; have H2 := Lib.hid (⟨hb2.trans (hx.mono hb2.size), kL2.keep hx, ho2.below hx⟩ : Below w.heap.size w (w2.alloc (.cells #[.slice none 0 0, .slice none 0 0] 148)) ∧ BkT (w2.alloc (.cells #[.slice none 0 0, .slice none 0 0] 148)) B 58 [.string nm, .slice fa M fc] ∧ Rw w.heap.size (w2.alloc (.cells #[.slice none 0 0, .slice none 0 0] 148)) v2 (pX nm C 0)); have hBT : B < w2.heap.size := kL2.lt; go_wp2; obtain ⟨Tb, hTb⟩ : ∃ p, w2.heap.size = p := ⟨_, rfl⟩; rw [hTb] at kT hBT ⊢; clear hTb kL2 hb2 ho2 hx; have HKT := Lib.hid kT; generalize w2.alloc (.cells #[.slice none 0 0, .slice none 0 0] 148) = w3 at *; clear kT
 go_loopw [3, 5] (fun o i wr => ∃ (k : Nat) (kp vp : Option Addr) (kq vq : Nat), k ≤ M ∧ i = .int .i64 k ∧ Hid (Rw w.heap.size wr o (pX nm C k)) ∧ Hid (BkT wr Tb 148 [.slice kp (ftsT ([], []) (C.take k)).1.length kq, .slice vp (ftsT ([], []) (C.take k)).2.length vq]) ∧ Hid (KyT w.heap.size wr kp kq (ftsT ([], []) (C.take k)).1) ∧ Hid (VyT w.heap.size wr vp vq (ftsT ([], []) (C.take k)).2) ∧ Hid (BkT wr B 58 [.string nm, .slice fa M fc]) ∧ Hid (Below w.heap.size w wr)) (fun _ i _ => M - (intOf i).toNat)
 case atStart => exact ⟨0, none, none, 0, 0, by omega, rfl, Lib.hid H2.out.2.2, HKT, Lib.hid (KyT.nil _ _), Lib.hid (VyT.nil _ _), Lib.hid H2.out.2.1, Lib.hid H2.out.1⟩
 case round =>
  clear H2 HKT; obtain ⟨k, kp, vp, kq, vq, hk, rfl, HO, HT, HK, HV, HL, HB⟩ := hrel; obtain ⟨Wn, hWn⟩ : ∃ W, W = wr := ⟨_, rfl⟩; subst hWn; have l0 := HL.out.blk.cell 0 rfl; have l1 := HL.out.blk.cell 1 rfl
  by_cases h1 : k < M
  ·have h1' : (k : Int) < (M : Int) := by omega
   have hkl : k < fs.length := by rw [HM.out]; exact h1
   have hkC : k < C.length := by rw [HML.out]; exact h1
   obtain ⟨b1, o1, rfl, hbb, c0, c1, c2, c3⟩ := (HR.out.keep HB.out).ft k hkl; have hce := HCE.out k hkl hkC; have hfo := HOK.out fs[k] (List.getElem_mem hkl); have hfz := HZ.out fs[k] (List.getElem_mem hkl); have hPS := pX_snoc nm C k hkC; have hTS : ftsT ([], []) (C.take (k + 1)) = addL (ftsT ([], []) (C.take k)) C[k].2.2.1 := by rw [List.take_succ_eq_append_getElem hkC, ftsT_snoc]
   obtain ⟨hF1, hF2, hF3⟩ := HP.out.feat k hkC; obtain ⟨hC1, hC2⟩ := HP.out.fch k hkC; have hpx := HP.out.px k (by omega); obtain ⟨ht1, ht2⟩ := HP.out.tab k; rw [hce] at hPS hTS hF1 hF2 hF3 hC1 hC2; generalize fs[k] = ff at *; clear hce; obtain ⟨id, kd, ls, aa, ac, rs, ra, rc⟩ := ff; obtain ⟨⟨g1, g2, g3, g4⟩, ⟨g5, g6, g7, g8⟩, g9⟩ := hfo; obtain ⟨s1, s2, s3, s4⟩ := hfz; dsimp only [Ft.aval, Ft.rval, Ft.core, Ft.rings] at *; obtain ⟨⟨hid0, hid1⟩, -, hgeo⟩ := fchkF_zero hC1; obtain ⟨hkd, -, hcl⟩ := checkE_zero hgeo; obtain ⟨e1, e2, e3, e4⟩ := geo_ok _ hgeo hC2; obtain ⟨t1, t2, t3⟩ := tag_ok (ftsT ([], []) (C.take k)) _ hC2 ⟨ht1, ht2⟩; dsimp only [geoB, tagB] at *; have hC3 : rs.length ≤ 10 := by have := hC2.1; simpa using this
   have hC4 : ls.length ≤ 10 := hC2.2.2.1; have HF3 : Hid (FOk ⟨3, 0, kd, []⟩ ∧ FOk ⟨4, 2, 0, vbs (numsF kd ⟨0, 0⟩ (rs.map (·.l)))⟩ ∧ (0 < id → FOk ⟨1, 0, id, []⟩) ∧ (ls.length ≠ 0 → FOk ⟨2, 2, 0, vbs (tagL (ftsT ([], []) (C.take k)) ls)⟩)) := Lib.hid ⟨FOk.num (by omega) (by omega), (hF3 _ (by simp [ftFlds, geoB])).1, fun h => FOk.num (by omega) (by omega), fun h => (hF3 _ (by simp [ftFlds, tagB, h])).1⟩; have HFB : Hid (ftB (ftsT ([], []) (C.take k)) (id, kd, ls, rs.map (·.l)) = (((if 0 < id then fby ⟨1, 0, id, []⟩ else []) ++ (if ls.length = 0 then [] else fby ⟨2, 2, 0, vbs (tagL (ftsT ([], []) (C.take k)) ls)⟩)) ++ fby ⟨3, 0, kd, []⟩) ++ fby ⟨4, 2, 0, vbs (numsF kd ⟨0, 0⟩ (rs.map (·.l)))⟩) := Lib.hid (by
    unfold ftB ftFlds tagB geoB; rw [List.flatMap_append, List.flatMap_append]
    by_cases q1 : 0 < id <;> by_cases q2 : ls.length = 0 <;> simp [q1, q2])
   have HADD := Lib.hid (fun W (h : Below Wn.heap.size Wn W) (h2 : Below w.heap.size w W) => radd_any (ftsT ([], []) (C.take k)) kp vp kq vq aa ac ls w.heap.size (by omega) (by omega) (by omega) W h2.size (HK.out.below h) (HV.out.below h) (g1.keep h2)); rw [← hTS] at HADD; have HNUM := Lib.hid (fun W (h : Below w.heap.size w W) => rnums_any kd hkd ra rc rs (by omega) s4 (fun x hx => hcl x.l (List.mem_map_of_mem hx)) W (by rw [← rcs_map]; exact g5.keep h) (fun x hx => (g9 x hx).keep h) _ rfl); have HPS := Lib.hid hPS; have HF1 := Lib.hid hF1; have hkd2 : 0 ≤ kd ∧ kd ≤ 3 := by omega
   have hkd3 := hkd2.1; have hkd4 := hkd2.2; have HE1 := Lib.hid e1; have HT1 := Lib.hid t1; have hpl : (pX nm C k).length ≤ 300000 := hpx; have hgl0 := tagL_len ls (ftsT ([], []) (C.take k)); obtain ⟨GL, hGL⟩ : ∃ G, tagL (ftsT ([], []) (C.take k)) ls = G := ⟨_, rfl⟩; obtain ⟨NL, hNL⟩ : ∃ G, numsF kd ⟨0, 0⟩ (rs.map (·.l)) = G := ⟨_, rfl⟩; obtain ⟨FB, hFB⟩ : ∃ G, ftB (ftsT ([], []) (C.take k)) (id, kd, ls, rs.map (·.l)) = G := ⟨_, rfl⟩; rw [hGL] at HF3 HFB HADD HT1 hgl0; rw [hNL] at HF3 HFB HNUM HE1 e2; rw [hFB] at HFB HPS HF1 hF2; obtain ⟨T2, hT2⟩ : ∃ T, ftsT ([], []) (C.take (k + 1)) = T := ⟨_, rfl⟩; rw [hT2] at HADD; have HT2 := Lib.hid hT2; clear hPS hF1 hTS hGL hNL hFB hT2 hF3 hC1 hC2 hgeo hcl e1 e3 e4 t1 t2 t3 s1 s2 s3 s4 g1 g2 g5 g6 g9 hkd hkd2 hpx HK HV; obtain ⟨nl, hnl⟩ : ∃ n, ls.length = n := ⟨_, rfl⟩; obtain ⟨nr, hnr⟩ : ∃ n, rs.length = n := ⟨_, rfl⟩; rw [hnl] at c2 HADD HF3 HFB hgl0 hC4; rw [hnr] at c3 HNUM hC3; clear hnl hnr; have hxF := Below.new Wn (.cells #[.int .i64 id, .int .i64 kd, .slice aa nl ac, .slice ra nr rc] 63); have kF := BkT.lit Wn Wn.heap.size [.int .i64 id, .int .i64 kd, .slice aa nl ac, .slice ra nr rc] 63 rfl; have r2 := kF.blk.cell 2 rfl; have kTb := HT.out.keep hxF; have t0 := kTb.blk.cell 0 rfl; have t1 := kTb.blk.cell 1 rfl; have hBn := HB.out.trans (hxF.mono HB.out.size); have hTlt := HT.out.lt; have hTw : w.heap.size ≤ Tb := by omega
   go_wp2_with fail
   refine (HADD.out _ hxF hBn).mono ?_; rintro e W2 ⟨ka2, va2, kc2, vc2, vt, rfl, hk2, hv2, hot, hb2⟩; obtain ⟨tp, tc, rfl, -, -, -, hrt, -⟩ := hot.form; obtain ⟨m1, hm1⟩ : ∃ n, T2.1.length = n := ⟨_, rfl⟩; obtain ⟨m2, hm2⟩ : ∃ n, T2.2.length = n := ⟨_, rfl⟩; obtain ⟨tn, htn⟩ : ∃ n, GL.length = n := ⟨_, rfl⟩; rw [hm1, hm2, htn]; rw [htn] at hgl0; have htn20 : tn ≤ 20 := by omega
   have HGL0 := Lib.hid hgl0; clear hgl0; have HM1 := Lib.hid hm1; have HM2 := Lib.hid hm2; have HTN := Lib.hid htn; clear hm1 hm2 htn r2 t0 t1 kTb; have hx2 := hxF.trans (hb2.mono hxF.size); have hy := Below.new W2 (.cells #[.slice ka2 m1 kc2, .slice va2 m2 vc2] 148); have hx3 := hx2.trans (hy.mono hx2.size); have kT3 := HT.out.keep hx3; have kF3 := (kF.keep hb2).keep hy; have tf := kT3.blk.free; have t0 := kT3.blk.cell 0 rfl; have t1 := kT3.blk.cell 1 rfl; have k73 := BkT.lit W2 W2.heap.size [.slice ka2 m1 kc2, .slice va2 m2 vc2] 148 rfl; have z0 := k73.blk.cell 0 rfl; have z1 := k73.blk.cell 1 rfl; have g1 := grown_set (W2.alloc (.cells #[.slice ka2 m1 kc2, .slice va2 m2 vc2] 148)) Tb 0 (.slice ka2 m1 kc2); have g2 := grown_set ((W2.alloc (.cells #[.slice ka2 m1 kc2, .slice va2 m2 vc2] 148)).setCell ⟨Tb, 0, none⟩ (.slice ka2 m1 kc2)) Tb 1 (.slice va2 m2 vc2); have kT4 := kT3.set 0 (.slice ka2 m1 kc2); have kT5 := kT4.set 1 (.slice va2 m2 vc2); simp only [List.set_cons_zero, List.set_cons_succ] at kT5; have HT4 := Lib.hid kT5; have HK4 := Lib.hid (((hk2.below hy).gr g1 (Off.typA kT3 (by decide))).gr g2 (Off.typA kT4 (by decide))); have HV4 := Lib.hid (((hv2.below hy).gr g1 (Off.typA kT3 (by decide))).gr g2 (Off.typA kT4 (by decide))); have HO4 := Lib.hid (owns_grA (owns_grA (HO.out.below hx3) g1 kT3 (by decide)) g2 kT4 (by decide)); have HL4 := Lib.hid (((HL.out.keep hx3).grown g1 (by simp; omega)).grown g2 (by simp; omega)); have HF4 := Lib.hid ((kF3.grown g1 (by simp; omega)).grown g2 (by simp; omega))
   have HB4 := Lib.hid (((HB.out.trans (hx3.mono HB.out.size)).set_at (b := Tb) (o := 0) hTw (.slice ka2 m1 kc2)).set_at (b := Tb) (o := 1) hTw (.slice va2 m2 vc2)); have HRT := Lib.hid (Rd.of_owns (owns_grA (owns_grA (hot.below hy) g1 kT3 (by decide)) g2 kT4 (by decide)))
   by_cases hid : 0 < id
   ·by_cases hls : nl = 0
    ·have hb8 := Below.refl (((W2.alloc (.cells #[.slice ka2 m1 kc2, .slice va2 m2 vc2] 148)).setCell ⟨Tb, 0, none⟩ (.slice ka2 m1 kc2)).setCell ⟨Tb, 1, none⟩ (.slice va2 m2 vc2)).heap.size (((W2.alloc (.cells #[.slice ka2 m1 kc2, .slice va2 m2 vc2] 148)).setCell ⟨Tb, 0, none⟩ (.slice ka2 m1 kc2)).setCell ⟨Tb, 1, none⟩ (.slice va2 m2 vc2)); have h8 : Rw (((W2.alloc (.cells #[.slice ka2 m1 kc2, .slice va2 m2 vc2] 148)).setCell ⟨Tb, 0, none⟩ (.slice ka2 m1 kc2)).setCell ⟨Tb, 1, none⟩ (.slice va2 m2 vc2)).heap.size (((W2.alloc (.cells #[.slice ka2 m1 kc2, .slice va2 m2 vc2] 148)).setCell ⟨Tb, 0, none⟩ (.slice ka2 m1 kc2)).setCell ⟨Tb, 1, none⟩ (.slice va2 m2 vc2)) (.slice none 0 0) [] := World.ownsRow_nil _ _ _ _; have f0 := HF4.out.blk.cell 0 rfl; have f1 := HF4.out.blk.cell 1 rfl; clear g1 g2 kF3 hk2 hv2 hot hrt hy hx2 hx3 hb2 hBn hxF kF HT HO HL HB HADD; have hfl := (HF3.out.2.2.1 (by omega)).len; have hid3 : (0 : Int) < id := hid
     go_wp2_with fail
     generalize ((W2.alloc (.cells #[.slice ka2 m1 kc2, .slice va2 m2 vc2] 148)).setCell ⟨Tb, 0, none⟩ (.slice ka2 m1 kc2)).setCell ⟨Tb, 1, none⟩ (.slice va2 m2 vc2) = W4 at *; refine (rtell_app W4.heap.size (.slice none 0 0) [] 1 0 id [] ⟨#[]⟩ (rfl) (HF3.out.2.2.1 (by omega)) (fby ⟨1, 0, id, []⟩) (rfl) W4 hb8.size h8 (by simp)).mono ?_; rintro e W5 ⟨v5, rfl, h9, hg9⟩; have hb9 := hb8.grown hg9 hb8.size (fun j hj => (World.ownsRow.lt h8 j hj).1); have hid0l : (fby (⟨1, 0, id, []⟩ : Fld)).length ≤ 20 := by simpa using hfl
     clear hb8 h8 f0 f1 hfl; have hb8 := hb9; have h8 := h9; clear hb9 h9 hg9; have htn0 : ¬ (0 : Int) < (tn : Int) := by have := HGL0.out; omega
     have HFE : Hid (FB = (((fby ⟨1, 0, id, []⟩) ++ fby ⟨3, 0, kd, []⟩) ++ fby ⟨4, 2, 0, vbs NL⟩)) := Lib.hid (by rw [HFB.out, if_pos (by omega), if_pos (by omega)]; try simp); have k8 := HF4.out.keep hb8; have f1 := k8.blk.cell 1 rfl; have hkw : IntKind.u64.wrap kd = kd := by rw [IntKind.wrap_u64]; omega
     have hkl := HF3.out.1.len; have hkl2 : (fby (⟨3, 0, kd, []⟩ : Fld)).length ≤ 20 := by simpa using hkl
     clear hkl
     go_wp2_with fail
     refine (rtell_app W4.heap.size (v5) (fby ⟨1, 0, id, []⟩) 3 0 kd [] ⟨#[]⟩ (rfl) (HF3.out.1) ((fby ⟨1, 0, id, []⟩) ++ fby ⟨3, 0, kd, []⟩) (rfl) W5 hb8.size h8 (by omega)).mono ?_; rintro e W8 ⟨v8, rfl, h9, hg9⟩; have hb9 := hb8.grown hg9 hb8.size (fun j hj => (World.ownsRow.lt h8 j hj).1); clear hb8 h8 f1 hg9; have hb8 := hb9; have h8 := h9; clear hb9 h9; have k8 := HF4.out.keep hb8; have f1 := k8.blk.cell 1 rfl; have f3 := k8.blk.cell 3 rfl; have hw8 := HB4.out.trans (hb8.mono HB4.out.size)
     go_wp2_with fail
     refine (HNUM.out W8 hw8).mono ?_; rintro e W9 ⟨vn, rfl, hon, hbn⟩; obtain ⟨pn, cn, rfl, -, -, -, hrn, -⟩ := hon.form; have hb10 := hb8.trans (hbn.mono hb8.size); have h10 := h8.below hbn; have hrw := rrow24_any pn cn NL (by omega) HE1.out W9 hrn; have HRW := Lib.hid hrw; clear hrw hon hbn hb8 h8 f1 f3 k8 hw8 HNUM
     go_wp2_with fail
     refine HRW.out.mono ?_; rintro e W10 ⟨rfl, hbr⟩; have hb8 := hb10.trans (hbr.mono hb10.size); have h8 := h10.below hbr; clear hb10 h10 HRW hbr hrn
     go_wp2_with fail
     refine (rtell_app W4.heap.size (v8) ((fby ⟨1, 0, id, []⟩) ++ fby ⟨3, 0, kd, []⟩) 4 2 0 (vbs NL) (strOfNums (vbs NL)) (rfl) (HF3.out.2.1) FB (HFE.out.symm) W10 hb8.size h8 (by simp only [List.length_append, List.length_nil]; omega)).mono ?_; rintro e W11 ⟨v11, rfl, h9, hg9⟩; have hb9 := hb8.grown hg9 hb8.size (fun j hj => (World.ownsRow.lt h8 j hj).1); clear hb8 h8 hg9; have hb8 := hb9; have h8 := h9; clear hb9 h9; obtain ⟨p11, c11, rfl, -, -, -, hr11, -⟩ := World.ownsRow.form h8; have hcv := run_convert_rd (P := Tryz.prog) W11 31 5 9 Tryz.underlying31 Tryz.underlying5 Tryz.underlying9 p11 c11 FB hr11; have hO8 := (HO4.out : Rw w.heap.size W4 u3 (pX nm C k)).below hb8; have HB8 := Lib.hid (HB4.out.trans (hb8.mono HB4.out.size)); have HT8 := Lib.hid (HT4.out.keep hb8); have HK8 := Lib.hid (HK4.out.below hb8); have HV8 := Lib.hid (HV4.out.below hb8); have HL8 := Lib.hid (HL4.out.keep hb8); have hw8 := HB8.out.size; clear h8 hr11 hb8 HB4 HT4 HK4 HV4 HL4 HO4 HF4 HRT
     go_wp2_with fail
     refine (rtell_app w.heap.size u3 (pX nm C k) 2 2 0 FB (strOfNums FB) rfl HF1.out (pX nm C (k + 1)) HPS.out W11 hw8 hO8 (by omega)).mono ?_; rintro e W12 ⟨v12, rfl, ho12, hg12⟩; have hbf := HB8.out.grown hg12 hw8 (fun j hj => (World.ownsRow.lt hO8 j hj).1); have hTf := HT8.out.grown hg12 (bkt_neA HT8.out hO8 (by decide)); have hLf := HL8.out.grown hg12 (bkt_neA HL8.out hO8 (by decide)); have hKf := HK8.out.gr hg12 (Off.row hO8 (by decide)); have hVf := HV8.out.gr hg12 (Off.row hO8 (by decide)); clear hcv hO8 hg12 HB8 HT8 HK8 HV8 HL8; go_wp2; go_roundw
     case rel =>
      refine ⟨k + 1, ka2, va2, kc2, vc2, by omega, by go_num, Lib.hid ho12, Lib.hid ?_, Lib.hid ?_, Lib.hid ?_, Lib.hid hLf, Lib.hid hbf⟩
      ·rw [HT2.out, HM1.out, HM2.out]; exact hTf
      ·rw [HT2.out]; exact hKf
      ·rw [HT2.out]; exact hVf
     case measure => simp [intOf]; omega
    ·have hb8 := Below.refl (((W2.alloc (.cells #[.slice ka2 m1 kc2, .slice va2 m2 vc2] 148)).setCell ⟨Tb, 0, none⟩ (.slice ka2 m1 kc2)).setCell ⟨Tb, 1, none⟩ (.slice va2 m2 vc2)).heap.size (((W2.alloc (.cells #[.slice ka2 m1 kc2, .slice va2 m2 vc2] 148)).setCell ⟨Tb, 0, none⟩ (.slice ka2 m1 kc2)).setCell ⟨Tb, 1, none⟩ (.slice va2 m2 vc2)); have h8 : Rw (((W2.alloc (.cells #[.slice ka2 m1 kc2, .slice va2 m2 vc2] 148)).setCell ⟨Tb, 0, none⟩ (.slice ka2 m1 kc2)).setCell ⟨Tb, 1, none⟩ (.slice va2 m2 vc2)).heap.size (((W2.alloc (.cells #[.slice ka2 m1 kc2, .slice va2 m2 vc2] 148)).setCell ⟨Tb, 0, none⟩ (.slice ka2 m1 kc2)).setCell ⟨Tb, 1, none⟩ (.slice va2 m2 vc2)) (.slice none 0 0) [] := World.ownsRow_nil _ _ _ _; have f0 := HF4.out.blk.cell 0 rfl; have f1 := HF4.out.blk.cell 1 rfl; clear g1 g2 kF3 hk2 hv2 hot hrt hy hx2 hx3 hb2 hBn hxF kF HT HO HL HB HADD; have hfl := (HF3.out.2.2.1 (by omega)).len; have hid3 : (0 : Int) < id := hid
     go_wp2_with fail
     generalize ((W2.alloc (.cells #[.slice ka2 m1 kc2, .slice va2 m2 vc2] 148)).setCell ⟨Tb, 0, none⟩ (.slice ka2 m1 kc2)).setCell ⟨Tb, 1, none⟩ (.slice va2 m2 vc2) = W4 at *; refine (rtell_app W4.heap.size (.slice none 0 0) [] 1 0 id [] ⟨#[]⟩ (rfl) (HF3.out.2.2.1 (by omega)) (fby ⟨1, 0, id, []⟩) (rfl) W4 hb8.size h8 (by simp)).mono ?_; rintro e W5 ⟨v5, rfl, h9, hg9⟩; have hb9 := hb8.grown hg9 hb8.size (fun j hj => (World.ownsRow.lt h8 j hj).1); have hid0l : (fby (⟨1, 0, id, []⟩ : Fld)).length ≤ 20 := by simpa using hfl
     clear hb8 h8 f0 f1 hfl; have hb8 := hb9; have h8 := h9; clear hb9 h9 hg9; have htn0 : (0 : Int) < (tn : Int) := by have := HGL0.out; omega
     have htn0n : 0 < tn := by omega
     have htv : (vbs GL).length ≤ 200 := by
      have := vbs_len GL (fun x hx => by have := (HT1.out x hx).2; omega); rw [HTN.out] at this; omega
     go_wp2
     go_loopw [10, 11] (fun o i wq => ∃ j : Nat, j ≤ tn ∧ i = .int .i64 j ∧ Hid (wq.ownsRow W5.heap.size 70 1 o j ((GL.take j).map (Value.int .u64))) ∧ Hid (Below W5.heap.size W5 wq)) (fun _ i _ => tn - (intOf i).toNat)
     case atStart => exact ⟨0, by omega, rfl, Lib.hid (World.ownsRow_nil _ _ _ _), Lib.hid (Below.refl _ _)⟩
     case round =>
      obtain ⟨j, hj, rfl, HQ, HBQ⟩ := hrel; have hbq := HBQ.out
      by_cases h2 : j < tn
      ·have h2' : (j : Int) < (tn : Int) := by omega
       have hjl : j < GL.length := by rw [HTN.out]; exact h2
       obtain ⟨b3, o3, rfl, d0, -⟩ := (HRT.out.keep (hb8.trans (hbq.mono hb8.size))).at (i := j) (v := .int .i64 GL[j]) (by simp [hjl]); have hxr := HT1.out GL[j] (List.getElem_mem hjl); have HSN : Hid ((GL.take (j + 1)).map (Value.int .u64) = (GL.take j).map (Value.int .u64) ++ [.int .u64 GL[j]]) := Lib.hid (by rw [List.take_succ_eq_append_getElem hjl, List.map_append]; rfl); generalize GL[j] = x at *; have hxa := hxr.1; have hxb := hxr.2; have hxw : IntKind.u64.wrap x = x := by rw [IntKind.wrap_u64]; omega
       clear hxr; have hy2 := Below.new wr (.cells #[.int .u64 x] 70)
       go_wp2_with (at_builtin; go_must (refine wpList_app rfl (.tmp 56) (.tmp 62) 151 rfl W5.heap.size 70 (.int .u64 0) 1 8 Tryz.underlying151 Tryz.infoU64 rfl (by decide) u10 j ((GL.take j).map (Value.int .u64)) rfl (HQ.out.below hy2) (some ⟨wr.heap.size, 0, none⟩) 1 1 [.int .u64 x] rfl (fun h => by cases h) (Rd.lit _ _ [.int .u64 x] _ rfl) rfl (by simp [Value.oneCell']) (by omega) (by decide) (Nat.le_trans hbq.size hy2.size) ?_); intro v6 W6 ho6 hg6)
       have hb6 := (hbq.trans (hy2.mono hbq.size)).grown hg6 (Nat.le_trans hbq.size hy2.size) (fun g hg => ((HQ.out.below hy2).lt g hg).1); have HQ6 : Hid (W6.ownsRow W5.heap.size 70 1 v6 (j + 1) ((GL.take (j + 1)).map (Value.int .u64))) := Lib.hid (by rw [HSN.out]; exact ho6); clear ho6 hg6 hy2 d0; go_roundw
       case rel => exact ⟨j + 1, by omega, by go_num, HQ6, Lib.hid hb6⟩
       case measure => simp [intOf]; omega
      ·have h2' : ¬ (j : Int) < (tn : Int) := by omega
       obtain rfl : j = tn := by omega
       have hq := HQ.out; rw [List.take_of_length_le (by rw [HTN.out]; omega)] at hq; obtain ⟨pq, cq, rfl, -, -, -, hrq, -⟩ := hq.form; have hbx := hb8.trans (hbq.mono hb8.size); have h8x := h8.below hbq; clear HQ hq; have hrw := rrow24_any pq cq GL (by rw [HTN.out]; omega) (fun x hx => by have := HT1.out x hx; omega) wr hrq; rw [HTN.out] at hrw; have HRW := Lib.hid hrw; clear hrw hrq hbq HBQ
       go_wp2_with fail
       refine HRW.out.mono ?_; rintro e W6 ⟨rfl, hbr⟩; have hby := hbx.trans (hbr.mono hbx.size); have h8y := h8x.below hbr; clear hbx hbr h8x HRW hb8 h8
       go_wp2_with fail
       have HFE : Hid (FB = ((((fby ⟨1, 0, id, []⟩) ++ fby ⟨2, 2, 0, vbs GL⟩) ++ fby ⟨3, 0, kd, []⟩) ++ fby ⟨4, 2, 0, vbs NL⟩)) := Lib.hid (by rw [HFB.out, if_pos (by omega), if_neg (by omega)]; try simp); refine (rtell_app W4.heap.size (v5) (fby ⟨1, 0, id, []⟩) 2 2 0 (vbs GL) (strOfNums (vbs GL)) (rfl) (HF3.out.2.2.2 (by omega)) ((fby ⟨1, 0, id, []⟩) ++ fby ⟨2, 2, 0, vbs GL⟩) (rfl) W6 hby.size h8y (by omega)).mono ?_; rintro e W7 ⟨v7, rfl, h9, hg9⟩; have hb9 := hby.grown hg9 hby.size (fun j hj => (World.ownsRow.lt h8y j hj).1); have htl := (HF3.out.2.2.2 (by omega)).len; have htl2 : (fby (⟨2, 2, 0, vbs GL⟩ : Fld)).length ≤ 300 := by
        dsimp only at htl; omega
       clear hby h8y; have hb8 := hb9; have h8 := h9; clear hb9 h9 hg9 htl; have k8 := HF4.out.keep hb8; have f1 := k8.blk.cell 1 rfl; have hkw : IntKind.u64.wrap kd = kd := by rw [IntKind.wrap_u64]; omega
       have hkl := HF3.out.1.len; have hkl2 : (fby (⟨3, 0, kd, []⟩ : Fld)).length ≤ 20 := by simpa using hkl
       clear hkl
       go_wp2_with fail
       refine (rtell_app W4.heap.size (v7) ((fby ⟨1, 0, id, []⟩) ++ fby ⟨2, 2, 0, vbs GL⟩) 3 0 kd [] ⟨#[]⟩ (rfl) (HF3.out.1) (((fby ⟨1, 0, id, []⟩) ++ fby ⟨2, 2, 0, vbs GL⟩) ++ fby ⟨3, 0, kd, []⟩) (rfl) W7 hb8.size h8 (by simp only [List.length_append, List.length_nil]; omega)).mono ?_; rintro e W8 ⟨v8, rfl, h9, hg9⟩; have hb9 := hb8.grown hg9 hb8.size (fun j hj => (World.ownsRow.lt h8 j hj).1); clear hb8 h8 f1 hg9; have hb8 := hb9; have h8 := h9; clear hb9 h9; have k8 := HF4.out.keep hb8; have f1 := k8.blk.cell 1 rfl; have f3 := k8.blk.cell 3 rfl; have hw8 := HB4.out.trans (hb8.mono HB4.out.size)
       go_wp2_with fail
       refine (HNUM.out W8 hw8).mono ?_; rintro e W9 ⟨vn, rfl, hon, hbn⟩; obtain ⟨pn, cn, rfl, -, -, -, hrn, -⟩ := hon.form; have hb10 := hb8.trans (hbn.mono hb8.size); have h10 := h8.below hbn; have hrw := rrow24_any pn cn NL (by omega) HE1.out W9 hrn; have HRW := Lib.hid hrw; clear hrw hon hbn hb8 h8 f1 f3 k8 hw8 HNUM
       go_wp2_with fail
       refine HRW.out.mono ?_; rintro e W10 ⟨rfl, hbr⟩; have hb8 := hb10.trans (hbr.mono hb10.size); have h8 := h10.below hbr; clear hb10 h10 HRW hbr hrn
       go_wp2_with fail
       refine (rtell_app W4.heap.size (v8) (((fby ⟨1, 0, id, []⟩) ++ fby ⟨2, 2, 0, vbs GL⟩) ++ fby ⟨3, 0, kd, []⟩) 4 2 0 (vbs NL) (strOfNums (vbs NL)) (rfl) (HF3.out.2.1) FB (HFE.out.symm) W10 hb8.size h8 (by simp only [List.length_append, List.length_nil]; omega)).mono ?_; rintro e W11 ⟨v11, rfl, h9, hg9⟩; have hb9 := hb8.grown hg9 hb8.size (fun j hj => (World.ownsRow.lt h8 j hj).1); clear hb8 h8 hg9; have hb8 := hb9; have h8 := h9; clear hb9 h9; obtain ⟨p11, c11, rfl, -, -, -, hr11, -⟩ := World.ownsRow.form h8; have hcv := run_convert_rd (P := Tryz.prog) W11 31 5 9 Tryz.underlying31 Tryz.underlying5 Tryz.underlying9 p11 c11 FB hr11; have hO8 := (HO4.out : Rw w.heap.size W4 u3 (pX nm C k)).below hb8; have HB8 := Lib.hid (HB4.out.trans (hb8.mono HB4.out.size)); have HT8 := Lib.hid (HT4.out.keep hb8); have HK8 := Lib.hid (HK4.out.below hb8); have HV8 := Lib.hid (HV4.out.below hb8); have HL8 := Lib.hid (HL4.out.keep hb8); have hw8 := HB8.out.size; clear h8 hr11 hb8 HB4 HT4 HK4 HV4 HL4 HO4 HF4 HRT
       go_wp2_with fail
       refine (rtell_app w.heap.size u3 (pX nm C k) 2 2 0 FB (strOfNums FB) rfl HF1.out (pX nm C (k + 1)) HPS.out W11 hw8 hO8 (by omega)).mono ?_; rintro e W12 ⟨v12, rfl, ho12, hg12⟩; have hbf := HB8.out.grown hg12 hw8 (fun j hj => (World.ownsRow.lt hO8 j hj).1); have hTf := HT8.out.grown hg12 (bkt_neA HT8.out hO8 (by decide)); have hLf := HL8.out.grown hg12 (bkt_neA HL8.out hO8 (by decide)); have hKf := HK8.out.gr hg12 (Off.row hO8 (by decide)); have hVf := HV8.out.gr hg12 (Off.row hO8 (by decide)); clear hcv hO8 hg12 HB8 HT8 HK8 HV8 HL8; go_wp2; go_roundw
       case rel =>
        refine ⟨k + 1, ka2, va2, kc2, vc2, by omega, by go_num, Lib.hid ho12, Lib.hid ?_, Lib.hid ?_, Lib.hid ?_, Lib.hid hLf, Lib.hid hbf⟩
        ·rw [HT2.out, HM1.out, HM2.out]; exact hTf
        ·rw [HT2.out]; exact hKf
        ·rw [HT2.out]; exact hVf
       case measure => simp [intOf]; omega
   ·by_cases hls : nl = 0
    ·have hb8 := Below.refl (((W2.alloc (.cells #[.slice ka2 m1 kc2, .slice va2 m2 vc2] 148)).setCell ⟨Tb, 0, none⟩ (.slice ka2 m1 kc2)).setCell ⟨Tb, 1, none⟩ (.slice va2 m2 vc2)).heap.size (((W2.alloc (.cells #[.slice ka2 m1 kc2, .slice va2 m2 vc2] 148)).setCell ⟨Tb, 0, none⟩ (.slice ka2 m1 kc2)).setCell ⟨Tb, 1, none⟩ (.slice va2 m2 vc2)); have h8 : Rw (((W2.alloc (.cells #[.slice ka2 m1 kc2, .slice va2 m2 vc2] 148)).setCell ⟨Tb, 0, none⟩ (.slice ka2 m1 kc2)).setCell ⟨Tb, 1, none⟩ (.slice va2 m2 vc2)).heap.size (((W2.alloc (.cells #[.slice ka2 m1 kc2, .slice va2 m2 vc2] 148)).setCell ⟨Tb, 0, none⟩ (.slice ka2 m1 kc2)).setCell ⟨Tb, 1, none⟩ (.slice va2 m2 vc2)) (.slice none 0 0) [] := World.ownsRow_nil _ _ _ _; have f0 := HF4.out.blk.cell 0 rfl; have f1 := HF4.out.blk.cell 1 rfl; clear g1 g2 kF3 hk2 hv2 hot hrt hy hx2 hx3 hb2 hBn hxF kF HT HO HL HB HADD; have hid3 : ¬ (0 : Int) < id := hid; have htn0 : ¬ (0 : Int) < (tn : Int) := by have := HGL0.out; omega
     have HFE : Hid (FB = (([] ++ fby ⟨3, 0, kd, []⟩) ++ fby ⟨4, 2, 0, vbs NL⟩)) := Lib.hid (by rw [HFB.out, if_neg (by omega), if_pos (by omega)]; try simp); have hkw : IntKind.u64.wrap kd = kd := by rw [IntKind.wrap_u64]; omega
     have hkl := HF3.out.1.len; have hkl2 : (fby (⟨3, 0, kd, []⟩ : Fld)).length ≤ 20 := by simpa using hkl
     clear hkl
     go_wp2_with fail
     generalize ((W2.alloc (.cells #[.slice ka2 m1 kc2, .slice va2 m2 vc2] 148)).setCell ⟨Tb, 0, none⟩ (.slice ka2 m1 kc2)).setCell ⟨Tb, 1, none⟩ (.slice va2 m2 vc2) = W4 at *; refine (rtell_app W4.heap.size ((.slice none 0 0)) [] 3 0 kd [] ⟨#[]⟩ (rfl) (HF3.out.1) ([] ++ fby ⟨3, 0, kd, []⟩) (rfl) W4 hb8.size h8 (by simp)).mono ?_; rintro e W8 ⟨v8, rfl, h9, hg9⟩; have hb9 := hb8.grown hg9 hb8.size (fun j hj => (World.ownsRow.lt h8 j hj).1); clear hb8 h8 f1 hg9; have hb8 := hb9; have h8 := h9; clear hb9 h9; have k8 := HF4.out.keep hb8; have f1 := k8.blk.cell 1 rfl; have f3 := k8.blk.cell 3 rfl; have hw8 := HB4.out.trans (hb8.mono HB4.out.size)
     go_wp2_with fail
     refine (HNUM.out W8 hw8).mono ?_; rintro e W9 ⟨vn, rfl, hon, hbn⟩; obtain ⟨pn, cn, rfl, -, -, -, hrn, -⟩ := hon.form; have hb10 := hb8.trans (hbn.mono hb8.size); have h10 := h8.below hbn; have hrw := rrow24_any pn cn NL (by omega) HE1.out W9 hrn; have HRW := Lib.hid hrw; clear hrw hon hbn hb8 h8 f1 f3 k8 hw8 HNUM
     go_wp2_with fail
     refine HRW.out.mono ?_; rintro e W10 ⟨rfl, hbr⟩; have hb8 := hb10.trans (hbr.mono hb10.size); have h8 := h10.below hbr; clear hb10 h10 HRW hbr hrn
     go_wp2_with fail
     refine (rtell_app W4.heap.size (v8) ([] ++ fby ⟨3, 0, kd, []⟩) 4 2 0 (vbs NL) (strOfNums (vbs NL)) (rfl) (HF3.out.2.1) FB (HFE.out.symm) W10 hb8.size h8 (by simp only [List.length_append, List.length_nil]; omega)).mono ?_; rintro e W11 ⟨v11, rfl, h9, hg9⟩; have hb9 := hb8.grown hg9 hb8.size (fun j hj => (World.ownsRow.lt h8 j hj).1); clear hb8 h8 hg9; have hb8 := hb9; have h8 := h9; clear hb9 h9; obtain ⟨p11, c11, rfl, -, -, -, hr11, -⟩ := World.ownsRow.form h8; have hcv := run_convert_rd (P := Tryz.prog) W11 31 5 9 Tryz.underlying31 Tryz.underlying5 Tryz.underlying9 p11 c11 FB hr11; have hO8 := (HO4.out : Rw w.heap.size W4 u3 (pX nm C k)).below hb8; have HB8 := Lib.hid (HB4.out.trans (hb8.mono HB4.out.size)); have HT8 := Lib.hid (HT4.out.keep hb8); have HK8 := Lib.hid (HK4.out.below hb8); have HV8 := Lib.hid (HV4.out.below hb8); have HL8 := Lib.hid (HL4.out.keep hb8); have hw8 := HB8.out.size; clear h8 hr11 hb8 HB4 HT4 HK4 HV4 HL4 HO4 HF4 HRT
     go_wp2_with fail
     refine (rtell_app w.heap.size u3 (pX nm C k) 2 2 0 FB (strOfNums FB) rfl HF1.out (pX nm C (k + 1)) HPS.out W11 hw8 hO8 (by omega)).mono ?_; rintro e W12 ⟨v12, rfl, ho12, hg12⟩; have hbf := HB8.out.grown hg12 hw8 (fun j hj => (World.ownsRow.lt hO8 j hj).1); have hTf := HT8.out.grown hg12 (bkt_neA HT8.out hO8 (by decide)); have hLf := HL8.out.grown hg12 (bkt_neA HL8.out hO8 (by decide)); have hKf := HK8.out.gr hg12 (Off.row hO8 (by decide)); have hVf := HV8.out.gr hg12 (Off.row hO8 (by decide)); clear hcv hO8 hg12 HB8 HT8 HK8 HV8 HL8; go_wp2; go_roundw
     case rel =>
      refine ⟨k + 1, ka2, va2, kc2, vc2, by omega, by go_num, Lib.hid ho12, Lib.hid ?_, Lib.hid ?_, Lib.hid ?_, Lib.hid hLf, Lib.hid hbf⟩
      ·rw [HT2.out, HM1.out, HM2.out]; exact hTf
      ·rw [HT2.out]; exact hKf
      ·rw [HT2.out]; exact hVf
     case measure => simp [intOf]; omega
    ·have hb8 := Below.refl (((W2.alloc (.cells #[.slice ka2 m1 kc2, .slice va2 m2 vc2] 148)).setCell ⟨Tb, 0, none⟩ (.slice ka2 m1 kc2)).setCell ⟨Tb, 1, none⟩ (.slice va2 m2 vc2)).heap.size (((W2.alloc (.cells #[.slice ka2 m1 kc2, .slice va2 m2 vc2] 148)).setCell ⟨Tb, 0, none⟩ (.slice ka2 m1 kc2)).setCell ⟨Tb, 1, none⟩ (.slice va2 m2 vc2)); have h8 : Rw (((W2.alloc (.cells #[.slice ka2 m1 kc2, .slice va2 m2 vc2] 148)).setCell ⟨Tb, 0, none⟩ (.slice ka2 m1 kc2)).setCell ⟨Tb, 1, none⟩ (.slice va2 m2 vc2)).heap.size (((W2.alloc (.cells #[.slice ka2 m1 kc2, .slice va2 m2 vc2] 148)).setCell ⟨Tb, 0, none⟩ (.slice ka2 m1 kc2)).setCell ⟨Tb, 1, none⟩ (.slice va2 m2 vc2)) (.slice none 0 0) [] := World.ownsRow_nil _ _ _ _; have f0 := HF4.out.blk.cell 0 rfl; have f1 := HF4.out.blk.cell 1 rfl; clear g1 g2 kF3 hk2 hv2 hot hrt hy hx2 hx3 hb2 hBn hxF kF HT HO HL HB HADD; have hid3 : ¬ (0 : Int) < id := hid; have htn0 : (0 : Int) < (tn : Int) := by have := HGL0.out; omega
     have htn0n : 0 < tn := by omega
     have htv : (vbs GL).length ≤ 200 := by
      have := vbs_len GL (fun x hx => by have := (HT1.out x hx).2; omega); rw [HTN.out] at this; omega
     go_wp2; generalize ((W2.alloc (.cells #[.slice ka2 m1 kc2, .slice va2 m2 vc2] 148)).setCell ⟨Tb, 0, none⟩ (.slice ka2 m1 kc2)).setCell ⟨Tb, 1, none⟩ (.slice va2 m2 vc2) = W4 at *; obtain ⟨Wq, hWq⟩ : ∃ W, W = W4 := ⟨_, rfl⟩
     go_loopw [10, 11] (fun o i wq => ∃ j : Nat, j ≤ tn ∧ i = .int .i64 j ∧ Hid (wq.ownsRow W4.heap.size 70 1 o j ((GL.take j).map (Value.int .u64))) ∧ Hid (Below W4.heap.size W4 wq)) (fun _ i _ => tn - (intOf i).toNat)
     case atStart => exact ⟨0, by omega, rfl, Lib.hid (World.ownsRow_nil _ _ _ _), Lib.hid (Below.refl _ _)⟩
     case round =>
      obtain ⟨j, hj, rfl, HQ, HBQ⟩ := hrel; have hbq := HBQ.out
      by_cases h2 : j < tn
      ·have h2' : (j : Int) < (tn : Int) := by omega
       have hjl : j < GL.length := by rw [HTN.out]; exact h2
       obtain ⟨b3, o3, rfl, d0, -⟩ := (HRT.out.keep (hb8.trans (hbq.mono hb8.size))).at (i := j) (v := .int .i64 GL[j]) (by simp [hjl]); have hxr := HT1.out GL[j] (List.getElem_mem hjl); have HSN : Hid ((GL.take (j + 1)).map (Value.int .u64) = (GL.take j).map (Value.int .u64) ++ [.int .u64 GL[j]]) := Lib.hid (by rw [List.take_succ_eq_append_getElem hjl, List.map_append]; rfl); generalize GL[j] = x at *; have hxa := hxr.1; have hxb := hxr.2; have hxw : IntKind.u64.wrap x = x := by rw [IntKind.wrap_u64]; omega
       clear hxr; have hy2 := Below.new wr (.cells #[.int .u64 x] 70)
       go_wp2_with (at_builtin; go_must (refine wpList_app rfl (.tmp 56) (.tmp 62) 151 rfl W4.heap.size 70 (.int .u64 0) 1 8 Tryz.underlying151 Tryz.infoU64 rfl (by decide) u10 j ((GL.take j).map (Value.int .u64)) rfl (HQ.out.below hy2) (some ⟨wr.heap.size, 0, none⟩) 1 1 [.int .u64 x] rfl (fun h => by cases h) (Rd.lit _ _ [.int .u64 x] _ rfl) rfl (by simp [Value.oneCell']) (by omega) (by decide) (Nat.le_trans hbq.size hy2.size) ?_); intro v6 W6 ho6 hg6)
       have hb6 := (hbq.trans (hy2.mono hbq.size)).grown hg6 (Nat.le_trans hbq.size hy2.size) (fun g hg => ((HQ.out.below hy2).lt g hg).1); have HQ6 : Hid (W6.ownsRow W4.heap.size 70 1 v6 (j + 1) ((GL.take (j + 1)).map (Value.int .u64))) := Lib.hid (by rw [HSN.out]; exact ho6); clear ho6 hg6 hy2 d0; go_roundw
       case rel => exact ⟨j + 1, by omega, by go_num, HQ6, Lib.hid hb6⟩
       case measure => simp [intOf]; omega
      ·have h2' : ¬ (j : Int) < (tn : Int) := by omega
       obtain rfl : j = tn := by omega
       have hq := HQ.out; rw [List.take_of_length_le (by rw [HTN.out]; omega)] at hq; obtain ⟨pq, cq, rfl, -, -, -, hrq, -⟩ := hq.form; have hbx := hb8.trans (hbq.mono hb8.size); have h8x := h8.below hbq; clear HQ hq; have hrw := rrow24_any pq cq GL (by rw [HTN.out]; omega) (fun x hx => by have := HT1.out x hx; omega) wr hrq; rw [HTN.out] at hrw; have HRW := Lib.hid hrw; clear hrw hrq hbq HBQ
       go_wp2_with fail
       refine HRW.out.mono ?_; rintro e W6 ⟨rfl, hbr⟩; have hby := hbx.trans (hbr.mono hbx.size); have h8y := h8x.below hbr; clear hbx hbr h8x HRW hb8 h8
       go_wp2_with fail
       have HFE : Hid (FB = ((([] ++ fby ⟨2, 2, 0, vbs GL⟩) ++ fby ⟨3, 0, kd, []⟩) ++ fby ⟨4, 2, 0, vbs NL⟩)) := Lib.hid (by rw [HFB.out, if_neg (by omega), if_neg (by omega)]; try simp); refine (rtell_app W4.heap.size ((.slice none 0 0)) [] 2 2 0 (vbs GL) (strOfNums (vbs GL)) (rfl) (HF3.out.2.2.2 (by omega)) ([] ++ fby ⟨2, 2, 0, vbs GL⟩) (rfl) W6 hby.size h8y (by simp)).mono ?_; rintro e W7 ⟨v7, rfl, h9, hg9⟩; have hb9 := hby.grown hg9 hby.size (fun j hj => (World.ownsRow.lt h8y j hj).1); have htl := (HF3.out.2.2.2 (by omega)).len; have htl2 : (fby (⟨2, 2, 0, vbs GL⟩ : Fld)).length ≤ 300 := by
        dsimp only at htl; omega
       clear hby h8y; have hb8 := hb9; have h8 := h9; clear hb9 h9 hg9 htl; have k8 := HF4.out.keep hb8; have f1 := k8.blk.cell 1 rfl; have hkw : IntKind.u64.wrap kd = kd := by rw [IntKind.wrap_u64]; omega
       have hkl := HF3.out.1.len; have hkl2 : (fby (⟨3, 0, kd, []⟩ : Fld)).length ≤ 20 := by simpa using hkl
       clear hkl
       go_wp2_with fail
       refine (rtell_app W4.heap.size (v7) ([] ++ fby ⟨2, 2, 0, vbs GL⟩) 3 0 kd [] ⟨#[]⟩ (rfl) (HF3.out.1) (([] ++ fby ⟨2, 2, 0, vbs GL⟩) ++ fby ⟨3, 0, kd, []⟩) (rfl) W7 hb8.size h8 (by simp only [List.length_append, List.length_nil]; omega)).mono ?_; rintro e W8 ⟨v8, rfl, h9, hg9⟩; have hb9 := hb8.grown hg9 hb8.size (fun j hj => (World.ownsRow.lt h8 j hj).1); clear hb8 h8 f1 hg9; have hb8 := hb9; have h8 := h9; clear hb9 h9; have k8 := HF4.out.keep hb8; have f1 := k8.blk.cell 1 rfl; have f3 := k8.blk.cell 3 rfl; have hw8 := HB4.out.trans (hb8.mono HB4.out.size)
       go_wp2_with fail
       refine (HNUM.out W8 hw8).mono ?_; rintro e W9 ⟨vn, rfl, hon, hbn⟩; obtain ⟨pn, cn, rfl, -, -, -, hrn, -⟩ := hon.form; have hb10 := hb8.trans (hbn.mono hb8.size); have h10 := h8.below hbn; have hrw := rrow24_any pn cn NL (by omega) HE1.out W9 hrn; have HRW := Lib.hid hrw; clear hrw hon hbn hb8 h8 f1 f3 k8 hw8 HNUM
       go_wp2_with fail
       refine HRW.out.mono ?_; rintro e W10 ⟨rfl, hbr⟩; have hb8 := hb10.trans (hbr.mono hb10.size); have h8 := h10.below hbr; clear hb10 h10 HRW hbr hrn
       go_wp2_with fail
       refine (rtell_app W4.heap.size (v8) (([] ++ fby ⟨2, 2, 0, vbs GL⟩) ++ fby ⟨3, 0, kd, []⟩) 4 2 0 (vbs NL) (strOfNums (vbs NL)) (rfl) (HF3.out.2.1) FB (HFE.out.symm) W10 hb8.size h8 (by simp only [List.length_append, List.length_nil]; omega)).mono ?_; rintro e W11 ⟨v11, rfl, h9, hg9⟩; have hb9 := hb8.grown hg9 hb8.size (fun j hj => (World.ownsRow.lt h8 j hj).1); clear hb8 h8 hg9; have hb8 := hb9; have h8 := h9; clear hb9 h9; obtain ⟨p11, c11, rfl, -, -, -, hr11, -⟩ := World.ownsRow.form h8; have hcv := run_convert_rd (P := Tryz.prog) W11 31 5 9 Tryz.underlying31 Tryz.underlying5 Tryz.underlying9 p11 c11 FB hr11; have hO8 := (HO4.out : Rw w.heap.size W4 u3 (pX nm C k)).below hb8; have HB8 := Lib.hid (HB4.out.trans (hb8.mono HB4.out.size)); have HT8 := Lib.hid (HT4.out.keep hb8); have HK8 := Lib.hid (HK4.out.below hb8); have HV8 := Lib.hid (HV4.out.below hb8); have HL8 := Lib.hid (HL4.out.keep hb8); have hw8 := HB8.out.size; clear h8 hr11 hb8 HB4 HT4 HK4 HV4 HL4 HO4 HF4 HRT
       go_wp2_with fail
       refine (rtell_app w.heap.size u3 (pX nm C k) 2 2 0 FB (strOfNums FB) rfl HF1.out (pX nm C (k + 1)) HPS.out W11 hw8 hO8 (by omega)).mono ?_; rintro e W12 ⟨v12, rfl, ho12, hg12⟩; have hbf := HB8.out.grown hg12 hw8 (fun j hj => (World.ownsRow.lt hO8 j hj).1); have hTf := HT8.out.grown hg12 (bkt_neA HT8.out hO8 (by decide)); have hLf := HL8.out.grown hg12 (bkt_neA HL8.out hO8 (by decide)); have hKf := HK8.out.gr hg12 (Off.row hO8 (by decide)); have hVf := HV8.out.gr hg12 (Off.row hO8 (by decide)); clear hcv hO8 hg12 HB8 HT8 HK8 HV8 HL8; go_wp2; go_roundw
       case rel =>
        refine ⟨k + 1, ka2, va2, kc2, vc2, by omega, by go_num, Lib.hid ho12, Lib.hid ?_, Lib.hid ?_, Lib.hid ?_, Lib.hid hLf, Lib.hid hbf⟩
        ·rw [HT2.out, HM1.out, HM2.out]; exact hTf
        ·rw [HT2.out]; exact hKf
        ·rw [HT2.out]; exact hVf
       case measure => simp [intOf]; omega
  ·have h1' : ¬ (k : Int) < (M : Int) := by omega
   have hkM : k = M := by omega
   subst hkM; have hCt : C.take k = C := List.take_of_length_le (by rw [HML.out]; omega); have htab := HP.out.tab k; rw [hCt] at HT HK HV htab; have hO0 : Hid (Rw w.heap.size Wn u3 (pK nm C 0)) := Lib.hid (by rw [← pK_zero, HML.out]; exact HO.out); have HPK := Lib.hid (fun j hj => pK_snoc nm C j hj); have HPV := Lib.hid (fun j hj => pV_snoc nm C j hj); have HPE := Lib.hid (pV_end nm C); have HPZ := Lib.hid (pV_zero nm C); have HKF := Lib.hid HP.out.keys; have HVF := Lib.hid HP.out.vals; have HPL : Hid (∀ j, (pK nm C j).length ≤ 600000 ∧ (pV nm C j).length ≤ 900000) := Lib.hid (fun j => ⟨HP.out.pk j, HP.out.pv j⟩); obtain ⟨⟨KL, VL⟩, hTT⟩ : ∃ T, ftsT ([], []) C = T := ⟨_, rfl⟩; rw [hTT] at HT HK HV HPK HPV HPE HPZ HKF HVF htab; clear hCt hTT HO HCE HR HOK HZ HM; dsimp only at *; obtain ⟨kn, hkn⟩ : ∃ n, KL.length = n := ⟨_, rfl⟩; obtain ⟨vn, hvn⟩ : ∃ n, VL.length = n := ⟨_, rfl⟩; rw [hkn] at HT HPZ htab; rw [hvn] at HT HPE htab; obtain ⟨htab1, htab2⟩ := htab; have HKN := Lib.hid hkn; have HVN := Lib.hid hvn; clear hkn hvn; go_wp2
   go_loopw [3, 12] (fun o i wr => ∃ j : Nat, j ≤ kn ∧ i = .int .i64 j ∧ Hid (Rw w.heap.size wr o (pK nm C j)) ∧ Hid (BkT wr Tb 148 [.slice kp kn kq, .slice vp vn vq]) ∧ Hid (KyT w.heap.size wr kp kq KL) ∧ Hid (VyT w.heap.size wr vp vq VL) ∧ Hid (Below w.heap.size w wr)) (fun _ i _ => kn - (intOf i).toNat)
   case atStart => exact ⟨0, by omega, rfl, hO0, HT, HK, HV, HB⟩
   case round =>
    clear hO0 HT HK HV HB l0 l1 HL; obtain ⟨j, hj, rfl, HO, HT, HK, HV, HB⟩ := hrel; have t0 := HT.out.blk.cell 0 rfl
    by_cases h2 : j < kn
    ·have h2' : (j : Int) < (kn : Int) := by omega
     have hjl : j < KL.length := by rw [HKN.out]; exact h2
     obtain ⟨b3, o3, rfl, d0, -⟩ := HK.out.1.at (i := j) (v := .string KL[j]) (by simp [hjl]); have hps := HPK.out j hjl; have hkf := HKF.out KL[j] (List.getElem_mem hjl); have hpl := (HPL.out j).1; generalize KL[j] = y at *; have HC := Lib.hid (rtell_app w.heap.size u3 (pK nm C j) 3 2 0 (bnums y) y (strOfNums_bnums y) hkf.1 (pK nm C (j + 1)) hps wr HB.out.size HO.out (by omega)); clear hps hkf hpl
     go_wp2_with fail
     refine HC.out.mono ?_; rintro e W5 ⟨v5, rfl, ho5, hg5⟩; have hb5 := HB.out.grown hg5 HB.out.size (fun g hg => (World.ownsRow.lt HO.out g hg).1); have hT5 := HT.out.grown hg5 (bkt_neA HT.out HO.out (by decide)); have hK5 := HK.out.gr hg5 (Off.row HO.out (by decide)); have hV5 := HV.out.gr hg5 (Off.row HO.out (by decide)); clear HC hg5 d0 t0; go_wp2; go_roundw
     case rel => exact ⟨j + 1, by omega, by go_num, Lib.hid ho5, Lib.hid hT5, Lib.hid hK5, Lib.hid hV5, Lib.hid hb5⟩
     case measure => simp [intOf]; omega
    ·have h2' : ¬ (j : Int) < (kn : Int) := by omega
     obtain rfl : j = kn := by omega
     have hO1 : Hid (Rw w.heap.size wr u3 (pV nm C 0)) := Lib.hid (by rw [← HPZ.out]; exact HO.out); clear HO HPK HKF HPZ; obtain ⟨Wk, hWk⟩ : ∃ W, W = wr := ⟨_, rfl⟩; subst hWk; go_wp2
     go_loopw [3, 13] (fun o i wq => ∃ q : Nat, q ≤ vn ∧ i = .int .i64 q ∧ Hid (Rw w.heap.size wq o (pV nm C q)) ∧ Hid (BkT wq Tb 148 [.slice kp j kq, .slice vp vn vq]) ∧ Hid (VyT w.heap.size wq vp vq VL) ∧ Hid (Below w.heap.size w wq)) (fun _ i _ => vn - (intOf i).toNat)
     case atStart => exact ⟨0, by omega, rfl, hO1, HT, HV, HB⟩
     case round =>
      clear hO1 HT HK HV HB t0; obtain ⟨q, hq, rfl, HO, HT, HV, HB⟩ := hrel; have t1 := HT.out.blk.cell 1 rfl
      by_cases h3 : q < vn
      ·have h3' : (q : Int) < (vn : Int) := by omega
       have hql : q < VL.length := by rw [HVN.out]; exact h3
       obtain ⟨b4, o4, rfl, hbb4, d0, d1, d2⟩ := HV.out.1.vv q hql; have hps := HPV.out q hql; obtain ⟨⟨hvf, -⟩, hve⟩ := HVF.out VL[q] (List.getElem_mem hql); have hpl := (HPL.out q).2; have HBY := Lib.hid (fun W => rvby_any VL[q] hve W); generalize VL[q] = y at *; obtain ⟨y1, y2, y3⟩ := y; dsimp only [vVal] at d0 d1 d2 HBY; have HPS := Lib.hid hps; have HVF2 : Hid (FOk ⟨4, 2, 0, fby (vFld (y1, y2, y3))⟩) := Lib.hid hvf; have HPS2 : Hid (pV nm C q ++ fby ⟨4, 2, 0, fby (vFld (y1, y2, y3))⟩ = pV nm C (q + 1)) := Lib.hid hps; obtain ⟨YB, hYB⟩ : ∃ b, fby (vFld (y1, y2, y3)) = b := ⟨_, rfl⟩; rw [hYB] at HBY HVF2 HPS2; clear hps hvf hve hYB HPS
       go_wp2_with fail
       refine (HBY.out wr).mono ?_; rintro e W5 ⟨vx, rfl, hox, hb5⟩; obtain ⟨px, cx, rfl, -, -, -, hrx, -⟩ := hox.form; have hcv := run_convert_rd (P := Tryz.prog) W5 31 5 9 Tryz.underlying31 Tryz.underlying5 Tryz.underlying9 px cx YB hrx; have hO5 := HO.out.below hb5; have hB5 := HB.out.trans (hb5.mono HB.out.size); have HC := Lib.hid (rtell_app w.heap.size u3 (pV nm C q) 4 2 0 YB (strOfNums YB) rfl HVF2.out (pV nm C (q + 1)) HPS2.out W5 hB5.size hO5 (by omega)); have hT5 := HT.out.keep hb5; have hV5 := HV.out.below hb5; clear hox hrx hb5 HBY hpl d0 d1 d2
       go_wp2_with fail
       refine HC.out.mono ?_; rintro e W6 ⟨v6, rfl, ho6, hg6⟩; have hb6 := hB5.grown hg6 hB5.size (fun g hg => (World.ownsRow.lt hO5 g hg).1); have hT6 := hT5.grown hg6 (bkt_neA hT5 hO5 (by decide)); have hV6 := hV5.gr hg6 (Off.row hO5 (by decide)); clear HC hg6 hcv hO5 hB5 hT5 hV5 t1; go_wp2; go_roundw
       case rel => exact ⟨q + 1, by omega, by go_num, Lib.hid ho6, Lib.hid hT6, Lib.hid hV6, Lib.hid hb6⟩
       case measure => simp [intOf]; omega
      ·have h3' : ¬ (q : Int) < (vn : Int) := by omega
       obtain rfl : q = vn := by omega
       have hpl := (HPL.out q).2; have HC := Lib.hid (rtell_app w.heap.size u3 (pV nm C q) 5 0 4096 [] ⟨#[]⟩ rfl (FOk.num (by omega) (by omega)) (lyB (nm, C)) HPE.out wr HB.out.size HO.out (by omega)); clear hpl
       go_wp2_with fail
       refine HC.out.mono ?_; rintro e W5 ⟨v5, rfl, ho5, hg5⟩; have hb5 := HB.out.grown hg5 HB.out.size (fun g hg => (World.ownsRow.lt HO.out g hg).1); obtain ⟨p5, c5, rfl, -, -, -, hr5, -⟩ := World.ownsRow.form ho5; have hcv := run_convert_rd (P := Tryz.prog) W5 31 5 9 Tryz.underlying31 Tryz.underlying5 Tryz.underlying9 p5 c5 (lyB (nm, C)) hr5; clear HC hg5 ho5 hr5 t1; go_wp2; go_ret; exact ⟨rfl, hb5⟩
end Go.Proofs.YtjggoajfilnfjaaGreat
