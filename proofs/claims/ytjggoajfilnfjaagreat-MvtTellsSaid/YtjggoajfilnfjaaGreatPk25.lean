/-
  mvt.layer. mvt.Encode.
-/
import Derived.Test.YtjggoajfilnfjaaGreatPk17
import Derived.Test.YtjggoajfilnfjaaGreatPk24
import Derived.Test.YtjggoajfilnfjaaGreatPk12
set_option linter.unusedVariables false
set_option linter.unusedSimpArgs false
set_option maxRecDepth 100000
namespace Go.Proofs.YtjggoajfilnfjaaGreat
open Go.RowKit Go.Vint Go.Proto
set_option maxHeartbeats 12800000 in
theorem layer_any (y : Ly) (hn : namedF y.name = 0) (hf : fsChk (y.fs.map Ft.core) = 0) (hz : y.Sz) (hw : y.core.Few) (w : World) (hok : y.Ok w) :
  Calls Tryz.prog 24 #[y.val] w fun e w' => ∃ v, e = .returned (.tuple #[v, .int .i64 0]) ∧ w'.ownsRow w.heap.size 5 1 v (lyB y.core).length ((lyB y.core).map (Value.int .u8)) ∧ Below w.heap.size w w' := by
 have hlo := lay_ok y.core hn hf hw; have hlp := lay_parts y.core hn hf hw; have hnz := namedF_zero hn; obtain ⟨NM, fs, fa, fc⟩ := y; obtain ⟨z1, z2, z3⟩ := hz; obtain ⟨⟨hrf, f2, f3, f4⟩, hfo⟩ := hok; dsimp only [Ly.core, Ly.val, Ly.fval] at *; have HRF := Lib.hid hrf; have HF : Hid (∀ f ∈ fs, fchkF f.core = 0 ∧ f.Sz ∧ FtC.Few f.core ∧ f.Ok w) := Lib.hid (fun f hfm => ⟨fsChk_zero hf _ (List.mem_map_of_mem hfm), z3 f hfm, hw.2 _ (List.mem_map_of_mem hfm), hfo f hfm⟩); have HTK := Lib.hid (fun k => ftsT_len ((fs.map Ft.core).take k) ([], []) (fun c hc => hw.2 c (List.mem_of_mem_take hc))); have hN6 : (fs.map Ft.core).length ≤ 6 := hw.1; have HFL : Hid (lyFlds (NM, fs.map Ft.core) = [⟨15, 0, 2, []⟩, ⟨1, 2, 0, bnums NM⟩] ++ ftsB ([], []) (fs.map Ft.core) ++ (ftsT ([], []) (fs.map Ft.core)).1.map keyFld ++ (ftsT ([], []) (fs.map Ft.core)).2.map valFld ++ [⟨5, 0, 4096, []⟩]) := Lib.hid rfl; have HLB : Hid (lyB (NM, fs.map Ft.core) = (lyFlds (NM, fs.map Ft.core)).flatMap fby) := Lib.hid rfl; have HLO := Lib.hid hlo; have HLP : Hid (TbOk (ftsT ([], []) (fs.map Ft.core)) ∧ ((ftsT ([], []) (fs.map Ft.core)).1.length ≤ 60 ∧ (ftsT ([], []) (fs.map Ft.core)).2.length ≤ 60) ∧ (∀ k ∈ (ftsT ([], []) (fs.map Ft.core)).1, (keyFld k).bs.length ≤ 100)) := Lib.hid ⟨hlp.1, hlp.2.1, fun k hk => (hlp.2.2.2.1 k hk).2⟩; have hnm := hnz.2.2; have hnm : NM.size ≤ maxLen := by unfold maxLen; omega
 clear hlo hlp hnz hrf hfo z3 hw hf hn; generalize lyB (NM, fs.map Ft.core) = LB at *; generalize lyFlds (NM, fs.map Ft.core) = LF at *; obtain ⟨N, hNN⟩ : ∃ N, fs.length = N := ⟨_, rfl⟩; have HN := Lib.hid hNN; rw [List.length_map, hNN] at hN6; rw [hNN] at f2 ⊢; clear hNN; have hb0 := Below.new w (.cells #[.string NM, .slice fa N fc] 46); have kL := Blk.lit w w.heap.size [.string NM, .slice fa N fc] 46 rfl; have hzt : (Tryz.prog.info? 120).map (fun i => i.zero) = some (some (.agg #[.slice none 0 0, .slice none 0 0])) := by kernel_rfl
 go_enter Tryz.func24, Tryz.ntmps24
 go_wp2; obtain ⟨F, hF⟩ : ∃ F, w.heap.size = F := ⟨_, rfl⟩; obtain ⟨B, hB⟩ : ∃ B, F + 1 = B := ⟨_, rfl⟩; have htb0 : TbIn ((w.alloc (.cells #[.string NM, .slice fa N fc] 46)).alloc (.cells #[.slice none 0 0, .slice none 0 0] 120)) B ([], []) := by
  refine ⟨none, 0, none, 0, ?_, ⟨Rd.nil _ _, Nat.le_refl _, (show (0 : Nat) ≤ maxLen by decide), fun _ => rfl, (fun b h => by cases h), TypB.none _ _⟩, ⟨Rd.nil _ _, Nat.le_refl _, (show (0 : Nat) ≤ maxLen by decide), fun _ => rfl, (fun b h => by cases h), TypB.none _ _⟩⟩; exact Blk.lit _ B [.slice none 0 0, .slice none 0 0] _ (by simp; omega)
 have kL := kL.alloc (.cells #[.slice none 0 0, .slice none 0 0] 120); have hb1 := hb0.alloc hb0.size (.cells #[.slice none 0 0, .slice none 0 0] 120); rw [hF] at kL ⊢; rw [hB]; have hw1s : ((w.alloc (.cells #[.string NM, .slice fa N fc] 46)).alloc (.cells #[.slice none 0 0, .slice none 0 0] 120)).heap.size = B + 1 := by simp; omega
 have hwB : w.heap.size ≤ B := by omega
 have hFB : F ≠ B := by omega
 generalize (w.alloc (.cells #[.string NM, .slice fa N fc] 46)).alloc (.cells #[.slice none 0 0, .slice none 0 0] 120) = w1 at *; have HFE := Lib.hid hF; clear hB hb0 hF; rename_i K0 hK0; replace hK0 := Lib.hid hK0; have main : ∀ (p q c : Nat) (W : World), Below w1.heap.size w1 W → W.ownsRow w1.heap.size 72 4 (.slice (some ⟨q, 0, none⟩) 2 2) 2 [.int .i64 15, .int .i64 0, .int .u64 2, .slice none 0 0, .int .i64 1, .int .i64 2, .int .u64 0, .slice (some ⟨p, 0, none⟩) NM.size c] → Rd W (some ⟨p, 0, none⟩) ((bnums NM).map (Value.int .u8)) → TypB W (some ⟨p, 0, none⟩) 5 → NM.size ≤ c → c ≤ maxLen → B < p → K0 { tmps := List.toArray ((.agg #[.string NM, .slice fa N fc]) :: (.pointer (some ⟨F, 0, none⟩)) :: (.slice none 0 0) :: (.int .i64 0) :: (.pointer (some ⟨B, 0, none⟩)) :: (.slice (some ⟨q, 0, none⟩) 2 2) :: undef :: undef :: undef :: undef :: undef :: undef :: undef :: undef :: undef :: undef :: (.agg #[.int .i64 15, .int .i64 0, .int .u64 2, .slice none 0 0]) :: (.pointer (some ⟨F, 0, none⟩)) :: (.string NM) :: (.slice (some ⟨p, 0, none⟩) NM.size c) :: (.agg #[.int .i64 1, .int .i64 2, .int .u64 0, .slice (some ⟨p, 0, none⟩) NM.size c]) :: (.slice (some ⟨q, 0, none⟩) 2 2) :: undef :: undef :: undef :: undef :: undef :: undef :: undef :: undef :: undef :: undef :: undef :: undef :: undef :: undef :: undef :: undef :: undef :: undef :: undef :: undef :: undef :: undef :: undef :: undef :: undef :: undef :: undef :: undef :: undef :: undef :: undef :: undef :: undef :: undef :: undef :: undef :: undef :: undef :: undef :: undef :: undef :: undef :: undef :: undef :: undef :: undef :: undef :: undef :: undef :: undef :: undef :: undef :: undef :: undef :: undef :: undef :: undef :: undef :: undef :: undef :: undef :: undef :: undef :: []), defers := [] } W := by
  intro p q c W HB rd hr hty hc1 hc2 hpb; refine hK0.out _ _ ?_; clear hK0; obtain ⟨L0, hL0⟩ : ∃ L : List FC, L = [⟨⟨15, 0, 2, []⟩, none, 0⟩, ⟨⟨1, 2, 0, bnums NM⟩, some ⟨p, 0, none⟩, c⟩] := ⟨_, rfl⟩; have HST0 : LSt w1.heap.size B L0 (.slice (some ⟨q, 0, none⟩) 2 2) W := by
   rw [hL0]; refine ⟨?_, ?_, by omega, HB.size⟩
   ·simpa [flat, FC.cells, bnums_len] using rd
   ·intro x hx; simp only [List.mem_cons, List.not_mem_nil, or_false] at hx
    rcases hx with rfl | rfl
    ·exact FdB.none rfl
    ·exact ⟨⟨hr, by dsimp only; rw [bnums_len]; exact hc1, hc2, fun h => by cases h⟩, hty, fun b hb => by have : p = b := (by simpa using hb); omega⟩
  have HH0 : Hid (([⟨15, 0, 2, []⟩, ⟨1, 2, 0, bnums NM⟩] : List Fld).length = 2) := Lib.hid rfl; have HLF0 : Hid (L0.map (·.f) = [⟨15, 0, 2, []⟩, ⟨1, 2, 0, bnums NM⟩]) := Lib.hid (by rw [hL0]; rfl); replace HST0 := Lib.hid HST0; have hbW := hb1.trans (HB.mono hb1.size); have HTB0 := Lib.hid (htb0.keep HB); have kL := kL.keep HB; have l1 := kL.cell 1 rfl; have hw1w : w.heap.size ≤ w1.heap.size := by omega
  clear hL0 rd hr hty hc1 hc2 hpb HB htb0 hb1; generalize [(⟨15, 0, 2, []⟩ : Fld), ⟨1, 2, 0, bnums NM⟩] = H0 at *; go_wp2
  go_loopw [5, 25] (fun u5 i wr => ∃ (k : Nat) (L : List FC), k ≤ N ∧ i = .int .i64 k ∧ Hid (L.map (·.f) = H0 ++ ftsB ([], []) ((fs.map Ft.core).take k)) ∧ Hid (LSt w1.heap.size B L u5 wr) ∧ Hid (TbIn wr B (ftsT ([], []) ((fs.map Ft.core).take k))) ∧ Below w.heap.size w wr) (fun _ i _ => N - (intOf i).toNat)
  case atStart => exact ⟨0, L0, by omega, rfl, by simpa [ftsB] using HLF0, HST0, by simpa [ftsT] using HTB0, hbW⟩
  case round =>
   clear l1 hbW HST0 HTB0 HLF0 kL; obtain ⟨k, L, hk, rfl, HLF, HST, HTB, hbr⟩ := hrel; have hNl := HN.out
   by_cases hlt : k < N
   ·have hlt' : (k : Int) < (N : Int) := by omega
    have hkl : k < fs.length := by omega
    obtain ⟨b3, o3, rfl, hb3, e0, e1, e2, e3⟩ := (HRF.out.keep hbr).ft k hkl; obtain ⟨hfE, hfz, hff, hfo⟩ := HF.out fs[k] (List.getElem_mem hkl); have htk : (fs.map Ft.core).take (k + 1) = (fs.map Ft.core).take k ++ [fs[k].core] := by
     rw [List.take_succ_eq_append_getElem (by rw [List.length_map]; exact hkl), List.getElem_map]
    have HS1 : Hid (ftsT ([], []) ((fs.map Ft.core).take (k + 1)) = addL (ftsT ([], []) ((fs.map Ft.core).take k)) fs[k].ls) := Lib.hid (by rw [htk, ftsT_snoc]; rfl); have HS2 : Hid (ftsB ([], []) ((fs.map Ft.core).take (k + 1)) = ftsB ([], []) ((fs.map Ft.core).take k) ++ [⟨2, 2, 0, ftB (ftsT ([], []) ((fs.map Ft.core).take k)) fs[k].core⟩]) := Lib.hid (by rw [htk, ftsB_snoc]); have hTl := HTK.out k; have hLl : L.length ≤ 1000 := by
     have h := congrArg List.length HLF.out; rw [List.length_map, List.length_append, ftsB_len, List.length_take, List.length_map] at h; have h0 := HH0.out; omega
    rw [List.length_take, List.length_map] at hTl; simp only [List.length_nil] at hTl; generalize ftsT ([], []) ((fs.map Ft.core).take k) = TK at *; generalize ftsB ([], []) ((fs.map Ft.core).take k) = BK at *; have HFE := Lib.hid (fun W h1 h2 => feature_any B TK fs[k] hfE hfz hff (by omega) w W h1 hwB h2 hfo); generalize ftB TK fs[k].core = FB at *; clear hfE hfz hff hfo htk; generalize fs[k] = f at *; obtain ⟨id, kd, ls, aa, ac, rs, ra, rc⟩ := f; dsimp only [Ft.val, Ft.aval, Ft.rval] at e0 e1 e2 e3 HFE HS1; generalize ls.length = n1 at *; generalize rs.length = n2 at *; have hx3 := Below.new wr (.cells #[.int .i64 id, .int .i64 kd, .slice aa n1 ac, .slice ra n2 rc] 53); have kF := Blk.new wr [.int .i64 id, .int .i64 kd, .slice aa n1 ac, .slice ra n2 rc] 53; have g0 := kF.cell 0 rfl; have g1 := kF.cell 1 rfl; have g2 := kF.cell 2 rfl; have g3 := kF.cell 3 rfl; have hb5 := hbr.trans (hx3.mono hbr.size); have HST5 := Lib.hid (HST.out.below hx3); have htb5 := HTB.out.keep hx3
    go_wp2_with fail
    refine (HFE.out _ hb5 htb5).mono ?_; rintro e W5 ⟨v5, rfl, ho5, htb6, hg5⟩; have HST6 := HST5.out.tab hg5; have hb6 := hb5.grown hg5 hb5.size (fun j hj => by cases hj; exact hwB); have hs5 := Nat.lt_of_lt_of_le HST.out.2.2.1 HST.out.2.2.2; have hx3s := hx3.size; have ho5 := ho5.mono (base' := B + 1) (by omega); obtain ⟨ba, bc, rfl, -⟩ := ho5.form; have hFd : FdB B W5 ⟨⟨2, 2, 0, FB⟩, ba, bc⟩ := FdB.owns ho5 (Nat.lt_succ_self B); clear hx3 kF g0 g1 g2 g3 e0 e1 e2 e3 HFE HST HST5 HTB hb5 htb5 hg5 ho5 hbr hx3s hs5
    go_wp2_with fail
    refine (bytes_any 2 ba _ bc _).mono ?_; rintro e W6 ⟨rfl, hx⟩; have hb7 := hb6.trans (hx.mono hb6.size); have HST7 := HST6.below hx; have hFd := hFd.below hx; have htb7 := htb6.keep hx; have hsz := HST7.2.2.2; have ho7 := HST7.1; clear hx HST6 hb6 htb6
    go_wp2_with (at_builtin; go_must (refine wpList_appLit rfl (.tmp 37) (.tmp 40) 68 rfl w1.heap.size 72 (.agg #[.int .i64 0, .int .i64 0, .int .u64 0, .slice none 0 0]) 4 48 Tryz.underlying68 Tryz.infoField rfl (by decide) (by decide) u5 L.length (flat L) rfl ho7 1 1 [.int .i64 2, .int .i64 2, .int .u64 0, .slice ba FB.length bc] _ rfl rfl (by simp [Value.oneCell']) (by omega) hsz ?_); intro v8 W8 ho8 hg8; have HST8 := (Lib.hid (HST7.step ⟨⟨2, 2, 0, FB⟩, ba, bc⟩ hFd ho8 hg8)); have htb8 := Lib.hid (htb7.row ho7 (by decide) (by decide) HST7.2.2.1 hg8); have hb8 := hb7.grown hg8 hb7.size (fun j hj => Nat.le_trans hw1w (ho7.lt j hj).1); clear ho8 hg8 ho7 hb7 htb7 HST7 hFd)
    go_roundw
    case rel => exact ⟨k + 1, L ++ [⟨⟨2, 2, 0, FB⟩, ba, bc⟩], by omega, by go_num, Lib.hid (by rw [List.map_append, HLF.out, HS2.out]; simp), HST8, Lib.hid (by rw [HS1.out]; exact htb8.out), hb8⟩
    case measure => simp [intOf]; omega
   ·obtain rfl : k = N := by omega
    have hlt' : ¬ (k : Int) < (k : Int) := by omega
    have hta : (fs.map Ft.core).take k = fs.map Ft.core := List.take_of_length_le (by rw [List.length_map]; omega); rw [hta] at HLF HTB; clear hta HTK hlt; have hBl : (ftsB ([], []) (fs.map Ft.core)).length = k := by rw [ftsB_len, List.length_map, hNl]
    generalize ftsB ([], []) (fs.map Ft.core) = BF at *; generalize ftsT ([], []) (fs.map Ft.core) = TT at *; obtain ⟨kp, kc, vp, vc, htb⟩ := HTB.out; have c0 := htb.1.cell 0 rfl; have HTA := Lib.hid htb; obtain ⟨hp1, ⟨hp2, hp3⟩, hp4⟩ := HLP.out; have HP1 := Lib.hid hp1; have HP4 := Lib.hid hp4; have HBl := Lib.hid hBl; obtain ⟨NK, hNK⟩ : ∃ n, TT.1.length = n := ⟨_, rfl⟩; have HNK := Lib.hid hNK; rw [hNK] at c0 hp2; clear hNK HTB HLP hp1 hp4 htb hBl hNl HN HRF HF z2 f2 f3 f4; go_wp2
    go_loopw [5, 46] (fun u5 i wr => ∃ (j : Nat) (M : List FC), j ≤ NK ∧ i = .int .i64 j ∧ Hid (M.map (·.f) = H0 ++ BF ++ (TT.1.take j).map keyFld) ∧ Hid (LSt w1.heap.size B M u5 wr) ∧ Hid (TbAt wr B TT kp kc vp vc) ∧ Below w.heap.size w wr) (fun _ i _ => NK - (intOf i).toNat)
    case atStart => exact ⟨0, L, by omega, rfl, by simpa using HLF, HST, HTA, hbr⟩
    case round =>
     clear c0 HLF HST HTA hbr; obtain ⟨j, L, hj, rfl, HLF, HST, HTA, hbr⟩ := hrel; have hNk := HNK.out; have hLl : L.length ≤ 1000 := by
      have h := congrArg List.length HLF.out; rw [List.length_map, List.length_append, List.length_append, List.length_map, List.length_take] at h; have h0 := HH0.out; have h1 := HBl.out; omega
     by_cases hlt : j < NK
     ·have hlt' : (j : Int) < (NK : Int) := by omega
      have hjl : j < TT.1.length := by omega
      obtain ⟨b3, o3, he3, e0, -⟩ := HTA.out.2.1.1.at (i := j) (v := .string TT.1[j]) (by simp [hjl]); have htk : TT.1.take (j + 1) = TT.1.take j ++ [TT.1[j]] := List.take_succ_eq_append_getElem hjl; have HS : Hid ((TT.1.take (j + 1)).map keyFld = (TT.1.take j).map keyFld ++ [keyFld TT.1[j]]) := Lib.hid (by rw [htk, List.map_append]; rfl); have hks : TT.1[j].size ≤ maxLen := by
       have h := HP4.out _ (List.getElem_mem hjl); have h2 : (keyFld TT.1[j]).bs.length = TT.1[j].size := bnums_len _; unfold maxLen; omega
      clear htk; subst he3; generalize TT.1[j] = ky at *; obtain ⟨pb, hpb⟩ : ∃ p, wr.heap.size = p := ⟨_, rfl⟩; have hcv0 := conv_sbT (P := Tryz.prog) wr 9 31 5 Tryz.underlying9 Tryz.underlying31 Tryz.underlying5 ky hks; rw [hpb] at hcv0; obtain ⟨cb, W5, hcv, hr5, hx, hc1, hc2, hty5⟩ := hcv0; have HCE : Hid (bnums ky = bnums ky ∧ (bnums ky).length = ky.size) := Lib.hid ⟨rfl, bnums_len ky⟩
      go_wp2_with fail
      rw [← hpb] at hx; have HST5 := HST.out.below hx; have hta5 := HTA.out.keep hx; have hb5 := hbr.trans (hx.mono hbr.size); have hFd : FdB B W5 ⟨keyFld ky, some ⟨pb, 0, none⟩, cb⟩ := ⟨⟨hr5, by rw [show (keyFld ky).bs.length = ky.size from bnums_len ky]; exact hc1, hc2, fun h => by cases h⟩, hty5, fun b hb => by
       have h1 : pb = b := (by simpa using hb); have h2 := HST.out.2.2.1; have h3 := HST.out.2.2.2; omega⟩
      clear hx hcv hpb hr5 hc1 hc2 hty5 HST HTA hbr e0; refine (bytes_any 3 (some ⟨pb, 0, none⟩) ky.size cb _).mono ?_; rintro e W6 ⟨rfl, hx⟩; have hb7 := hb5.trans (hx.mono hb5.size); have HST7 := HST5.below hx; have hFd := hFd.below hx; have hta7 := hta5.keep hx; have hsz := HST7.2.2.2; have ho7 := HST7.1; clear hx HST5 hb5 hta5
      go_wp2_with (at_builtin; go_must (refine wpList_appLit rfl (.tmp 50) (.tmp 54) 68 rfl w1.heap.size 72 (.agg #[.int .i64 0, .int .i64 0, .int .u64 0, .slice none 0 0]) 4 48 Tryz.underlying68 Tryz.infoField rfl (by decide) (by decide) u5 L.length (flat L) rfl ho7 1 1 [.int .i64 3, .int .i64 2, .int .u64 0, .slice (some ⟨pb, 0, none⟩) ky.size cb] _ rfl rfl (by simp [Value.oneCell']) (by omega) hsz ?_); intro v8 W8 ho8 hg8; have HST8 := (Lib.hid (HST7.step ⟨keyFld ky, some ⟨pb, 0, none⟩, cb⟩ hFd (by simpa [FC.cells, keyFld, bnums_len] using ho8) hg8)); have hta8 := Lib.hid (hta7.row ho7 (by decide) (by decide) HST7.2.2.1 hg8); have hb8 := hb7.grown hg8 hb7.size (fun j hj => Nat.le_trans hw1w (ho7.lt j hj).1); clear ho8 hg8 ho7 hb7 hta7 HST7 hFd)
      go_roundw
      case rel => exact ⟨j + 1, L ++ [⟨keyFld ky, some ⟨pb, 0, none⟩, cb⟩], by omega, by go_num, Lib.hid (by rw [List.map_append, HLF.out, HS.out]; simp), HST8, hta8, hb8⟩
      case measure => simp [intOf]; omega
     ·obtain rfl : j = NK := by omega
      have hlt' : ¬ (j : Int) < (j : Int) := by omega
      have hta : TT.1.take j = TT.1 := List.take_of_length_le (by omega); rw [hta] at HLF; have c1 := HTA.out.1.cell 1 rfl; obtain ⟨NV, hNV⟩ : ∃ n, TT.2.length = n := ⟨_, rfl⟩; have HNV := Lib.hid hNV; rw [hNV] at c1 hp3; clear hta hlt hNV HP4; go_wp2
      go_loopw [5, 60] (fun u5 i wr => ∃ (m : Nat) (M : List FC), m ≤ NV ∧ i = .int .i64 m ∧ Hid (M.map (·.f) = H0 ++ BF ++ TT.1.map keyFld ++ (TT.2.take m).map valFld) ∧ Hid (LSt w1.heap.size B M u5 wr) ∧ Hid (TbAt wr B TT kp kc vp vc) ∧ Below w.heap.size w wr) (fun _ i _ => NV - (intOf i).toNat)
      case atStart => exact ⟨0, L, by omega, rfl, by simpa using HLF, HST, HTA, hbr⟩
      case round =>
       clear c1 HLF HST HTA hbr hLl; obtain ⟨m, L, hm, rfl, HLF, HST, HTA, hbr⟩ := hrel; have hNv := HNV.out; have hLl : L.length ≤ 1000 := by
        have h := congrArg List.length HLF.out; rw [List.length_map, List.length_append, List.length_append, List.length_append, List.length_map, List.length_map, List.length_take] at h; have h0 := HH0.out; have h1 := HBl.out; omega
       by_cases hlt : m < NV
       ·have hlt' : (m : Int) < (NV : Int) := by omega
        have hml : m < TT.2.length := by omega
        obtain ⟨b3, o3, he3, -, e0, e1, e2⟩ := HTA.out.2.2.1.vv m hml; have htk : TT.2.take (m + 1) = TT.2.take m ++ [TT.2[m]] := List.take_succ_eq_append_getElem hml; have HS : Hid ((TT.2.take (m + 1)).map valFld = (TT.2.take m).map valFld ++ [valFld TT.2[m]]) := Lib.hid (by rw [htk, List.map_append]; rfl); have hvE := HP1.out.2.2.2 _ (List.getElem_mem hml); have hvl := (val_len _ hvE).2; clear htk; subst he3; generalize TT.2[m] = vv at *; have hvs : vv.2.1.size ≤ maxLen := by
         have := vE_zero vv hvE; unfold maxLen
         rcases this with ⟨-, -, h⟩ | ⟨-, h, -⟩ | ⟨-, h, -⟩ | ⟨-, h, -⟩
         ·omega
         all_goals (rw [h]; decide)
        have HVB := Lib.hid (fun W => valbytes_any vv hvs W); have hvby : vby vv = fby (vFld vv) := by rw [vby, if_pos hvE]
        rw [hvE, hvby] at HVB; have HFD : Hid (valFld vv = ⟨4, 2, 0, fby (vFld vv)⟩) := Lib.hid rfl; generalize fby (vFld vv) = VB at *; obtain ⟨x1, x2, x3⟩ := vv; dsimp only [vVal] at HVB e0 e1 e2; have hx3 := Below.new wr (.cells #[.int .i64 x1, .string x2, .int .i64 x3] 101); have kF := Blk.new wr [.int .i64 x1, .string x2, .int .i64 x3] 101; have g0 := kF.cell 0 rfl; have g1 := kF.cell 1 rfl; have g2 := kF.cell 2 rfl; have HST5 := HST.out.below hx3; have hta5 := HTA.out.keep hx3; have hb5 := hbr.trans (hx3.mono hbr.size); clear hvE hvs hvby HST HTA hbr hx3
        go_wp2_with fail
        refine (HVB.out _).mono ?_; rintro e W5 ⟨v5, rfl, ho5, hx⟩; have hb6 := hb5.trans (hx.mono hb5.size); have HST6 := HST5.below hx; have hta6 := hta5.keep hx; have hs5 := Nat.lt_of_lt_of_le HST5.2.2.1 HST5.2.2.2; have ho5 := ho5.mono (base' := B + 1) (by omega); obtain ⟨ba, bc, rfl, -⟩ := ho5.form; have hFd : FdB B W5 ⟨⟨4, 2, 0, VB⟩, ba, bc⟩ := FdB.owns ho5 (Nat.lt_succ_self B); clear hx kF g0 g1 g2 e0 e1 e2 HVB HST5 hb5 hta5 ho5 hs5
        go_wp2_with fail
        refine (bytes_any 4 ba _ bc _).mono ?_; rintro e W6 ⟨rfl, hx⟩; have hb7 := hb6.trans (hx.mono hb6.size); have HST7 := HST6.below hx; have hFd := hFd.below hx; have hta7 := hta6.keep hx; have hsz := HST7.2.2.2; have ho7 := HST7.1; clear hx HST6 hb6 hta6
        go_wp2_with (at_builtin; go_must (refine wpList_appLit rfl (.tmp 72) (.tmp 75) 68 rfl w1.heap.size 72 (.agg #[.int .i64 0, .int .i64 0, .int .u64 0, .slice none 0 0]) 4 48 Tryz.underlying68 Tryz.infoField rfl (by decide) (by decide) u5 L.length (flat L) rfl ho7 1 1 [.int .i64 4, .int .i64 2, .int .u64 0, .slice ba VB.length bc] _ rfl rfl (by simp [Value.oneCell']) (by omega) hsz ?_); intro v8 W8 ho8 hg8; have HST8 := (Lib.hid (HST7.step ⟨⟨4, 2, 0, VB⟩, ba, bc⟩ hFd ho8 hg8)); have hta8 := Lib.hid (hta7.row ho7 (by decide) (by decide) HST7.2.2.1 hg8); have hb8 := hb7.grown hg8 hb7.size (fun j hj => Nat.le_trans hw1w (ho7.lt j hj).1); clear ho8 hg8 ho7 hb7 hta7 HST7 hFd)
        go_roundw
        case rel => exact ⟨m + 1, L ++ [⟨⟨4, 2, 0, VB⟩, ba, bc⟩], by omega, by go_num, Lib.hid (by rw [List.map_append, HLF.out, HS.out, HFD.out]; simp), HST8, hta8, hb8⟩
        case measure => simp [intOf]; omega
       ·obtain rfl : m = NV := by omega
        have hlt' : ¬ (m : Int) < (m : Int) := by omega
        have hta : TT.2.take m = TT.2 := List.take_of_length_le (by omega); rw [hta] at HLF; clear hta hlt
        go_wp2_with fail
        refine (number_any 5 4096 _).mono ?_; rintro e W6 ⟨rfl, hx⟩; have hb7 := hbr.trans (hx.mono hbr.size); have HST7 := HST.out.below hx; have hsz := HST7.2.2.2; have ho7 := HST7.1; clear hx HST hbr HTA; obtain ⟨L9, hL9⟩ : ∃ M : List FC, M = L ++ [⟨⟨5, 0, 4096, []⟩, none, 0⟩] := ⟨_, rfl⟩; have HL9 : Hid (L9.map (·.f) = LF) := Lib.hid (by rw [hL9, List.map_append, HLF.out, HFL.out]; simp); have hl9 : L9.length = L.length + 1 := by rw [hL9, List.length_append]; rfl
        have HLE := Lib.hid hL9; clear hL9
        go_wp2_with (at_builtin; go_must (refine wpList_appLit rfl (.tmp 78) (.tmp 80) 68 rfl w1.heap.size 72 (.agg #[.int .i64 0, .int .i64 0, .int .u64 0, .slice none 0 0]) 4 48 Tryz.underlying68 Tryz.infoField rfl (by decide) (by decide) u5 L.length (flat L) rfl ho7 1 1 [.int .i64 5, .int .i64 0, .int .u64 4096, .slice none 0 0] _ rfl rfl (by simp [Value.oneCell']) (by omega) hsz ?_); intro v8 W8 ho8 hg8; have hst8 := (HST7.step ⟨⟨5, 0, 4096, []⟩, none, 0⟩ (FdB.none rfl) ho8 hg8); rw [← HLE.out] at hst8; have hb8 := hb7.grown hg8 hb7.size (fun j hj => Nat.le_trans hw1w (ho7.lt j hj).1); obtain ⟨la, lc, rfl, hwr⟩ := (hst8.write LF HL9.out HLO.out.1 (by have := HLO.out.2.1; omega)); have HWR := Lib.hid hwr; have hs8 := hb8.size; clear ho8 hg8 ho7 hb7 HST7 hst8 hwr hl9)
        refine HWR.out.mono ?_; rintro e W9 ⟨v9, rfl, ho9, hx⟩; have hb9 := hb8.trans (hx.mono hb8.size); rw [← HLB.out] at ho9; have ho10 : W9.ownsRow w.heap.size _ _ _ _ _ := ho9.mono hs8; clear HWR hx hb8 ho9; go_wp2; exact bodyPost_ret (v := .tuple #[v9, .int .i64 0]) (by simp [results, Tryz.results24, go_sem]) rfl ⟨v9, rfl, ho10, hb9⟩
 clear hK0; refine wp_region_sched 7 [1, 2, 6] (fun W => Below w1.heap.size w1 W) rfl (by kernel_rfl) (by kernel_rfl) ?_; have HB : Below w1.heap.size w1 w1.drew := (Below.refl _ _).drew; generalize w1.drew = V0 at *
 (refine sched_light 1 _ ?_ (by kernel_rfl) (by kernel_rfl) rfl rfl ?_ HB ?_; rotate_left; · (intro w' hS; (try dsimp only at hS); go_simp; with_reducible rfl)); try simp only [Act.put, List.getElem_toArray, List.getElem_cons_succ, List.getElem_cons_zero, List.setIfInBounds_toArray, List.set_cons_zero, List.set_cons_succ]
 refine sched_light 2 _ (.string NM) (by kernel_rfl) (by kernel_rfl) rfl rfl ?_ HB ?_
 ·intro w' hS; have e0 := (kL.keep hS).cell 0 rfl; clear hS; go_simp
 try simp only [Act.put, List.getElem_toArray, List.getElem_cons_succ, List.getElem_cons_zero, List.setIfInBounds_toArray, List.set_cons_zero, List.set_cons_succ]
 refine sched_fork [0, 3] (by kernel_rfl) (by kernel_rfl) (by simp) (fun i hi => ?_)
 rcases (by simpa using hi : i = 0 ∨ i = 3) with rfl | rfl
 ·refine sched_heavy 0 _ rfl rfl (fun K hK => ?_); go_step; refine (number_any 15 2 _).mono ?_; rintro e V1 ⟨rfl, hx⟩; have HB := HB.trans (hx.mono HB.size); clear hx; refine hK.out _ _ HB ?_; clear hK K
  try simp only [Act.put, List.getElem_toArray, List.getElem_cons_succ, List.getElem_cons_zero, List.setIfInBounds_toArray, List.set_cons_zero, List.set_cons_succ]
  refine sched_fork [3] (by kernel_rfl) (by kernel_rfl) (by simp) (fun i hi => ?_); obtain rfl : i = 3 := by simpa using hi
  refine sched_heavy 3 _ rfl rfl (fun K hK => ?_); obtain ⟨p, hp⟩ : ∃ p, (V1).heap.size = p := ⟨_, rfl⟩; have hcv0 := conv_sbT (P := Tryz.prog) V1 9 31 5 Tryz.underlying9 Tryz.underlying31 Tryz.underlying5 NM hnm; rw [hp] at hcv0; obtain ⟨c, V2, hcv, hr, hx, hc1, hc2, hty⟩ := hcv0; go_step; have hpb : B < p := by have := HB.size; omega
  rw [← hp] at hx; have HB := HB.trans (hx.mono HB.size); clear hx hp hcv; refine hK.out _ _ HB ?_; clear hK K
  try simp only [Act.put, List.getElem_toArray, List.getElem_cons_succ, List.getElem_cons_zero, List.setIfInBounds_toArray, List.set_cons_zero, List.set_cons_succ]
  refine sched_fork [4] (by kernel_rfl) (by kernel_rfl) (by simp) (fun i hi => ?_); obtain rfl : i = 4 := by simpa using hi
  refine sched_heavy 4 _ rfl rfl (fun K hK => ?_); go_step; refine (bytes_any 1 (some ⟨p, 0, none⟩) NM.size c _).mono ?_; rintro e V3 ⟨rfl, hx⟩; have HB := HB.trans (hx.mono HB.size); have hr := hr.keep hx; have hty := typB_below hty hx; clear hx; refine hK.out _ _ HB ?_; clear hK K
  try simp only [Act.put, List.getElem_toArray, List.getElem_cons_succ, List.getElem_cons_zero, List.setIfInBounds_toArray, List.set_cons_zero, List.set_cons_succ]
  refine sched_fork [5] (by kernel_rfl) (by kernel_rfl) (by simp) (fun i hi => ?_); obtain rfl : i = 5 := by simpa using hi
  refine sched_heavy 5 _ rfl rfl (fun K hK => ?_); go_step; obtain ⟨q, hq⟩ : ∃ q, V3.heap.size = q := ⟨_, rfl⟩; have hx := Below.new V3 (.cells #[.int .i64 15, .int .i64 0, .int .u64 2, .slice none 0 0, .int .i64 1, .int .i64 2, .int .u64 0, .slice (some ⟨p, 0, none⟩) NM.size c] 72); have rd := (ownsRow_lit V3 72 4 2 [.int .i64 15, .int .i64 0, .int .u64 2, .slice none 0 0, .int .i64 1, .int .i64 2, .int .u64 0, .slice (some ⟨p, 0, none⟩) NM.size c] rfl (by decide)).mono HB.size; have HB := HB.trans (hx.mono HB.size); have hr := hr.keep hx; have hty := typB_below hty hx; rw [hq] at rd; clear hx
  try rw [hq]
  clear hq; refine hK.out _ _ HB ?_; clear hK K
  try simp only [Act.put, List.getElem_toArray, List.getElem_cons_succ, List.getElem_cons_zero, List.setIfInBounds_toArray, List.set_cons_zero, List.set_cons_succ]
  (refine sched_light 6 _ ?_ (by kernel_rfl) (by kernel_rfl) rfl rfl ?_ HB ?_; rotate_left; · (intro w' hS; (try dsimp only at hS); go_simp; with_reducible rfl)); try simp only [Act.put, List.getElem_toArray, List.getElem_cons_succ, List.getElem_cons_zero, List.setIfInBounds_toArray, List.set_cons_zero, List.set_cons_succ]
  refine sched_end (by kernel_rfl) ?_
  try simp only [Act.put, List.getElem_toArray, List.getElem_cons_succ, List.getElem_cons_zero, List.setIfInBounds_toArray, List.set_cons_zero, List.set_cons_succ]
  exact main _ _ _ _ HB rd hr hty hc1 hc2 hpb
 ·refine sched_heavy 3 _ rfl rfl (fun K hK => ?_); obtain ⟨p, hp⟩ : ∃ p, (V0).heap.size = p := ⟨_, rfl⟩; have hcv0 := conv_sbT (P := Tryz.prog) V0 9 31 5 Tryz.underlying9 Tryz.underlying31 Tryz.underlying5 NM hnm; rw [hp] at hcv0; obtain ⟨c, V2, hcv, hr, hx, hc1, hc2, hty⟩ := hcv0; go_step; have hpb : B < p := by have := HB.size; omega
  rw [← hp] at hx; have HB := HB.trans (hx.mono HB.size); clear hx hp hcv; refine hK.out _ _ HB ?_; clear hK K
  try simp only [Act.put, List.getElem_toArray, List.getElem_cons_succ, List.getElem_cons_zero, List.setIfInBounds_toArray, List.set_cons_zero, List.set_cons_succ]
  refine sched_fork [0] (by kernel_rfl) (by kernel_rfl) (by simp) (fun i hi => ?_); obtain rfl : i = 0 := by simpa using hi
  refine sched_heavy 0 _ rfl rfl (fun K hK => ?_); go_step; refine (number_any 15 2 _).mono ?_; rintro e V1 ⟨rfl, hx⟩; have HB := HB.trans (hx.mono HB.size); have hr := hr.keep hx; have hty := typB_below hty hx; clear hx; refine hK.out _ _ HB ?_; clear hK K
  try simp only [Act.put, List.getElem_toArray, List.getElem_cons_succ, List.getElem_cons_zero, List.setIfInBounds_toArray, List.set_cons_zero, List.set_cons_succ]
  refine sched_fork [4] (by kernel_rfl) (by kernel_rfl) (by simp) (fun i hi => ?_); obtain rfl : i = 4 := by simpa using hi
  refine sched_heavy 4 _ rfl rfl (fun K hK => ?_); go_step; refine (bytes_any 1 (some ⟨p, 0, none⟩) NM.size c _).mono ?_; rintro e V3 ⟨rfl, hx⟩; have HB := HB.trans (hx.mono HB.size); have hr := hr.keep hx; have hty := typB_below hty hx; clear hx; refine hK.out _ _ HB ?_; clear hK K
  try simp only [Act.put, List.getElem_toArray, List.getElem_cons_succ, List.getElem_cons_zero, List.setIfInBounds_toArray, List.set_cons_zero, List.set_cons_succ]
  refine sched_fork [5] (by kernel_rfl) (by kernel_rfl) (by simp) (fun i hi => ?_); obtain rfl : i = 5 := by simpa using hi
  refine sched_heavy 5 _ rfl rfl (fun K hK => ?_); go_step; obtain ⟨q, hq⟩ : ∃ q, V3.heap.size = q := ⟨_, rfl⟩; have hx := Below.new V3 (.cells #[.int .i64 15, .int .i64 0, .int .u64 2, .slice none 0 0, .int .i64 1, .int .i64 2, .int .u64 0, .slice (some ⟨p, 0, none⟩) NM.size c] 72); have rd := (ownsRow_lit V3 72 4 2 [.int .i64 15, .int .i64 0, .int .u64 2, .slice none 0 0, .int .i64 1, .int .i64 2, .int .u64 0, .slice (some ⟨p, 0, none⟩) NM.size c] rfl (by decide)).mono HB.size; have HB := HB.trans (hx.mono HB.size); have hr := hr.keep hx; have hty := typB_below hty hx; rw [hq] at rd; clear hx
  try rw [hq]
  clear hq; refine hK.out _ _ HB ?_; clear hK K
  try simp only [Act.put, List.getElem_toArray, List.getElem_cons_succ, List.getElem_cons_zero, List.setIfInBounds_toArray, List.set_cons_zero, List.set_cons_succ]
  (refine sched_light 6 _ ?_ (by kernel_rfl) (by kernel_rfl) rfl rfl ?_ HB ?_; rotate_left; · (intro w' hS; (try dsimp only at hS); go_simp; with_reducible rfl)); try simp only [Act.put, List.getElem_toArray, List.getElem_cons_succ, List.getElem_cons_zero, List.setIfInBounds_toArray, List.set_cons_zero, List.set_cons_succ]
  refine sched_end (by kernel_rfl) ?_
  try simp only [Act.put, List.getElem_toArray, List.getElem_cons_succ, List.getElem_cons_zero, List.setIfInBounds_toArray, List.set_cons_zero, List.set_cons_succ]
  exact main _ _ _ _ HB rd hr hty hc1 hc2 hpb
end Go.Proofs.YtjggoajfilnfjaaGreat
namespace Go
open Go.RowKit Go.Vint Go.Proto
theorem tlGo_zero : ∀ {l : List LyC} {met : List (List UInt8)}, tlGo met l = 0 → (∀ y ∈ l, lyE [] y = 0 ∧ y.1.data.toList ∉ met) ∧ (l.map (·.1.data.toList)).Nodup
 | [], _, _ => ⟨by simp, by simp⟩
 | y :: l, met, h => by
  unfold tlGo at h
  split at h
  ·rename_i h2; exact absurd h h2
  ·rename_i h2; have h2 : lyE met y = 0 := by simpa using h2
   obtain ⟨h3, h4⟩ := tlGo_zero h; have h5 := lyE_zero h2; have h6 : lyE [] y = 0 := by
    unfold lyE at h2 ⊢; rw [if_neg (by simpa using h5.1), if_neg h5.2.1] at h2; rw [if_neg (by simpa using h5.1), if_neg (by simp)]; exact h2
   refine ⟨fun z hz => ?_, ?_⟩
   ·rcases List.mem_cons.1 hz with rfl | hz
    ·exact ⟨h6, h5.2.1⟩
    ·exact ⟨(h3 z hz).1, fun hm => (h3 z hz).2 (List.mem_cons_of_mem _ hm)⟩
   ·rw [List.map_cons, List.nodup_cons]; refine ⟨fun hm => ?_, h4⟩; obtain ⟨z, hz, he⟩ := List.mem_map.1 hm; exact (h3 z hz).2 (by rw [he]; simp)
theorem tileE_zero {l : List LyC} (h : tileE l = 0) : l.length ≤ 16 ∧ (∀ y ∈ l, lyE [] y = 0) ∧ (l.map (·.1.data.toList)).Nodup := by
 unfold tileE at h
 split at h
 ·cases h
 ·have h2 := tlGo_zero h; exact ⟨by omega, fun y hy => (h2.1 y hy).1, h2.2⟩
theorem lyFld_ok {y : LyC} (h : lyE [] y = 0) (hw : y.Few) : FOk (lyFld y) ∧ (lyB y).length ≤ 250000 := by
 have h2 := lyE_zero h; have h3 := lay_ok y h2.1 h2.2.2.2.2 hw; exact ⟨FOk.bytes (by omega) h3.2.2.2 (by omega), h3.2.2.1⟩
end Go
namespace Go.Proofs.YtjggoajfilnfjaaGreat
open Go.RowKit Go.Vint Go.Proto
set_option maxHeartbeats 12800000 in
theorem encode_any (a : Option Addr) (c : Nat) (Y : List Ly) (hl : Y.length ≤ 1000) (hz : ∀ y ∈ Y, y.Sz) (hw : tileE (Y.map Ly.core) = 0 → ∀ y ∈ Y, y.core.Few) (w : World) (hr : Rd w a (lys Y)) (hok : ∀ y ∈ Y, y.Ok w) :
  Calls Tryz.prog 8 #[.agg #[.slice a Y.length c]] w fun e w' => ∃ v, e = .returned (.tuple #[v, .int .i64 (tileE (Y.map Ly.core))]) ∧ w'.ownsRow w.heap.size 5 1 v (if tileE (Y.map Ly.core) = 0 then tlB (Y.map Ly.core) else []).length ((if tileE (Y.map Ly.core) = 0 then tlB (Y.map Ly.core) else []).map (Value.int .u8)) ∧ Below w.heap.size w w' := by
 have HCK := Lib.hid (fun (W : World) (h : Below w.heap.size w W) => mcheck_any a c Y hl hz W (hr.keep h) (fun y hy => (hok y hy).keep h)); have HTZ := Lib.hid (@tileE_zero (Y.map Ly.core)); have HWF := Lib.hid hw; have HRY := Lib.hid hr; have HYO : Hid (∀ y ∈ Y, y.Sz ∧ y.Ok w) := Lib.hid (fun y hy => ⟨hz y hy, hok y hy⟩); have HTL : Hid (tlB (Y.map Ly.core) = ((Y.map Ly.core).map lyFld).flatMap fby) := Lib.hid rfl; generalize tlB (Y.map Ly.core) = TL at *; generalize tileE (Y.map Ly.core) = TE at *; obtain ⟨N, hN⟩ : ∃ N, Y.length = N := ⟨_, rfl⟩; have HN := Lib.hid hN; obtain ⟨RS, hRS⟩ : ∃ R, (if TE = 0 then TL else []) = R := ⟨_, rfl⟩; have HRS := Lib.hid hRS; rw [hRS]; rw [hN] at hl HCK ⊢; clear hr hok hz hw hN hRS; have hb0 := Below.new w (.cells #[.slice a N c] 24); have kT := Blk.lit w w.heap.size [.slice a N c] 24 rfl; obtain ⟨F, hF⟩ : ∃ F, w.heap.size = F := ⟨_, rfl⟩; have hws : (w.alloc (.cells #[.slice a N c] 24)).heap.size = F + 1 := by simp [hF]
 have HFE := Lib.hid hF; rw [hF] at kT; have a0 := kT.cell 0 rfl
 go_enter Tryz.func8, Tryz.ntmps8
 go_wp2_with fail
 try rw [hF]
 generalize w.alloc (.cells #[.slice a N c] 24) = w1 at *; refine (HCK.out _ hb0).mono ?_; rintro e w2 ⟨rfl, hb2⟩; have hbW := hb0.trans (hb2.mono hb0.size); have kT := kT.keep hb2; have hFw : F < w2.heap.size := by have := hb2.size; omega
 have hFw0 : w.heap.size ≤ F := by omega
 clear a0 hb0 hb2 HCK hws hF; have a0 := kT.cell 0 rfl
 by_cases hE : TE = 0
 ·subst hE; obtain ⟨t1, t2, t3⟩ := HTZ.out rfl; have HT2 := Lib.hid t2; have HWF2 := Lib.hid (HWF.out rfl); have HFK : Hid (∀ f ∈ (Y.map Ly.core).map lyFld, FOk f) := Lib.hid (fun f hf => by
   obtain ⟨y, hy, rfl⟩ := List.mem_map.1 hf; obtain ⟨z, hz, rfl⟩ := List.mem_map.1 hy; exact (lyFld_ok (t2 _ hy) (HWF.out rfl z hz)).1)
  have hRS := HRS.out; rw [if_pos rfl] at hRS; subst hRS; clear HRS t1 t2 t3 HTZ HWF; have HST0 : Hid (LSt w2.heap.size F [] (.slice none 0 0) w2) := Lib.hid ⟨World.ownsRow_nil _ _ _ _, (fun x hx => by cases hx), hFw, Nat.le_refl _⟩; have hw2w : w.heap.size ≤ w2.heap.size := by omega
  go_wp2
  go_loopw [5, 18] (fun u5 i wr => ∃ (k : Nat) (L : List FC), k ≤ N ∧ i = .int .i64 k ∧ Hid (L.map (·.f) = ((Y.map Ly.core).take k).map lyFld) ∧ Hid (LSt w2.heap.size F L u5 wr) ∧ Below w.heap.size w wr) (fun _ i _ => N - (intOf i).toNat)
  case atStart => exact ⟨0, [], by omega, rfl, Lib.hid (by simp), HST0, hbW⟩
  case round =>
   clear a0 hbW HST0 kT; obtain ⟨k, L, hk, rfl, HLF, HST, hbr⟩ := hrel; have hNl := HN.out; have hLl : L.length ≤ 1000 := by
    have h := congrArg List.length HLF.out; rw [List.length_map, List.length_map, List.length_take, List.length_map] at h; omega
   by_cases hlt : k < N
   ·have hlt' : (k : Int) < (N : Int) := by omega
    have hkl : k < Y.length := by omega
    obtain ⟨b1, o1, rfl, hbb, e0, e1⟩ := (HRY.out.keep hbr).ly k hkl; obtain ⟨hyz, hyo⟩ := HYO.out Y[k] (List.getElem_mem hkl); have hyE := HT2.out Y[k].core (List.mem_map_of_mem (List.getElem_mem hkl)); have hyw := HWF2.out Y[k] (List.getElem_mem hkl); have htk : (Y.map Ly.core).take (k + 1) = (Y.map Ly.core).take k ++ [Y[k].core] := by
     rw [List.take_succ_eq_append_getElem (by rw [List.length_map]; exact hkl), List.getElem_map]
    have HS : Hid (((Y.map Ly.core).take (k + 1)).map lyFld = ((Y.map Ly.core).take k).map lyFld ++ [⟨3, 2, 0, lyB Y[k].core⟩]) := Lib.hid (by rw [htk, List.map_append]; rfl); have hz1 := lyE_zero hyE; have hlb := (lyFld_ok hyE hyw).2; have HLY := Lib.hid (fun (W : World) (h : Below w.heap.size w W) => layer_any Y[k] hz1.1 hz1.2.2.2.2 hyz hyw W (hyo.keep h)); generalize lyB Y[k].core = LB at *; clear hyz hyo hyE hyw htk hz1; generalize Y[k] = y at *; obtain ⟨NM, fs, fa, fc⟩ := y; dsimp only [Ly.val, Ly.fval] at e0 e1 HLY; generalize fs.length = n1 at *; have hx3 := Below.new wr (.cells #[.string NM, .slice fa n1 fc] 46); have kF := Blk.new wr [.string NM, .slice fa n1 fc] 46; have g0 := kF.cell 0 rfl; have g1 := kF.cell 1 rfl; have HST5 := HST.out.below hx3; have hb5 := hbr.trans (hx3.mono hbr.size); clear HST hbr hx3
    go_wp2_with fail
    refine (HLY.out _ hb5).mono ?_; rintro e W5 ⟨v5, rfl, ho5, hx⟩; have hb6 := hb5.trans (hx.mono hb5.size); have HST6 := HST5.below hx; have hs5 := Nat.lt_of_lt_of_le HST5.2.2.1 HST5.2.2.2; have ho5 := ho5.mono (base' := F + 1) (by omega); obtain ⟨ba, bc, rfl, -⟩ := ho5.form; have hFd : FdB F W5 ⟨⟨3, 2, 0, LB⟩, ba, bc⟩ := FdB.owns ho5 (Nat.lt_succ_self F); clear hx kF g0 g1 e0 e1 HLY HST5 hb5 ho5 hs5
    go_wp2_with fail
    refine (bytes_any 3 ba _ bc _).mono ?_; rintro e W6 ⟨rfl, hx⟩; have hb7 := hb6.trans (hx.mono hb6.size); have HST7 := HST6.below hx; have hFd := hFd.below hx; have hsz := HST7.2.2.2; have ho7 := HST7.1; clear hx HST6 hb6
    go_wp2_with (at_builtin; go_must (refine wpList_appLit rfl (.tmp 30) (.tmp 33) 68 rfl w2.heap.size 72 (.agg #[.int .i64 0, .int .i64 0, .int .u64 0, .slice none 0 0]) 4 48 Tryz.underlying68 Tryz.infoField rfl (by decide) (by decide) u5 L.length (flat L) rfl ho7 1 1 [.int .i64 3, .int .i64 2, .int .u64 0, .slice ba LB.length bc] _ rfl rfl (by simp [Value.oneCell']) (by omega) hsz ?_); intro v8 W8 ho8 hg8; have HST8 := (Lib.hid (HST7.step ⟨⟨3, 2, 0, LB⟩, ba, bc⟩ hFd ho8 hg8)); have hb8 := hb7.grown hg8 hb7.size (fun j hj => Nat.le_trans hw2w (ho7.lt j hj).1); clear ho8 hg8 ho7 hb7 HST7 hFd)
    go_roundw
    case rel => exact ⟨k + 1, L ++ [⟨⟨3, 2, 0, LB⟩, ba, bc⟩], by omega, by go_num, Lib.hid (by rw [List.map_append, HLF.out, HS.out]; simp), HST8, hb8⟩
    case measure => simp [intOf]; omega
   ·obtain rfl : k = N := by omega
    have hlt' : ¬ (k : Int) < (k : Int) := by omega
    have hta : (Y.map Ly.core).take k = Y.map Ly.core := List.take_of_length_le (by rw [List.length_map]; omega); rw [hta] at HLF; have hfl : ((Y.map Ly.core).map lyFld).length ≤ 100000 := by rw [List.length_map, List.length_map]; omega
    obtain ⟨la, lc, rfl, hwr⟩ := HST.out.write _ HLF.out HFK.out hfl; rw [← HTL.out] at hwr; have HWR := Lib.hid hwr; clear hta hlt hwr HST hfl
    go_wp2_with fail
    refine HWR.out.mono ?_; rintro e W9 ⟨v9, rfl, ho9, hx⟩; have hb9 := hbr.trans (hx.mono hbr.size); have ho10 : W9.ownsRow w.heap.size _ _ _ _ _ := ho9.mono hbr.size; clear HWR hx hbr ho9; go_wp2; exact bodyPost_ret (v := .tuple #[v9, .int .i64 0]) (by simp [results, Tryz.results8, go_sem]) rfl ⟨v9, rfl, ho10, hb9⟩
 ·have hE' : (TE != 0) = true := by simpa using hE
  have hRS := HRS.out; rw [if_neg hE] at hRS; subst hRS; clear HRS; go_wp2; exact bodyPost_ret (v := .tuple #[.slice none 0 0, .int .i64 TE]) (by simp [results, Tryz.results8, go_sem]) rfl ⟨_, rfl, World.ownsRow_nil _ _ _ _, hbW⟩
end Go.Proofs.YtjggoajfilnfjaaGreat
