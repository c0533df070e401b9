/-
  graticuleref24.Encode: a right tile's bytes. graticuleref07.Same. MvtTells: the walk. Opening a law's arguments: a tile.
-/
import Derived.Test.YtjggoajfilnfjaaGreatPk41
import Derived.Test.YtjggoajfilnfjaaGreatProg
import Derived.Test.YtjggoajfilnfjaaGreatPk1
import Derived.Test.YtjggoajfilnfjaaGreatPk27
import Derived.Test.YtjggoajfilnfjaaGreatPk28
import Derived.Test.YtjggoajfilnfjaaGreatPk30
import Derived.Test.YtjggoajfilnfjaaGreatPk32
import Derived.Test.YtjggoajfilnfjaaGreatPk36
import Derived.Test.YtjggoajfilnfjaaGreatPk9
import Derived.Test.YtjggoajfilnfjaaGreatPk26
set_option linter.unusedVariables false
set_option linter.unusedSimpArgs false
set_option maxRecDepth 100000
namespace Go
open Go.RowKit Go.Vint Go.Proto
theorem tlB_snoc (C : List LyC) (k : Nat) (hk : k < C.length) : tlB (C.take k) ++ fby ⟨3, 2, 0, lyB C[k]⟩ = tlB (C.take (k + 1)) := by
 rw [List.take_succ_eq_append_getElem hk]; unfold tlB; rw [List.map_append, List.flatMap_append, List.map_singleton, List.flatMap_singleton]
 rfl
end Go
namespace Go.Proofs.YtjggoajfilnfjaaGreat
open Go.RowKit Go.Vint Go.Proto
set_option maxHeartbeats 6400000 in
theorem rencode_any (a : Option Addr) (c : Nat) (Y : List Ly) (hT : tileE (Y.map Ly.core) = 0) (hF : ∀ y ∈ Y.map Ly.core, LyC.Few y) (hz : ∀ y ∈ Y, y.Sz) (w : World) (hr : Rd w a (lys Y)) (hok : ∀ y ∈ Y, y.Ok w) :
  Calls Tryz.prog 13 #[.agg #[.slice a Y.length c]] w fun e w' => ∃ v, e = .returned v ∧ Rw w.heap.size w' v (tlB (Y.map Ly.core)) ∧ Below w.heap.size w w' := by
 have ht := tileE_zero hT; have hl : Y.length ≤ 16 := by have := ht.1; simpa using this
 have HE : Hid (∀ y ∈ Y, lyE [] (y.name, y.fs.map Ft.core) = 0 ∧ LyC.Few (y.name, y.fs.map Ft.core)) := Lib.hid (fun y hy => ⟨ht.2.1 y.core (List.mem_map_of_mem hy), hF y.core (List.mem_map_of_mem hy)⟩); have HR := Lib.hid hr; have HOK := Lib.hid hok; have HZ := Lib.hid hz; have HML : Hid ((Y.map Ly.core).length = Y.length) := Lib.hid (List.length_map _); have HCE : Hid (∀ k (hk : k < Y.length) (hk2 : k < (Y.map Ly.core).length), (Y.map Ly.core)[k] = (Y[k].name, Y[k].fs.map Ft.core)) := Lib.hid (fun k hk hk2 => List.getElem_map _); generalize Y.map Ly.core = C at *; have HEND : Hid (tlB (C.take Y.length) = tlB C) := Lib.hid (by rw [List.take_of_length_le (by rw [HML.out]; omega)]); have HLB : Hid (∀ k, (tlB (C.take k)).length ≤ 5000000) := Lib.hid (fun k => by
  have h1 : ∀ f ∈ (C.take k).map lyFld, FOk f ∧ f.bs.length ≤ 250000 := fun f hf => by
   obtain ⟨y, hy, rfl⟩ := List.mem_map.1 hf; have hm := List.mem_of_mem_take hy; exact lyFld_ok (ht.2.1 y hm) (hF y hm)
  have h2 := flds_len h1; have h3 : ((C.take k).map lyFld).length ≤ 16 := by rw [List.length_map, List.length_take]; have := ht.1; omega
  have : ((C.take k).map lyFld).length * (250000 + 20) ≤ 16 * (250000 + 20) := Nat.mul_le_mul_right _ h3; unfold tlB; omega)
 have HFO : Hid (∀ k (hk : k < C.length), FOk ⟨3, 2, 0, lyB C[k]⟩ ∧ tlB (C.take k) ++ fby ⟨3, 2, 0, lyB C[k]⟩ = tlB (C.take (k + 1))) := Lib.hid (fun k hk => ⟨(lyFld_ok (ht.2.1 _ (List.getElem_mem hk)) (hF _ (List.getElem_mem hk))).1, tlB_snoc C k hk⟩); obtain ⟨N, hN⟩ : ∃ N, Y.length = N := ⟨_, rfl⟩; have HN := Lib.hid hN; rw [hN] at hl HML HEND ⊢; clear hN hr hok hz ht hT hF; have kT := BkT.lit w w.heap.size [.slice a N c] 29 rfl; have hb0 := Below.new w (.cells #[.slice a N c] 29)
 go_enter Tryz.func13, Tryz.ntmps13
 go_wp2; generalize w.alloc (.cells #[.slice a N c] 29) = w0 at *; obtain ⟨B, hB⟩ : ∃ B, w.heap.size = B := ⟨_, rfl⟩; rw [hB] at kT ⊢; clear hB; have H0 := Lib.hid (⟨kT, hb0⟩ : BkT w0 B 29 [.slice a N c] ∧ Below w.heap.size w w0); clear kT hb0
 go_loopw [3, 4] (fun o i wr => ∃ k : Nat, k ≤ N ∧ i = .int .i64 k ∧ Hid (Rw w.heap.size wr o (tlB (C.take k))) ∧ Hid (BkT wr B 29 [.slice a N c]) ∧ Hid (Below w.heap.size w wr)) (fun _ i _ => N - (intOf i).toNat)
 case atStart => exact ⟨0, by omega, rfl, Lib.hid (World.ownsRow_nil _ _ _ _), Lib.hid H0.out.1, Lib.hid H0.out.2⟩
 case round =>
  clear H0; obtain ⟨k, hk, rfl, HO, HT, HB⟩ := hrel; have t0 := HT.out.blk.cell 0 rfl
  by_cases h1 : k < N
  ·have h1' : (k : Int) < (N : Int) := by omega
   have hkl : k < Y.length := by rw [HN.out]; exact h1
   have hkC : k < C.length := by rw [HML.out]; exact h1
   obtain ⟨b1, o1, rfl, hbb, c0, c1⟩ := (HR.out.keep HB.out).ly k hkl; have hce := HCE.out k hkl hkC; obtain ⟨hf1, hf2⟩ := HFO.out k hkC; rw [hce] at hf1 hf2; obtain ⟨he1, he2⟩ := HE.out Y[k] (List.getElem_mem hkl); have hyo := (HOK.out Y[k] (List.getElem_mem hkl)).keep HB.out; have hyz := HZ.out Y[k] (List.getElem_mem hkl); have hpl := HLB.out k; generalize Y[k] = y at *; obtain ⟨NM, fs, fa, fc⟩ := y; obtain ⟨⟨hrf, -⟩, hfo⟩ := hyo; dsimp only [Ly.fval] at *; have HLY := Lib.hid (rlayer_any NM fs fa fc he1 he2 hyz.2.2 wr hrf hfo); have HF1 := Lib.hid hf1; have HF2 := Lib.hid hf2; generalize lyB (NM, fs.map Ft.core) = LB at *; generalize fs.length = n1 at *; clear hce hf1 hf2 he1 he2 hrf hfo hyz
   go_wp2_with fail
   refine HLY.out.mono ?_; rintro e w1 ⟨rfl, hb1⟩; have hO1 := HO.out.below hb1; have hB1 := HB.out.trans (hb1.mono HB.out.size); have hT1 := HT.out.keep hb1; clear HLY hb1 c0 c1 t0
   go_wp2_with fail
   refine (rtell_app w.heap.size u3 (tlB (C.take k)) 3 2 0 LB (strOfNums LB) rfl HF1.out (tlB (C.take (k + 1))) HF2.out w1 hB1.size hO1 (by omega)).mono ?_; rintro e w2 ⟨v2, rfl, ho2, hg2⟩; have hb2 := hB1.grown hg2 hB1.size (fun g hg => (World.ownsRow.lt hO1 g hg).1); have hT2 := hT1.grown hg2 (bkt_neA hT1 hO1 (by decide)); clear hg2 hO1 hB1 hT1; go_wp2; go_roundw
   case rel => exact ⟨k + 1, by omega, by go_num, Lib.hid ho2, Lib.hid hT2, Lib.hid hb2⟩
   case measure => simp [intOf]; omega
  ·have h1' : ¬ (k : Int) < (N : Int) := by omega
   obtain rfl : k = N := by omega
   have ho := HO.out; rw [HEND.out] at ho; clear HO HEND; go_wp2; go_ret; exact ⟨_, rfl, ho, HB.out⟩
end Go.Proofs.YtjggoajfilnfjaaGreat
namespace Go.Proofs.YtjggoajfilnfjaaGreat
open Go.RowKit

theorem rsame_any (a b : Option Addr) (c d : Nat) (L M : List Int) (hl : L.length ≤ 140737488355328) (hm : M.length ≤ 140737488355328) (w : World) (hr : Rd w a (L.map (Value.int .u8))) (hs : Rd w b (M.map (Value.int .u8))) :
  Calls Tryz.prog 12 #[.slice a L.length c, .slice b M.length d] w fun e w' => e = .returned (.bool (decide (L = M))) ∧ ∃ n, w' = w.drewN n := by
 by_cases hlen : L.length = M.length
 ·have hne : ((L.length : Int) != (M.length : Int)) = false := by simp [hlen]
  go_enter Tryz.func12, Tryz.ntmps12
  have HL := Lib.hid hlen; clear hlen; go_wp2
  go_loopw [5] (fun i wr => ∃ k : Nat, k ≤ L.length ∧ i = .int .i64 k ∧ L.take k = M.take k ∧ ∃ n, wr = w.drewN n) (fun i _ => L.length - (intOf i).toNat)
  case atStart => exact ⟨0, Nat.zero_le _, rfl, rfl, 0, rfl⟩
  case round =>
   obtain ⟨k, hk, rfl, heq, n, rfl⟩ := hrel; have HE := Lib.hid heq; clear heq
   by_cases hlt : k < L.length
   ·have hlt2 : k < M.length := by have := HL.out; omega
    obtain ⟨b1, off1, rfl, hcell1, _⟩ := hr.at (i := k) (v := .int .u8 L[k]) (by simp [hlt]); obtain ⟨b2, off2, rfl, hcell2, _⟩ := hs.at (i := k) (v := .int .u8 M[k]) (by simp [hlt2])
    by_cases hx : L[k] = M[k]
    ·have hb : (L[k] != M[k]) = false := by simp [hx]
     have HX := Lib.hid hx; clear hx; go_wp2
     go_quiet (fail)
     go_wp2; go_roundw
     case rel => exact ⟨k + 1, by omega, by go_num, by rw [List.take_succ_eq_append_getElem hlt, List.take_succ_eq_append_getElem hlt2, HE.out, HX.out], n + nq, by simp⟩
     case measure => simp [intOf]; omega
    ·have hb : (L[k] != M[k]) = true := by simpa using hx
     go_wp2
     go_quiet (fail)
     go_wp2; go_ret; refine ⟨ret_bool ?_, n + nq, by simp⟩
     symm; apply decide_eq_false; intro h; exact hx (by simp [h])
   ·go_wp2; go_ret; refine ⟨ret_bool ?_, n, rfl⟩
    symm; apply decide_eq_true
    have := HE.out
    rwa [List.take_of_length_le (by omega), List.take_of_length_le (by have := HL.out; omega)] at this
 ·have hne : ((L.length : Int) != (M.length : Int)) = true := by simp; omega
  go_enter Tryz.func12, Tryz.ntmps12
  go_wp2; go_ret; refine ⟨ret_bool ?_, 0, rfl⟩
  symm; apply decide_eq_false; intro h; rw [h] at hlen; exact hlen rfl
end Go.Proofs.YtjggoajfilnfjaaGreat
namespace Go
open Go.RowKit
theorem few_same {Z A : List Ly} (h : Z.map Ly.core = A.map Ly.core) (hA : ∀ y ∈ A, LyFw y) : ∀ y ∈ Z, y.name.size ≤ 100000 ∧ ∀ f ∈ y.fs, ∀ x ∈ f.ls, x.key.size ≤ 100000 ∧ x.text.size ≤ 100000 := fun y hy => by
 have hm : y.core ∈ A.map Ly.core := by rw [← h]; exact List.mem_map_of_mem hy
 obtain ⟨z, hz, e⟩ := List.mem_map.1 hm; have hw := hA z hz; have hn : z.name = y.name := congrArg Prod.fst e; have hf : z.core.2 = y.core.2 := congrArg Prod.snd e; refine ⟨by rw [← hn]; have := hw.1; omega, fun f hf2 x hx => ?_⟩; have hfm : f.core ∈ z.core.2 := by rw [hf]; exact List.mem_map_of_mem hf2
 have h3 := (hw.2.1.2 _ hfm).2.2.2 x hx; omega
end Go
namespace Go.Proofs.YtjggoajfilnfjaaGreat
open Go.RowKit Go.Vint Go.Proto
set_option maxHeartbeats 12800000 in
theorem mvtTells_walk (a : Option Addr) (ca : Nat) (A : List Ly) (hA1 : A.length ≤ ca) (hA2 : ca ≤ maxLen) (w : World) (hA3 : Rd w a (lys A)) (hA4 : ∀ y ∈ A, LyIn w y) :
  Calls Tryz.prog 3 #[.agg #[.slice a A.length ca]] w fun e w' => e = .returned (.bool true) ∧ Below w.heap.size w w' := by
 obtain ⟨N, hN⟩ : ∃ N, A.length = N := ⟨_, rfl⟩; have HA : Hid (TlIn w a N ca A) := Lib.hid ⟨hN, by omega, hA2, hA3, hA4⟩; rw [hN]; have HCUT := Lib.hid (fun W hb => mcut_tl w a N ca A HA.out W hb); clear hA1 hA2 hA3 hA4 hN HA
 go_enter Tryz.func3, Tryz.ntmps3
 have kA := BkT.lit w w.heap.size [.slice a N ca] 24 rfl; have hb1 := Below.new w (.cells #[.slice a N ca] 24)
 go_wp2_with fail
 generalize w.alloc (.cells #[.slice a N ca] 24) = w1 at *; obtain ⟨B, hB⟩ : ∃ B, w.heap.size = B := ⟨_, rfl⟩; rw [hB] at kA ⊢; have hwB : w.heap.size ≤ B := by omega
 clear hB; refine (HCUT.out w1 hb1).mono ?_; rintro e W2 ⟨pa, qa, ZA, rfl, hla, hza, hta, hb2⟩; obtain ⟨NA, hNA⟩ : ∃ n, ZA.length = n := ⟨_, rfl⟩; have HNA := Lib.hid hNA; rw [hNA] at hla ⊢; have HZA := Lib.hid hza; have kA2 := kA.keep hb2; have a0 := kA2.blk.cell 0 rfl; have af := kA2.blk.free 0; have KA := Lib.hid (kA2.set 0 (.slice pa NA qa)); have TA := Lib.hid (hta.gr (grown_set W2 B 0 (.slice pa NA qa)) (Off.typ2 kA2 (by decide))); have HB4 := Lib.hid ((hb1.trans (hb2.mono hb1.size)).set_at (b := B) (o := 0) hwB (.slice pa NA qa)); have ka0 := KA.out.blk.cell 0 rfl; clear hNA hza hta kA kA2 hb1 hb2 HCUT; have hty : (W2.setCell ⟨B, 0, none⟩ (.slice pa NA qa)).heap.size = W2.heap.size := size_setCell _ _ _
 go_wp2_with fail
 clear a0 af hty; generalize W2.setCell ⟨B, 0, none⟩ (.slice pa NA qa) = w4 at *; have HSA : Hid (∀ y ∈ ZA, y.Sz) := Lib.hid (fun y hy => (HZA.out y hy).sz); have HOF : Hid (∀ W, Below w4.heap.size w4 W → Calls Tryz.prog 7 #[.agg #[.slice pa NA qa]] W fun e w' => ∃ (p : Option Addr) (q : Nat) (Z : List Ly), e = .returned (.agg #[.slice p Z.length q]) ∧ Z.map Ly.core = ZA.map Ly.core ∧ Rd w' p (lys Z) ∧ (∀ z ∈ Z, z.Ok w') ∧ Below W.heap.size W w') := Lib.hid (fun W hb => by
  have h := mof_any pa qa ZA (by rw [HNA.out]; omega) HSA.out W (TA.out.1.1.keep hb) (fun y hy => (TA.out.ok HB4.out y hy).keep hb); rw [HNA.out] at h; exact h)
 have HCH : Hid (∀ W p q (Z : List Ly), Z.map Ly.core = ZA.map Ly.core → Rd W p (lys Z) → (∀ z ∈ Z, z.Ok W) → Calls Tryz.prog 6 #[.agg #[.slice p Z.length q]] W fun e w' => e = .returned (.int .i64 (tileE (ZA.map Ly.core))) ∧ Below W.heap.size W w') := Lib.hid (fun W p q Z hc hr ho => by
  have hln : Z.length = NA := by have := congrArg List.length hc; simp only [List.length_map] at this; rw [this, HNA.out]
  have h := rmcheck_any p q Z (by omega) (szs_coreS hc HSA.out) (few_same hc HZA.out) W hr ho; rw [hc] at h; exact h)
 have HEN : Hid (∀ W, Below w4.heap.size w4 W → Calls Tryz.prog 8 #[.agg #[.slice pa NA qa]] W fun e w' => ∃ v, e = .returned (.tuple #[v, .int .i64 (tileE (ZA.map Ly.core))]) ∧ w'.ownsRow W.heap.size 5 1 v (if tileE (ZA.map Ly.core) = 0 then tlB (ZA.map Ly.core) else []).length ((if tileE (ZA.map Ly.core) = 0 then tlB (ZA.map Ly.core) else []).map (Value.int .u8)) ∧ Below W.heap.size W w') := Lib.hid (fun W hb => menc_tl w pa qa NA ZA HNA.out hla HZA.out W (HB4.out.trans (hb.mono HB4.out.size)) (TA.out.below hb)); have HCK : Hid (∀ W, Below w4.heap.size w4 W → Calls Tryz.prog 9 #[.agg #[.slice pa NA qa]] W fun e w' => e = .returned (.int .i64 (tileE (ZA.map Ly.core))) ∧ Below W.heap.size W w') := Lib.hid (fun W hb => by
  have h := mcheck_any pa qa ZA (by rw [HNA.out]; omega) HSA.out W (TA.out.1.1.keep hb) (fun y hy => (TA.out.ok HB4.out y hy).keep hb); rw [HNA.out] at h; exact h)
 have HTZ : Hid (tileE (ZA.map Ly.core) = 0 → (∀ y ∈ ZA.map Ly.core, lyE [] y = 0 ∧ LyC.Few y) ∧ (if tileE (ZA.map Ly.core) = 0 then tlB (ZA.map Ly.core) else []) = tlB (ZA.map Ly.core)) := Lib.hid (fun h => ⟨fun y hy => ⟨(tileE_zero h).2.1 y hy, few_cores HZA.out y hy⟩, if_pos h⟩); have HTN : Hid (tileE (ZA.map Ly.core) ≠ 0 → (if tileE (ZA.map Ly.core) = 0 then tlB (ZA.map Ly.core) else []) = []) := Lib.hid (fun h => if_neg h); obtain ⟨XA, hXA⟩ : ∃ X, (if tileE (ZA.map Ly.core) = 0 then tlB (ZA.map Ly.core) else []) = X := ⟨_, rfl⟩; rw [hXA] at HEN HTZ HTN; obtain ⟨TE, hTE⟩ : ∃ X, tileE (ZA.map Ly.core) = X := ⟨_, rfl⟩; rw [hTE] at HCH HEN HCK HTZ HTN; have HTE := Lib.hid hTE; clear hXA hTE ka0; refine (HOF.out w4 (Below.refl _ _)).mono ?_; rintro e w5 ⟨pz, qz, Z1, rfl, hzc, hzr, hzo, hx5⟩; have HC5 := Lib.hid (HCH.out w5 pz qz Z1 hzc hzr hzo); clear hzc hzr hzo HCH
 go_wp2_with fail
 refine HC5.out.mono ?_; rintro e w6 ⟨rfl, hb6⟩; have hx6 := hx5.trans (hb6.mono hx5.size); have a0 := (KA.out.keep hx6).blk.cell 0 rfl; clear HC5 hx5 hb6
 go_wp2_with fail
 refine (HEN.out w6 hx6).mono ?_; rintro e w7 ⟨v7, rfl, ho7, hb7⟩; obtain ⟨px, cx, rfl, x1, x2, x3, x4, -⟩ := ho7.form; have hx7 := hx6.trans (hb7.mono hx6.size); have a1 := (KA.out.keep hx7).blk.cell 0 rfl; have RX7 := Lib.hid x4; clear a0 HEN hx6 hb7 ho7 x4
 go_wp2_with fail
 refine (HCK.out w7 hx7).mono ?_; rintro e w8 ⟨rfl, hb8⟩; have hx8 := hx7.trans (hb8.mono hx7.size); have RX8 := Lib.hid (RX7.out.keep hb8); clear a1 HCK hx7 hb8 RX7
 by_cases hte : TE = 0
 ·subst hte; obtain ⟨htz1, htz2⟩ := HTZ.out rfl; subst htz2; have HFW := Lib.hid htz1; clear HTZ HTN htz1; have hd := decode_tl (ZA.map Ly.core) HFW.out (by rw [List.length_map, HNA.out]; omega) px cx x1 x2 w8 RX8.out; rw [HTE.out] at hd; have HD := Lib.hid hd; clear hd; obtain ⟨nx, hnx⟩ : ∃ n, (tlB (ZA.map Ly.core)).length = n := ⟨_, rfl⟩; rw [hnx] at HD x1 ⊢; have HNX := Lib.hid hnx; have HX8 := Lib.hid hx8; clear hnx hx8
  go_wp2_with fail
  refine HD.out.mono ?_; rintro e w9 ⟨⟨pu, qu, YU, rfl, hcu, hru, -, -, hou, -⟩, hb9⟩; have hcu := hcu trivial; obtain ⟨NU, hNU⟩ : ∃ n, YU.length = n := ⟨_, rfl⟩; rw [hNU]; have HNU := Lib.hid hNU; have k6 := BkT.lit w9 w9.heap.size [.slice pu NU qu] 24 rfl; have hy := Below.new w9 (.cells #[.slice pu NU qu] 24); have hdr := (Below.refl (w9.alloc (.cells #[.slice pu NU qu] 24)).heap.size (w9.alloc (.cells #[.slice pu NU qu] 24))).drew; have h9d := hy.trans (hdr.mono hy.size); have h8d := hb9.trans (h9d.mono hb9.size); have HXD := Lib.hid (HX8.out.trans (h8d.mono HX8.out.size)); have HU := Lib.hid (⟨hcu, hru.keep h9d, fun y hy => (hou y hy).1.keep h9d⟩ : YU.map Ly.core = ZA.map Ly.core ∧ Rd (w9.alloc (.cells #[.slice pu NU qu] 24)).drew pu (lys YU) ∧ ∀ y ∈ YU, y.Ok (w9.alloc (.cells #[.slice pu NU qu] 24)).drew); have K6 := Lib.hid (k6.keep hdr); have RXD := Lib.hid (RX8.out.keep h8d); have KAD := Lib.hid (KA.out.keep HXD.out); clear hcu hru hou hNU k6 hy hdr h9d h8d hb9 HD RX8 HX8; go_wp2; generalize w9.alloc (.cells #[.slice pu NU qu] 24) = w10 at *; generalize w9.heap.size = U6 at *; refine wp_region_sched 24 [1, 2, 3, 7, 8, 9, 10, 11, 12, 13, 14, 16, 17, 18, 19, 22, 23] (fun W => Below w10.drew.heap.size w10.drew W) rfl (by kernel_rfl) (by kernel_rfl) ?_; have HB := Below.refl w10.drew.heap.size w10.drew; generalize w10.drew = W0 at *; have HOF2 : Hid (∀ W, Below W0.heap.size W0 W → Calls Tryz.prog 7 #[.agg #[.slice pa NA qa]] W fun e w' => ∃ (p : Option Addr) (q : Nat) (Z : List Ly), e = .returned (.agg #[.slice p Z.length q]) ∧ Z.map Ly.core = ZA.map Ly.core ∧ Rd w' p (lys Z) ∧ (∀ z ∈ Z, z.Ok w') ∧ Below W.heap.size W w') := Lib.hid (fun W hb => HOF.out W (HXD.out.trans (hb.mono HXD.out.size)))
  have HEC : Hid (∀ W p q (Z : List Ly), Z.map Ly.core = ZA.map Ly.core → Rd W p (lys Z) → (∀ z ∈ Z, z.Ok W) → Calls Tryz.prog 13 #[.agg #[.slice p Z.length q]] W fun e w' => ∃ v, e = .returned v ∧ Rw W.heap.size w' v (tlB (ZA.map Ly.core)) ∧ Below W.heap.size W w') := Lib.hid (fun W p q Z hc hr ho => by
   have h := rencode_any p q Z (by rw [hc, HTE.out]) (by rw [hc]; exact fun y hy => (HFW.out y hy).2) (szs_coreS hc HSA.out) W hr ho; rw [hc] at h; exact h)
  have HS7 : Hid (∀ W (p : Option Addr) (c : Nat), Below W0.heap.size W0 W → Rd W p ((tlB (ZA.map Ly.core)).map (Value.int .u8)) → Calls Tryz.prog 12 #[.slice px nx cx, .slice p nx c] W fun e w' => e = .returned (.bool true) ∧ Below W.heap.size W w') := Lib.hid (fun W p c hb hr => by
   have hbl := (tl_bd (ZA.map Ly.core) HFW.out (by rw [List.length_map, HNA.out]; omega)).2; have h := rsame_any px p cx c (tlB (ZA.map Ly.core)) (tlB (ZA.map Ly.core)) (by omega) (by omega) W (RXD.out.keep hb) hr; rw [HNX.out, decide_eq_true rfl] at h; refine h.mono ?_; rintro e w' ⟨rfl, n, rfl⟩; exact ⟨rfl, below_drewN (Below.refl _ _) n⟩)
  have HSM : Hid (∀ W, Below W0.heap.size W0 W → Calls Tryz.prog 14 #[.agg #[.slice pu NU qu], .agg #[.slice pa NA qa]] W fun e w' => e = .returned (.bool true) ∧ Below W.heap.size W w') := Lib.hid (fun W hb => by
   have hxd := HXD.out.trans (hb.mono HXD.out.size); have hlu : YU.length = NA := by have := congrArg List.length HU.out.1; simp only [List.length_map] at this; rw [this, HNA.out]
   have h := msame_same pu pa qu qa YU ZA HU.out.1 (by omega) (szs_coreS HU.out.1 HSA.out) W (HU.out.2.1.keep hb) (TA.out.1.1.keep hxd) (fun y hy => (HU.out.2.2 y hy).keep hb) (fun y hy => (TA.out.ok HB4.out y hy).keep hxd); rw [HNU.out, HNA.out] at h; exact h)
  have HLS : Hid (∀ W p q (Z : List Ly), Below W0.heap.size W0 W → Z.map Ly.core = ZA.map Ly.core → Rd W p (lys Z) → (∀ z ∈ Z, z.Ok W) → Calls Tryz.prog 15 #[.agg #[.slice pu NU qu], .agg #[.slice p Z.length q]] W fun e w' => e = .returned (.bool true) ∧ Below W.heap.size W w') := Lib.hid (fun W p q Z hb hc hr ho => by
   have hlu : YU.length = NA := by have := congrArg List.length HU.out.1; simp only [List.length_map] at this; rw [this, HNA.out]
   have hlz : Z.length = NA := by have := congrArg List.length hc; simp only [List.length_map] at this; rw [this, HNA.out]
   have h := lsame24_any pu p qu q YU Z (by omega) (by omega) (szs_coreS HU.out.1 HSA.out) (szs_coreS hc HSA.out) W (HU.out.2.1.keep hb) hr (fun y hy => (HU.out.2.2 y hy).keep hb) ho; rw [HU.out.1, hc, decide_eq_true rfl, HNU.out] at h; exact h)
  clear HOF HU RXD; refine sched_fork [0] (by kernel_rfl) (by kernel_rfl) (by simp) (fun i hi => ?_); obtain rfl : i = 0 := by simpa using hi
  refine sched_heavy 0 _ rfl rfl (fun K hK => ?_); go_step; refine (known24_any _).mono ?_; rintro e V1 ⟨rfl, hx⟩; have HB := HB.trans (hx.mono HB.size); clear hx; refine hK.out _ _ HB ?_; clear hK K
  try simp only [Act.put, List.getElem_toArray, List.getElem_cons_succ, List.getElem_cons_zero, List.setIfInBounds_toArray, List.set_cons_zero, List.set_cons_succ]
  (refine sched_light 1 _ ?_ (by kernel_rfl) (by kernel_rfl) rfl rfl ?_ HB ?_; rotate_left; · (intro w' hS; (try dsimp only at hS); go_simp; with_reducible rfl)); try simp only [Act.put, List.getElem_toArray, List.getElem_cons_succ, List.getElem_cons_zero, List.setIfInBounds_toArray, List.set_cons_zero, List.set_cons_succ]
  (refine sched_light 2 _ ?_ (by kernel_rfl) (by kernel_rfl) rfl rfl ?_ HB ?_; rotate_left; · (intro w' hS; (try dsimp only at hS); go_simp; with_reducible rfl)); try simp only [Act.put, List.getElem_toArray, List.getElem_cons_succ, List.getElem_cons_zero, List.setIfInBounds_toArray, List.set_cons_zero, List.set_cons_succ]
  refine sched_light 3 _ (.agg #[.slice pa NA qa]) (by kernel_rfl) (by kernel_rfl) rfl rfl ?_ HB ?_
  ·intro w' hS; have e0 := (KAD.out.keep hS).blk.cell 0 rfl; clear hS; go_simp
  try simp only [Act.put, List.getElem_toArray, List.getElem_cons_succ, List.getElem_cons_zero, List.setIfInBounds_toArray, List.set_cons_zero, List.set_cons_succ]
  refine sched_fork [4] (by kernel_rfl) (by kernel_rfl) (by simp) (fun i hi => ?_); obtain rfl : i = 4 := by simpa using hi
  refine sched_heavy 4 _ rfl rfl (fun K hK => ?_); go_step; refine (HOF2.out _ HB).mono ?_; rintro e V2 ⟨pz2, qz2, ZZ, rfl, hzc, hzr, hzo, hx⟩; have HB := HB.trans (hx.mono HB.size); have HE2 := Lib.hid (HEC.out V2 pz2 qz2 ZZ hzc hzr hzo); clear hzc hzr hzo HEC; clear hx; refine hK.out _ _ HB ?_; clear hK K
  try simp only [Act.put, List.getElem_toArray, List.getElem_cons_succ, List.getElem_cons_zero, List.setIfInBounds_toArray, List.set_cons_zero, List.set_cons_succ]
  refine sched_fork [5] (by kernel_rfl) (by kernel_rfl) (by simp) (fun i hi => ?_); obtain rfl : i = 5 := by simpa using hi
  refine sched_heavy 5 _ rfl rfl (fun K hK => ?_); go_step; refine (HE2.out).mono ?_; rintro e V3 ⟨v3, rfl, ho3, hx⟩; have HB := HB.trans (hx.mono HB.size); clear hx; obtain ⟨p3, c3, rfl, -, -, -, hr3, -⟩ := World.ownsRow.form ho3; rw [HNX.out]; have HS3 := Lib.hid (HS7.out V3 p3 c3 HB hr3); clear ho3 hr3 HS7 HE2; refine hK.out _ _ HB ?_; clear hK K
  try simp only [Act.put, List.getElem_toArray, List.getElem_cons_succ, List.getElem_cons_zero, List.setIfInBounds_toArray, List.set_cons_zero, List.set_cons_succ]
  refine sched_fork [6] (by kernel_rfl) (by kernel_rfl) (by simp) (fun i hi => ?_); obtain rfl : i = 6 := by simpa using hi
  refine sched_heavy 6 _ rfl rfl (fun K hK => ?_); go_step; refine (HS3.out).mono ?_; rintro e V4 ⟨rfl, hx⟩; have HB := HB.trans (hx.mono HB.size); clear hx; refine hK.out _ _ HB ?_; clear hK K
  try simp only [Act.put, List.getElem_toArray, List.getElem_cons_succ, List.getElem_cons_zero, List.setIfInBounds_toArray, List.set_cons_zero, List.set_cons_succ]
  (refine sched_light 7 _ ?_ (by kernel_rfl) (by kernel_rfl) rfl rfl ?_ HB ?_; rotate_left; · (intro w' hS; (try dsimp only at hS); go_simp; with_reducible rfl)); try simp only [Act.put, List.getElem_toArray, List.getElem_cons_succ, List.getElem_cons_zero, List.setIfInBounds_toArray, List.set_cons_zero, List.set_cons_succ]
  (refine sched_light 8 _ ?_ (by kernel_rfl) (by kernel_rfl) rfl rfl ?_ HB ?_; rotate_left; · (intro w' hS; (try dsimp only at hS); go_simp; with_reducible rfl)); try simp only [Act.put, List.getElem_toArray, List.getElem_cons_succ, List.getElem_cons_zero, List.setIfInBounds_toArray, List.set_cons_zero, List.set_cons_succ]
  (refine sched_light 9 _ ?_ (by kernel_rfl) (by kernel_rfl) rfl rfl ?_ HB ?_; rotate_left; · (intro w' hS; (try dsimp only at hS); go_simp; with_reducible rfl)); try simp only [Act.put, List.getElem_toArray, List.getElem_cons_succ, List.getElem_cons_zero, List.setIfInBounds_toArray, List.set_cons_zero, List.set_cons_succ]
  (refine sched_light 10 _ ?_ (by kernel_rfl) (by kernel_rfl) rfl rfl ?_ HB ?_; rotate_left; · (intro w' hS; (try dsimp only at hS); go_simp; with_reducible rfl)); try simp only [Act.put, List.getElem_toArray, List.getElem_cons_succ, List.getElem_cons_zero, List.setIfInBounds_toArray, List.set_cons_zero, List.set_cons_succ]
  (refine sched_light 11 _ ?_ (by kernel_rfl) (by kernel_rfl) rfl rfl ?_ HB ?_; rotate_left; · (intro w' hS; (try dsimp only at hS); go_simp; with_reducible rfl)); try simp only [Act.put, List.getElem_toArray, List.getElem_cons_succ, List.getElem_cons_zero, List.setIfInBounds_toArray, List.set_cons_zero, List.set_cons_succ]
  (refine sched_light 12 _ ?_ (by kernel_rfl) (by kernel_rfl) rfl rfl ?_ HB ?_; rotate_left; · (intro w' hS; (try dsimp only at hS); go_simp; with_reducible rfl)); try simp only [Act.put, List.getElem_toArray, List.getElem_cons_succ, List.getElem_cons_zero, List.setIfInBounds_toArray, List.set_cons_zero, List.set_cons_succ]
  refine sched_light 13 _ (.agg #[.slice pu NU qu]) (by kernel_rfl) (by kernel_rfl) rfl rfl ?_ HB ?_
  ·intro w' hS; have e0 := (K6.out.keep hS).blk.cell 0 rfl; clear hS; go_simp
  try simp only [Act.put, List.getElem_toArray, List.getElem_cons_succ, List.getElem_cons_zero, List.setIfInBounds_toArray, List.set_cons_zero, List.set_cons_succ]
  refine sched_light 14 _ (.agg #[.slice pa NA qa]) (by kernel_rfl) (by kernel_rfl) rfl rfl ?_ HB ?_
  ·intro w' hS; have e0 := (KAD.out.keep hS).blk.cell 0 rfl; clear hS; go_simp
  try simp only [Act.put, List.getElem_toArray, List.getElem_cons_succ, List.getElem_cons_zero, List.setIfInBounds_toArray, List.set_cons_zero, List.set_cons_succ]
  refine sched_fork [15] (by kernel_rfl) (by kernel_rfl) (by simp) (fun i hi => ?_); obtain rfl : i = 15 := by simpa using hi
  refine sched_heavy 15 _ rfl rfl (fun K hK => ?_); go_step; refine (HSM.out _ HB).mono ?_; rintro e V5 ⟨rfl, hx⟩; have HB := HB.trans (hx.mono HB.size); clear hx; refine hK.out _ _ HB ?_; clear hK K
  try simp only [Act.put, List.getElem_toArray, List.getElem_cons_succ, List.getElem_cons_zero, List.setIfInBounds_toArray, List.set_cons_zero, List.set_cons_succ]
  (refine sched_light 16 _ ?_ (by kernel_rfl) (by kernel_rfl) rfl rfl ?_ HB ?_; rotate_left; · (intro w' hS; (try dsimp only at hS); go_simp; with_reducible rfl)); try simp only [Act.put, List.getElem_toArray, List.getElem_cons_succ, List.getElem_cons_zero, List.setIfInBounds_toArray, List.set_cons_zero, List.set_cons_succ]
  (refine sched_light 17 _ ?_ (by kernel_rfl) (by kernel_rfl) rfl rfl ?_ HB ?_; rotate_left; · (intro w' hS; (try dsimp only at hS); go_simp; with_reducible rfl)); try simp only [Act.put, List.getElem_toArray, List.getElem_cons_succ, List.getElem_cons_zero, List.setIfInBounds_toArray, List.set_cons_zero, List.set_cons_succ]
  refine sched_light 18 _ (.agg #[.slice pu NU qu]) (by kernel_rfl) (by kernel_rfl) rfl rfl ?_ HB ?_
  ·intro w' hS; have e0 := (K6.out.keep hS).blk.cell 0 rfl; clear hS; go_simp
  try simp only [Act.put, List.getElem_toArray, List.getElem_cons_succ, List.getElem_cons_zero, List.setIfInBounds_toArray, List.set_cons_zero, List.set_cons_succ]
  refine sched_light 19 _ (.agg #[.slice pa NA qa]) (by kernel_rfl) (by kernel_rfl) rfl rfl ?_ HB ?_
  ·intro w' hS; have e0 := (KAD.out.keep hS).blk.cell 0 rfl; clear hS; go_simp
  try simp only [Act.put, List.getElem_toArray, List.getElem_cons_succ, List.getElem_cons_zero, List.setIfInBounds_toArray, List.set_cons_zero, List.set_cons_succ]
  refine sched_fork [20] (by kernel_rfl) (by kernel_rfl) (by simp) (fun i hi => ?_); obtain rfl : i = 20 := by simpa using hi
  refine sched_heavy 20 _ rfl rfl (fun K hK => ?_); go_step; refine (HOF2.out _ HB).mono ?_; rintro e V6 ⟨pz3, qz3, ZY, rfl, hzc, hzr, hzo, hx⟩; have HB := HB.trans (hx.mono HB.size); have HL6 := Lib.hid (HLS.out V6 pz3 qz3 ZY HB hzc hzr hzo); clear hzc hzr hzo HLS; clear hx; refine hK.out _ _ HB ?_; clear hK K
  try simp only [Act.put, List.getElem_toArray, List.getElem_cons_succ, List.getElem_cons_zero, List.setIfInBounds_toArray, List.set_cons_zero, List.set_cons_succ]
  refine sched_fork [21] (by kernel_rfl) (by kernel_rfl) (by simp) (fun i hi => ?_); obtain rfl : i = 21 := by simpa using hi
  refine sched_heavy 21 _ rfl rfl (fun K hK => ?_); go_step; refine (HL6.out).mono ?_; rintro e V7 ⟨rfl, hx⟩; have HB := HB.trans (hx.mono HB.size); clear hx; refine hK.out _ _ HB ?_; clear hK K
  try simp only [Act.put, List.getElem_toArray, List.getElem_cons_succ, List.getElem_cons_zero, List.setIfInBounds_toArray, List.set_cons_zero, List.set_cons_succ]
  (refine sched_light 22 _ ?_ (by kernel_rfl) (by kernel_rfl) rfl rfl ?_ HB ?_; rotate_left; · (intro w' hS; (try dsimp only at hS); go_simp; with_reducible rfl)); try simp only [Act.put, List.getElem_toArray, List.getElem_cons_succ, List.getElem_cons_zero, List.setIfInBounds_toArray, List.set_cons_zero, List.set_cons_succ]
  (refine sched_light 23 _ ?_ (by kernel_rfl) (by kernel_rfl) rfl rfl ?_ HB ?_; rotate_left; · (intro w' hS; (try dsimp only at hS); go_simp; with_reducible rfl)); try simp only [Act.put, List.getElem_toArray, List.getElem_cons_succ, List.getElem_cons_zero, List.setIfInBounds_toArray, List.set_cons_zero, List.set_cons_succ]
  refine sched_end (by kernel_rfl) ?_
  try simp only [Act.put, List.getElem_toArray, List.getElem_cons_succ, List.getElem_cons_zero, List.setIfInBounds_toArray, List.set_cons_zero, List.set_cons_succ]
  go_wp2; go_ret; exact ⟨rfl, HB4.out.trans ((HXD.out.trans (HB.mono HXD.out.size)).mono HB4.out.size)⟩
 ·have hx := HTN.out hte; subst hx; clear HTZ HTN
  go_wp2_with fail
  refine (known24_any _).mono ?_; rintro e w9 ⟨rfl, hb9⟩; have hfin := HB4.out.trans ((hx8.trans (hb9.mono hx8.size)).mono HB4.out.size); go_wp2; go_ret; exact ⟨rfl, hfin⟩
end Go.Proofs.YtjggoajfilnfjaaGreat
namespace Go.Proofs.YtjggoajfilnfjaaGreat
open Go.RowKit Go.ChangeShapes Go.WideShapes Go.ChangeAt
theorem one_attr {H : Type} {enc : TypeId × Value → H} {W : World} {base : Nat} {spare : Nat → Bool} {held : Bool} (n : Nat) (cs : List Value) (z : DataW H × List MemPlace) (hcl : cs.length = 4)
  (ht : DataW.trod enc Tryz.prog W base spare held n 103 cs = some z) : ∃ y : At, cs = y.cells ∧ AtW y := by
 have c3 : Tryz.prog.cellsOf 3 = 1 := by kernel_rfl
 have c1 : Tryz.prog.cellsOf 9 = 1 := by kernel_rfl
 have cv : Tryz.prog.cellsOf 101 = 3 := by kernel_rfl
 obtain ⟨ys, k, hk, hxy, _, hxl, hf⟩ := DataW.trod_struct Tryz.underlying103 ht
 match ys, hxl, cs, hcl with
 | [y0, y1], _, [v0, v1, v2, v3], _ =>
  have g0 := hf 0 _ rfl; have g1 := hf 1 _ rfl; simp [c1, cv] at g0 g1; obtain ⟨s0, e0, -, w0⟩ := DataW.trod_string Tryz.underlying9 g0; simp at e0; subst e0; obtain ⟨zs, k2, hk2, hxy2, _, hzl, hf2⟩ := DataW.trod_struct Tryz.underlying101 g1
  match zs, hzl with
  | [u0, u1, u2], _ =>
   have g2 := hf2 0 _ rfl; have g3 := hf2 1 _ rfl; have g4 := hf2 2 _ rfl; simp [c1, c3] at g2 g3 g4; obtain ⟨n1, e1, -, w1⟩ := DataW.trod_int Tryz.underlying3 g2; obtain ⟨s2, e2, -, w2⟩ := DataW.trod_string Tryz.underlying9 g3; obtain ⟨n3, e3, -, w3⟩ := DataW.trod_int Tryz.underlying3 g4; simp at e1 e2 e3; subst e1 e2 e3; exact ⟨⟨s0, n1, s2, n3⟩, rfl, ⟨w0, w2⟩, w1, w3⟩

theorem one_ringW {H : Type} {enc : TypeId × Value → H} {W : World} {base : Nat} {spare : Nat → Bool} {held : Bool} (hsp : ∀ b, spare b = true) (n : Nat) (cs' : List Value) (z : DataW H × List MemPlace) (hl : cs'.length = 1)
  (h : DataW.trod enc Tryz.prog W base spare held n 80 cs' = some z) : ∃ y : PC, cs' = y.cells ∧ y.Ok W ∧ ∀ p ∈ y.l, PtIn p := by
 match cs', hl with
 | [v], _ =>
  obtain ⟨a, l, c, rfl⟩ : ∃ a l c, v = .slice a l c := by
   rcases DataW.trod_slice Tryz.underlying80 h with ⟨hc, _⟩ | ⟨a, l, c, _, _, _, _, hc, _⟩
   ·simp at hc; exact ⟨_, _, _, hc⟩
   ·simp at hc; exact ⟨_, _, _, hc⟩
  obtain ⟨xs, rfl, h1, h2, h3, h4, h5⟩ := open_pts hsp h; exact ⟨⟨xs, a, c⟩, rfl, ⟨h4, h1, h2, h3⟩, h5⟩
theorem one_slice {cs : List Value} {H : Type} {enc : TypeId × Value → H} {W : World} {base : Nat} {spare : Nat → Bool} {held : Bool} {n : Nat} {v : Value} {z : DataW H × List MemPlace} {t e : TypeId} (ht : Tryz.prog.underlying t = some (.slice e))
  (h : DataW.trod enc Tryz.prog W base spare held n t [v] = some z) : ∃ a l c, v = .slice a l c := by
 rcases DataW.trod_slice ht h with ⟨hc, _⟩ | ⟨a, l, c, _, _, _, _, hc, _⟩
 ·simp at hc; exact ⟨_, _, _, hc⟩
 ·simp at hc; exact ⟨_, _, _, hc⟩

def FtIn (W : World) (f : Ft) : Prop := f.Ok W ∧ f.W
theorem one_feat {H : Type} {enc : TypeId × Value → H} {W : World} {base : Nat} {spare : Nat → Bool} {held : Bool} (hsp : ∀ b, spare b = true) (n : Nat) (cs' : List Value) (z : DataW H × List MemPlace) (hl : cs'.length = 4)
  (h : DataW.trod enc Tryz.prog W base spare held n 53 cs' = some z) : ∃ y : Ft, cs' = y.cells ∧ FtIn W y := by
 have c1 : Tryz.prog.cellsOf 51 = 1 := by kernel_rfl
 have c2 : Tryz.prog.cellsOf 50 = 1 := by kernel_rfl
 have c3 : Tryz.prog.cellsOf 3 = 1 := by kernel_rfl
 obtain ⟨ys, k, hk, hxy, _, hxl, hf⟩ := DataW.trod_struct Tryz.underlying53 h
 match ys, hxl, cs', hl with
 | [y0, y1, y2, y3], _, [v0, v1, v2, v3], _ =>
  have g0 := hf 0 _ rfl; have g1 := hf 1 _ rfl; have g2 := hf 2 _ rfl; have g3 := hf 3 _ rfl; simp [c1, c2, c3] at g0 g1 g2 g3; obtain ⟨n0, e0, -, w0⟩ := DataW.trod_int Tryz.underlying3 g0; obtain ⟨n1, e1, -, w1⟩ := DataW.trod_int Tryz.underlying3 g1; simp at e0 e1; subst e0 e1; obtain ⟨b, m, d, rfl⟩ := one_slice (cs := []) Tryz.underlying50 g2; obtain ⟨a, l, c, rfl⟩ := one_slice (cs := []) Tryz.underlying51 g3; obtain ⟨ys, rfl, k1, k2, k3, k4, k5⟩ := open_flat 4 (by decide) At.cells AtW (fun _ => rfl) Tryz.underlying50 (by kernel_rfl) (fun n cs' z hl hz => one_attr n cs' z hl hz) g2; obtain ⟨xs, rfl, h1, h2, h3, h4, h5⟩ := open_flat 1 (by decide) PC.cells (fun y => y.Ok W ∧ ∀ p ∈ y.l, PtIn p) (fun _ => rfl) Tryz.underlying51 (by kernel_rfl) (fun n cs' z hl hz => one_ringW hsp n cs' z hl hz) g3; exact ⟨⟨n0, n1, ys, b, d, xs, a, c⟩, rfl, ⟨⟨k4, k1, k2, k3⟩, ⟨h4, h1, h2, h3⟩, fun r hr => (h5 r hr).1⟩, w0, w1, k5, fun r hr => (h5 r hr).2⟩
theorem one_lay {H : Type} {enc : TypeId × Value → H} {W : World} {base : Nat} {spare : Nat → Bool} {held : Bool} (hsp : ∀ b, spare b = true) (n : Nat) (cs' : List Value) (z : DataW H × List MemPlace) (hl : cs'.length = 2)
  (h : DataW.trod enc Tryz.prog W base spare held n 46 cs' = some z) : ∃ y : Ly, cs' = y.cells ∧ LyIn W y := by
 have c1 : Tryz.prog.cellsOf 9 = 1 := by kernel_rfl
 have c2 : Tryz.prog.cellsOf 44 = 1 := by kernel_rfl
 obtain ⟨ys, k, hk, hxy, _, hxl, hf⟩ := DataW.trod_struct Tryz.underlying46 h
 match ys, hxl, cs', hl with
 | [y0, y1], _, [v0, v1], _ =>
  have g0 := hf 0 _ rfl; have g1 := hf 1 _ rfl; simp [c1, c2] at g0 g1; obtain ⟨s0, e0, -, w0⟩ := DataW.trod_string Tryz.underlying9 g0; simp at e0; subst e0; obtain ⟨b, m, d, rfl⟩ := one_slice (cs := []) Tryz.underlying44 g1; obtain ⟨ys, rfl, k1, k2, k3, k4, k5⟩ := open_flat 4 (by decide) Ft.cells (FtIn W) (fun _ => rfl) Tryz.underlying44 (by kernel_rfl) (fun n cs' z hl hz => one_feat hsp n cs' z hl hz) g1; exact ⟨⟨s0, ys, b, d⟩, rfl, ⟨⟨k4, k1, k2, k3⟩, fun f hf => (k5 f hf).1⟩, w0, fun f hf => (k5 f hf).2⟩
theorem open_tile {H : Type} {enc : TypeId × Value → H} {W : World} {base b0 : Nat} {spare : Nat → Bool} {held : Bool} {r : Reach} {v : Value} {d : DataW H} {ps : List MemPlace} (hv : Value.okWide Tryz.prog W r b0 24 v) (hsp : ∀ b, spare b = true)
  (hd : DataW.Trod enc Tryz.prog W base spare held 24 v d ps) : ∃ (a : Option Addr) (c : Nat) (Y : List Ly), v = .agg #[.slice a Y.length c] ∧ Y.length ≤ c ∧ c ≤ maxLen ∧ Rd W a (lys Y) ∧ (∀ y ∈ Y, LyIn W y) := by
 obtain ⟨cs, rfl, hsz⟩ := okWide_struct Tryz.underlying24 hv; obtain ⟨n, hd⟩ := hd; have hc : (Value.agg cs).cells.toList = cs.toList := by simp [Value.cells]
 rw [hc] at hd; have c2 : Tryz.prog.cellsOf 24 = 1 := by kernel_rfl
 have c1 : Tryz.prog.cellsOf 22 = 1 := by kernel_rfl
 rw [c2] at hsz; obtain ⟨l⟩ := cs; obtain ⟨ys, k, hk, hxy, _, hxl, hf⟩ := DataW.trod_struct Tryz.underlying24 hd
 match ys, hxl, l, hsz with
 | [y0], _, [v0], _ =>
  have g0 := hf 0 _ rfl; simp [c1] at g0; obtain ⟨b, m, d, rfl⟩ := one_slice (cs := []) Tryz.underlying22 g0; obtain ⟨ys, rfl, k1, k2, k3, k4, k5⟩ := open_flat 2 (by decide) Ly.cells (LyIn W) (fun _ => rfl) Tryz.underlying22 (by kernel_rfl) (fun n cs' z hl hz => one_lay hsp n cs' z hl hz) g0; exact ⟨b, d, ys, rfl, k1, k2, k4, k5⟩
end Go.Proofs.YtjggoajfilnfjaaGreat
