/-
  MvtSame: the walk.
-/
import Derived.Test.YtjggoajfilnfjaaGreatPk29
import Derived.Test.YtjggoajfilnfjaaGreatPk30
import Derived.Test.YtjggoajfilnfjaaGreatPk33
import Derived.Test.YtjggoajfilnfjaaGreatPk35
/- MvtSame: the walk. -/
set_option linter.unusedVariables false
set_option linter.unusedSimpArgs false
set_option maxRecDepth 100000
namespace Go.Proofs.YtjggoajfilnfjaaGreat
open Go.RowKit Go.Vint Go.Proto
theorem Ly.sz_coreS {x y : Ly} (h : x.core = y.core) (hy : y.Sz) : x.Sz := by
  obtain ⟨xn, xf, xa, xc⟩ := x; obtain ⟨yn, yf, ya, yc⟩ := y; have h1 : xn = yn := congrArg Prod.fst h; have h2 : xf.map Ft.core = yf.map Ft.core := congrArg Prod.snd h; have hl : xf.length = yf.length := by have := congrArg List.length h2; simpa using this
  refine ⟨by rw [show (⟨xn, xf, xa, xc⟩ : Ly).name = yn from h1]; exact hy.1, by rw [show (⟨xn, xf, xa, xc⟩ : Ly).fs = xf from rfl, hl]; exact hy.2.1, fun f hf => ?_⟩; have hm : f.core ∈ yf.map Ft.core := by rw [← h2]; exact List.mem_map_of_mem hf
  obtain ⟨g, hg, e⟩ := List.mem_map.1 hm; obtain ⟨g1, g2, g3, g4⟩ := hy.2.2 g hg; have e1 : f.ls = g.ls := (congrArg (fun c : FtC => c.2.2.1) e).symm; have e2 : f.rings = g.rings := (congrArg (fun c : FtC => c.2.2.2) e).symm; have e3 : f.rs.length = g.rs.length := by have := congrArg List.length e2; simpa [Ft.rings] using this
  refine ⟨by rw [e1]; exact g1, by rw [e1]; exact g2, by rw [e3]; exact g3, fun r hr => ?_⟩; have hr2 : r.l ∈ g.rings := by rw [← e2]; exact List.mem_map_of_mem hr
  obtain ⟨s, hs, e4⟩ := List.mem_map.1 hr2; rw [← e4]; exact g4 s hs
theorem szs_coreS {L M : List Ly} (h : L.map Ly.core = M.map Ly.core) (hM : ∀ y ∈ M, y.Sz) : ∀ y ∈ L, y.Sz := fun y hy => by
  have hm : y.core ∈ M.map Ly.core := by rw [← h]; exact List.mem_map_of_mem hy
  obtain ⟨z, hz, e⟩ := List.mem_map.1 hm; exact Ly.sz_coreS e.symm (hM z hz)
set_option maxHeartbeats 12800000 in
theorem mvtSame_walk (a : Option Addr) (ca : Nat) (A : List Ly) (hA1 : A.length ≤ ca) (hA2 : ca ≤ maxLen) (w : World) (hA3 : Rd w a (lys A)) (hA4 : ∀ y ∈ A, LyIn w y)
    (b : Option Addr) (cb : Nat) (Bl : List Ly) (hB1 : Bl.length ≤ cb) (hB2 : cb ≤ maxLen) (hB3 : Rd w b (lys Bl)) (hB4 : ∀ y ∈ Bl, LyIn w y)
    (nm : ByteArray) (_wn : nm.size ≤ maxLen) :
    Calls Tryz.prog 4 #[.agg #[.slice a A.length ca], .agg #[.slice b Bl.length cb], .string nm] w fun e w' => e = .returned (.bool true) ∧ Below w.heap.size w w' := by
  obtain ⟨N, hN⟩ : ∃ N, A.length = N := ⟨_, rfl⟩; obtain ⟨M, hM⟩ : ∃ N, Bl.length = N := ⟨_, rfl⟩; have HA : Hid (TlIn w a N ca A) := Lib.hid ⟨hN, by omega, hA2, hA3, hA4⟩; have HBl : Hid (TlIn w b M cb Bl) := Lib.hid ⟨hM, by omega, hB2, hB3, hB4⟩; rw [hN, hM]; have HCUT := Lib.hid (fun a N c A h W hb => mcut_tl w a N c A h W hb); have hz : (Tryz.prog.info? 46).map (fun i => i.zero) = some (some (.agg #[.string ⟨#[]⟩, .slice none 0 0])) := by kernel_rfl
  clear hA1 hA2 hA3 hA4 hB1 hB2 hB3 hB4 hN hM
  go_enter Tryz.func4, Tryz.ntmps4
  have kA := (BkT.lit w w.heap.size [.slice a N ca] 24 rfl).alloc (.cells #[.slice b M cb] 24); have kB := BkT.lit (w.alloc (.cells #[.slice a N ca] 24)) (w.heap.size + 1) [.slice b M cb] 24 (by simp); have hb1 : Below w.heap.size w ((w.alloc (.cells #[.slice a N ca] 24)).alloc (.cells #[.slice b M cb] 24)) := (Below.new w _).alloc (by simp) _
  go_wp2_with fail
  generalize (w.alloc (.cells #[.slice a N ca] 24)).alloc (.cells #[.slice b M cb] 24) = w1 at *; obtain ⟨B, hB⟩ : ∃ B, w.heap.size = B := ⟨_, rfl⟩; rw [hB] at kA kB ⊢; have hwB : w.heap.size ≤ B := by omega
  have KA := Lib.hid kA; have KB := Lib.hid kB; have HB1 := Lib.hid hb1; clear hB kA kB hb1; have hd : Below w1.heap.size w1 w1.drew := (Below.refl _ _).drew; have hd0 : Below w.heap.size w w1.drew := HB1.out.trans (hd.mono HB1.out.size); have kA0 := KA.out.keep hd; have kB0 := KB.out.keep hd; refine wp_region_lit_txtZ (some 5) [2] (fun W => BkT W (B + 1) 24 [.slice b M cb]) (by kernel_rfl) (by kernel_rfl) (by kernel_rfl) (by kernel_rfl) kB0 ?_; generalize w1.drew = Wd at *; refine txt_heavy rfl rfl (fun K hK => ?_); have a0 := kA0.blk.cell 0 rfl; go_step; refine hK.out _ _ kB0 ?_; clear hK K a0
  try simp only [Act.put, List.getElem_toArray, List.getElem_cons_succ, List.getElem_cons_zero, List.setIfInBounds_toArray, List.set_cons_zero, List.set_cons_succ]
  refine txt_call [.agg #[.slice a N ca]] Tryz.f5 rfl rfl Tryz.func5 (by kernel_rfl) (by kernel_rfl) rfl ((HCUT.out a N ca A HA.out Wd hd0).mono ?_); rintro e W2 ⟨pa, qa, ZA, rfl, hla, hza, hta, hb2⟩; obtain ⟨NA, hNA⟩ : ∃ n, ZA.length = n := ⟨_, rfl⟩; have HNA := Lib.hid hNA; rw [hNA] at hla ⊢; clear hNA; have HZA := Lib.hid hza; have hm2 : Below w1.heap.size w1 W2 := hd.trans (hb2.mono hd.size); refine ⟨_, rfl, kB0.keep hb2, ?_⟩
  try simp only [Act.put, List.getElem_toArray, List.getElem_cons_succ, List.getElem_cons_zero, List.setIfInBounds_toArray, List.set_cons_zero, List.set_cons_succ]
  refine txt_light (.agg #[.slice b M cb]) rfl rfl ?_ ?_
  · intro w' hS; have e0 := hS.blk.cell 0 rfl; clear hS; go_simp
  try simp only [Act.put, List.getElem_toArray, List.getElem_cons_succ, List.getElem_cons_zero, List.setIfInBounds_toArray, List.set_cons_zero, List.set_cons_succ]
  refine txt_call [.agg #[.slice b M cb]] Tryz.f5 rfl rfl Tryz.func5 (by kernel_rfl) (by kernel_rfl) rfl ((HCUT.out b M cb Bl HBl.out W2 (HB1.out.trans (hm2.mono HB1.out.size))).mono ?_); rintro e W3 ⟨pb, qb, ZB, rfl, hlb, hzb, htb, hb3⟩; obtain ⟨NB, hNB⟩ : ∃ n, ZB.length = n := ⟨_, rfl⟩; have HNB := Lib.hid hNB; rw [hNB] at hlb ⊢; clear hNB; have HZB := Lib.hid hzb; have hm3 : Below w1.heap.size w1 W3 := hm2.trans (hb3.mono hm2.size); have kA := KA.out.keep hm3; have kB := KB.out.keep hm3; refine ⟨_, rfl, kB, ?_⟩; clear kA0 kB0
  try simp only [Act.put, List.getElem_toArray, List.getElem_cons_succ, List.getElem_cons_zero, List.setIfInBounds_toArray, List.set_cons_zero, List.set_cons_succ]
  refine txt_heavy rfl rfl (fun K hK => ?_); have a0 := kA.blk.cell 0 rfl; have af := kA.blk.free 0; go_step; have kA2 := kA.set 0 (.slice pa NA qa); have kB2 := kB.other (b' := B) (o := 0) (by omega) (.slice pa NA qa); refine hK.out _ _ kB2 ?_; clear hK K
  try simp only [Act.put, List.getElem_toArray, List.getElem_cons_succ, List.getElem_cons_zero, List.setIfInBounds_toArray, List.set_cons_zero, List.set_cons_succ]
  refine txt_last rfl rfl rfl (fun K hK => ?_); have b0 := kB2.blk.cell 0 rfl; have bf := kB2.blk.free 0; go_step; refine hK.out _ _ ?_; clear hK K; refine txt_nil ?_
  try simp only [Act.put, List.getElem_toArray, List.getElem_cons_succ, List.getElem_cons_zero, List.setIfInBounds_toArray, List.set_cons_zero, List.set_cons_succ]
  have KA2 := Lib.hid (kA2.other (b' := B + 1) (o := 0) (by omega) (.slice pb NB qb)); have KB2 := Lib.hid (kB2.set 0 (.slice pb NB qb)); have TA := Lib.hid (((hta.below hb3).gr (grown_set W3 B 0 (.slice pa NA qa)) (Off.typ2 kA (by decide))).gr (grown_set _ (B + 1) 0 (.slice pb NB qb)) (Off.typ2 kB2 (by decide))); have TB := Lib.hid ((htb.gr (grown_set W3 B 0 (.slice pa NA qa)) (Off.typ2 kA (by decide))).gr (grown_set _ (B + 1) 0 (.slice pb NB qb)) (Off.typ2 kB2 (by decide))); have HB4 := Lib.hid (((HB1.out.trans (hm3.mono HB1.out.size)).set_at (b := B) (o := 0) hwB (.slice pa NA qa)).set_at (b := B + 1) (o := 0) (by omega) (.slice pb NB qb)); have hBl4 : B + 1 < ((W3.setCell ⟨B, 0, none⟩ (.slice pa NA qa)).setCell ⟨B + 1, 0, none⟩ (.slice pb NB qb)).heap.size := by rw [size_setCell, size_setCell]; exact kB.lt
  generalize (W3.setCell ⟨B, 0, none⟩ (.slice pa NA qa)).setCell ⟨B + 1, 0, none⟩ (.slice pb NB qb) = w4 at *; clear kA kB kA2 kB2 a0 af b0 bf hm2 hm3 hb2 hb3 hta htb hza hzb HB1 KA KB hd hd0; have hfd := mfind_any pa qa ZA (by rw [HNA.out]; omega) nm w4 TA.out.1.1; rw [HNA.out] at hfd; have HX0 : Hid (fLy ZA nm ∈ ZA ∨ fLy ZA nm = ⟨⟨#[]⟩, [], none, 0⟩) := Lib.hid (fLy_or ZA nm); obtain ⟨y0, hy0⟩ : ∃ y, fLy ZA nm = y := ⟨_, rfl⟩; obtain ⟨IX, hIX⟩ : ∃ i, fIx ZA nm = i := ⟨_, rfl⟩; rw [hy0] at HX0 hfd; rw [hIX] at hfd; have HY0 : Hid (y0.Sz ∧ ∀ W, Below w4.heap.size w4 W → y0.Ok W) := Lib.hid (by
    rcases HX0.out with h | h
    · exact ⟨(HZA.out y0 h).sz, fun W hb => (TA.out.ok HB4.out y0 h).keep hb⟩
    · rw [h]; exact ⟨⟨(show (0 : Nat) ≤ maxLen by decide), (show (0 : Nat) ≤ 100000 by decide), fun f hf => by cases hf⟩, fun W hb => ⟨⟨Rd.nil _ _, Nat.le_refl _, (show (0 : Nat) ≤ maxLen by decide), fun _ => rfl⟩, fun f hf => by cases hf⟩⟩)
  have HLA : Hid (∀ k (hk : k < ZA.length), (∀ j (hj : j < ZA.length), j < k → ZA[j].name ≠ nm) → ZA[k].name = nm → y0 = ZA[k] ∧ IX = k) := Lib.hid (fun k hk h he => by
    have := fIx_at hk h he; exact ⟨hy0.symm.trans (fLy_at hk this), hIX.symm.trans this⟩)
  have HLN : Hid ((∀ j (hj : j < ZA.length), ZA[j].name ≠ nm) → y0 = ⟨⟨#[]⟩, [], none, 0⟩ ∧ IX = NA) := Lib.hid (fun h => by
    have := fIx_none h; exact ⟨hy0.symm.trans (fLy_none this), hIX.symm.trans (this.trans HNA.out)⟩)
  have HFD := Lib.hid hfd; clear hy0 hIX hfd HX0; obtain ⟨D, hD⟩ : ∃ D, decide (IX < NA) = D := ⟨_, rfl⟩; rw [hD] at HFD; have HD := Lib.hid hD; clear hD; have hyv : ∃ sn sf sa sc, y0 = ⟨sn, sf, sa, sc⟩ := ⟨_, _, _, _, rfl⟩; obtain ⟨sn, sf, sa, sc, hy⟩ := hyv; subst hy; dsimp only [Ly.val, Ly.fval] at HFD; obtain ⟨sl, hsl⟩ : ∃ n, sf.length = n := ⟨_, rfl⟩; rw [hsl] at HFD; have HSL := Lib.hid hsl; clear hsl; have a0 := KA2.out.blk.cell 0 rfl
  go_wp2_with fail
  refine HFD.out.mono ?_; rintro e w5 ⟨rfl, hb5⟩; have hx := hb5.trans ((Below.new w5 (.cells #[.string sn, .slice sa sl sc] 46)).mono hb5.size); obtain ⟨L7, hL7⟩ : ∃ p, w5.heap.size = p := ⟨_, rfl⟩; have k7 := BkT.lit w5 L7 [.string sn, .slice sa sl sc] 46 hL7; have KA5 := Lib.hid (KA2.out.keep hx); have KB5 := Lib.hid (KB2.out.keep hx); have TA5 := Lib.hid (TA.out.below hx); have TB5 := Lib.hid (TB.out.below hx); have HX5 := Lib.hid hx; have HB5 := Lib.hid (HB4.out.trans (hx.mono HB4.out.size)); have K7 := Lib.hid k7; clear a0 KA2 KB2 TA TB HB4 HFD hb5 hx k7 HCUT; go_wp2
  try rw [hL7]
  generalize w5.alloc (.cells #[.string sn, .slice sa sl sc] 46) = w6 at *; clear hL7
  go_loopw [9] (fun i wr => ∃ k : Nat, k ≤ NA ∧ i = .int .i64 k ∧ Hid (∀ j (hj : j < ZA.length), j < k → ZA[j].name ≠ nm) ∧ wr = w6) (fun i _ => NA - (intOf i).toNat)
  case atStart => exact ⟨0, by omega, rfl, Lib.hid (by omega), rfl⟩
  case round =>
    obtain ⟨k, hk, rfl, HE, rfl⟩ := hrel; have a0 := KA5.out.blk.cell 0 rfl; have hBw : B < wr.heap.size := KA5.out.lt
    by_cases h1 : k < NA
    · have h1' : (k : Int) < (NA : Int) := by omega
      have hkl : k < ZA.length := by rw [HNA.out]; exact h1
      obtain ⟨b1, o1, rfl, hbb, c0, c1⟩ := TA5.out.1.1.ly k hkl; have HFO : Hid (ZA[k].name = nm → (⟨sn, sf, sa, sc⟩ : Ly) = ZA[k] ∧ IX = k) := Lib.hid (fun h => HLA.out k hkl HE.out h); have HS : Hid (ZA[k].name ≠ nm → ∀ j (hj : j < ZA.length), j < k + 1 → ZA[j].name ≠ nm) := Lib.hid (fun h j hj hjk => by
        rcases Nat.lt_or_ge j k with h2 | h2
        · exact HE.out j hj h2
        · obtain rfl : j = k := by omega
          exact h)
      generalize ZA[k] = y at *; obtain ⟨yn, ys, ya, yc⟩ := y; dsimp only [Ly.fval] at c0 c1 HFO HS
      by_cases hnm : yn = nm
      · subst hnm; obtain ⟨he, hix⟩ := HFO.out rfl; obtain ⟨rfl, rfl, rfl, rfl⟩ := Ly.mk.inj he; have hDt : D = true := HD.out.symm.trans (decide_eq_true (by omega)); subst hDt; clear HFO HS HLA HLN he; rw [HSL.out] at c1; have hx := Below.new wr (.cells #[.string sn, .slice sa sl sc] 46); have kX := BkT.lit wr wr.heap.size [.string sn, .slice sa sl sc] 46 rfl; go_wp2; have KA6 := Lib.hid (KA5.out.keep hx); have KB6 := Lib.hid (KB5.out.keep hx); have TA6 := Lib.hid (TA5.out.below hx); have TB6 := Lib.hid (TB5.out.below hx); have HX6 := Lib.hid (HX5.out.trans (hx.mono HX5.out.size)); have HB6 := Lib.hid (HB5.out.trans (hx.mono HB5.out.size)); have K76 := Lib.hid (K7.out.keep hx); have KX := Lib.hid kX; clear hx kX KA5 KB5 TA5 TB5 HX5 HB5 K7 a0; obtain ⟨X10, hX10⟩ : ∃ p, wr.heap.size = p := ⟨_, rfl⟩; rw [hX10] at KX ⊢; clear hX10; generalize wr.alloc (.cells #[.string sn, .slice sa sl sc] 46) = w7 at *; have hd := (Below.refl w7.heap.size w7).drew; have KA7 := Lib.hid (KA6.out.keep hd); have KB7 := Lib.hid (KB6.out.keep hd); have TA7 := Lib.hid (TA6.out.below hd); have TB7 := Lib.hid (TB6.out.below hd); have HX7 := Lib.hid (HX6.out.trans (hd.mono HX6.out.size)); have HB7 := Lib.hid (HB6.out.trans (hd.mono HB6.out.size)); have K77 := Lib.hid (K76.out.keep hd); have KX7 := Lib.hid (KX.out.keep hd); clear KA6 KB6 TA6 TB6 HX6 HB6 K76 KX hd; refine wp_region_sched 26 [1, 2, 3, 5, 6, 9, 10, 11, 12, 13, 15, 16, 17, 19, 20, 22, 24, 25] (fun W => Below w7.drew.heap.size w7.drew W) rfl (by kernel_rfl) (by kernel_rfl) ?_
        have HB := Below.refl w7.drew.heap.size w7.drew; generalize w7.drew = W0 at *; obtain ⟨DS, hDS⟩ : ∃ D, decide (ZA.map Ly.core = ZB.map Ly.core) = D := ⟨_, rfl⟩; have HSA : Hid (∀ y ∈ ZA, y.Sz) := Lib.hid (fun y hy => (HZA.out y hy).sz); have HSB : Hid (∀ y ∈ ZB, y.Sz) := Lib.hid (fun y hy => (HZB.out y hy).sz); have HS1 : Hid (∀ W, Below W0.heap.size W0 W → Calls Tryz.prog 14 #[.agg #[.slice (some ⟨b1, o1, none⟩) NA qa], .agg #[.slice pb NB qb]] W fun e w' => e = .returned (.bool DS) ∧ Below W.heap.size W w') := Lib.hid (fun W hb => by
          have h := msame_any (some ⟨b1, o1, none⟩) pb qa qb ZA ZB (by rw [HNA.out]; omega) (by rw [HNB.out]; omega) HSA.out HSB.out W (TA7.out.1.1.keep hb) (TB7.out.1.1.keep hb) (fun y hy => (TA7.out.ok HB7.out y hy).keep hb) (fun y hy => (TB7.out.ok HB7.out y hy).keep hb); rw [HNA.out, HNB.out, hDS] at h; exact h)
        have HS3 : Hid (∀ W, Below W0.heap.size W0 W → Calls Tryz.prog 14 #[.agg #[.slice (some ⟨b1, o1, none⟩) NA qa], .agg #[.slice (some ⟨b1, o1, none⟩) NA qa]] W fun e w' => e = .returned (.bool true) ∧ Below W.heap.size W w') := Lib.hid (fun W hb => by
          have h := msame_any (some ⟨b1, o1, none⟩) (some ⟨b1, o1, none⟩) qa qa ZA ZA (by rw [HNA.out]; omega) (by rw [HNA.out]; omega) HSA.out HSA.out W (TA7.out.1.1.keep hb) (TA7.out.1.1.keep hb) (fun y hy => (TA7.out.ok HB7.out y hy).keep hb) (fun y hy => (TA7.out.ok HB7.out y hy).keep hb); rw [HNA.out, decide_eq_true rfl] at h; exact h)
        have HOF : Hid (∀ W, Below W0.heap.size W0 W → Calls Tryz.prog 7 #[.agg #[.slice pb NB qb]] W fun e w' => ∃ (p : Option Addr) (q : Nat) (Z : List Ly), e = .returned (.agg #[.slice p Z.length q]) ∧ Z.map Ly.core = ZB.map Ly.core ∧ Rd w' p (lys Z) ∧ (∀ z ∈ Z, z.Ok w') ∧ Below W.heap.size W w') := Lib.hid (fun W hb => by
          have h := mof_any pb qb ZB (by rw [HNB.out]; omega) HSB.out W (TB7.out.1.1.keep hb) (fun y hy => (TB7.out.ok HB7.out y hy).keep hb); rw [HNB.out] at h; exact h)
        have HLS : Hid (∀ W V p q (Z : List Ly), Below W0.heap.size W0 W → Below W.heap.size W V → Z.map Ly.core = ZB.map Ly.core → Rd W p (lys Z) → (∀ z ∈ Z, z.Ok W) → Calls Tryz.prog 15 #[.agg #[.slice (some ⟨b1, o1, none⟩) NA qa], .agg #[.slice p Z.length q]] V fun e w' => e = .returned (.bool DS) ∧ Below V.heap.size V w') := Lib.hid (fun W V p q Z hb hv hc hr ho => by
          have hbv := hb.trans (hv.mono hb.size); have hsz : ∀ y ∈ Z, y.Sz := szs_coreS hc HSB.out; have hln : Z.length = ZB.length := by have := congrArg List.length hc; simpa using this
          have h := lsame24_any (some ⟨b1, o1, none⟩) p qa q ZA Z (by rw [HNA.out]; omega) (by rw [hln, HNB.out]; omega) HSA.out hsz V (TA7.out.1.1.keep hbv) (hr.keep hv) (fun y hy => (TA7.out.ok HB7.out y hy).keep hbv) (fun y hy => (ho y hy).keep hv); rw [HNA.out, hc, hDS] at h; exact h)
        have HS4 : Hid (∀ W V p q, Below W0.heap.size W0 W → Rd W (some ⟨p, 0, none⟩) [.string sn, .slice sa sl sc] → Rd W (some ⟨q, 0, none⟩) [.string sn, .slice sa sl sc] → Below W.heap.size W V → Calls Tryz.prog 14 #[.agg #[.slice (some ⟨p, 0, none⟩) 1 1], .agg #[.slice (some ⟨q, 0, none⟩) 1 1]] V fun e w' => e = .returned (.bool true) ∧ Below V.heap.size V w') := Lib.hid (fun W V p q hb h1 h2 hv => by
          have hbv := hb.trans (hv.mono hb.size); have hls : lys [⟨sn, sf, sa, sc⟩] = [.string sn, .slice sa sl sc] := by simp [lys, Ly.cells, Ly.fval]; try exact HSL.out
          have h := msame_any (some ⟨p, 0, none⟩) (some ⟨q, 0, none⟩) 1 1 [⟨sn, sf, sa, sc⟩] [⟨sn, sf, sa, sc⟩] (by simp) (by simp) (fun y hy => by rw [List.mem_singleton.1 hy]; exact HY0.out.1) (fun y hy => by rw [List.mem_singleton.1 hy]; exact HY0.out.1) V (by rw [hls]; exact h1.keep hv) (by rw [hls]; exact h2.keep hv) (fun y hy => by rw [List.mem_singleton.1 hy]; exact HY0.out.2 V (HX7.out.trans (hbv.mono HX7.out.size))) (fun y hy => by rw [List.mem_singleton.1 hy]; exact HY0.out.2 V (HX7.out.trans (hbv.mono HX7.out.size))); rw [decide_eq_true rfl] at h; exact h)
        clear hDS; refine sched_fork [0] (by kernel_rfl) (by kernel_rfl) (by simp) (fun i hi => ?_); obtain rfl : i = 0 := by simpa using hi
        refine sched_heavy 0 _ rfl rfl (fun K hK => ?_); go_step; refine (known24_any _).mono ?_; rintro e V1 ⟨rfl, hx⟩; have HB := HB.trans (hx.mono HB.size); clear hx; refine hK.out _ _ HB ?_; clear hK K
        try simp only [Act.put, List.getElem_toArray, List.getElem_cons_succ, List.getElem_cons_zero, List.setIfInBounds_toArray, List.set_cons_zero, List.set_cons_succ]
        (refine sched_light 1 _ ?_ (by kernel_rfl) (by kernel_rfl) rfl rfl ?_ HB ?_; rotate_left; · (intro w' hS; (try dsimp only at hS); go_simp; with_reducible rfl)); try simp only [Act.put, List.getElem_toArray, List.getElem_cons_succ, List.getElem_cons_zero, List.setIfInBounds_toArray, List.set_cons_zero, List.set_cons_succ]
        refine sched_light 2 _ (.agg #[.slice (some ⟨b1, o1, none⟩) NA qa]) (by kernel_rfl) (by kernel_rfl) rfl rfl ?_ HB ?_
        · intro w' hS; have e0 := (KA7.out.keep hS).blk.cell 0 rfl; clear hS; go_simp
        try simp only [Act.put, List.getElem_toArray, List.getElem_cons_succ, List.getElem_cons_zero, List.setIfInBounds_toArray, List.set_cons_zero, List.set_cons_succ]
        refine sched_light 3 _ (.agg #[.slice pb NB qb]) (by kernel_rfl) (by kernel_rfl) rfl rfl ?_ HB ?_
        · intro w' hS; have e0 := (KB7.out.keep hS).blk.cell 0 rfl; clear hS; go_simp
        try simp only [Act.put, List.getElem_toArray, List.getElem_cons_succ, List.getElem_cons_zero, List.setIfInBounds_toArray, List.set_cons_zero, List.set_cons_succ]
        refine sched_light 5 _ (.agg #[.slice (some ⟨b1, o1, none⟩) NA qa]) (by kernel_rfl) (by kernel_rfl) rfl rfl ?_ HB ?_
        · intro w' hS; have e0 := (KA7.out.keep hS).blk.cell 0 rfl; clear hS; go_simp
        try simp only [Act.put, List.getElem_toArray, List.getElem_cons_succ, List.getElem_cons_zero, List.setIfInBounds_toArray, List.set_cons_zero, List.set_cons_succ]
        refine sched_light 6 _ (.agg #[.slice pb NB qb]) (by kernel_rfl) (by kernel_rfl) rfl rfl ?_ HB ?_
        · intro w' hS; have e0 := (KB7.out.keep hS).blk.cell 0 rfl; clear hS; go_simp
        try simp only [Act.put, List.getElem_toArray, List.getElem_cons_succ, List.getElem_cons_zero, List.setIfInBounds_toArray, List.set_cons_zero, List.set_cons_succ]
        refine sched_fork [4] (by kernel_rfl) (by kernel_rfl) (by simp) (fun i hi => ?_); obtain rfl : i = 4 := by simpa using hi
        refine sched_heavy 4 _ rfl rfl (fun K hK => ?_); go_step; refine (HS1.out _ HB).mono ?_; rintro e V2 ⟨rfl, hx⟩; have HB := HB.trans (hx.mono HB.size); clear hx; refine hK.out _ _ HB ?_; clear hK K
        try simp only [Act.put, List.getElem_toArray, List.getElem_cons_succ, List.getElem_cons_zero, List.setIfInBounds_toArray, List.set_cons_zero, List.set_cons_succ]
        refine sched_fork [7] (by kernel_rfl) (by kernel_rfl) (by simp) (fun i hi => ?_); obtain rfl : i = 7 := by simpa using hi
        refine sched_heavy 7 _ rfl rfl (fun K hK => ?_); go_step; refine (HOF.out _ HB).mono ?_; rintro e V3 ⟨pz, qz, ZZ, rfl, hzc, hzr, hzo, hx⟩; have HB := HB.trans (hx.mono HB.size); clear hx; have HL3 := Lib.hid (HLS.out V3 V3 pz qz ZZ HB (Below.refl _ _) hzc hzr hzo); clear hzc hzr hzo HOF; refine hK.out _ _ HB ?_; clear hK K
        try simp only [Act.put, List.getElem_toArray, List.getElem_cons_succ, List.getElem_cons_zero, List.setIfInBounds_toArray, List.set_cons_zero, List.set_cons_succ]
        refine sched_fork [8] (by kernel_rfl) (by kernel_rfl) (by simp) (fun i hi => ?_); obtain rfl : i = 8 := by simpa using hi
        refine sched_heavy 8 _ rfl rfl (fun K hK => ?_); go_step; refine (HL3.out).mono ?_; rintro e V4 ⟨rfl, hx⟩; have HB := HB.trans (hx.mono HB.size); clear hx; refine hK.out _ _ HB ?_; clear hK K
        try simp only [Act.put, List.getElem_toArray, List.getElem_cons_succ, List.getElem_cons_zero, List.setIfInBounds_toArray, List.set_cons_zero, List.set_cons_succ]
        refine sched_light 9 _ (.bool true) (by kernel_rfl) (by kernel_rfl) rfl rfl ?_ HB ?_
        · intro w' hS; clear hS; go_simp
        try simp only [Act.put, List.getElem_toArray, List.getElem_cons_succ, List.getElem_cons_zero, List.setIfInBounds_toArray, List.set_cons_zero, List.set_cons_succ]
        (refine sched_light 10 _ ?_ (by kernel_rfl) (by kernel_rfl) rfl rfl ?_ HB ?_; rotate_left; · (intro w' hS; (try dsimp only at hS); go_simp; with_reducible rfl)); try simp only [Act.put, List.getElem_toArray, List.getElem_cons_succ, List.getElem_cons_zero, List.setIfInBounds_toArray, List.set_cons_zero, List.set_cons_succ]
        (refine sched_light 11 _ ?_ (by kernel_rfl) (by kernel_rfl) rfl rfl ?_ HB ?_; rotate_left; · (intro w' hS; (try dsimp only at hS); go_simp; with_reducible rfl)); try simp only [Act.put, List.getElem_toArray, List.getElem_cons_succ, List.getElem_cons_zero, List.setIfInBounds_toArray, List.set_cons_zero, List.set_cons_succ]
        refine sched_light 12 _ (.agg #[.slice (some ⟨b1, o1, none⟩) NA qa]) (by kernel_rfl) (by kernel_rfl) rfl rfl ?_ HB ?_
        · intro w' hS; have e0 := (KA7.out.keep hS).blk.cell 0 rfl; clear hS; go_simp
        try simp only [Act.put, List.getElem_toArray, List.getElem_cons_succ, List.getElem_cons_zero, List.setIfInBounds_toArray, List.set_cons_zero, List.set_cons_succ]
        refine sched_light 13 _ (.agg #[.slice (some ⟨b1, o1, none⟩) NA qa]) (by kernel_rfl) (by kernel_rfl) rfl rfl ?_ HB ?_
        · intro w' hS; have e0 := (KA7.out.keep hS).blk.cell 0 rfl; clear hS; go_simp
        try simp only [Act.put, List.getElem_toArray, List.getElem_cons_succ, List.getElem_cons_zero, List.setIfInBounds_toArray, List.set_cons_zero, List.set_cons_succ]
        refine sched_fork [14] (by kernel_rfl) (by kernel_rfl) (by simp) (fun i hi => ?_); obtain rfl : i = 14 := by simpa using hi
        refine sched_heavy 14 _ rfl rfl (fun K hK => ?_); go_step; refine (HS3.out _ HB).mono ?_; rintro e V5 ⟨rfl, hx⟩; have HB := HB.trans (hx.mono HB.size); clear hx; refine hK.out _ _ HB ?_; clear hK K
        try simp only [Act.put, List.getElem_toArray, List.getElem_cons_succ, List.getElem_cons_zero, List.setIfInBounds_toArray, List.set_cons_zero, List.set_cons_succ]
        (refine sched_light 15 _ ?_ (by kernel_rfl) (by kernel_rfl) rfl rfl ?_ HB ?_; rotate_left; · (intro w' hS; (try dsimp only at hS); go_simp; with_reducible rfl)); try simp only [Act.put, List.getElem_toArray, List.getElem_cons_succ, List.getElem_cons_zero, List.setIfInBounds_toArray, List.set_cons_zero, List.set_cons_succ]
        (refine sched_light 16 _ ?_ (by kernel_rfl) (by kernel_rfl) rfl rfl ?_ HB ?_; rotate_left; · (intro w' hS; (try dsimp only at hS); go_simp; with_reducible rfl)); try simp only [Act.put, List.getElem_toArray, List.getElem_cons_succ, List.getElem_cons_zero, List.setIfInBounds_toArray, List.set_cons_zero, List.set_cons_succ]
        refine sched_light 17 _ (.agg #[.string sn, .slice sa sl sc]) (by kernel_rfl) (by kernel_rfl) rfl rfl ?_ HB ?_
        · intro w' hS; have e0 := (K77.out.keep hS).blk.cell 0 rfl; have e1 := (K77.out.keep hS).blk.cell 1 rfl; clear hS; go_simp
        try simp only [Act.put, List.getElem_toArray, List.getElem_cons_succ, List.getElem_cons_zero, List.setIfInBounds_toArray, List.set_cons_zero, List.set_cons_succ]
        refine sched_light 20 _ (.agg #[.string sn, .slice sa sl sc]) (by kernel_rfl) (by kernel_rfl) rfl rfl ?_ HB ?_
        · intro w' hS; have e0 := (KX7.out.keep hS).blk.cell 0 rfl; have e1 := (KX7.out.keep hS).blk.cell 1 rfl; clear hS; go_simp
        try simp only [Act.put, List.getElem_toArray, List.getElem_cons_succ, List.getElem_cons_zero, List.setIfInBounds_toArray, List.set_cons_zero, List.set_cons_succ]
        clear HS1 HS3 HL3 HLS; refine sched_fork [18, 21] (by kernel_rfl) (by kernel_rfl) (by simp) (fun i hi => ?_)
        rcases (by simpa using hi : i = 18 ∨ i = 21) with rfl | rfl
        · refine sched_heavy 18 _ rfl rfl (fun K hK => ?_); go_step; obtain ⟨P1, hPP⟩ : ∃ p, V5.heap.size = p := ⟨_, rfl⟩; have hx := Below.new V5 (.cells #[.string sn, .slice sa sl sc] 46); have r1 := Rd.lit V5 P1 [.string sn, .slice sa sl sc] 46 hPP; have HB := HB.trans (hx.mono HB.size); rw [hPP]; clear hx hPP; refine hK.out _ _ HB ?_; clear hK K; generalize V5.alloc (.cells #[.string sn, .slice sa sl sc] 46) = V6 at *
          try simp only [Act.put, List.getElem_toArray, List.getElem_cons_succ, List.getElem_cons_zero, List.setIfInBounds_toArray, List.set_cons_zero, List.set_cons_succ]
          (refine sched_light 19 _ ?_ (by kernel_rfl) (by kernel_rfl) rfl rfl ?_ HB ?_; rotate_left; · (intro w' hS; (try dsimp only at hS); go_simp; with_reducible rfl)); try simp only [Act.put, List.getElem_toArray, List.getElem_cons_succ, List.getElem_cons_zero, List.setIfInBounds_toArray, List.set_cons_zero, List.set_cons_succ]
          refine sched_fork [21] (by kernel_rfl) (by kernel_rfl) (by simp) (fun i hi => ?_); obtain rfl : i = 21 := by simpa using hi
          refine sched_heavy 21 _ rfl rfl (fun K hK => ?_); go_step; obtain ⟨P2, hPP⟩ : ∃ p, V6.heap.size = p := ⟨_, rfl⟩; have hx := Below.new V6 (.cells #[.string sn, .slice sa sl sc] 46); have r2 := Rd.lit V6 P2 [.string sn, .slice sa sl sc] 46 hPP; have r1 := r1.keep hx; have HB := HB.trans (hx.mono HB.size); rw [hPP]; clear hx hPP; refine hK.out _ _ HB ?_; clear hK K; generalize V6.alloc (.cells #[.string sn, .slice sa sl sc] 46) = V7 at *
          try simp only [Act.put, List.getElem_toArray, List.getElem_cons_succ, List.getElem_cons_zero, List.setIfInBounds_toArray, List.set_cons_zero, List.set_cons_succ]
          (refine sched_light 22 _ ?_ (by kernel_rfl) (by kernel_rfl) rfl rfl ?_ HB ?_; rotate_left; · (intro w' hS; (try dsimp only at hS); go_simp; with_reducible rfl)); try simp only [Act.put, List.getElem_toArray, List.getElem_cons_succ, List.getElem_cons_zero, List.setIfInBounds_toArray, List.set_cons_zero, List.set_cons_succ]
          refine sched_fork [23] (by kernel_rfl) (by kernel_rfl) (by simp) (fun i hi => ?_); obtain rfl : i = 23 := by simpa using hi
          refine sched_heavy 23 _ rfl rfl (fun K hK => ?_); go_step; refine (HS4.out V7 V7 P1 P2 HB r1 r2 (Below.refl _ _)).mono ?_; rintro e V8 ⟨rfl, hx⟩; have HB := HB.trans (hx.mono HB.size); clear hx; refine hK.out _ _ HB ?_; clear hK K
          try simp only [Act.put, List.getElem_toArray, List.getElem_cons_succ, List.getElem_cons_zero, List.setIfInBounds_toArray, List.set_cons_zero, List.set_cons_succ]
          (refine sched_light 24 _ ?_ (by kernel_rfl) (by kernel_rfl) rfl rfl ?_ HB ?_; rotate_left; · (intro w' hS; (try dsimp only at hS); go_simp; with_reducible rfl)); try simp only [Act.put, List.getElem_toArray, List.getElem_cons_succ, List.getElem_cons_zero, List.setIfInBounds_toArray, List.set_cons_zero, List.set_cons_succ]
          (refine sched_light 25 _ ?_ (by kernel_rfl) (by kernel_rfl) rfl rfl ?_ HB ?_; rotate_left; · (intro w' hS; (try dsimp only at hS); go_simp; with_reducible rfl)); try simp only [Act.put, List.getElem_toArray, List.getElem_cons_succ, List.getElem_cons_zero, List.setIfInBounds_toArray, List.set_cons_zero, List.set_cons_succ]
          refine sched_end (by kernel_rfl) ?_
          try simp only [Act.put, List.getElem_toArray, List.getElem_cons_succ, List.getElem_cons_zero, List.setIfInBounds_toArray, List.set_cons_zero, List.set_cons_succ]
          go_wp2; go_ret; exact ⟨rfl, HB7.out.trans (HB.mono HB7.out.size)⟩
        · refine sched_heavy 21 _ rfl rfl (fun K hK => ?_); go_step; obtain ⟨P2, hPP⟩ : ∃ p, V5.heap.size = p := ⟨_, rfl⟩; have hx := Below.new V5 (.cells #[.string sn, .slice sa sl sc] 46); have r2 := Rd.lit V5 P2 [.string sn, .slice sa sl sc] 46 hPP; have HB := HB.trans (hx.mono HB.size); rw [hPP]; clear hx hPP; refine hK.out _ _ HB ?_; clear hK K; generalize V5.alloc (.cells #[.string sn, .slice sa sl sc] 46) = V6 at *
          try simp only [Act.put, List.getElem_toArray, List.getElem_cons_succ, List.getElem_cons_zero, List.setIfInBounds_toArray, List.set_cons_zero, List.set_cons_succ]
          (refine sched_light 22 _ ?_ (by kernel_rfl) (by kernel_rfl) rfl rfl ?_ HB ?_; rotate_left; · (intro w' hS; (try dsimp only at hS); go_simp; with_reducible rfl)); try simp only [Act.put, List.getElem_toArray, List.getElem_cons_succ, List.getElem_cons_zero, List.setIfInBounds_toArray, List.set_cons_zero, List.set_cons_succ]
          refine sched_fork [18] (by kernel_rfl) (by kernel_rfl) (by simp) (fun i hi => ?_); obtain rfl : i = 18 := by simpa using hi
          refine sched_heavy 18 _ rfl rfl (fun K hK => ?_); go_step; obtain ⟨P1, hPP⟩ : ∃ p, V6.heap.size = p := ⟨_, rfl⟩; have hx := Below.new V6 (.cells #[.string sn, .slice sa sl sc] 46); have r1 := Rd.lit V6 P1 [.string sn, .slice sa sl sc] 46 hPP; have r2 := r2.keep hx; have HB := HB.trans (hx.mono HB.size); rw [hPP]; clear hx hPP; refine hK.out _ _ HB ?_; clear hK K; generalize V6.alloc (.cells #[.string sn, .slice sa sl sc] 46) = V7 at *
          try simp only [Act.put, List.getElem_toArray, List.getElem_cons_succ, List.getElem_cons_zero, List.setIfInBounds_toArray, List.set_cons_zero, List.set_cons_succ]
          (refine sched_light 19 _ ?_ (by kernel_rfl) (by kernel_rfl) rfl rfl ?_ HB ?_; rotate_left; · (intro w' hS; (try dsimp only at hS); go_simp; with_reducible rfl)); try simp only [Act.put, List.getElem_toArray, List.getElem_cons_succ, List.getElem_cons_zero, List.setIfInBounds_toArray, List.set_cons_zero, List.set_cons_succ]
          refine sched_fork [23] (by kernel_rfl) (by kernel_rfl) (by simp) (fun i hi => ?_); obtain rfl : i = 23 := by simpa using hi
          refine sched_heavy 23 _ rfl rfl (fun K hK => ?_); go_step; refine (HS4.out V7 V7 P1 P2 HB r1 r2 (Below.refl _ _)).mono ?_; rintro e V8 ⟨rfl, hx⟩; have HB := HB.trans (hx.mono HB.size); clear hx; refine hK.out _ _ HB ?_; clear hK K
          try simp only [Act.put, List.getElem_toArray, List.getElem_cons_succ, List.getElem_cons_zero, List.setIfInBounds_toArray, List.set_cons_zero, List.set_cons_succ]
          (refine sched_light 24 _ ?_ (by kernel_rfl) (by kernel_rfl) rfl rfl ?_ HB ?_; rotate_left; · (intro w' hS; (try dsimp only at hS); go_simp; with_reducible rfl)); try simp only [Act.put, List.getElem_toArray, List.getElem_cons_succ, List.getElem_cons_zero, List.setIfInBounds_toArray, List.set_cons_zero, List.set_cons_succ]
          (refine sched_light 25 _ ?_ (by kernel_rfl) (by kernel_rfl) rfl rfl ?_ HB ?_; rotate_left; · (intro w' hS; (try dsimp only at hS); go_simp; with_reducible rfl)); try simp only [Act.put, List.getElem_toArray, List.getElem_cons_succ, List.getElem_cons_zero, List.setIfInBounds_toArray, List.set_cons_zero, List.set_cons_succ]
          refine sched_end (by kernel_rfl) ?_
          try simp only [Act.put, List.getElem_toArray, List.getElem_cons_succ, List.getElem_cons_zero, List.setIfInBounds_toArray, List.set_cons_zero, List.set_cons_succ]
          go_wp2; go_ret; exact ⟨rfl, HB7.out.trans (HB.mono HB7.out.size)⟩
      · have hs : ¬ yn.toList = nm.toList := fun h => hnm ((ba_injf _ _).2 h); have hs2 : (yn.toList == nm.toList) = false := by simpa using hs
        have HS2 := Lib.hid (HS.out hnm); clear HFO HS hnm; go_wp2; exact ⟨⟨k + 1, by omega, by go_num, HS2, by trivial⟩, by simp [intOf]; omega⟩
    · have h1' : ¬ (k : Int) < (NA : Int) := by omega
      obtain ⟨he, hix⟩ := HLN.out (fun j hj => HE.out j hj (by rw [HNA.out] at hj; omega)); obtain ⟨rfl, rfl, rfl, rfl⟩ := Ly.mk.inj he; have hDf : D = false := HD.out.symm.trans (decide_eq_false (by omega)); subst hDf; have hsl0 : sl = 0 := HSL.out.symm; subst hsl0; have hx := Below.new wr (.cells #[.string ⟨#[]⟩, .slice none 0 0] 46); have kX := BkT.lit wr wr.heap.size [.string ⟨#[]⟩, .slice none 0 0] 46 rfl; clear HLA HLN he; go_wp2; have KA6 := Lib.hid (KA5.out.keep hx); have KB6 := Lib.hid (KB5.out.keep hx); have TA6 := Lib.hid (TA5.out.below hx); have TB6 := Lib.hid (TB5.out.below hx); have HX6 := Lib.hid (HX5.out.trans (hx.mono HX5.out.size)); have HB6 := Lib.hid (HB5.out.trans (hx.mono HB5.out.size)); have K76 := Lib.hid (K7.out.keep hx); have KX := Lib.hid kX; clear hx kX KA5 KB5 TA5 TB5 HX5 HB5 K7 a0; obtain ⟨X10, hX10⟩ : ∃ p, wr.heap.size = p := ⟨_, rfl⟩; rw [hX10] at KX ⊢; clear hX10; generalize wr.alloc (.cells #[.string ⟨#[]⟩, .slice none 0 0] 46) = w7 at *; have hd := (Below.refl w7.heap.size w7).drew; have KA7 := Lib.hid (KA6.out.keep hd); have KB7 := Lib.hid (KB6.out.keep hd); have TA7 := Lib.hid (TA6.out.below hd); have TB7 := Lib.hid (TB6.out.below hd); have HX7 := Lib.hid (HX6.out.trans (hd.mono HX6.out.size)); have HB7 := Lib.hid (HB6.out.trans (hd.mono HB6.out.size)); have K77 := Lib.hid (K76.out.keep hd); have KX7 := Lib.hid (KX.out.keep hd); clear KA6 KB6 TA6 TB6 HX6 HB6 K76 KX hd; refine wp_region_sched 26 [1, 2, 3, 5, 6, 9, 10, 11, 12, 13, 15, 16, 17, 19, 20, 22, 24, 25] (fun W => Below w7.drew.heap.size w7.drew W) rfl (by kernel_rfl) (by kernel_rfl) ?_
      have HB := Below.refl w7.drew.heap.size w7.drew; generalize w7.drew = W0 at *; obtain ⟨DS, hDS⟩ : ∃ D, decide (ZA.map Ly.core = ZB.map Ly.core) = D := ⟨_, rfl⟩; have HSA : Hid (∀ y ∈ ZA, y.Sz) := Lib.hid (fun y hy => (HZA.out y hy).sz); have HSB : Hid (∀ y ∈ ZB, y.Sz) := Lib.hid (fun y hy => (HZB.out y hy).sz); have HS1 : Hid (∀ W, Below W0.heap.size W0 W → Calls Tryz.prog 14 #[.agg #[.slice pa NA qa], .agg #[.slice pb NB qb]] W fun e w' => e = .returned (.bool DS) ∧ Below W.heap.size W w') := Lib.hid (fun W hb => by
        have h := msame_any pa pb qa qb ZA ZB (by rw [HNA.out]; omega) (by rw [HNB.out]; omega) HSA.out HSB.out W (TA7.out.1.1.keep hb) (TB7.out.1.1.keep hb) (fun y hy => (TA7.out.ok HB7.out y hy).keep hb) (fun y hy => (TB7.out.ok HB7.out y hy).keep hb); rw [HNA.out, HNB.out, hDS] at h; exact h)
      have HS3 : Hid (∀ W, Below W0.heap.size W0 W → Calls Tryz.prog 14 #[.agg #[.slice pa NA qa], .agg #[.slice pa NA qa]] W fun e w' => e = .returned (.bool true) ∧ Below W.heap.size W w') := Lib.hid (fun W hb => by
        have h := msame_any pa pa qa qa ZA ZA (by rw [HNA.out]; omega) (by rw [HNA.out]; omega) HSA.out HSA.out W (TA7.out.1.1.keep hb) (TA7.out.1.1.keep hb) (fun y hy => (TA7.out.ok HB7.out y hy).keep hb) (fun y hy => (TA7.out.ok HB7.out y hy).keep hb); rw [HNA.out, decide_eq_true rfl] at h; exact h)
      have HOF : Hid (∀ W, Below W0.heap.size W0 W → Calls Tryz.prog 7 #[.agg #[.slice pb NB qb]] W fun e w' => ∃ (p : Option Addr) (q : Nat) (Z : List Ly), e = .returned (.agg #[.slice p Z.length q]) ∧ Z.map Ly.core = ZB.map Ly.core ∧ Rd w' p (lys Z) ∧ (∀ z ∈ Z, z.Ok w') ∧ Below W.heap.size W w') := Lib.hid (fun W hb => by
        have h := mof_any pb qb ZB (by rw [HNB.out]; omega) HSB.out W (TB7.out.1.1.keep hb) (fun y hy => (TB7.out.ok HB7.out y hy).keep hb); rw [HNB.out] at h; exact h)
      have HLS : Hid (∀ W V p q (Z : List Ly), Below W0.heap.size W0 W → Below W.heap.size W V → Z.map Ly.core = ZB.map Ly.core → Rd W p (lys Z) → (∀ z ∈ Z, z.Ok W) → Calls Tryz.prog 15 #[.agg #[.slice pa NA qa], .agg #[.slice p Z.length q]] V fun e w' => e = .returned (.bool DS) ∧ Below V.heap.size V w') := Lib.hid (fun W V p q Z hb hv hc hr ho => by
        have hbv := hb.trans (hv.mono hb.size); have hsz : ∀ y ∈ Z, y.Sz := szs_coreS hc HSB.out; have hln : Z.length = ZB.length := by have := congrArg List.length hc; simpa using this
        have h := lsame24_any pa p qa q ZA Z (by rw [HNA.out]; omega) (by rw [hln, HNB.out]; omega) HSA.out hsz V (TA7.out.1.1.keep hbv) (hr.keep hv) (fun y hy => (TA7.out.ok HB7.out y hy).keep hbv) (fun y hy => (ho y hy).keep hv); rw [HNA.out, hc, hDS] at h; exact h)
      have HS4 : Hid (∀ W V p q, Below W0.heap.size W0 W → Rd W (some ⟨p, 0, none⟩) [.string ⟨#[]⟩, .slice none 0 0] → Rd W (some ⟨q, 0, none⟩) [.string ⟨#[]⟩, .slice none 0 0] → Below W.heap.size W V → Calls Tryz.prog 14 #[.agg #[.slice (some ⟨p, 0, none⟩) 1 1], .agg #[.slice (some ⟨q, 0, none⟩) 1 1]] V fun e w' => e = .returned (.bool true) ∧ Below V.heap.size V w') := Lib.hid (fun W V p q hb h1 h2 hv => by
        have hbv := hb.trans (hv.mono hb.size); have hls : lys [⟨⟨#[]⟩, [], none, 0⟩] = [.string ⟨#[]⟩, .slice none 0 0] := by simp [lys, Ly.cells, Ly.fval]; try exact HSL.out
        have h := msame_any (some ⟨p, 0, none⟩) (some ⟨q, 0, none⟩) 1 1 [⟨⟨#[]⟩, [], none, 0⟩] [⟨⟨#[]⟩, [], none, 0⟩] (by simp) (by simp) (fun y hy => by rw [List.mem_singleton.1 hy]; exact HY0.out.1) (fun y hy => by rw [List.mem_singleton.1 hy]; exact HY0.out.1) V (by rw [hls]; exact h1.keep hv) (by rw [hls]; exact h2.keep hv) (fun y hy => by rw [List.mem_singleton.1 hy]; exact HY0.out.2 V (HX7.out.trans (hbv.mono HX7.out.size))) (fun y hy => by rw [List.mem_singleton.1 hy]; exact HY0.out.2 V (HX7.out.trans (hbv.mono HX7.out.size))); rw [decide_eq_true rfl] at h; exact h)
      clear hDS; refine sched_fork [0] (by kernel_rfl) (by kernel_rfl) (by simp) (fun i hi => ?_); obtain rfl : i = 0 := by simpa using hi
      refine sched_heavy 0 _ rfl rfl (fun K hK => ?_); go_step; refine (known24_any _).mono ?_; rintro e V1 ⟨rfl, hx⟩; have HB := HB.trans (hx.mono HB.size); clear hx; refine hK.out _ _ HB ?_; clear hK K
      try simp only [Act.put, List.getElem_toArray, List.getElem_cons_succ, List.getElem_cons_zero, List.setIfInBounds_toArray, List.set_cons_zero, List.set_cons_succ]
      (refine sched_light 1 _ ?_ (by kernel_rfl) (by kernel_rfl) rfl rfl ?_ HB ?_; rotate_left; · (intro w' hS; (try dsimp only at hS); go_simp; with_reducible rfl)); try simp only [Act.put, List.getElem_toArray, List.getElem_cons_succ, List.getElem_cons_zero, List.setIfInBounds_toArray, List.set_cons_zero, List.set_cons_succ]
      refine sched_light 2 _ (.agg #[.slice pa NA qa]) (by kernel_rfl) (by kernel_rfl) rfl rfl ?_ HB ?_
      · intro w' hS; have e0 := (KA7.out.keep hS).blk.cell 0 rfl; clear hS; go_simp
      try simp only [Act.put, List.getElem_toArray, List.getElem_cons_succ, List.getElem_cons_zero, List.setIfInBounds_toArray, List.set_cons_zero, List.set_cons_succ]
      refine sched_light 3 _ (.agg #[.slice pb NB qb]) (by kernel_rfl) (by kernel_rfl) rfl rfl ?_ HB ?_
      · intro w' hS; have e0 := (KB7.out.keep hS).blk.cell 0 rfl; clear hS; go_simp
      try simp only [Act.put, List.getElem_toArray, List.getElem_cons_succ, List.getElem_cons_zero, List.setIfInBounds_toArray, List.set_cons_zero, List.set_cons_succ]
      refine sched_light 5 _ (.agg #[.slice pa NA qa]) (by kernel_rfl) (by kernel_rfl) rfl rfl ?_ HB ?_
      · intro w' hS; have e0 := (KA7.out.keep hS).blk.cell 0 rfl; clear hS; go_simp
      try simp only [Act.put, List.getElem_toArray, List.getElem_cons_succ, List.getElem_cons_zero, List.setIfInBounds_toArray, List.set_cons_zero, List.set_cons_succ]
      refine sched_light 6 _ (.agg #[.slice pb NB qb]) (by kernel_rfl) (by kernel_rfl) rfl rfl ?_ HB ?_
      · intro w' hS; have e0 := (KB7.out.keep hS).blk.cell 0 rfl; clear hS; go_simp
      try simp only [Act.put, List.getElem_toArray, List.getElem_cons_succ, List.getElem_cons_zero, List.setIfInBounds_toArray, List.set_cons_zero, List.set_cons_succ]
      refine sched_fork [4] (by kernel_rfl) (by kernel_rfl) (by simp) (fun i hi => ?_); obtain rfl : i = 4 := by simpa using hi
      refine sched_heavy 4 _ rfl rfl (fun K hK => ?_); go_step; refine (HS1.out _ HB).mono ?_; rintro e V2 ⟨rfl, hx⟩; have HB := HB.trans (hx.mono HB.size); clear hx; refine hK.out _ _ HB ?_; clear hK K
      try simp only [Act.put, List.getElem_toArray, List.getElem_cons_succ, List.getElem_cons_zero, List.setIfInBounds_toArray, List.set_cons_zero, List.set_cons_succ]
      refine sched_fork [7] (by kernel_rfl) (by kernel_rfl) (by simp) (fun i hi => ?_); obtain rfl : i = 7 := by simpa using hi
      refine sched_heavy 7 _ rfl rfl (fun K hK => ?_); go_step; refine (HOF.out _ HB).mono ?_; rintro e V3 ⟨pz, qz, ZZ, rfl, hzc, hzr, hzo, hx⟩; have HB := HB.trans (hx.mono HB.size); clear hx; have HL3 := Lib.hid (HLS.out V3 V3 pz qz ZZ HB (Below.refl _ _) hzc hzr hzo); clear hzc hzr hzo HOF; refine hK.out _ _ HB ?_; clear hK K
      try simp only [Act.put, List.getElem_toArray, List.getElem_cons_succ, List.getElem_cons_zero, List.setIfInBounds_toArray, List.set_cons_zero, List.set_cons_succ]
      refine sched_fork [8] (by kernel_rfl) (by kernel_rfl) (by simp) (fun i hi => ?_); obtain rfl : i = 8 := by simpa using hi
      refine sched_heavy 8 _ rfl rfl (fun K hK => ?_); go_step; refine (HL3.out).mono ?_; rintro e V4 ⟨rfl, hx⟩; have HB := HB.trans (hx.mono HB.size); clear hx; refine hK.out _ _ HB ?_; clear hK K
      try simp only [Act.put, List.getElem_toArray, List.getElem_cons_succ, List.getElem_cons_zero, List.setIfInBounds_toArray, List.set_cons_zero, List.set_cons_succ]
      refine sched_light 9 _ (.bool true) (by kernel_rfl) (by kernel_rfl) rfl rfl ?_ HB ?_
      · intro w' hS; clear hS; go_simp
      try simp only [Act.put, List.getElem_toArray, List.getElem_cons_succ, List.getElem_cons_zero, List.setIfInBounds_toArray, List.set_cons_zero, List.set_cons_succ]
      (refine sched_light 10 _ ?_ (by kernel_rfl) (by kernel_rfl) rfl rfl ?_ HB ?_; rotate_left; · (intro w' hS; (try dsimp only at hS); go_simp; with_reducible rfl)); try simp only [Act.put, List.getElem_toArray, List.getElem_cons_succ, List.getElem_cons_zero, List.setIfInBounds_toArray, List.set_cons_zero, List.set_cons_succ]
      (refine sched_light 11 _ ?_ (by kernel_rfl) (by kernel_rfl) rfl rfl ?_ HB ?_; rotate_left; · (intro w' hS; (try dsimp only at hS); go_simp; with_reducible rfl)); try simp only [Act.put, List.getElem_toArray, List.getElem_cons_succ, List.getElem_cons_zero, List.setIfInBounds_toArray, List.set_cons_zero, List.set_cons_succ]
      refine sched_light 12 _ (.agg #[.slice pa NA qa]) (by kernel_rfl) (by kernel_rfl) rfl rfl ?_ HB ?_
      · intro w' hS; have e0 := (KA7.out.keep hS).blk.cell 0 rfl; clear hS; go_simp
      try simp only [Act.put, List.getElem_toArray, List.getElem_cons_succ, List.getElem_cons_zero, List.setIfInBounds_toArray, List.set_cons_zero, List.set_cons_succ]
      refine sched_light 13 _ (.agg #[.slice pa NA qa]) (by kernel_rfl) (by kernel_rfl) rfl rfl ?_ HB ?_
      · intro w' hS; have e0 := (KA7.out.keep hS).blk.cell 0 rfl; clear hS; go_simp
      try simp only [Act.put, List.getElem_toArray, List.getElem_cons_succ, List.getElem_cons_zero, List.setIfInBounds_toArray, List.set_cons_zero, List.set_cons_succ]
      refine sched_fork [14] (by kernel_rfl) (by kernel_rfl) (by simp) (fun i hi => ?_); obtain rfl : i = 14 := by simpa using hi
      refine sched_heavy 14 _ rfl rfl (fun K hK => ?_); go_step; refine (HS3.out _ HB).mono ?_; rintro e V5 ⟨rfl, hx⟩; have HB := HB.trans (hx.mono HB.size); clear hx; refine hK.out _ _ HB ?_; clear hK K
      try simp only [Act.put, List.getElem_toArray, List.getElem_cons_succ, List.getElem_cons_zero, List.setIfInBounds_toArray, List.set_cons_zero, List.set_cons_succ]
      (refine sched_light 15 _ ?_ (by kernel_rfl) (by kernel_rfl) rfl rfl ?_ HB ?_; rotate_left; · (intro w' hS; (try dsimp only at hS); go_simp; with_reducible rfl)); try simp only [Act.put, List.getElem_toArray, List.getElem_cons_succ, List.getElem_cons_zero, List.setIfInBounds_toArray, List.set_cons_zero, List.set_cons_succ]
      (refine sched_light 16 _ ?_ (by kernel_rfl) (by kernel_rfl) rfl rfl ?_ HB ?_; rotate_left; · (intro w' hS; (try dsimp only at hS); go_simp; with_reducible rfl)); try simp only [Act.put, List.getElem_toArray, List.getElem_cons_succ, List.getElem_cons_zero, List.setIfInBounds_toArray, List.set_cons_zero, List.set_cons_succ]
      refine sched_light 17 _ (.agg #[.string ⟨#[]⟩, .slice none 0 0]) (by kernel_rfl) (by kernel_rfl) rfl rfl ?_ HB ?_
      · intro w' hS; have e0 := (K77.out.keep hS).blk.cell 0 rfl; have e1 := (K77.out.keep hS).blk.cell 1 rfl; clear hS; go_simp
      try simp only [Act.put, List.getElem_toArray, List.getElem_cons_succ, List.getElem_cons_zero, List.setIfInBounds_toArray, List.set_cons_zero, List.set_cons_succ]
      refine sched_light 20 _ (.agg #[.string ⟨#[]⟩, .slice none 0 0]) (by kernel_rfl) (by kernel_rfl) rfl rfl ?_ HB ?_
      · intro w' hS; have e0 := (KX7.out.keep hS).blk.cell 0 rfl; have e1 := (KX7.out.keep hS).blk.cell 1 rfl; clear hS; go_simp
      try simp only [Act.put, List.getElem_toArray, List.getElem_cons_succ, List.getElem_cons_zero, List.setIfInBounds_toArray, List.set_cons_zero, List.set_cons_succ]
      clear HS1 HS3 HL3 HLS; refine sched_fork [18, 21] (by kernel_rfl) (by kernel_rfl) (by simp) (fun i hi => ?_)
      rcases (by simpa using hi : i = 18 ∨ i = 21) with rfl | rfl
      · refine sched_heavy 18 _ rfl rfl (fun K hK => ?_); go_step; obtain ⟨P1, hPP⟩ : ∃ p, V5.heap.size = p := ⟨_, rfl⟩; have hx := Below.new V5 (.cells #[.string ⟨#[]⟩, .slice none 0 0] 46); have r1 := Rd.lit V5 P1 [.string ⟨#[]⟩, .slice none 0 0] 46 hPP; have HB := HB.trans (hx.mono HB.size); rw [hPP]; clear hx hPP; refine hK.out _ _ HB ?_; clear hK K; generalize V5.alloc (.cells #[.string ⟨#[]⟩, .slice none 0 0] 46) = V6 at *
        try simp only [Act.put, List.getElem_toArray, List.getElem_cons_succ, List.getElem_cons_zero, List.setIfInBounds_toArray, List.set_cons_zero, List.set_cons_succ]
        (refine sched_light 19 _ ?_ (by kernel_rfl) (by kernel_rfl) rfl rfl ?_ HB ?_; rotate_left; · (intro w' hS; (try dsimp only at hS); go_simp; with_reducible rfl)); try simp only [Act.put, List.getElem_toArray, List.getElem_cons_succ, List.getElem_cons_zero, List.setIfInBounds_toArray, List.set_cons_zero, List.set_cons_succ]
        refine sched_fork [21] (by kernel_rfl) (by kernel_rfl) (by simp) (fun i hi => ?_); obtain rfl : i = 21 := by simpa using hi
        refine sched_heavy 21 _ rfl rfl (fun K hK => ?_); go_step; obtain ⟨P2, hPP⟩ : ∃ p, V6.heap.size = p := ⟨_, rfl⟩; have hx := Below.new V6 (.cells #[.string ⟨#[]⟩, .slice none 0 0] 46); have r2 := Rd.lit V6 P2 [.string ⟨#[]⟩, .slice none 0 0] 46 hPP; have r1 := r1.keep hx; have HB := HB.trans (hx.mono HB.size); rw [hPP]; clear hx hPP; refine hK.out _ _ HB ?_; clear hK K; generalize V6.alloc (.cells #[.string ⟨#[]⟩, .slice none 0 0] 46) = V7 at *
        try simp only [Act.put, List.getElem_toArray, List.getElem_cons_succ, List.getElem_cons_zero, List.setIfInBounds_toArray, List.set_cons_zero, List.set_cons_succ]
        (refine sched_light 22 _ ?_ (by kernel_rfl) (by kernel_rfl) rfl rfl ?_ HB ?_; rotate_left; · (intro w' hS; (try dsimp only at hS); go_simp; with_reducible rfl)); try simp only [Act.put, List.getElem_toArray, List.getElem_cons_succ, List.getElem_cons_zero, List.setIfInBounds_toArray, List.set_cons_zero, List.set_cons_succ]
        refine sched_fork [23] (by kernel_rfl) (by kernel_rfl) (by simp) (fun i hi => ?_); obtain rfl : i = 23 := by simpa using hi
        refine sched_heavy 23 _ rfl rfl (fun K hK => ?_); go_step; refine (HS4.out V7 V7 P1 P2 HB r1 r2 (Below.refl _ _)).mono ?_; rintro e V8 ⟨rfl, hx⟩; have HB := HB.trans (hx.mono HB.size); clear hx; refine hK.out _ _ HB ?_; clear hK K
        try simp only [Act.put, List.getElem_toArray, List.getElem_cons_succ, List.getElem_cons_zero, List.setIfInBounds_toArray, List.set_cons_zero, List.set_cons_succ]
        (refine sched_light 24 _ ?_ (by kernel_rfl) (by kernel_rfl) rfl rfl ?_ HB ?_; rotate_left; · (intro w' hS; (try dsimp only at hS); go_simp; with_reducible rfl)); try simp only [Act.put, List.getElem_toArray, List.getElem_cons_succ, List.getElem_cons_zero, List.setIfInBounds_toArray, List.set_cons_zero, List.set_cons_succ]
        (refine sched_light 25 _ ?_ (by kernel_rfl) (by kernel_rfl) rfl rfl ?_ HB ?_; rotate_left; · (intro w' hS; (try dsimp only at hS); go_simp; with_reducible rfl)); try simp only [Act.put, List.getElem_toArray, List.getElem_cons_succ, List.getElem_cons_zero, List.setIfInBounds_toArray, List.set_cons_zero, List.set_cons_succ]
        refine sched_end (by kernel_rfl) ?_
        try simp only [Act.put, List.getElem_toArray, List.getElem_cons_succ, List.getElem_cons_zero, List.setIfInBounds_toArray, List.set_cons_zero, List.set_cons_succ]
        go_wp2; go_ret; exact ⟨rfl, HB7.out.trans (HB.mono HB7.out.size)⟩
      · refine sched_heavy 21 _ rfl rfl (fun K hK => ?_); go_step; obtain ⟨P2, hPP⟩ : ∃ p, V5.heap.size = p := ⟨_, rfl⟩; have hx := Below.new V5 (.cells #[.string ⟨#[]⟩, .slice none 0 0] 46); have r2 := Rd.lit V5 P2 [.string ⟨#[]⟩, .slice none 0 0] 46 hPP; have HB := HB.trans (hx.mono HB.size); rw [hPP]; clear hx hPP; refine hK.out _ _ HB ?_; clear hK K; generalize V5.alloc (.cells #[.string ⟨#[]⟩, .slice none 0 0] 46) = V6 at *
        try simp only [Act.put, List.getElem_toArray, List.getElem_cons_succ, List.getElem_cons_zero, List.setIfInBounds_toArray, List.set_cons_zero, List.set_cons_succ]
        (refine sched_light 22 _ ?_ (by kernel_rfl) (by kernel_rfl) rfl rfl ?_ HB ?_; rotate_left; · (intro w' hS; (try dsimp only at hS); go_simp; with_reducible rfl)); try simp only [Act.put, List.getElem_toArray, List.getElem_cons_succ, List.getElem_cons_zero, List.setIfInBounds_toArray, List.set_cons_zero, List.set_cons_succ]
        refine sched_fork [18] (by kernel_rfl) (by kernel_rfl) (by simp) (fun i hi => ?_); obtain rfl : i = 18 := by simpa using hi
        refine sched_heavy 18 _ rfl rfl (fun K hK => ?_); go_step; obtain ⟨P1, hPP⟩ : ∃ p, V6.heap.size = p := ⟨_, rfl⟩; have hx := Below.new V6 (.cells #[.string ⟨#[]⟩, .slice none 0 0] 46); have r1 := Rd.lit V6 P1 [.string ⟨#[]⟩, .slice none 0 0] 46 hPP; have r2 := r2.keep hx; have HB := HB.trans (hx.mono HB.size); rw [hPP]; clear hx hPP; refine hK.out _ _ HB ?_; clear hK K; generalize V6.alloc (.cells #[.string ⟨#[]⟩, .slice none 0 0] 46) = V7 at *
        try simp only [Act.put, List.getElem_toArray, List.getElem_cons_succ, List.getElem_cons_zero, List.setIfInBounds_toArray, List.set_cons_zero, List.set_cons_succ]
        (refine sched_light 19 _ ?_ (by kernel_rfl) (by kernel_rfl) rfl rfl ?_ HB ?_; rotate_left; · (intro w' hS; (try dsimp only at hS); go_simp; with_reducible rfl)); try simp only [Act.put, List.getElem_toArray, List.getElem_cons_succ, List.getElem_cons_zero, List.setIfInBounds_toArray, List.set_cons_zero, List.set_cons_succ]
        refine sched_fork [23] (by kernel_rfl) (by kernel_rfl) (by simp) (fun i hi => ?_); obtain rfl : i = 23 := by simpa using hi
        refine sched_heavy 23 _ rfl rfl (fun K hK => ?_); go_step; refine (HS4.out V7 V7 P1 P2 HB r1 r2 (Below.refl _ _)).mono ?_; rintro e V8 ⟨rfl, hx⟩; have HB := HB.trans (hx.mono HB.size); clear hx; refine hK.out _ _ HB ?_; clear hK K
        try simp only [Act.put, List.getElem_toArray, List.getElem_cons_succ, List.getElem_cons_zero, List.setIfInBounds_toArray, List.set_cons_zero, List.set_cons_succ]
        (refine sched_light 24 _ ?_ (by kernel_rfl) (by kernel_rfl) rfl rfl ?_ HB ?_; rotate_left; · (intro w' hS; (try dsimp only at hS); go_simp; with_reducible rfl)); try simp only [Act.put, List.getElem_toArray, List.getElem_cons_succ, List.getElem_cons_zero, List.setIfInBounds_toArray, List.set_cons_zero, List.set_cons_succ]
        (refine sched_light 25 _ ?_ (by kernel_rfl) (by kernel_rfl) rfl rfl ?_ HB ?_; rotate_left; · (intro w' hS; (try dsimp only at hS); go_simp; with_reducible rfl)); try simp only [Act.put, List.getElem_toArray, List.getElem_cons_succ, List.getElem_cons_zero, List.setIfInBounds_toArray, List.set_cons_zero, List.set_cons_succ]
        refine sched_end (by kernel_rfl) ?_
        try simp only [Act.put, List.getElem_toArray, List.getElem_cons_succ, List.getElem_cons_zero, List.setIfInBounds_toArray, List.set_cons_zero, List.set_cons_succ]
        go_wp2; go_ret; exact ⟨rfl, HB7.out.trans (HB.mono HB7.out.size)⟩
end Go.Proofs.YtjggoajfilnfjaaGreat
