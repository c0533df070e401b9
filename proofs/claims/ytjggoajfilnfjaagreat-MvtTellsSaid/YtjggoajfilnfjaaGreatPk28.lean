/-
  graticulelaw24.Of: a tile as the document's. Texts and attributes that are the same. graticuleref03.Same, graticulelaw03.Same.
-/
import Derived.Test.YtjggoajfilnfjaaGreatPk26
import Derived.Test.YtjggoajfilnfjaaGreatPk27
import Derived.Test.YtjggoajfilnfjaaGreatPk14
import Derived.Test.YtjggoajfilnfjaaGreatPk20
import Derived.Test.YtjggoajfilnfjaaGreatPk8
import Derived.Test.YtjggoajfilnfjaaGreatPk12
import Derived.Test.YtjggoajfilnfjaaGreatPk9
import Derived.Test.YtjggoajfilnfjaaGreatPk3
set_option linter.unusedVariables false
set_option linter.unusedSimpArgs false
set_option maxRecDepth 100000
namespace Go
open Go.RowKit
theorem Off.typ3 {W : World} {base R : Nat} {Ts : List TypeId} {T : TypeId} {vs : List Value} (hb : BkT W R T vs) (hT : T ∉ Ts) : Off W base Ts (some R) := fun b cs T' fr hc hm _ e => by
 have h1 := Option.some.inj e; subst h1; have h2 : W.heap[b]? = some (.cells vs.toArray T (0, 0)) := hb; rw [h2] at hc
 cases hc
 exact hT hm
theorem bkt_ne3 {W : World} {E : Nat} {T : TypeId} {vs : List Value} (hb : BkT W E T vs) {base : Nat} {e : TypeId} {size n : Nat} {v : Value} {xs : List Value} (ho : W.ownsRow base e size v n xs) (hne : T ≠ e) : some E ≠ v.ownBlock := fun h => by
 have h2 : W.heap[E]? = some (.cells vs.toArray T (0, 0)) := hb
 rcases ho.2 with ⟨hv, _⟩ | ⟨g, cap, cur, hv, _, hgb, _⟩
 ·rw [hv] at h; cases h
 ·rw [hv] at h; obtain rfl : E = g := by simpa [Value.ownBlock] using h
  rw [h2] at hgb
  cases hgb
  exact hne rfl
end Go
namespace Go.Proofs.YtjggoajfilnfjaaGreat
open Go.RowKit Go.Vint Go.Proto
theorem Tryz.infoLayZ : (Tryz.prog.info? 58).map (fun i => (i.zero, i.size, i.bytes)) = some (some (.agg #[.string ⟨#[]⟩, .slice none 0 0]), 2, 40) := by kernel_rfl
theorem Tryz.infoFeatZ : (Tryz.prog.info? 63).map (fun i => (i.zero, i.size, i.bytes)) = some (some (.agg #[.int .i64 0, .int .i64 0, .slice none 0 0, .slice none 0 0]), 4, 64) := by kernel_rfl
def FtD (base : Nat) (W : World) (f : Ft) : Prop := f.Ok W ∧ ByT W base f.aa 112 ∧ ByT W base f.ra 115 ∧ ∀ r ∈ f.rs, ByT W base r.p 159
def fdTs : List TypeId := [112, 115, 159]
theorem FtD.mono {base base' : Nat} {W : World} {f : Ft} (h : FtD base W f) (hb : base' ≤ base) : FtD base' W f := ⟨h.1, h.2.1.mono hb, h.2.2.1.mono hb, fun r hr => (h.2.2.2 r hr).mono hb⟩
theorem FtD.gr {base : Nat} {W W' : World} {f : Ft} {r : Option Nat} (h : FtD base W f) (hg : W.grownBy W' r) (ho : Off W base fdTs r) : FtD base W' f := by
 obtain ⟨⟨⟨h1, h1'⟩, ⟨h2, h2'⟩, h3⟩, h4, h5, h6⟩ := h; refine ⟨⟨⟨h1.grown hg (h4.ne ho (by simp [fdTs])), h1'⟩, ⟨h2.grown hg (h5.ne ho (by simp [fdTs])), h2'⟩, fun x hx => ?_⟩, h4.gr hg ho (by simp [fdTs]), h5.gr hg ho (by simp [fdTs]), fun x hx => (h6 x hx).gr hg ho (by simp [fdTs])⟩; exact ⟨(h3 x hx).1.grown hg ((h6 x hx).ne ho (by simp [fdTs])), (h3 x hx).2⟩
theorem FtD.below {base : Nat} {W W' : World} {f : Ft} (h : FtD base W f) (hb : Below W.heap.size W W') : FtD base W' f := h.gr (grownBy_of_below hb none) Off.none
def ldTs : List TypeId := 63 :: fdTs
def LyD (base : Nat) (W : World) (y : Ly) : Prop :=
 (Rd W y.fa (fts y.fs) ∧ y.fs.length ≤ y.fc ∧ y.fc ≤ maxLen ∧ (y.fa = none → y.fc = 0)) ∧ ByT W base y.fa 63 ∧ ∀ f ∈ y.fs, FtD base W f
theorem LyD.gr {base : Nat} {W W' : World} {y : Ly} {r : Option Nat} (h : LyD base W y) (hg : W.grownBy W' r) (ho : Off W base ldTs r) : LyD base W' y := by
 obtain ⟨⟨h1, h1'⟩, h3, h4⟩ := h; exact ⟨⟨h1.grown hg (h3.ne ho (by simp [ldTs])), h1'⟩, h3.gr hg ho (by simp [ldTs]), fun f hf => (h4 f hf).gr hg (fun b cs T fr hc hT hb => ho b cs T fr hc (List.mem_cons_of_mem _ hT) hb)⟩
theorem LyD.below {base : Nat} {W W' : World} {y : Ly} (h : LyD base W y) (hb : Below W.heap.size W W') : LyD base W' y := h.gr (grownBy_of_below hb none) Off.none
theorem LyD.mono {base base' : Nat} {W : World} {y : Ly} (h : LyD base W y) (hb : base' ≤ base) : LyD base' W y := ⟨h.1, h.2.1.mono hb, fun f hf => (h.2.2 f hf).mono hb⟩
theorem LyD.ok {base : Nat} {W : World} {y : Ly} (h : LyD base W y) : y.Ok W := ⟨h.1, fun f hf => (h.2.2 f hf).1⟩
theorem inP_pcsD {H : Nat} {W : World} : ∀ {vals : List Value} {G : List (List Pt)}, InP 159 H W vals G → ∃ rs : List PC, vals = rcs rs ∧ rs.map (·.l) = G ∧ ∀ r ∈ rs, r.Ok W ∧ ByT W H r.p 159
 | [], [], _ => ⟨[], rfl, rfl, by simp⟩
 | [], _ :: _, h => by have := h.1; simp at this
 | _ :: _, [], h => by have := h.1; simp at this
 | v :: vals, g :: G, h => by
  obtain ⟨rs, h1, h2, h3⟩ := inP_pcsD (vals := vals) (G := G) (W := W) (H := H) ⟨by simpa using h.1, fun j u k hu hk => h.2 (j + 1) u k (by simpa using hu) (by simpa using hk)⟩; have ho := h.2 0 v g rfl rfl; obtain ⟨a, c, rfl, p1, p2, p3, p4, -⟩ := ho.form; refine ⟨⟨g, a, c⟩ :: rs, by rw [h1]; rfl, by simp [h2], fun r hr => ?_⟩
  rcases List.mem_cons.1 hr with rfl | hr
  ·exact ⟨⟨p4, p1, p2, p3⟩, ByT.of_owns ho⟩
  ·exact h3 r hr
set_option maxHeartbeats 12800000 in
theorem mof_any (a : Option Addr) (c : Nat) (Y : List Ly) (hyl : Y.length ≤ 1000) (hz : ∀ y ∈ Y, y.Sz) (w : World) (hr : Rd w a (lys Y)) (hin : ∀ y ∈ Y, y.Ok w) :
  Calls Tryz.prog 7 #[.agg #[.slice a Y.length c]] w fun e w' => ∃ (p : Option Addr) (q : Nat) (Z : List Ly), e = .returned (.agg #[.slice p Z.length q]) ∧ Z.map Ly.core = Y.map Ly.core ∧ Rd w' p (lys Z) ∧ (∀ z ∈ Z, z.Ok w') ∧ Below w.heap.size w w' := by
 have HR := Lib.hid hr; have HIN : Hid (∀ y ∈ Y, y.Ok w ∧ y.Sz) := Lib.hid (fun y hy => ⟨hin y hy, hz y hy⟩); obtain ⟨N, hN⟩ : ∃ N, Y.length = N := ⟨_, rfl⟩; have HN := Lib.hid hN; rw [hN] at hyl ⊢; have hz0 : (Tryz.prog.info? 29).map (fun i => i.zero) = some (some (.agg #[.slice none 0 0])) := by kernel_rfl
 have hzl : (Tryz.prog.info? 58).map (fun i => i.zero) = some (some (.agg #[.string ⟨#[]⟩, .slice none 0 0])) := by kernel_rfl
 have hzf : (Tryz.prog.info? 53).map (fun i => i.zero) = some (some (.agg #[.int .i64 0, .int .i64 0, .slice none 0 0, .slice none 0 0])) := by kernel_rfl
 have hzg : (Tryz.prog.info? 63).map (fun i => i.zero) = some (some (.agg #[.int .i64 0, .int .i64 0, .slice none 0 0, .slice none 0 0])) := by kernel_rfl
 have HC1 := Lib.hid (fun a c l h1 w hr => ofs11_any a c l h1 w hr); have HC2 := Lib.hid (fun a c xs h1 h2 w hr hok => ofs23_any a c xs h1 h2 w hr hok); clear hr hin hN hz
 go_enter Tryz.func7, Tryz.ntmps7
 go_wp2; have k0 := ((BkT.lit w w.heap.size [.slice a N c] 24 rfl).alloc (.cells #[.slice none 0 0] 29)).alloc (.cells #[.slice none 0 0] 29); have k1 := (BkT.lit (w.alloc (.cells #[.slice a N c] 24)) (w.heap.size + 1) [.slice none 0 0] 29 (by simp)).alloc (.cells #[.slice none 0 0] 29); have k2 := BkT.lit ((w.alloc (.cells #[.slice a N c] 24)).alloc (.cells #[.slice none 0 0] 29)) (w.heap.size + 1 + 1) [.slice none 0 0] 29 (by simp); have hb1 : Below w.heap.size w (((w.alloc (.cells #[.slice a N c] 24)).alloc (.cells #[.slice none 0 0] 29)).alloc (.cells #[.slice none 0 0] 29)) := ((Below.new w _).alloc (by simp) _).alloc (by simp; omega) _; have hs1 : (((w.alloc (.cells #[.slice a N c] 24)).alloc (.cells #[.slice none 0 0] 29)).alloc (.cells #[.slice none 0 0] 29)).heap.size = w.heap.size + 1 + 1 + 1 := by simp
 generalize ((w.alloc (.cells #[.slice a N c] 24)).alloc (.cells #[.slice none 0 0] 29)).alloc (.cells #[.slice none 0 0] 29) = w1 at *; obtain ⟨B, hB⟩ : ∃ B, w.heap.size = B := ⟨_, rfl⟩; rw [hB] at k0 k1 k2 hb1 hs1; simp only [hB]; have hBl : w.heap.size ≤ B := by omega
 have hw1 : B + 1 + 1 < w1.heap.size := by omega
 have HBW := Lib.hid hB; clear hB hs1; have H1 := Lib.hid (⟨k0, k1, k2, hb1⟩ : BkT w1 B 24 [.slice a N c] ∧ BkT w1 (B + 1) 29 [.slice none 0 0] ∧ BkT w1 (B + 1 + 1) 29 [.slice none 0 0] ∧ Below B w w1); clear k0 k1 k2 hb1
 go_loopw [4] (fun i wr => ∃ (k : Nat) (v : Value) (Z : List Ly), k ≤ N ∧ i = .int .i64 k ∧ Hid (BkT wr B 24 [.slice a N c]) ∧ Hid (BkT wr (B + 1) 29 [.slice none 0 0]) ∧ Hid (BkT wr (B + 1 + 1) 29 [v]) ∧ Hid (wr.ownsRow w1.heap.size 58 2 v Z.length (lys Z)) ∧ Hid (Z.map Ly.core = (Y.take k).map Ly.core) ∧ Hid (Z.length = k) ∧ Hid (∀ z ∈ Z, LyD B wr z) ∧ Hid (w1.heap.size ≤ wr.heap.size) ∧ Hid (Below B w wr)) (fun i _ => N - (intOf i).toNat)
 case atStart => exact ⟨0, .slice none 0 0, [], by omega, rfl, Lib.hid H1.out.1, Lib.hid H1.out.2.1, Lib.hid H1.out.2.2.1, Lib.hid (World.ownsRow_nil _ _ _ _), Lib.hid rfl, Lib.hid rfl, Lib.hid (by simp), Lib.hid (Nat.le_refl _), Lib.hid H1.out.2.2.2⟩
 case round =>
  clear H1; obtain ⟨k, v, Z, hk, rfl, K0, K1, K2, HO, HC, HL, HZ, HSZ, HB⟩ := hrel; obtain ⟨Wn, hWn⟩ : ∃ W, W = wr := ⟨_, rfl⟩; subst hWn; have t0 := K0.out.blk.cell 0 rfl
  by_cases hlt : k < N
  ·have hl1' : (k : Int) < (N : Int) := by omega
   have hkY : k < Y.length := by rw [HN.out]; exact hlt
   have h0w : Below w.heap.size w Wn := HBW.out ▸ HB.out; have hin := HIN.out Y[k] (List.getElem_mem hkY); obtain ⟨b1, o1, rfl, hbb, c0, c1⟩ := (HR.out.keep h0w).ly k hkY; have HST : Hid (∀ y : Ly, y.core = Y[k].core → (Z ++ [y]).map Ly.core = (Y.take (k + 1)).map Ly.core) := Lib.hid (fun y hy => by rw [List.take_succ_eq_append_getElem hkY, List.map_append, List.map_append, HC.out, List.map_singleton, List.map_singleton, hy]); generalize Y[k] = y at *; obtain ⟨nm, fs, fa, fc⟩ := y; obtain ⟨⟨⟨r1, r2, r3, r4⟩, r5⟩, r6, r7, r8⟩ := hin; dsimp only [Ly.fval] at c0 c1 r1 r2 r3 r4 r5 r6 r7 r8; simp only [Ly.core, Prod.mk.injEq] at HST; have HF1 := Lib.hid r1; have HF5 := Lib.hid r5; have HF7 := Lib.hid r8; obtain ⟨M, hM⟩ : ∃ M, fs.length = M := ⟨_, rfl⟩; have HM := Lib.hid hM; rw [hM] at c1 r2 r7; clear r1 r5 r8 hM r3 r6; obtain ⟨E, hE⟩ : ∃ E, Wn.heap.size = E := ⟨_, rfl⟩; have hBE : B + 1 + 1 < E := by have := HSZ.out; omega
   go_wp2
   try simp only [hE]
   have kL := BkT.lit Wn E [.string nm, .slice none 0 0] 58 hE; have hb5 := Below.new Wn (.cells #[.string nm, .slice none 0 0] 58); have hs5 : (Wn.alloc (.cells #[.string nm, .slice none 0 0] 58)).heap.size = E + 1 := by simp [hE]
   rw [hE] at hb5; generalize Wn.alloc (.cells #[.string nm, .slice none 0 0] 58) = W5 at *; have HSTART := Lib.hid (⟨kL, hb5⟩ : BkT W5 E 58 [.string nm, .slice none 0 0] ∧ Below E Wn W5); have HT0 := Lib.hid t0; have HC0 := Lib.hid c0; have HC1' := Lib.hid c1; have hw5 : E < W5.heap.size := by omega
   have HE := Lib.hid hE; have hb1n : b1 < E := by rw [← hE]; exact hbb
   clear kL hb5 hs5 t0 c0 c1 hE hbb
   go_loopw [6] (fun i wr => ∃ (j : Nat) (v2 : Value) (fz : List Ft), j ≤ M ∧ i = .int .i64 j ∧ Hid (BkT wr E 58 [.string nm, v2]) ∧ Hid (wr.ownsRow W5.heap.size 63 4 v2 fz.length (fts fz)) ∧ Hid (fz.map Ft.core = (fs.take j).map Ft.core) ∧ Hid (fz.length = j) ∧ Hid (∀ f ∈ fz, FtD E wr f) ∧ Hid (W5.heap.size ≤ wr.heap.size) ∧ Hid (Below E Wn wr)) (fun i _ => M - (intOf i).toNat)
   case atStart => exact ⟨0, .slice none 0 0, [], by omega, rfl, Lib.hid HSTART.out.1, Lib.hid (World.ownsRow_nil _ _ _ _), Lib.hid rfl, Lib.hid rfl, Lib.hid (by simp), Lib.hid (Nat.le_refl _), Lib.hid HSTART.out.2⟩
   case round =>
    clear HSTART; obtain ⟨j, v2, fz, hj, rfl, KL, HO2, HC2z, HL2, HZ2, HSZ2, HB2⟩ := hrel; obtain ⟨Wm, hWm⟩ : ∃ W, W = wr := ⟨_, rfl⟩; subst hWm; have hbE : Below Wn.heap.size Wn Wm := by rw [HE.out]; exact HB2.out
    have t0 := (K0.out.keep hbE).blk.cell 0 rfl; have c0 := (hbE.cell (p := ⟨b1, o1 + k * 2, none⟩) (by rw [HE.out]; exact hb1n)).trans HC0.out; have c1 := (hbE.cell (p := ⟨b1, o1 + k * 2 + 1, none⟩) (by rw [HE.out]; exact hb1n)).trans HC1'.out
    by_cases hm1 : j < M
    ·have hm1' : (j : Int) < (M : Int) := by omega
     have hjf : j < fs.length := by rw [HM.out]; exact hm1
     have h0m := h0w.trans (hbE.mono h0w.size); obtain ⟨b2, o2, rfl, hbb3, d0, d1, d2, d3⟩ := (HF1.out.keep h0m).ft j hjf; have HST2 : Hid (∀ f : Ft, f.core = fs[j].core → (fz ++ [f]).map Ft.core = (fs.take (j + 1)).map Ft.core) := Lib.hid (fun f hf => by rw [List.take_succ_eq_append_getElem hjf, List.map_append, List.map_append, HC2z.out, List.map_singleton, List.map_singleton, hf]); have hfo := HF5.out fs[j] (List.getElem_mem hjf); have hfw := HF7.out fs[j] (List.getElem_mem hjf); generalize fs[j] = ff at *; obtain ⟨id, kd, ls, aa, ac, rs, ra, rc⟩ := ff; obtain ⟨⟨g1, g2, g3, g4⟩, ⟨g5, g6, g7, g8⟩, g9⟩ := hfo; obtain ⟨s1, s2, s3, s4⟩ := hfw; dsimp only [Ft.aval, Ft.rval] at d0 d1 d2 d3 g1 g2 g3 g4 g5 g6 g7 g8 g9 s1 s2 s3 s4; simp only [Ft.core, Ft.rings, Prod.mk.injEq] at HST2; have HG1 := Lib.hid (g1.keep h0m); have HG5 := Lib.hid (g5.keep h0m); have HG9 := Lib.hid (fun r hr => (g9 r hr).keep h0m); have HS4 := Lib.hid s4; obtain ⟨nl, hnl⟩ : ∃ n, ls.length = n := ⟨_, rfl⟩; obtain ⟨nr, hnr⟩ : ∃ n, rs.length = n := ⟨_, rfl⟩; have HNL := Lib.hid hnl; have HNR := Lib.hid hnr; rw [hnl] at d2 s1 g2; rw [hnr] at d3 s3 g6; clear hnl hnr g1 g5 g9 s4; go_wp2; have hxF := Below.new Wm (.cells #[.int .i64 id, .int .i64 kd, .slice aa nl ac, .slice ra nr rc] 53); obtain ⟨F, hF⟩ : ∃ F, Wm.heap.size = F := ⟨_, rfl⟩; have kF := BkT.lit Wm F [.int .i64 id, .int .i64 kd, .slice aa nl ac, .slice ra nr rc] 53 hF; have hEF : E < F := by have := HSZ2.out; omega
     have KL6 := Lib.hid (KL.out.keep hxF); have HO6 := Lib.hid (HO2.out.below hxF); have HZ6 := Lib.hid (fun f hf => (HZ2.out f hf).below hxF); have HB6 := Lib.hid (HB2.out.trans (hxF.mono (by have := HB2.out.size; rw [HE.out] at this; omega))); have HX6 := Lib.hid hxF
     try simp only [hF]
     generalize Wm.alloc (.cells #[.int .i64 id, .int .i64 kd, .slice aa nl ac, .slice ra nr rc] 53) = W6 at *; clear d0 d1 d2 d3 t0 c0 c1; have hs6 : W5.heap.size ≤ W6.heap.size := Nat.le_trans HSZ2.out HX6.out.size; clear hF hxF; refine wp_region_stage 17 [0, 1, 2, 3, 4, 5, 6, 7, 9, 10, 12, 15] [16] [0, 2, 4, 6, 9, 12, 15] (fun W => BkT W E 58 [.string nm, v2] ∧ BkT W F 53 [.int .i64 id, .int .i64 kd, .slice aa nl ac, .slice ra nr rc]) (fun _ => True) rfl (by kernel_rfl) (by kernel_rfl) ?_; have hd : Below W6.heap.size W6 W6.drew := (Below.refl _ _).drew; have HS := Lib.hid (⟨KL6.out.keep hd, kF.keep hd⟩ : BkT W6.drew E 58 [.string nm, v2] ∧ BkT W6.drew F 53 [.int .i64 id, .int .i64 kd, .slice aa nl ac, .slice ra nr rc]); generalize W6.drew = Wd at *
     (refine stg_free 0 _ ?_ (by kernel_rfl) (by kernel_rfl) (by kernel_rfl) rfl rfl ?_ trivial ?_; rotate_left; · (intro w' _; go_simp; with_reducible rfl)); try simp only [Act.put, List.getElem_toArray, List.getElem_cons_succ, List.getElem_cons_zero, List.setIfInBounds_toArray, List.set_cons_zero, List.set_cons_succ]
     refine stg_light 1 _ (v2) (by kernel_rfl) (by kernel_rfl) (by kernel_rfl) rfl rfl ?_ HS.out trivial ?_
     ·intro w' hS _; have e0 := hS.1.blk.cell 1 rfl; clear hS; go_simp
     try simp only [Act.put, List.getElem_toArray, List.getElem_cons_succ, List.getElem_cons_zero, List.setIfInBounds_toArray, List.set_cons_zero, List.set_cons_succ]
     (refine stg_free 2 _ ?_ (by kernel_rfl) (by kernel_rfl) (by kernel_rfl) rfl rfl ?_ trivial ?_; rotate_left; · (intro w' _; go_simp; with_reducible rfl)); try simp only [Act.put, List.getElem_toArray, List.getElem_cons_succ, List.getElem_cons_zero, List.setIfInBounds_toArray, List.set_cons_zero, List.set_cons_succ]
     refine stg_light 3 _ (.int .i64 id) (by kernel_rfl) (by kernel_rfl) (by kernel_rfl) rfl rfl ?_ HS.out trivial ?_
     ·intro w' hS _; have e0 := hS.2.blk.cell 0 rfl; clear hS; go_simp
     try simp only [Act.put, List.getElem_toArray, List.getElem_cons_succ, List.getElem_cons_zero, List.setIfInBounds_toArray, List.set_cons_zero, List.set_cons_succ]
     (refine stg_free 4 _ ?_ (by kernel_rfl) (by kernel_rfl) (by kernel_rfl) rfl rfl ?_ trivial ?_; rotate_left; · (intro w' _; go_simp; with_reducible rfl)); try simp only [Act.put, List.getElem_toArray, List.getElem_cons_succ, List.getElem_cons_zero, List.setIfInBounds_toArray, List.set_cons_zero, List.set_cons_succ]
     refine stg_light 5 _ (.int .i64 kd) (by kernel_rfl) (by kernel_rfl) (by kernel_rfl) rfl rfl ?_ HS.out trivial ?_
     ·intro w' hS _; have e0 := hS.2.blk.cell 1 rfl; clear hS; go_simp
     try simp only [Act.put, List.getElem_toArray, List.getElem_cons_succ, List.getElem_cons_zero, List.setIfInBounds_toArray, List.set_cons_zero, List.set_cons_succ]
     (refine stg_free 6 _ ?_ (by kernel_rfl) (by kernel_rfl) (by kernel_rfl) rfl rfl ?_ trivial ?_; rotate_left; · (intro w' _; go_simp; with_reducible rfl)); try simp only [Act.put, List.getElem_toArray, List.getElem_cons_succ, List.getElem_cons_zero, List.setIfInBounds_toArray, List.set_cons_zero, List.set_cons_succ]
     refine stg_light 7 _ (.slice aa nl ac) (by kernel_rfl) (by kernel_rfl) (by kernel_rfl) rfl rfl ?_ HS.out trivial ?_
     ·intro w' hS _; have e0 := hS.2.blk.cell 2 rfl; clear hS; go_simp
     try simp only [Act.put, List.getElem_toArray, List.getElem_cons_succ, List.getElem_cons_zero, List.setIfInBounds_toArray, List.set_cons_zero, List.set_cons_succ]
     (refine stg_free 9 _ ?_ (by kernel_rfl) (by kernel_rfl) (by kernel_rfl) rfl rfl ?_ trivial ?_; rotate_left; · (intro w' _; go_simp; with_reducible rfl)); try simp only [Act.put, List.getElem_toArray, List.getElem_cons_succ, List.getElem_cons_zero, List.setIfInBounds_toArray, List.set_cons_zero, List.set_cons_succ]
     refine stg_light 10 _ (.slice ra nr rc) (by kernel_rfl) (by kernel_rfl) (by kernel_rfl) rfl rfl ?_ HS.out trivial ?_
     ·intro w' hS _; have e0 := hS.2.blk.cell 3 rfl; clear hS; go_simp
     try simp only [Act.put, List.getElem_toArray, List.getElem_cons_succ, List.getElem_cons_zero, List.setIfInBounds_toArray, List.set_cons_zero, List.set_cons_succ]
     have hmd : Below Wm.heap.size Wm Wd := HX6.out.trans (hd.mono HX6.out.size); have hFl := kF.lt; refine stg_oneS 8 _ (by kernel_rfl) (by kernel_rfl) (by kernel_rfl) rfl rfl (fun K hK => ?_); go_step; have hcl := HC1.out aa ac ls (by rw [HNL.out]; omega) Wd (HG1.out.keep hmd); rw [HNL.out] at hcl; refine hcl.mono ?_; rintro e W7 ⟨v7, rfl, ho7, hb7⟩; clear hcl; obtain ⟨a1, q1, rfl, x1, x2, x3, x4, -⟩ := ho7.form; have y7 := ByT.of_owns ho7; have hd7 := hd.trans (hb7.mono hd.size); have hm7 := hmd.trans (hb7.mono hmd.size); refine hK.out _ _ ⟨KL6.out.keep hd7, kF.keep hd7⟩ trivial ?_; clear hK K
     try simp only [Act.put, List.getElem_toArray, List.getElem_cons_succ, List.getElem_cons_zero, List.setIfInBounds_toArray, List.set_cons_zero, List.set_cons_succ]
     refine stg_oneS 11 _ (by kernel_rfl) (by kernel_rfl) (by kernel_rfl) rfl rfl (fun K hK => ?_); go_step; have hcl := HC2.out ra rc rs (by rw [HNR.out]; omega) HS4.out W7 (by rw [← rcs_map]; exact HG5.out.keep hm7) (fun x hx => (HG9.out x hx).keep hm7); rw [HNR.out] at hcl; refine hcl.mono ?_; rintro e W8 ⟨v8, vals, rfl, ho8, hin8, hb8⟩; clear hcl; obtain ⟨rs8, hvals, hrs8, hrk⟩ := inP_pcsD hin8; rw [hvals] at ho8; obtain ⟨a2, q2, rfl, z1, z2, z3, z4, -⟩ := ho8.form; have y8 := ByT.of_owns ho8; have hd8 := hd7.trans (hb8.mono hd7.size); have hln8 : rs8.length = nr := by have := congrArg List.length hrs8; simp only [List.length_map] at this; rw [this, HNR.out]
     have HCR : Hid (rs8.map PC.l = rs.map PC.l) := Lib.hid hrs8; refine hK.out _ _ ⟨KL6.out.keep hd8, kF.keep hd8⟩ trivial ?_; clear hK K
     try simp only [Act.put, List.getElem_toArray, List.getElem_cons_succ, List.getElem_cons_zero, List.setIfInBounds_toArray, List.set_cons_zero, List.set_cons_succ]
     (refine stg_free 12 _ ?_ (by kernel_rfl) (by kernel_rfl) (by kernel_rfl) rfl rfl ?_ trivial ?_; rotate_left; · (intro w' _; go_simp; with_reducible rfl)); try simp only [Act.put, List.getElem_toArray, List.getElem_cons_succ, List.getElem_cons_zero, List.setIfInBounds_toArray, List.set_cons_zero, List.set_cons_succ]
     have kL8 := KL6.out.keep hd8; have kF8 := kF.keep hd8; have ho68 := HO6.out.below hd8; refine stg_oneS 13 _ (by kernel_rfl) (by kernel_rfl) (by kernel_rfl) rfl rfl (fun K hK => ?_); go_step; have hLn := Below.new W8 (.cells #[.int .i64 id, .int .i64 kd, .slice a1 nl q1, .slice a2 nr q2] 63); have rdn := Rd.lit W8 W8.heap.size [.int .i64 id, .int .i64 kd, .slice a1 nl q1, .slice a2 nr q2] 63 rfl; have kL9 := kL8.keep hLn; have kF9 := kF8.keep hLn; have ho9 := ho68.below hLn; have hs9 : W5.heap.size ≤ (W8.alloc (.cells #[.int .i64 id, .int .i64 kd, .slice a1 nl q1, .slice a2 nr q2] 63)).heap.size := Nat.le_trans (Nat.le_trans hs6 hd8.size) hLn.size; refine hK.out _ _ ⟨kL9, kF9⟩ trivial ?_; clear hK K
     try simp only [Act.put, List.getElem_toArray, List.getElem_cons_succ, List.getElem_cons_zero, List.setIfInBounds_toArray, List.set_cons_zero, List.set_cons_succ]
     have hfl : fz.length ≤ 100000 := by have := HL2.out; omega
     have hd9 := hd8.trans (hLn.mono hd8.size); have HN9 : Hid (FtD E (W8.alloc (.cells #[.int .i64 id, .int .i64 kd, .slice a1 nl q1, .slice a2 nr q2] 63)) ⟨id, kd, ls, a1, q1, rs8, a2, q2⟩) := Lib.hid ⟨⟨⟨(x4.keep hb8).keep hLn, by rw [HNL.out]; exact x1, x2, x3⟩, ⟨z4.keep hLn, by rw [hln8]; exact z1, z2, z3⟩, fun r hr => ((hrk r hr).1).keep hLn⟩, ((y7.below hb8).below hLn).mono (by have := hd.size; omega), (y8.below hLn).mono (by have := hd7.size; omega), fun r hr => (((hrk r hr).2).below hLn).mono (by have := hd7.size; omega)⟩; have HCC : Hid (Ft.cells ⟨id, kd, ls, a1, q1, rs8, a2, q2⟩ = [.int .i64 id, .int .i64 kd, .slice a1 nl q1, .slice a2 nr q2]) := Lib.hid (by simp only [Ft.cells, Ft.aval, Ft.rval, HNL.out, hln8]); refine stg_oneS 14 _ (by kernel_rfl) (by kernel_rfl) (by kernel_rfl) rfl rfl (fun K hK => ?_); refine wp_app (.tmp 43) (.tmp 55) 56 rfl W5.heap.size 63 (.agg #[.int .i64 0, .int .i64 0, .slice none 0 0, .slice none 0 0]) 4 64 Tryz.underlying56 Tryz.infoFeatZ rfl (by decide) v2 fz.length (fts fz) rfl ho9 (some ⟨W8.heap.size, 0, none⟩) 1 1 [.int .i64 id, .int .i64 kd, .slice a1 nl q1, .slice a2 nr q2] rfl (fun h => by cases h) rdn rfl (by simp [Value.oneCell']) (by omega) (by decide) hs9 ?_; intro v' WA hown hgr; obtain ⟨g', cap', rfl⟩ := ownsRow_succ hown; have kLA := kL9.grown hgr (bkt_ne3 kL9 ho9 (by decide)); have kFA := kF9.grown hgr (bkt_ne3 kF9 ho9 (by decide)); refine hK.out _ _ ⟨kLA, kFA⟩ trivial ?_; clear hK K
     try simp only [Act.put, List.getElem_toArray, List.getElem_cons_succ, List.getElem_cons_zero, List.setIfInBounds_toArray, List.set_cons_zero, List.set_cons_succ]
     (refine stg_free 15 _ ?_ (by kernel_rfl) (by kernel_rfl) (by kernel_rfl) rfl rfl ?_ trivial ?_; rotate_left; · (intro w' _; go_simp; with_reducible rfl)); try simp only [Act.put, List.getElem_toArray, List.getElem_cons_succ, List.getElem_cons_zero, List.setIfInBounds_toArray, List.set_cons_zero, List.set_cons_succ]
     have e1 := kLA.blk.cell 1 rfl; have ef := kLA.blk.free 1; refine stg_one 16 _ (by kernel_rfl) (by kernel_rfl) (by kernel_rfl) rfl rfl (fun K hK => ?_); go_step; refine hK.out _ _ trivial ?_; clear hK K
     try simp only [Act.put, List.getElem_toArray, List.getElem_cons_succ, List.getElem_cons_zero, List.setIfInBounds_toArray, List.set_cons_zero, List.set_cons_succ]
     refine stg_end (by kernel_rfl) ?_
     try simp only [Act.put, List.getElem_toArray, List.getElem_cons_succ, List.getElem_cons_zero, List.setIfInBounds_toArray, List.set_cons_zero, List.set_cons_succ]
     have hoff : Off _ E fdTs _ := Off.row (base := E) ho9 (by decide); have hup := fun (f : Ft) (h : FtD E (W8.alloc (.cells #[.int .i64 id, .int .i64 kd, .slice a1 nl q1, .slice a2 nr q2] 63)) f) => (h.gr hgr hoff).gr (grown_set WA E 1 (.slice (some ⟨g', 0, none⟩) (fz.length + 1) cap')) (Off.typ3 kLA (by decide)); have hbA := ((HB6.out.trans (hd9.mono (by omega))).grown hgr (by have := hd9.size; omega) (fun j hj => Nat.le_trans (by omega) (ho9.lt j hj).1)).set_at (b := E) (o := 1) (Nat.le_refl _) (.slice (some ⟨g', 0, none⟩) (fz.length + 1) cap'); have hoA := hown.set_lt (b := E) (o := 1) (by omega) (.slice (some ⟨g', 0, none⟩) (fz.length + 1) cap'); have hsA := Nat.le_trans hs9 hgr.size; have HKA := Lib.hid (kLA.set 1 (.slice (some ⟨g', 0, none⟩) (fz.length + 1) cap')); have HZA := Lib.hid (fun f hf => hup f (((HZ6.out f hf).below hd8).below hLn)); have HNA := Lib.hid (hup _ HN9.out); have HOA := Lib.hid hoA; have HBA := Lib.hid hbA; have HEQ := Lib.hid (HST2.out ⟨id, kd, ls, a1, q1, rs8, a2, q2⟩ ⟨by trivial, by trivial, by trivial, HCR.out⟩); clear hup hoff hown ho9 hgr kLA kFA kL9 kF9 rdn hLn kL8 kF8 ho68 ho8 ho7 hin8 hrk hb8 hb7 hd7 hd8 hd9 hm7 hmd hd e1 ef x1 x2 x3 x4 z1 z2 z3 z4 y7 y8 hoA hbA HST2; go_wp2; go_roundw
     case rel =>
      refine ⟨j + 1, (.slice (some ⟨g', 0, none⟩) (fz.length + 1) cap'), fz ++ [⟨id, kd, ls, a1, q1, rs8, a2, q2⟩], by omega, by go_num, Lib.hid HKA.out, Lib.hid ?_, HEQ, Lib.hid ?_, Lib.hid ?_, Lib.hid (by rw [size_setCell]; exact hsA), Lib.hid HBA.out⟩
      ·rw [fts_snoc, List.length_append, HCC.out]; exact HOA.out
      ·rw [List.length_append, HL2.out]; rfl
      ·intro f hf
       rcases List.mem_append.1 hf with hf | hf
       ·exact HZA.out f hf
       ·rw [List.mem_singleton.1 hf]; exact HNA.out
     case measure => simp [intOf]; omega
    ·have hm1' : ¬ (j : Int) < (M : Int) := by omega
     obtain ⟨p2, q2, rfl, x1, x2, x3, x4, x5⟩ := HO2.out.form; have HNL : Hid (LyD B Wm ⟨nm, fz, p2, q2⟩) := Lib.hid ⟨⟨x4, x1, x2, x3⟩, (ByT.of_owns HO2.out).mono (by omega), fun f hf => (HZ2.out f hf).mono (by omega)⟩; have HK0 := Lib.hid (K0.out.keep hbE); have HK1 := Lib.hid (K1.out.keep hbE); have HK2 := Lib.hid (K2.out.keep hbE); have HO7 := Lib.hid (HO.out.below hbE); have HZ7 := Lib.hid (fun z hz => (HZ.out z hz).below hbE); have hB7 : B ≤ Wn.heap.size := by rw [HE.out]; omega
     have HB7 := Lib.hid (HB.out.trans (hbE.mono hB7)); have hs7 : w1.heap.size ≤ Wm.heap.size := Nat.le_trans HSZ.out hbE.size; have l0 := KL.out.blk.cell 0 rfl; have l1 := KL.out.blk.cell 1 rfl; have o0 := HK2.out.blk.cell 0 rfl; have hLZ : Z.length ≤ 1000 := by have := HL.out; omega
     have hLn := Lib.hid (fun (W : World) => Below.new W (.cells #[.string nm, .slice p2 fz.length q2] 58)); have HCL : Hid (Ly.cells ⟨nm, fz, p2, q2⟩ = [.string nm, .slice p2 fz.length q2]) := Lib.hid rfl; have HEQ := Lib.hid (HST.out ⟨nm, fz, p2, q2⟩ ⟨by trivial, by
      have := HC2z.out
      rwa [List.take_of_length_le (by rw [HM.out]; omega)] at this⟩)
     generalize fz.length = fn at *
     go_wp2_with (at_builtin; go_must (refine wpList_app rfl (.tmp 59) (.tmp 61) 27 rfl w1.heap.size 58 (.agg #[.string ⟨#[]⟩, .slice none 0 0]) 2 40 Tryz.underlying27 Tryz.infoLayZ rfl (by decide) v Z.length (lys Z) rfl (HO7.out.below (hLn.out _)) (some ⟨Wm.heap.size, 0, none⟩) 1 1 [.string nm, .slice p2 fn q2] rfl (fun h => by cases h) (Rd.lit _ _ [.string nm, .slice p2 fn q2] _ (by simp)) rfl (by simp [Value.oneCell']) (by omega) (by decide) (by simp; omega) ?_); intro v' W12 hown hgr; obtain ⟨g', cap', rfl⟩ := ownsRow_succ hown; have hta := HO7.out.below (hLn.out _); have kO := (HK2.out.alloc (.cells #[.string nm, .slice p2 fn q2] 58)).grown hgr (hta.ne (by omega)); have e1 := kO.blk.cell 0 rfl; have ef := kO.blk.free 0)
     have hoff : Off _ B ldTs _ := Off.row (base := B) hta (by decide); have hup := fun (y : Ly) (h : LyD B Wm y) => ((h.below (hLn.out _)).gr hgr hoff).gr (grown_set W12 (B + 1 + 1) 0 (.slice (some ⟨g', 0, none⟩) (Z.length + 1) cap')) (Off.typ3 kO (by decide)); have hb12 := (((HB7.out.trans ((hLn.out Wm).mono (by omega))).grown hgr (by simp; omega) (fun j hj => Nat.le_trans (by omega) (hta.lt j hj).1))).set_at (b := B + 1 + 1) (o := 0) (by omega) (.slice (some ⟨g', 0, none⟩) (Z.length + 1) cap'); have ho12 := hown.set_lt (b := B + 1 + 1) (o := 0) (by omega) (.slice (some ⟨g', 0, none⟩) (Z.length + 1) cap'); have hs12 := Nat.le_trans (Nat.le_trans hs7 (hLn.out Wm).size) hgr.size; have k012 := ((HK0.out.alloc (.cells #[.string nm, .slice p2 fn q2] 58)).grown hgr (hta.ne (by omega))).other (b' := B + 1 + 1) (o := 0) (by omega) (.slice (some ⟨g', 0, none⟩) (Z.length + 1) cap'); have k112 := ((HK1.out.alloc (.cells #[.string nm, .slice p2 fn q2] 58)).grown hgr (hta.ne (by omega))).other (b' := B + 1 + 1) (o := 0) (by omega) (.slice (some ⟨g', 0, none⟩) (Z.length + 1) cap'); go_roundw
     case rel =>
      refine ⟨k + 1, (.slice (some ⟨g', 0, none⟩) (Z.length + 1) cap'), Z ++ [⟨nm, fz, p2, q2⟩], by omega, by go_num, Lib.hid k012, Lib.hid k112, Lib.hid (kO.set 0 (.slice (some ⟨g', 0, none⟩) (Z.length + 1) cap')), Lib.hid ?_, HEQ, Lib.hid ?_, Lib.hid ?_, Lib.hid (by rw [size_setCell]; exact hs12), Lib.hid hb12⟩
      ·rw [lys_snoc, List.length_append, HCL.out]; exact ho12
      ·rw [List.length_append, HL.out]; rfl
      ·intro y hy
       rcases List.mem_append.1 hy with hy | hy
       ·exact hup y (HZ7.out y hy)
       ·rw [List.mem_singleton.1 hy]; exact hup _ HNL.out
     case measure => simp [intOf]; omega
  ·have hl1' : ¬ (k : Int) < (N : Int) := by omega
   obtain ⟨p1, c1, rfl, x1, x2, x3, x4, x5⟩ := HO.out.form; have o0 := K2.out.blk.cell 0 rfl; have r0 := K1.out.blk.cell 0 rfl; have rf := K1.out.blk.free; go_wp2; have kR := K1.out.set 0 (.slice p1 Z.length c1); have r1 := kR.blk.cell 0 rfl; have ho := HO.out.set_lt (b := B + 1) (o := 0) (by omega) (.slice p1 Z.length c1); refine bodyPost_ret (v := .agg #[.slice p1 Z.length c1]) (by simp [results, Tryz.results7, go_sem, r1]) rfl ⟨p1, c1, Z, rfl, ?_, Rd.of_owns ho, fun z hz => ((HZ.out z hz).gr (grown_set Wn (B + 1) 0 _) (Off.typ3 K1.out (by decide))).ok, (HB.out.set_at (b := B + 1) (o := 0) (by omega) (.slice p1 Z.length c1)).mono hBl⟩; have := HC.out
   rwa [List.take_of_length_le (by rw [HN.out]; omega)] at this
end Go.Proofs.YtjggoajfilnfjaaGreat
namespace Go
theorem ba_injq (a b : ByteArray) : a = b ↔ a.toList = b.toList := by
 refine ⟨fun h => by rw [h], fun h => ?_⟩; rw [ByteArray.toList_eq, ByteArray.toList_eq] at h; exact ByteArray.ext (Array.ext' h)
instance : DecidableEq At := fun a b => decidable_of_iff (a.key = b.key ∧ a.kind = b.kind ∧ a.text = b.text ∧ a.n = b.n) (by cases a; cases b; simp)
end Go
namespace Go.Proofs.YtjggoajfilnfjaaGreat
open Go.RowKit

set_option maxHeartbeats 800000 in
theorem r3same_any (a b : Option Addr) (c d : Nat) (L M : List Pt) (hl : L.length ≤ 1000000) (hm : M.length ≤ 1000000) (w : World) (hr : Rd w a (pts L)) (hs : Rd w b (pts M)) :
  Calls Tryz.prog 98 #[.slice a L.length c, .slice b M.length d] w fun e w' => e = .returned (.bool (decide (L = M))) ∧ ∃ n, w' = w.drewN n := by
 by_cases hlen : L.length = M.length
 ·have hne : ((L.length : Int) != (M.length : Int)) = false := by simp [hlen]
  go_enter Tryz.func98, Tryz.ntmps98
  have HL := Lib.hid hlen; clear hlen; go_wp2
  go_loopw [5] (fun i wr => ∃ k : Nat, k ≤ L.length ∧ i = .int .i64 k ∧ L.take k = M.take k ∧ ∃ n, wr = w.drewN n) (fun i _ => L.length - (intOf i).toNat)
  case atStart => exact ⟨0, Nat.zero_le _, rfl, rfl, 0, rfl⟩
  case round =>
   obtain ⟨k, hk, rfl, heq, n, rfl⟩ := hrel; have HE := Lib.hid heq; clear heq
   by_cases hlt : k < L.length
   ·have hlt2 : k < M.length := by have := HL.out; omega
    obtain ⟨b1, off1, rfl, hb1, c0, c1⟩ := hr.pt k hlt; obtain ⟨b2, off2, rfl, hb2, d0, d1⟩ := hs.pt k hlt2; have HST : Hid (L[k] = M[k] → L.take (k + 1) = M.take (k + 1)) := Lib.hid fun h => by rw [List.take_succ_eq_append_getElem hlt, List.take_succ_eq_append_getElem hlt2, HE.out, h]
    have HNO : Hid (L[k] ≠ M[k] → decide (L = M) = false) := Lib.hid fun hx => by apply decide_eq_false; intro h; exact hx (by simp [h])
    generalize L[k] = p at *; generalize M[k] = q at *; obtain ⟨px, py⟩ := p; obtain ⟨qx, qy⟩ := q; dsimp only at c0 c1 d0 d1
    by_cases hx : px = qx
    ·subst hx
     by_cases hy : py = qy
     ·subst hy; go_wp2
      go_quiet (fail)
      go_wp2; go_roundw
      case rel => exact ⟨k + 1, by omega, by go_num, HST.out trivial, n + nq, by simp⟩
      case measure => simp [intOf]; omega
     ·go_wp2
      go_quiet (fail)
      go_wp2; go_ret; exact ⟨ret_bool (HNO.out (by simp [hy])).symm, n + nq, by simp⟩
    ·go_wp2
     go_quiet (fail)
     go_wp2; go_ret; exact ⟨ret_bool (HNO.out (by simp [hx])).symm, n + nq, by simp⟩
   ·go_wp2; go_ret; refine ⟨ret_bool ?_, n, rfl⟩
    symm; apply decide_eq_true
    have := HE.out
    rwa [List.take_of_length_le (by omega), List.take_of_length_le (by have := HL.out; omega)] at this
 ·have hne : ((L.length : Int) != (M.length : Int)) = true := by simp; omega
  go_enter Tryz.func98, Tryz.ntmps98
  go_wp2; go_ret; refine ⟨ret_bool ?_, 0, rfl⟩
  symm; apply decide_eq_false; intro h; rw [h] at hlen; exact hlen rfl

theorem l3same_any (a b : Option Addr) (c d : Nat) (L M : List Pt) (hl : L.length ≤ 1000000) (hm : M.length ≤ 1000000) (w : World) (hr : Rd w a (pts L)) (hs : Rd w b (pts M)) :
  Calls Tryz.prog 74 #[.slice a L.length c, .slice b M.length d] w fun e w' => e = .returned (.bool (decide (L = M))) ∧ Below w.heap.size w w' := by
 have hof := lofs_any a c L hl w hr; have HOF := Lib.hid hof; have hsm := fun W a c h1 h2 => r3same_any a b c d L M hl hm W h1 h2; have HSM := Lib.hid hsm; clear hof hsm; generalize decide (L = M) = B at *; obtain ⟨N, hN⟩ : ∃ N, L.length = N := ⟨_, rfl⟩; obtain ⟨N2, hN2⟩ : ∃ N2, M.length = N2 := ⟨_, rfl⟩; rw [hN] at HOF HSM ⊢; rw [hN2] at HSM ⊢; clear hN hN2 hl hm
 go_enter Tryz.func74, Tryz.ntmps74
 go_wp2_with fail
 refine HOF.out.mono ?_; rintro e w1 ⟨v1, rfl, hown1, hb1⟩; obtain ⟨a1, c1, rfl, -, -, -, hr1, -⟩ := hown1.form; have HS2 := Lib.hid (HSM.out w1 a1 c1 hr1 (hs.keep hb1)); clear HOF HSM hown1 hr1
 go_wp2_with fail
 refine HS2.out.mono ?_; rintro e w2 ⟨rfl, n, rfl⟩; go_wp2; go_ret; exact ⟨rfl, below_drewN hb1 n⟩

end Go.Proofs.YtjggoajfilnfjaaGreat
