/-
  graticulelaw04.Ints, of the same numbers. Opening a law's arguments: faces. ScriptBack: the walk. Opening a law's arguments: what is to be built.
-/
import Derived.Test.YtkfgbjjelcigcaaDoorPk1
import Derived.Test.YtkfgbjjelcigcaaDoorProg
import Derived.Test.YtkfgbjjelcigcaaDoorPk2
import Derived.Test.YtkfgbjjelcigcaaDoorPk16
import Derived.Test.YtkfgbjjelcigcaaDoorPk17
/- graticulelaw04.Ints, of the same numbers. -/
set_option linter.unusedVariables false
set_option linter.unusedSimpArgs false
set_option maxRecDepth 100000
namespace Go.Proofs.YtkfgbjjelcigcaaDoor
open Go.RowKit
set_option maxHeartbeats 800000 in
theorem sign0_any (w : World) :
    Calls Tryd.prog 45 #[.int .i64 0] w fun e w' => e = .returned (.int .i64 0) ∧ w' = w := by
  go_enter Tryd.func45, Tryd.ntmps45
  go_wp2; go_ret; exact ⟨rfl, rfl⟩
set_option maxHeartbeats 1600000 in
theorem cmp_same (a b : Option Addr) (ca cb : Nat) (l : List Int) (hl : l.length ≤ 1000000) (w : World) (hr : Rd w a (l.map (Value.int .i64))) (hs : Rd w b (l.map (Value.int .i64))) :
    Calls Tryd.prog 24 #[.slice a l.length ca, .slice b l.length cb] w fun e w' => e = .returned (.int .i64 0) ∧ Below w.heap.size w w' := by
  have HR := Lib.hid hr; have HS := Lib.hid hs; have HSG := Lib.hid (fun W => sign0_any W); obtain ⟨N, hN⟩ : ∃ N, l.length = N := ⟨_, rfl⟩; have HN := Lib.hid hN; rw [hN] at hl ⊢; clear hr hs hN
  go_enter Tryd.func24, Tryd.ntmps24
  go_wp2
  go_loopw [5] (fun i wr => ∃ k : Nat, k ≤ N ∧ i = .int .i64 k ∧ Below w.heap.size w wr) (fun i _ => N - (intOf i).toNat)
  case atStart => exact ⟨0, by omega, rfl, Below.refl _ _⟩
  case round =>
    obtain ⟨k, hk, rfl, hbl⟩ := hrel
    by_cases h1 : k < N
    · have h1' : (k : Int) < (N : Int) := by omega
      have hkl : k < l.length := by rw [HN.out]; exact h1
      obtain ⟨b1, o1, rfl, c0, hbb⟩ := (HR.out.keep hbl).at (i := k) (v := .int .i64 l[k]) (by simp [hkl]); obtain ⟨b2, o2, rfl, d0, hbb2⟩ := (HS.out.keep hbl).at (i := k) (v := .int .i64 l[k]) (by simp [hkl]); generalize l[k] = z at *; have d1 : wr.drew.cell? ⟨b1, o1 + k, none⟩ = some (.int .i64 z) := c0; have d2 : wr.drew.cell? ⟨b2, o2 + k, none⟩ = some (.int .i64 z) := d0; have hd := hbl.drew; go_wp2
      go_quiet (fail)
      go_wp2
      go_quiet (fail)
      go_wp2; exact ⟨⟨k + 1, by omega, by go_num, below_drewN hbl _⟩, by simp [intOf]; omega⟩
    · have h1' : ¬ (k : Int) < (N : Int) := by omega
      have hz : IntKind.i64.wrap ((N : Int) - (N : Int)) = 0 := by rw [Int.sub_self]; rfl
      go_wp2_with fail
      refine (HSG.out _).mono ?_; rintro e w1 ⟨rfl, rfl⟩; go_wp2; go_ret; exact ⟨rfl, hbl⟩
set_option maxHeartbeats 800000 in
theorem ints_same (a b : Option Addr) (ca cb : Nat) (l : List Int) (hl : l.length ≤ 1000000) (w : World) (hr : Rd w a (l.map (Value.int .i64))) (hs : Rd w b (l.map (Value.int .i64))) :
    Calls Tryd.prog 10 #[.slice a l.length ca, .slice b l.length cb] w fun e w' => e = .returned (.bool true) ∧ Below w.heap.size w w' := by
  have H := Lib.hid (cmp_same a b ca cb l hl w hr hs); clear hr hs
  go_enter Tryd.func10, Tryd.ntmps10
  go_wp2_with fail
  refine H.out.mono ?_; rintro e w1 ⟨rfl, hb⟩; go_wp2; go_ret; exact ⟨rfl, hb⟩
end Go.Proofs.YtkfgbjjelcigcaaDoor
/- Opening a law's arguments: faces. -/
set_option linter.unusedVariables false
set_option linter.unusedSimpArgs false
set_option maxRecDepth 100000
namespace Go
open Go.RowKit
def AtIn (a : At) : Prop := AtOk a ∧ (Lit.int .i64 a.kind).wf = true ∧ (Lit.int .i64 a.n).wf = true
def FcIn (W : World) (f : Fc) : Prop := f.Ok W ∧ (∀ x ∈ f.ls, AtIn x) ∧ ∀ r ∈ f.rs, ∀ p ∈ r.l, (Lit.int .i64 p.x).wf = true ∧ (Lit.int .i64 p.y).wf = true
theorem FcIn.in {W : World} {f : Fc} (h : FcIn W f) : f.In W := ⟨h.1, fun x hx => (h.2.1 x hx).1⟩
end Go
namespace Go.Proofs.YtkfgbjjelcigcaaDoor
open Go.RowKit Go.ChangeShapes Go.WideShapes Go.ChangeAt
theorem one_attr {H : Type} {enc : TypeId × Value → H} {W : World} {base : Nat} {spare : Nat → Bool} {held : Bool} (n : Nat) (cs : List Value) (z : DataW H × List MemPlace) (hcl : cs.length = 4)
    (ht : DataW.trod enc Tryd.prog W base spare held n 57 cs = some z) : ∃ y : At, cs = y.cells ∧ AtIn y := by
  have c3 : Tryd.prog.cellsOf 3 = 1 := by kernel_rfl
  have c1 : Tryd.prog.cellsOf 9 = 1 := by kernel_rfl
  have cv : Tryd.prog.cellsOf 32 = 3 := by kernel_rfl
  obtain ⟨ys, k, hk, hxy, _, hxl, hf⟩ := DataW.trod_struct Tryd.underlying57 ht
  match ys, hxl, cs, hcl with
  | [y0, y1], _, [v0, v1, v2, v3], _ =>
    have g0 := hf 0 _ rfl; have g1 := hf 1 _ rfl; simp [c1, cv] at g0 g1; obtain ⟨s0, e0, -, w0⟩ := DataW.trod_string Tryd.underlying9 g0; simp at e0; subst e0; obtain ⟨zs, k2, hk2, hxy2, _, hzl, hf2⟩ := DataW.trod_struct Tryd.underlying32 g1
    match zs, hzl with
    | [u0, u1, u2], _ =>
      have g2 := hf2 0 _ rfl; have g3 := hf2 1 _ rfl; have g4 := hf2 2 _ rfl; simp [c1, c3] at g2 g3 g4; obtain ⟨n1, e1, -, w1⟩ := DataW.trod_int Tryd.underlying3 g2; obtain ⟨s2, e2, -, w2⟩ := DataW.trod_string Tryd.underlying9 g3; obtain ⟨n3, e3, -, w3⟩ := DataW.trod_int Tryd.underlying3 g4; simp at e1 e2 e3; subst e1 e2 e3; exact ⟨⟨s0, n1, s2, n3⟩, rfl, ⟨w0, w2⟩, w1, w3⟩

theorem one_ringW {H : Type} {enc : TypeId × Value → H} {W : World} {base : Nat} {spare : Nat → Bool} {held : Bool} (hsp : ∀ b, spare b = true) (n : Nat) (cs' : List Value) (z : DataW H × List MemPlace) (hl : cs'.length = 1)
    (h : DataW.trod enc Tryd.prog W base spare held n 52 cs' = some z) : ∃ y : PC, cs' = y.cells ∧ y.Ok W ∧ ∀ p ∈ y.l, PtIn p := by
  match cs', hl with
  | [v], _ =>
    obtain ⟨a, l, c, rfl⟩ : ∃ a l c, v = .slice a l c := by
      rcases DataW.trod_slice Tryd.underlying52 h with ⟨hc, _⟩ | ⟨a, l, c, _, _, _, _, hc, _⟩
      · simp at hc; exact ⟨_, _, _, hc⟩
      · simp at hc; exact ⟨_, _, _, hc⟩
    obtain ⟨xs, rfl, h1, h2, h3, h4, h5⟩ := open_pts hsp h; exact ⟨⟨xs, a, c⟩, rfl, ⟨h4, h1, h2, h3⟩, h5⟩
theorem one_slice {cs : List Value} {H : Type} {enc : TypeId × Value → H} {W : World} {base : Nat} {spare : Nat → Bool} {held : Bool} {n : Nat} {v : Value} {z : DataW H × List MemPlace} {t e : TypeId} (ht : Tryd.prog.underlying t = some (.slice e))
    (h : DataW.trod enc Tryd.prog W base spare held n t [v] = some z) : ∃ a l c, v = .slice a l c := by
  rcases DataW.trod_slice ht h with ⟨hc, _⟩ | ⟨a, l, c, _, _, _, _, hc, _⟩
  · simp at hc; exact ⟨_, _, _, hc⟩
  · simp at hc; exact ⟨_, _, _, hc⟩

theorem one_face {H : Type} {enc : TypeId × Value → H} {W : World} {base : Nat} {spare : Nat → Bool} {held : Bool} (hsp : ∀ b, spare b = true) (n : Nat) (cs' : List Value) (z : DataW H × List MemPlace) (hl : cs'.length = 2)
    (h : DataW.trod enc Tryd.prog W base spare held n 51 cs' = some z) : ∃ y : Fc, cs' = y.cells ∧ FcIn W y := by
  have c1 : Tryd.prog.cellsOf 49 = 1 := by kernel_rfl
  have c2 : Tryd.prog.cellsOf 47 = 1 := by kernel_rfl
  obtain ⟨ys, k, hk, hxy, _, hxl, hf⟩ := DataW.trod_struct Tryd.underlying51 h
  match ys, hxl, cs', hl with
  | [y0, y1], _, [v0, v1], _ =>
    have g0 := hf 0 _ rfl; have g1 := hf 1 _ rfl; simp [c1, c2] at g0 g1; obtain ⟨a, l, c, rfl⟩ := one_slice (cs := []) Tryd.underlying49 g0; obtain ⟨b, m, d, rfl⟩ := one_slice (cs := []) Tryd.underlying47 g1; obtain ⟨xs, rfl, h1, h2, h3, h4, h5⟩ := open_flat 1 (by decide) PC.cells (fun y => y.Ok W ∧ ∀ p ∈ y.l, PtIn p) (fun _ => rfl) Tryd.underlying49 (by kernel_rfl) (fun n cs' z hl hz => one_ringW hsp n cs' z hl hz) g0; obtain ⟨ys, rfl, k1, k2, k3, k4, k5⟩ := open_flat 4 (by decide) At.cells AtIn (fun _ => rfl) Tryd.underlying47 (by kernel_rfl) (fun n cs' z hl hz => one_attr n cs' z hl hz) g1; exact ⟨⟨xs, a, c, ys, b, d⟩, rfl, ⟨⟨h4, h1, h2, h3⟩, fun r hr => (h5 r hr).1, ⟨k4, k1, k2, k3⟩⟩, k5, fun r hr => (h5 r hr).2⟩

theorem open_faces {H : Type} {enc : TypeId × Value → H} {W : World} {base : Nat} {spare : Nat → Bool} {fuel : Nat} {a : Option Addr} {len cap : Nat} {x : DataW H × List MemPlace} {held : Bool} (hsp : ∀ b, spare b = true)
    (h : DataW.trod enc Tryd.prog W base spare held fuel 22 [.slice a len cap] = some x) :
    ∃ xs : List Fc, len = xs.length ∧ len ≤ cap ∧ cap ≤ maxLen ∧ (a = none → cap = 0) ∧ Rd W a (fcs xs) ∧ ∀ y ∈ xs, FcIn W y :=
  open_flat 2 (by decide) Fc.cells (FcIn W) (fun _ => rfl) Tryd.underlying22 (by kernel_rfl) (fun n cs' z hl hz => one_face hsp n cs' z hl hz) h
theorem open_face {H : Type} {enc : TypeId × Value → H} {W : World} {base b0 : Nat} {spare : Nat → Bool} {held : Bool} {r : Reach} {v : Value} {d : DataW H} {ps : List MemPlace} (hv : Value.okWide Tryd.prog W r b0 51 v) (hsp : ∀ b, spare b = true)
    (hd : DataW.Trod enc Tryd.prog W base spare held 51 v d ps) : ∃ f : Fc, v = f.val ∧ FcIn W f := by
  obtain ⟨cs, rfl, hsz⟩ := okWide_struct Tryd.underlying51 hv; obtain ⟨n, hd⟩ := hd; have hc : (Value.agg cs).cells.toList = cs.toList := by simp [Value.cells]
  rw [hc] at hd; have c2 : Tryd.prog.cellsOf 51 = 2 := by kernel_rfl
  rw [c2] at hsz; obtain ⟨l⟩ := cs; obtain ⟨f, e, hf⟩ := one_face hsp n l _ hsz hd; exact ⟨f, by subst e; rfl, hf⟩
end Go.Proofs.YtkfgbjjelcigcaaDoor
/- ScriptBack: the walk. -/
set_option linter.unusedVariables false
set_option linter.unusedSimpArgs false
set_option maxRecDepth 100000
namespace Go.Proofs.YtkfgbjjelcigcaaDoor
open Go.RowKit
set_option maxHeartbeats 12800000 in
theorem sback_law {w : World} (fa : Option Addr) (fc : Nat) (LF : List Fc) (hlF : LF.length ≤ fc) (hcF : fc ≤ maxLen) (hrF : Rd w fa (fcs LF)) (hFI : ∀ f ∈ LF, f.In w) (buf tol : Int) (za : Option Addr) (zc : Nat) (zs : List Int) (hlZ : zs.length ≤ zc) (hcZ : zc ≤ maxLen) (hrZ : Rd w za (zs.map (Value.int .i64))) :
    Calls Tryd.prog 3 #[.agg #[.slice fa LF.length fc, .int .i64 buf, .int .i64 tol, .slice za zs.length zc]] w fun e w' => e = .returned (.bool true) ∧ Below w.heap.size w w' := by
  have HKN := Lib.hid (fun W => known30_any W); have HRF := Lib.hid hrF; have HFI := Lib.hid hFI; have HRZ := Lib.hid hrZ; obtain ⟨FL, hFL⟩ : ∃ n, LF.length = n := ⟨_, rfl⟩; have HCT := Lib.hid (fun (W : World) (h : Rd W fa (fcs LF)) (k : ∀ f ∈ LF, f.In W) => cut12_any fa fc LF hlF hcF W h k); rw [hFL] at HCT hlF ⊢; obtain ⟨ZL, hZL⟩ : ∃ n, zs.length = n := ⟨_, rfl⟩; rw [hZL] at hlZ ⊢; have hZ20 : (zs.take 20).length = min ZL 20 := by rw [List.length_take, hZL]; exact Nat.min_comm _ _
  have HZT : Hid (Rd w za ((zs.take 20).map (Value.int .i64))) := Lib.hid (by rw [List.map_take]; exact hrZ.take 20); obtain ⟨zt, hzt⟩ : ∃ l, zs.take 20 = l := ⟨_, rfl⟩; rw [hzt] at hZ20 HZT; obtain ⟨ZN, hZN⟩ : ∃ n, min ZL 20 = n := ⟨_, rfl⟩; rw [hZN] at hZ20; have hZN1 : ZN ≤ 20 ∧ ZN ≤ ZL := by omega
  unfold maxLen at hcZ hcF; have hmin1 : min (ZL : Int) 20 = (ZN : Int) := by omega
  have hmin2 : (if (20 : Int) < (ZL : Int) then (20 : Int) else (ZL : Int)) = (ZN : Int) := by split <;> omega
  have hmin3 : min 20 (ZL : Int) = (ZN : Int) := by omega
  have hZi : (ZN : Int) ≤ (zc : Int) := by omega
  have hZj : (ZN : Int) ≤ (ZL : Int) := by omega
  have HZ20 := Lib.hid hZ20; clear hrF hFI hrZ hFL hZL hzt hZN hZ20; obtain ⟨B, hB⟩ : ∃ B, w.heap.size = B := ⟨_, rfl⟩; have HBQ := Lib.hid hB; have hb0 := Below.new w (.cells #[.slice fa FL fc, .int .i64 buf, .int .i64 tol, .slice za ZL zc] 25); have k0 := BT.lit w B [.slice fa FL fc, .int .i64 buf, .int .i64 tol, .slice za ZL zc] 25 hB; have x0 := k0.blk.cell 0 rfl
  go_enter Tryd.func3, Tryd.ntmps3
  go_wp2_with fail
  generalize w.alloc (.cells #[.slice fa FL fc, .int .i64 buf, .int .i64 tol, .slice za ZL zc] 25) = w1 at *; clear hB; refine (HCT.out _ (HRF.out.keep hb0) (fun f hf => ⟨(HFI.out f hf).1.keep hb0, (HFI.out f hf).2⟩)).mono ?_; rintro e w2 ⟨fs, v, rfl, hown, hFT, hcut, hb2⟩; obtain ⟨ca, cc, rfl, hcl, hcm, hcn, hcr, -⟩ := hown.form; have hbw := hb0.trans (hb2.mono hb0.size); have k2 := k0.keep hb2; have hcw : w.heap.size ≤ w1.heap.size := hb0.size; obtain ⟨hc1, hc2, hc3, hc4⟩ := hcut; have hcnt := cnt_mem fs; have hfbd : ∀ f ∈ fs, f.rs.length ≤ 1000 ∧ f.ls.length ≤ 1000 ∧ ∀ r ∈ f.rs, r.l.length ≤ 10000 := fun f hf => ⟨by have := (hcnt f hf).1; omega, by have := (hc4 f hf).1; omega, fun r hr => by have := (hcnt f hf).2 r hr; omega⟩; have hlen := of_len buf tol zt fs (fun f hf => (hc4 f hf).1); have hmem := of_mem buf tol zt fs (by rw [HZ20.out]; omega) (fun f hf => ⟨fun r hr => by have := (hcnt f hf).2 r hr; omega, hc4 f hf⟩); have HLEN : Hid ((ofI buf tol zt (fs.map Fc.tell)).length ≤ 600) := Lib.hid (by omega); have HMEM := Lib.hid hmem; have HFBD := Lib.hid hfbd; have HFS : Hid (fs.length ≤ 40) := Lib.hid hc1; have bw : w.heap.size ≤ B := by rw [HBQ.out]; exact Nat.le_refl _
  have f0 := k2.blk.free 0; have f3 := k2.blk.free 3; have y0 := k2.blk.cell 0 rfl; have y3 := k2.blk.cell 3 rfl; have hkB := k2.blk.lt; clear HCT hb0 hb2 k0 x0 hlen hmem hfbd hcnt hc1 hc2 hc3 hc4; obtain ⟨CN, hCN⟩ : ∃ n, fs.length = n := ⟨_, rfl⟩; have HCN := Lib.hid hCN
  -- the two stores
  have s2 := (k2.set 0 (.slice ca fs.length cc)).set 3 (.slice za ZN zc); have KS : KeepS (· ≠ 25) w2 ((w2.setCell ⟨B, 0, none⟩ (.slice ca fs.length cc)).setCell ⟨B, 3, none⟩ (.slice za ZN zc)) := (k2.keepSet (fun h => h rfl) 0 _).trans ((k2.set 0 _).keepSet (fun h => h rfl) 3 _); have hbS := (hbw.set_at (b := B) (o := 0) bw (.slice ca fs.length cc)).set_at (b := B) (o := 3) bw (.slice za ZN zc); have hownS := hown.keepS (by decide) KS; have hFTS : ∀ f ∈ fs, FcT ((w2.setCell ⟨B, 0, none⟩ (.slice ca fs.length cc)).setCell ⟨B, 3, none⟩ (.slice za ZN zc)) f := fun f hf => (hFT f hf).keepS (KS.sub nf27); have z0 := s2.blk.cell 0 rfl; have z1 := s2.blk.cell 1 rfl; have z2 := s2.blk.cell 2 rfl; have z3 := s2.blk.cell 3 rfl; clear KS hown hFT hcr hCN
  go_wp2_with fail
  generalize (w2.setCell ⟨B, 0, none⟩ (.slice ca fs.length cc)).setCell ⟨B, 3, none⟩ (.slice za ZN zc) = w3 at *; have HOF := of30_any ca cc fs buf tol za zc zt (by have := HFS.out; omega) HFBD.out (by rw [HZ20.out]; omega) w3 (Rd.of_owns hownS) (fun f hf => (hFTS f hf).1) (HZT.out.keep hbS); rw [HZ20.out] at HOF; refine HOF.mono ?_; rintro e w4 ⟨G, gv, rfl, hG, hog, hIT, hb4⟩; clear HOF f0 f3 y0 y3 z0 z1 z2 z3 k2; have hGl : G.length ≤ 600 := by
    have := congrArg List.length hG; rw [List.length_map] at this; rw [this]; exact HLEN.out
  have hGm : ∀ g ∈ G, g.n.length ≤ 100000 ∧ g.Sz := fun g hg => by
    have h1 : g.core ∈ ofI buf tol zt (fs.map Fc.tell) := by rw [← hG]; exact List.mem_map_of_mem hg
    have := HMEM.out _ h1; exact ⟨this.1, this.2.1, this.2.2⟩
  have HBF := Lib.hid (back_fold G buf tol zt (fs.map Fc.tell) hG); have HGM := Lib.hid hGm; have HIT := Lib.hid hIT; obtain ⟨ga, gc, rfl, hg1, hg2, hg3, hgr, -⟩ := hog.form; have HGR := Lib.hid hgr; have s4 := s2.keep hb4; have hbW4 := hbS.trans (hb4.mono hbS.size); have hown4 := hownS.below hb4; have HFT4 : Hid (∀ f ∈ fs, FcT w4 f) := Lib.hid (fun f hf => (hFTS f hf).keep hb4); have HZT4 : Hid (Rd w4 za (zt.map (Value.int .i64))) := Lib.hid ((HZT.out.keep hbS).keep hb4); obtain ⟨N, hN⟩ : ∃ n, G.length = n := ⟨_, rfl⟩; have HN := Lib.hid hN; rw [hN] at hGl hg1; rw [hN]; clear hN hG hog hIT hgr s2 hbS hownS hFTS hb4 hbw hGm; go_wp2
  go_loopw [4, 5] (fun z i wr => ∃ (k : Nat) (zn : Int), k ≤ N ∧ i = .int .i64 k ∧ z = .int .i64 zn ∧ Hid ((zn = 0 ∧ ∀ j (hj : j < G.length), j < k → chkI G[j] = 0) ∨ (∃ k2, ∃ h2 : k2 < G.length, k = k2 + 1 ∧ zn = chkI G[k2] ∧ zn ≠ 0 ∧ ∀ j (hj : j < G.length), j < k2 → chkI G[j] = 0)) ∧ Below w4.heap.size w4 wr) (fun _ i _ => N - (intOf i).toNat)
  case atStart => exact ⟨0, 0, Nat.zero_le _, rfl, rfl, Lib.hid (.inl ⟨rfl, fun j _ h => absurd h (Nat.not_lt_zero _)⟩), Below.refl _ _⟩
  case round =>
    obtain ⟨k, zn, hk, rfl, rfl, HZ, hbl⟩ := hrel
    by_cases hgo : k < N ∧ zn = 0
    · obtain ⟨hlt, rfl⟩ := hgo; have hlt' : (k : Int) < (N : Int) := by omega
      have hkG : k < G.length := by rw [HN.out]; exact hlt
      obtain ⟨xb, xo, rfl, hxb, c0, c1, c2, c3, c4, c5⟩ := (HGR.out.keep hbl).it k hkG; have hmx := List.getElem_mem hkG; have HCK := Lib.hid (icheck_any (G[k]'hkG) (HGM.out _ hmx).2 (by have := (HGM.out _ hmx).1; omega) wr ((HIT.out _ hmx).1.keep hbl)); have HZA : Hid (∀ j (hj : j < G.length), j < k → chkI G[j] = 0) := Lib.hid (by
        rcases HZ.out with h | ⟨k2, h2, h3, h4, h5, h6⟩
        · exact h.2
        · exact absurd rfl h5)
      obtain ⟨E, hE⟩ : ∃ E, chkI (G[k]'hkG) = E := ⟨_, rfl⟩; have HE : Hid (∀ h : k < G.length, chkI G[k] = E) := Lib.hid (fun _ => hE); rw [hE] at HCK; clear hE HZ hmx; generalize G[k] = x at *; obtain ⟨kind, n, key, ⟨v1, v2, v3⟩, np, nc⟩ := x; dsimp only [It.nval, It.val] at *; generalize n.length = nl at *
      go_wp2_with fail
      refine HCK.out.mono ?_; rintro e w5 ⟨rfl, hb5⟩; have hbl5 := hbl.trans (hb5.mono hbl.size); clear c0 c1 c2 c3 c4 c5 HCK; have HZ5 : Hid ((E = 0 ∧ ∀ j (hj : j < G.length), j < k + 1 → chkI G[j] = 0) ∨ (∃ k2, ∃ h2 : k2 < G.length, k + 1 = k2 + 1 ∧ E = chkI G[k2] ∧ E ≠ 0 ∧ ∀ j (hj : j < G.length), j < k2 → chkI G[j] = 0)) := Lib.hid (by
        by_cases hE0 : E = 0
        · refine .inl ⟨hE0, fun j hj hjk => ?_⟩
          by_cases h : j < k
          · exact HZA.out j hj h
          · obtain rfl : j = k := by omega
            rw [HE.out hj]; exact hE0
        · exact .inr ⟨k, hkG, rfl, (HE.out hkG).symm, hE0, HZA.out⟩)
      go_wp2; go_roundw
      case rel => exact ⟨k + 1, E, by omega, by go_num, rfl, HZ5, hbl5⟩
      case measure => simp [intOf]; omega
    · have hFD := fold_any ga gc G (by rw [HN.out]; exact hg1) hg2 (by rw [HN.out]; omega) (fun g hg => (HGM.out g hg).1) (fun g hg => (HGM.out g hg).2) wr (HGR.out.keep hbl) (fun g hg => ((HIT.out g hg).1.keep hbl)); rw [HN.out] at hFD; have HFD := Lib.hid hFD; have hs := s4.keep hbl; have hbW := hbW4.trans (hbl.mono hbW4.size); have hownW := hown4.below hbl; have HFTW : Hid (∀ f ∈ fs, FcT wr f) := Lib.hid (fun f hf => (HFT4.out f hf).keep hbl); have HZTW : Hid (Rd wr za (zt.map (Value.int .i64))) := Lib.hid (HZT4.out.keep hbl); clear hFD
      by_cases hz : zn = 0
      · have hkN : ¬ (k : Int) < (N : Int) := by omega
        have HFE : Hid (foldG fs0 0 G = (⟨fs.map Fc.tell, buf, tol, zt, []⟩, 0, 0)) := Lib.hid (HBF.out.1 (fun g hg => by
          obtain ⟨j, hj, rfl⟩ := List.getElem_of_mem hg
          rcases HZ.out with h | ⟨k2, h2, h3, h4, h5, h6⟩
          · exact h.2 j hj (by rw [HN.out] at hj; omega)
          · exact absurd hz h5))
        subst hz; clear HZ HBF
        go_wp2_with fail
        refine HFD.out.mono ?_; intro e w6 hpost; unfold FoldPost at hpost; rw [HFE.out] at hpost; obtain ⟨LX, fp, fc2, zp, zc2, G2, ap, ac, rfl, p1, p2, p3, p4, p5, p6, p7, hb6⟩ := hpost; dsimp only at p1 p2 p3 p5; have hG2 : G2.length = 0 := by have := congrArg List.length p2; simpa using this
        have hzl : zt.length = ZN := HZ20.out; rw [hzl] at p5 ⊢; rw [hG2]; have hs6 := hs.keep hb6; have hbW6 := hbW.trans (hb6.mono hbW.size); have hownW6 := hownW.below hb6; obtain ⟨X, hX⟩ : ∃ X, w6.heap.size = X := ⟨_, rfl⟩; have hx := Below.new w6 (.cells #[.slice fp LX.length fc2, .int .i64 buf, .int .i64 tol, .slice zp ZN zc2] 25); have bX := BT.lit w6 X [.slice fp LX.length fc2, .int .i64 buf, .int .i64 tol, .slice zp ZN zc2] 25 hX; have hs7 := hs6.keep hx; have hbW7 := hbW6.trans (hx.mono hbW6.size); have HSF := Lib.hid (fun W h1 h2 h3 h4 => fsame_same fp ca fc2 cc LX fs p1 (by have := congrArg List.length p1; simp at this; have := HFS.out; omega) (fun f hf => by
          have h1 : f.tell ∈ fs.map Fc.tell := by rw [← p1]; exact List.mem_map_of_mem hf
          obtain ⟨g, hg, he⟩ := List.mem_map.1 h1; have hgb := HFBD.out g hg; unfold Fc.tell at he; simp only [Prod.mk.injEq] at he; have e1 : f.rs.length = g.rs.length := by
            have := congrArg List.length he.1
            simpa [Fc.rings] using this.symm
          refine ⟨by omega, fun r hr => ?_, by rw [← he.2]; omega⟩; have hrm : r.l ∈ g.rings := by rw [he.1]; exact List.mem_map_of_mem hr
          obtain ⟨r2, hr2, e2⟩ := List.mem_map.1 hrm; have := hgb.2.2 r2 hr2; rw [e2] at this; omega) W h1 h2 h3 h4)
        have HIN := Lib.hid (fun W h1 h2 => ints_same zp za zc2 zc zt (by rw [hzl]; omega) W h1 h2); rw [hzl] at HIN; have rLX := (Rd.of_owns p3).keep hx; have rfs := (Rd.of_owns hownW6).keep hx; have rzp := (Rd.of_owns p5).keep hx; have rza := (HZTW.out.keep hb6).keep hx; have HLX : Hid (∀ f ∈ LX, f.Ok (w6.alloc (.cells #[.slice fp LX.length fc2, .int .i64 buf, .int .i64 tol, .slice zp ZN zc2] 25))) := Lib.hid (fun f hf => (p4 f hf).1.keep hx); have HFS7 : Hid (∀ f ∈ fs, f.Ok (w6.alloc (.cells #[.slice fp LX.length fc2, .int .i64 buf, .int .i64 tol, .slice zp ZN zc2] 25))) := Lib.hid (fun f hf => (((HFTW.out f hf).keep hb6).1).keep hx); generalize LX.length = LN at *; generalize fs.length = FN at *; clear HFD HFE p1 p2 p3 p4 p5 p6 p7 hs hs6 hbW hbW6 hownW hownW6 hb6 hzl hG2
        go_wp2_with fail
        generalize w6.alloc (.cells #[.slice fp LN fc2, .int .i64 buf, .int .i64 tol, .slice zp ZN zc2] 25) = w7 at *; clear hx hX; refine (HKN.out _).mono ?_; rintro e w8 ⟨rfl, hb8⟩; have bX8 := bX.keep hb8; have hs8 := hs7.keep hb8; have u1 := bX8.blk.cell 1 rfl; have u2 := bX8.blk.cell 2 rfl; have u3 := bX8.blk.cell 3 rfl; have t1 := hs8.blk.cell 1 rfl; have t2 := hs8.blk.cell 2 rfl; have t3 := hs8.blk.cell 3 rfl; have hbW8 := hbW7.trans (hb8.mono hbW7.size)
        go_wp2_with fail
        refine (HIN.out _ (rzp.keep hb8) (rza.keep hb8)).mono ?_; rintro e w9 ⟨rfl, hb9⟩; have bX9 := bX8.keep hb9; have hs9 := hs8.keep hb9; have hbW9 := hbW8.trans (hb9.mono hbW8.size); have hb89 := hb8.trans (hb9.mono hb8.size); clear u1 u2 u3 t1 t2 t3 HIN; have u0 := bX9.blk.cell 0 rfl; have t0 := hs9.blk.cell 0 rfl
        go_wp2_with fail
        refine (HSF.out _ (rLX.keep hb89) (rfs.keep hb89) (fun f hf => (HLX.out f hf).keep hb89) (fun f hf => (HFS7.out f hf).keep hb89)).mono ?_; rintro e w10 ⟨rfl, hb10⟩; have hbW10 := hbW9.trans (hb10.mono hbW9.size); clear u0 t0 HSF; go_wp2; go_ret; exact ⟨rfl, hbW10⟩
      · have hz' : (zn == 0) = false := by rw [beq_eq_false_iff_ne]; exact hz
        have hz2 : (zn != 0) = true := by simp [hz]
        have HFE : Hid (∃ at_ : Nat, foldG fs0 0 G = (fs0, at_, zn)) := Lib.hid (by
          rcases HZ.out with h | ⟨k2, h2, h3, h4, h5, h6⟩
          · exact absurd h.1 hz
          · have := HBF.out.2 k2 h2 (fun j hj => h6 j (by omega) hj) (by rw [← h4]; exact h5); rw [← h4] at this; exact ⟨k2, this⟩)
        clear HZ HBF; obtain ⟨av, hav⟩ := HFE.out; have HAV := Lib.hid hav; clear hav HFE
        by_cases hkI : (k : Int) < (N : Int)
        all_goals
          go_wp2_with fail
          refine HFD.out.mono ?_; intro e w6 hpost; unfold FoldPost at hpost; rw [HAV.out] at hpost; obtain ⟨LX, fp, fc2, zp, zc2, G2, ap, ac, rfl, p1, p2, p3, p4, p5, p6, p7, hb6⟩ := hpost; dsimp only [fs0] at p1 p2 p3 p5 ⊢; have hbW6 := hbW.trans (hb6.mono hbW.size); obtain ⟨XV, hXV⟩ : ∃ v : List Value, v = [.slice fp LX.length fc2, .int .i64 0, .int .i64 0, .slice zp ([] : List Int).length zc2] := ⟨_, rfl⟩; have hx := Below.new w6 (.cells #[.slice fp LX.length fc2, .int .i64 0, .int .i64 0, .slice zp ([] : List Int).length zc2] 25); have hbW7 := hbW6.trans (hx.mono hbW6.size); clear p1 p2 p3 p4 p5 p6 p7
          go_wp2_with fail
          refine (HKN.out _).mono ?_; rintro e w8 ⟨rfl, hb8⟩; have hbW8 := hbW7.trans (hb8.mono hbW7.size); go_wp2; go_ret; exact ⟨rfl, hbW8⟩
end Go.Proofs.YtkfgbjjelcigcaaDoor
/- Opening a law's arguments: what is to be built. -/
set_option linter.unusedVariables false
set_option linter.unusedSimpArgs false
set_option maxRecDepth 100000
namespace Go.Proofs.YtkfgbjjelcigcaaDoor
open Go.RowKit Go.ChangeShapes Go.WideShapes Go.ChangeAt
theorem open_input {H : Type} {enc : TypeId × Value → H} {W : World} {base b0 : Nat} {spare : Nat → Bool} {held : Bool} {r : Reach} {v : Value} {d : DataW H} {ps : List MemPlace} (hv : Value.okWide Tryd.prog W r b0 25 v) (hsp : ∀ b, spare b = true)
    (hd : DataW.Trod enc Tryd.prog W base spare held 25 v d ps) :
    ∃ (fa : Option Addr) (fc : Nat) (LF : List Fc) (buf tol : Int) (za : Option Addr) (zc : Nat) (zs : List Int), v = .agg #[.slice fa LF.length fc, .int .i64 buf, .int .i64 tol, .slice za zs.length zc] ∧
      LF.length ≤ fc ∧ fc ≤ maxLen ∧ Rd W fa (fcs LF) ∧ (∀ f ∈ LF, f.In W) ∧ zs.length ≤ zc ∧ zc ≤ maxLen ∧ Rd W za (zs.map (Value.int .i64)) := by
  obtain ⟨cs, rfl, hsz⟩ := okWide_struct Tryd.underlying25 hv; obtain ⟨n, hd⟩ := hd; have hc : (Value.agg cs).cells.toList = cs.toList := by simp [Value.cells]
  rw [hc] at hd; have c4 : Tryd.prog.cellsOf 25 = 4 := by kernel_rfl
  rw [c4] at hsz; obtain ⟨l⟩ := cs; have c1 : Tryd.prog.cellsOf 22 = 1 := by kernel_rfl
  have c2 : Tryd.prog.cellsOf 3 = 1 := by kernel_rfl
  have c3 : Tryd.prog.cellsOf 23 = 1 := by kernel_rfl
  obtain ⟨ys, k, hk, hxy, _, hxl, hf⟩ := DataW.trod_struct Tryd.underlying25 hd
  match ys, hxl, l, hsz with
  | [y0, y1, y2, y3], _, [v0, v1, v2, v3], _ =>
    have g0 := hf 0 _ rfl; have g1 := hf 1 _ rfl; have g2 := hf 2 _ rfl; have g3 := hf 3 _ rfl; simp [c1, c2, c3] at g0 g1 g2 g3; obtain ⟨a, ln, c, rfl⟩ := one_slice (cs := []) Tryd.underlying22 g0; obtain ⟨b, m, e, rfl⟩ := one_slice (cs := []) Tryd.underlying23 g3; obtain ⟨n1, e1, -, w1⟩ := DataW.trod_int Tryd.underlying3 g1; obtain ⟨n2, e2, -, w2⟩ := DataW.trod_int Tryd.underlying3 g2; simp at e1 e2; subst e1 e2; obtain ⟨xs, rfl, h1, h2, h3, h4, h5⟩ := open_faces hsp g0; obtain ⟨zs, rfl, k1, k2, k3, k4, k5⟩ : ∃ L : List Int, m = L.length ∧ m ≤ e ∧ e ≤ maxLen ∧ (b = none → e = 0) ∧ Rd W b (L.map (Value.int .i64)) ∧ ∀ n ∈ L, (Lit.int .i64 n).wf = true :=
      open_rowRd Tryd.underlying23 Tryd.underlying3 (by kernel_rfl) hsp g3
    exact ⟨a, c, xs, n1, n2, b, e, zs, rfl, h1, h2, h4, fun f hf => (h5 f hf).in, k1, k2, k4⟩
end Go.Proofs.YtkfgbjjelcigcaaDoor
