/-
  CoverMoves: the walk.
-/
import Derived.Test.YtkdibaphmkaaoaaPk27
import Derived.Test.YtkdibaphmkaaoaaPk28
import Derived.Test.YtkdibaphmkaaoaaPk29
import Derived.Test.YtkdibaphmkaaoaaPk30
import Derived.Test.YtkdibaphmkaaoaaPk2
import Derived.Test.YtkdibaphmkaaoaaPk25
/- CoverMoves: the walk. -/
set_option linter.unusedVariables false
set_option linter.unusedSimpArgs false
set_option maxRecDepth 100000
namespace Go
open Go.RowKit
theorem tmod_bd (x : Int) : -1048576 < x.tmod 1048576 ∧ x.tmod 1048576 < 1048576 := by
  rcases Int.le_total 0 x with h | h
  · rw [Int.tmod_eq_emod_of_nonneg h]; omega
  · obtain ⟨y, rfl⟩ : ∃ y, x = -y := ⟨-x, by omega⟩
    rw [Int.neg_tmod, Int.tmod_eq_emod_of_nonneg (by omega)]; omega
theorem wf_small (x : Int) (h : -100000000 ≤ x ∧ x ≤ 100000000) : (Lit.int .i64 x).wf = true := by
  simp [Lit.wf, IntKind.min, IntKind.max, IntKind.signed, IntKind.bits]; omega
/-- Not too far. -/
def SmP (p : Pt) : Prop := (-1048576 ≤ p.x ∧ p.x ≤ 1048576) ∧ (-1048576 ≤ p.y ∧ p.y ≤ 1048576)
def SmR (L : List Pt) : Prop := ∀ p ∈ L, SmP p
def SmF (F : List (List Pt)) : Prop := ∀ r ∈ F, SmR r
def SmA (F : List (List (List Pt))) : Prop := ∀ f ∈ F, SmF f
theorem cntP_map (φ : Pt → Pt) : ∀ F : List (List (List Pt)), cntP (mapF φ F) = cntP F := by
  have hl : ∀ f : List (List Pt), lenS (f.map fun r => r.map φ) = lenS f := fun f => by
    induction f with
    | nil => rfl
    | cons a f ih => simp [lenS, ih]
  intro F
  induction F with
  | nil => rfl
  | cons f F ih =>
    show lenS (f.map fun r => r.map φ) + cntP (mapF φ F) = lenS f + cntP F
    rw [hl, ih]
theorem fewF_map {φ : Pt → Pt} {gs fs : List Fc} (h : gs.map Fc.rings = mapF φ (fs.map Fc.rings)) (hl : ∀ f ∈ gs, f.ls.length ≤ 10) (hF : ∀ f ∈ fs, FewF f) (hw : ∀ f ∈ fs, ∀ r ∈ f.rs, ∀ p ∈ r.l, (φ p).Wf) : ∀ g ∈ gs, FewF g := by
  intro g hg
  have h1 : g.rings ∈ mapF φ (fs.map Fc.rings) := h ▸ List.mem_map_of_mem hg
  obtain ⟨F, hF1, hF2⟩ := List.mem_map.1 h1
  obtain ⟨f, hf, rfl⟩ := List.mem_map.1 hF1
  have hlen : g.rs.length = f.rs.length := by
    have := congrArg List.length hF2
    simpa [Fc.rings] using this.symm
  have hpt : ∀ r ∈ g.rs, ∃ x ∈ f.rs, r.l = x.l.map φ := fun r hr => by
    have h2 : r.l ∈ g.rings := List.mem_map_of_mem hr
    rw [← hF2] at h2
    obtain ⟨x, hx, hx2⟩ := List.mem_map.1 h2
    obtain ⟨y, hy, rfl⟩ := List.mem_map.1 hx
    exact ⟨y, hy, hx2.symm⟩
  obtain ⟨⟨u1, u2, u3⟩, u4⟩ := hF f hf
  refine ⟨⟨by omega, hl g hg, fun r hr => ?_⟩, fun r hr x hx => ?_⟩
  · obtain ⟨y, hy, e⟩ := hpt r hr
    rw [e, List.length_map]; exact u3 y hy
  · obtain ⟨y, hy, e⟩ := hpt r hr
    rw [e] at hx
    obtain ⟨p, hp, rfl⟩ := List.mem_map.1 hx
    exact hw f hf y hy p hp
end Go
namespace Go.Proofs.Ytkdibaphmkaaoaa
open Go.RowKit
/-- Two rows of rings under way, and the boxes of their faces. -/
structure S17 (wO w2 W : World) (va vb ca cb : Value) (na nb : Nat) (qa qb : List PC) : Prop where
  k8 : W.heap[wO.heap.size]? = some (.cells #[ca, .slice none 0 0] 39 (0, 0))
  k9 : W.heap[wO.heap.size + 1]? = some (.cells #[cb, .slice none 0 0] 39 (0, 0))
  oa : W.ownsRow wO.heap.size 40 1 va na (rcs qa)
  ob : W.ownsRow wO.heap.size 40 1 vb nb (rcs qb)
  dj : Disj va vb
  pa : ∀ r ∈ qa, PcT W r
  pb : ∀ r ∈ qb, PcT W r
  bl : Below wO.heap.size wO W
  bw : Below w2.heap.size w2 W
  sz : w2.heap.size ≤ wO.heap.size
section
variable {wO w2 W W' : World} {va vb ca cb : Value} {na nb : Nat} {qa qb : List PC}
theorem S17.keep (h : S17 wO w2 W va vb ca cb na nb qa qb) (hx : Below W.heap.size W W') : S17 wO w2 W' va vb ca cb na nb qa qb where
  k8 := (hx.block _ (Array.getElem?_eq_some_iff.1 h.k8).1).trans h.k8
  k9 := (hx.block _ (Array.getElem?_eq_some_iff.1 h.k9).1).trans h.k9
  oa := h.oa.below hx
  ob := h.ob.below hx
  dj := h.dj
  pa r hr := (h.pa r hr).keep hx
  pb r hr := (h.pb r hr).keep hx
  bl := h.bl.trans (hx.mono h.bl.size)
  bw := h.bw.trans (hx.mono h.bw.size)
  sz := h.sz
theorem S17.appA (h : S17 wO w2 W va vb ca cb na nb qa qb) {v' : Value} {L : List Pt} {p : Option Addr} {k : Nat} (ho : W'.ownsRow wO.heap.size 40 1 v' (na + 1) (rcs qa ++ [.slice p L.length k])) (hg : W.grownBy W' va.ownBlock) (hat : v'.ownBlock = va.ownBlock ∨ v'.ownBlock = some W.heap.size) (hp : PcT W ⟨L, p, k⟩) :
    S17 wO w2 W' v' vb ca cb (na + 1) nb (qa ++ [⟨L, p, k⟩]) qb where
  k8 := ((KeepS.of_row (S := fun T => T = 39) h.oa (by decide) hg).2 _ _ _ _ h.k8 rfl).trans h.k8
  k9 := ((KeepS.of_row (S := fun T => T = 39) h.oa (by decide) hg).2 _ _ _ _ h.k9 rfl).trans h.k9
  oa := by rw [rcs_snoc]; exact ho
  ob := h.ob.kept hg h.dj.kept
  dj := h.dj.left hat (fun k hk => (h.ob.lt k hk).2)
  pa r hr := by
    rcases List.mem_append.1 hr with hr | hr
    · exact (h.pa r hr).keepS (S := fun T => T = 46) rfl (KeepS.of_row h.oa (by decide) hg)
    · rw [List.mem_singleton.1 hr]; exact hp.keepS (S := fun T => T = 46) rfl (KeepS.of_row h.oa (by decide) hg)
  pb r hr := (h.pb r hr).keepS (S := fun T => T = 46) rfl (KeepS.of_row h.oa (by decide) hg)
  bl := h.bl.grown hg h.bl.size (fun k hk => (h.oa.lt k hk).1)
  bw := h.bw.grown hg h.bw.size (fun k hk => Nat.le_trans h.sz (h.oa.lt k hk).1)
  sz := h.sz
theorem S17.appB (h : S17 wO w2 W va vb ca cb na nb qa qb) {v' : Value} {L : List Pt} {p : Option Addr} {k : Nat} (ho : W'.ownsRow wO.heap.size 40 1 v' (nb + 1) (rcs qb ++ [.slice p L.length k])) (hg : W.grownBy W' vb.ownBlock) (hat : v'.ownBlock = vb.ownBlock ∨ v'.ownBlock = some W.heap.size) (hp : PcT W ⟨L, p, k⟩) :
    S17 wO w2 W' va v' ca cb na (nb + 1) qa (qb ++ [⟨L, p, k⟩]) where
  k8 := ((KeepS.of_row (S := fun T => T = 39) h.ob (by decide) hg).2 _ _ _ _ h.k8 rfl).trans h.k8
  k9 := ((KeepS.of_row (S := fun T => T = 39) h.ob (by decide) hg).2 _ _ _ _ h.k9 rfl).trans h.k9
  ob := by rw [rcs_snoc]; exact ho
  oa := h.oa.kept hg h.dj.symm.kept
  dj := (h.dj.symm.left hat (fun k hk => (h.oa.lt k hk).2)).symm
  pb r hr := by
    rcases List.mem_append.1 hr with hr | hr
    · exact (h.pb r hr).keepS (S := fun T => T = 46) rfl (KeepS.of_row h.ob (by decide) hg)
    · rw [List.mem_singleton.1 hr]; exact hp.keepS (S := fun T => T = 46) rfl (KeepS.of_row h.ob (by decide) hg)
  pa r hr := (h.pa r hr).keepS (S := fun T => T = 46) rfl (KeepS.of_row h.ob (by decide) hg)
  bl := h.bl.grown hg h.bl.size (fun k hk => (h.ob.lt k hk).1)
  bw := h.bw.grown hg h.bw.size (fun k hk => Nat.le_trans h.sz (h.ob.lt k hk).1)
  sz := h.sz
theorem S17.stA (h : S17 wO w2 W va vb ca cb na nb qa qb) : S17 wO w2 (W.setCell ⟨wO.heap.size, 0, none⟩ va) va vb va cb na nb qa qb where
  k8 := blkT_set (vs := [ca, .slice none 0 0]) h.k8 0 va
  k9 := (Below.heap_setCell _ ⟨wO.heap.size, 0, none⟩ _ _ (show wO.heap.size + 1 ≠ wO.heap.size by omega)).trans h.k9
  oa := ownsRow_box h.oa h.k8 (by decide) 0 va
  ob := ownsRow_box h.ob h.k8 (by decide) 0 va
  dj := h.dj
  pa r hr := (h.pa r hr).keepS (S := fun T => T = 46) rfl (KeepS.store h.k8 (by decide) _)
  pb r hr := (h.pb r hr).keepS (S := fun T => T = 46) rfl (KeepS.store h.k8 (by decide) _)
  bl := h.bl.setCell (p := ⟨wO.heap.size, 0, none⟩) (Nat.le_refl _) va
  bw := h.bw.setCell (p := ⟨wO.heap.size, 0, none⟩) h.sz va
  sz := h.sz
theorem S17.stB (h : S17 wO w2 W va vb ca cb na nb qa qb) : S17 wO w2 (W.setCell ⟨wO.heap.size + 1, 0, none⟩ vb) va vb ca vb na nb qa qb where
  k9 := blkT_set (vs := [cb, .slice none 0 0]) h.k9 0 vb
  k8 := (Below.heap_setCell _ ⟨wO.heap.size + 1, 0, none⟩ _ _ (show wO.heap.size ≠ wO.heap.size + 1 by omega)).trans h.k8
  oa := ownsRow_box h.oa h.k9 (by decide) 0 vb
  ob := ownsRow_box h.ob h.k9 (by decide) 0 vb
  dj := h.dj
  pa r hr := (h.pa r hr).keepS (S := fun T => T = 46) rfl (KeepS.store h.k9 (by decide) _)
  pb r hr := (h.pb r hr).keepS (S := fun T => T = 46) rfl (KeepS.store h.k9 (by decide) _)
  bl := h.bl.setCell (p := ⟨wO.heap.size + 1, 0, none⟩) (Nat.le_succ _) vb
  bw := h.bw.setCell (p := ⟨wO.heap.size + 1, 0, none⟩) (Nat.le_succ_of_le h.sz) vb
  sz := h.sz
end
/-- Two rows of faces under way. -/
structure S18 (w2 W : World) (vm vs : Value) (nm ns : Nat) (gs hs : List Fc) : Prop where
  om : W.ownsRow w2.heap.size 39 2 vm nm (fcs gs)
  os : W.ownsRow w2.heap.size 39 2 vs ns (fcs hs)
  dj : Disj vm vs
  gt : ∀ f ∈ gs, FcT W f ∧ f.ls.length ≤ 10
  ht : ∀ f ∈ hs, FcT W f ∧ f.ls.length ≤ 10
  bl : Below w2.heap.size w2 W
section
variable {w2 W W' : World} {vm vs : Value} {nm ns : Nat} {gs hs : List Fc}
theorem S18.keep (h : S18 w2 W vm vs nm ns gs hs) (hx : Below W.heap.size W W') : S18 w2 W' vm vs nm ns gs hs where
  om := h.om.below hx
  os := h.os.below hx
  dj := h.dj
  gt f hf := ⟨(h.gt f hf).1.keep hx, (h.gt f hf).2⟩
  ht f hf := ⟨(h.ht f hf).1.keep hx, (h.ht f hf).2⟩
  bl := h.bl.trans (hx.mono h.bl.size)
theorem S18.appM (h : S18 w2 W vm vs nm ns gs hs) {v' : Value} {f : Fc} (ho : W'.ownsRow w2.heap.size 39 2 v' (nm + 1) (fcs gs ++ f.cells)) (hg : W.grownBy W' vm.ownBlock) (hat : v'.ownBlock = vm.ownBlock ∨ v'.ownBlock = some W.heap.size) (hf : FcT W f) (hl : f.ls.length ≤ 10) :
    S18 w2 W' v' vs (nm + 1) ns (gs ++ [f]) hs where
  om := by rw [fcs_snoc]; exact ho
  os := h.os.kept hg h.dj.kept
  dj := h.dj.left hat (fun k hk => (h.os.lt k hk).2)
  gt g hg2 := by
    rcases List.mem_append.1 hg2 with hm | hm
    · exact ⟨(h.gt g hm).1.keepS (KeepS.of_row h.om faceS_face hg), (h.gt g hm).2⟩
    · rw [List.mem_singleton.1 hm]; exact ⟨hf.keepS (KeepS.of_row h.om faceS_face hg), hl⟩
  ht g hm := ⟨(h.ht g hm).1.keepS (KeepS.of_row h.om faceS_face hg), (h.ht g hm).2⟩
  bl := h.bl.grown hg h.bl.size (fun k hk => (h.om.lt k hk).1)
theorem S18.appS (h : S18 w2 W vm vs nm ns gs hs) {v' : Value} {f : Fc} (ho : W'.ownsRow w2.heap.size 39 2 v' (ns + 1) (fcs hs ++ f.cells)) (hg : W.grownBy W' vs.ownBlock) (hat : v'.ownBlock = vs.ownBlock ∨ v'.ownBlock = some W.heap.size) (hf : FcT W f) (hl : f.ls.length ≤ 10) :
    S18 w2 W' vm v' nm (ns + 1) gs (hs ++ [f]) where
  os := by rw [fcs_snoc]; exact ho
  om := h.om.kept hg h.dj.symm.kept
  dj := (h.dj.symm.left hat (fun k hk => (h.om.lt k hk).2)).symm
  ht g hg2 := by
    rcases List.mem_append.1 hg2 with hm | hm
    · exact ⟨(h.ht g hm).1.keepS (KeepS.of_row h.os faceS_face hg), (h.ht g hm).2⟩
    · rw [List.mem_singleton.1 hm]; exact ⟨hf.keepS (KeepS.of_row h.os faceS_face hg), hl⟩
  gt g hm := ⟨(h.gt g hm).1.keepS (KeepS.of_row h.os faceS_face hg), (h.gt g hm).2⟩
  bl := h.bl.grown hg h.bl.size (fun k hk => (h.os.lt k hk).1)
end
set_option maxHeartbeats 6400000 in
theorem cmoves_walk (a : Option Addr) (c : Nat) (X : List Fc) (hl : X.length ≤ c) (hm : c ≤ maxLen) (bx bY : Int) (hbx : (Lit.int .i64 bx).wf = true) (hby : (Lit.int .i64 bY).wf = true) (w : World) (hr : Rd w a (fcs X)) (hx : ∀ y ∈ X, FcIn w y) :
    Calls Try.prog 7 #[.slice a X.length c, .agg #[.int .i64 bx, .int .i64 bY]] w fun e w' => e = .returned (.bool true) ∧ Below w.heap.size w w' := by
  have hbA := Below.new w (.cells #[.int .i64 bx, .int .i64 bY] 46)
  have kb0 := Blk.new w [.int .i64 bx, .int .i64 bY] 46
  have HFW := Lib.hid (fewb_any a c X hl hm 40 (by decide) (w.alloc (.cells #[.int .i64 bx, .int .i64 bY] 46)) (hr.keep hbA) (fun f hf => ⟨(hx f hf).in.1.keep hbA, (hx f hf).in.2⟩))
  have HWF := Lib.hid (fun f hf => (hx f hf).2.2)
  generalize X.length = N0 at *
  clear hr hl hm
  go_enter Try.func7, Try.ntmps7
  go_wp2_with fail
  refine HFW.out.mono ?_
  rintro e w1 ⟨fs, v, rfl, hO, ⟨hT, hTA⟩, hP, hb1⟩
  obtain ⟨s1, s2, s3, s4, s5⟩ := few_13 hP Pt.Wf (fun f hf => HWF.out f hf)
  have hOA := hO
  obtain ⟨a1, c1, rfl, hc1, hc2, hc3, hR1, -⟩ := hO.form
  have hsz0 : (w.alloc (.cells #[.int .i64 bx, .int .i64 bY] 46)).heap.size = w.heap.size + 1 := by simp
  have hat1 : BkAt (w.heap.size + 1) a1 := by have := owns_bk hOA; rwa [hsz0] at this
  rw [hsz0] at hTA
  have kb1 := kb0.keep hb1
  obtain ⟨vx, hvx⟩ : ∃ v, bx.tmod 1048576 = v := ⟨_, rfl⟩
  obtain ⟨vy, hvy⟩ : ∃ v, bY.tmod 1048576 = v := ⟨_, rfl⟩
  have hvx1 : -1048576 < vx ∧ vx < 1048576 := by rw [← hvx]; exact tmod_bd bx
  have hvy1 : -1048576 < vy ∧ vy < 1048576 := by rw [← hvy]; exact tmod_bd bY
  have p0 := kb1.cell 0 rfl
  have p1 := kb1.cell 1 rfl
  have p2 := kb1.free 0
  have p3 := kb1.free 1
  have hK2 := (KeepN.setCell w1 w.heap.size 0 (.int .i64 vx)).trans (KeepN.setCell (w1.setCell ⟨w.heap.size, 0, none⟩ (.int .i64 vx)) w.heap.size 1 (.int .i64 vy))
  have hR2 := hR1.keepN hat1 hK2
  have hT2 : ∀ f ∈ fs, FcT ((w1.setCell ⟨w.heap.size, 0, none⟩ (.int .i64 vx)).setCell ⟨w.heap.size, 1, none⟩ (.int .i64 vy)) f := fun f hf => (hT f hf).keepN (hTA f hf) hK2
  have kb2 := (kb1.set 0 (.int .i64 vx)).set 1 (.int .i64 vy)
  have hb2 := ((hbA.trans (hb1.mono hbA.size)).setCell (p := ⟨w.heap.size, 0, none⟩) (Nat.le_refl _) (.int .i64 vx)).setCell (p := ⟨w.heap.size, 1, none⟩) (Nat.le_refl _) (.int .i64 vy)
  clear hR1 hT hTA hO hOA hat1 hK2 kb1 kb0 hbA hsz0 HFW hP HWF hx hb1
  have hR2' : Rd ((w1.setCell ⟨w.heap.size, 0, none⟩ (.int .i64 vx)).setCell ⟨w.heap.size, 1, none⟩ (.int .i64 vy)) a1 (fcs fs) := hR2
  replace kb2 : Blk ((w1.setCell ⟨w.heap.size, 0, none⟩ (.int .i64 vx)).setCell ⟨w.heap.size, 1, none⟩ (.int .i64 vy)) w.heap.size [.int .i64 vx, .int .i64 vy] := kb2
  obtain ⟨B0, hB0⟩ : ∃ b, w.heap.size = b := ⟨_, rfl⟩
  rw [hB0] at p0 p1 p2 p3 hR2 hR2' hT2 kb2
  have HB2 : Hid (Below B0 w ((w1.setCell ⟨B0, 0, none⟩ (.int .i64 vx)).setCell ⟨B0, 1, none⟩ (.int .i64 vy))) := Lib.hid (by rw [← hB0]; exact hb2)
  have HB0 := Lib.hid hB0
  rw [hB0]
  clear hb2 hR2 hB0
  go_wp2
  clear p0 p1 p2 p3 hvx hvy
  generalize (w1.setCell ⟨B0, 0, none⟩ (.int .i64 vx)).setCell ⟨B0, 1, none⟩ (.int .i64 vy) = w2 at *
  have HR1 := Lib.hid hR2'
  have HT := Lib.hid hT2
  have HKB := Lib.hid kb2
  have HFF : Hid (∀ f ∈ fs, FewF f) := Lib.hid (fun f hf => ⟨s2 f hf, s5 f hf⟩)
  obtain ⟨n, hn⟩ : ∃ n, fs.length = n := ⟨_, rfl⟩
  have HN := Lib.hid hn
  have HS3 := Lib.hid s3
  rw [hn] at hc1 s1 ⊢
  unfold maxLen at hc2
  clear hR2' hT2 kb2 s2 s3 s4 s5 hn
  go_loopw [5, 6, 7] (fun m s i wr => ∃ (k : Nat), k ≤ n ∧ i = .int .i64 k ∧ Hid (∃ gs hs : List Fc, gs.length = k ∧ hs.length = k ∧ Hid (gs.map Fc.rings = mapF (Pt.mv ⟨vx, vy⟩) ((fs.take k).map Fc.rings)) ∧ Hid (hs.map Fc.rings = mapF Pt.two ((fs.take k).map Fc.rings)) ∧ wr.ownsRow w2.heap.size 39 2 m k (fcs gs) ∧ wr.ownsRow w2.heap.size 39 2 s k (fcs hs) ∧ Disj m s ∧ Hid (∀ f ∈ gs, FcT wr f ∧ f.ls.length ≤ 10) ∧ Hid (∀ f ∈ hs, FcT wr f ∧ f.ls.length ≤ 10) ∧ Hid (SmA ((fs.take k).map Fc.rings)) ∧ Below w2.heap.size w2 wr)) (fun _ _ i _ => n - (intOf i).toNat)
  case atStart => exact ⟨0, by omega, rfl, Lib.hid ⟨[], [], rfl, rfl, Lib.hid (by simp [mapF]), Lib.hid (by simp [mapF]), World.ownsRow_nil _ _ _ _, World.ownsRow_nil _ _ _ _, (fun k h => by cases h), Lib.hid (by simp), Lib.hid (by simp), Lib.hid (by simp [SmA]), Below.refl _ _⟩⟩
  case round =>
    obtain ⟨wO, rfl⟩ : ∃ x, x = wr := ⟨_, rfl⟩
    obtain ⟨k, hk, rfl, ⟨gs, hs, hgl, hhl, HG, HH, hoM, hoS, hdM, HGT, HHT, HSM, hbl⟩⟩ := hrel
    by_cases hlt : k < n
    · as_aux_lemma =>
      have hlt' : (k : Int) < (n : Int) := by omega
      have hkl : k < fs.length := by rw [HN.out]; exact hlt
      obtain ⟨b, o, rfl, hba, f0, f1⟩ := HR1.out.fc k hkl
      have HFT := Lib.hid (HT.out _ (List.getElem_mem hkl))
      have HFQ := Lib.hid (HFF.out _ (List.getElem_mem hkl))
      have HTK : Hid ((fs.take (k + 1)).map Fc.rings = (fs.take k).map Fc.rings ++ [fs[k].rings]) := Lib.hid (by rw [List.take_succ_eq_append_getElem hkl, List.map_append, List.map_singleton])
      generalize fs[k] = f at *
      obtain ⟨rs, ra, rc, ls, aa, ac⟩ := f
      dsimp only [Fc.rval, Fc.aval] at f0 f1
      obtain ⟨RN, hRN⟩ : ∃ R, rs.length = R := ⟨_, rfl⟩
      have HRN := Lib.hid hRN
      have hR8 : RN ≤ 8 := by rw [← hRN]; exact HFQ.out.1.1
      rw [hRN] at f0
      clear hRN f1 hkl
      have hsr := hbl.size
      have hba' : b < wO.heap.size := by omega
      have e0 := (hbl.cell (p := ⟨b, o + k * 2, none⟩) hba).trans f0
      have hbB := (Below.refl wO.heap.size wO).alloc (Nat.le_refl _) (.cells #[.slice none 0 0, .slice none 0 0] 39)
      have hbC := hbB.alloc (by simp) (.cells #[.slice none 0 0, .slice none 0 0] 39)
      have k8 : ((wO.alloc (.cells #[.slice none 0 0, .slice none 0 0] 39)).alloc (.cells #[.slice none 0 0, .slice none 0 0] 39)).heap[wO.heap.size]? = some (.cells #[.slice none 0 0, .slice none 0 0] 39 (0, 0)) := (Below.heap_alloc _ _ _ (by simp)).trans (heap_alloc_new wO _)
      have k9 : ((wO.alloc (.cells #[.slice none 0 0, .slice none 0 0] 39)).alloc (.cells #[.slice none 0 0, .slice none 0 0] 39)).heap[wO.heap.size + 1]? = some (.cells #[.slice none 0 0, .slice none 0 0] 39 (0, 0)) := by
        have := heap_alloc_new (wO.alloc (.cells #[.slice none 0 0, .slice none 0 0] 39)) (.cells #[.slice none 0 0, .slice none 0 0] 39)
        rwa [show (wO.alloc (.cells #[.slice none 0 0, .slice none 0 0] 39)).heap.size = wO.heap.size + 1 by simp] at this
      clear hbB
      go_wp2
      go_loopw [10] (fun kk W => ∃ (j : Nat), j ≤ RN ∧ kk = .int .i64 j ∧ Hid (∃ (qa qb : List PC) (va vb : Value), qa.length = j ∧ qb.length = j ∧ Hid (qa.map PC.l = (rs.take j).map (fun r => r.l.map (Pt.mv ⟨vx, vy⟩))) ∧ Hid (qb.map PC.l = (rs.take j).map (fun r => r.l.map Pt.two)) ∧ Hid (S17 wO w2 W va vb va vb j j qa qb) ∧ Hid (SmF ((rs.take j).map PC.l)))) (fun kk _ => RN - (intOf kk).toNat)
      case atStart => exact ⟨0, by omega, rfl, Lib.hid ⟨[], [], .slice none 0 0, .slice none 0 0, rfl, rfl, Lib.hid rfl, Lib.hid rfl, Lib.hid ⟨k8, k9, World.ownsRow_nil _ _ _ _, World.ownsRow_nil _ _ _ _, (fun k h => by cases h), by simp, by simp, hbC, hbl.trans (hbC.mono hsr), hsr⟩, Lib.hid (by simp [SmF])⟩⟩
      case round =>
        obtain ⟨j, hj, rfl, ⟨qa, qb, va, vb, hqa, hqb, HQA, HQB, HST7, HSR⟩⟩ := hrel
        have hbr := HST7.out.bl
        have d0 := (hbr.cell (p := ⟨b, o + k * 2, none⟩) hba').trans e0
        by_cases hlr : j < RN
        · as_aux_lemma =>
          have r1' : (j : Int) < (RN : Int) := by omega
          have hjl : j < rs.length := by rw [HRN.out]; exact hlr
          have hbw := hbl.trans (hbr.mono hsr)
          obtain ⟨b2, o2, hra, hb2, g0⟩ := (HFT.out.1.1.1).rc j hjl
          subst hra
          have HRO := Lib.hid (HFT.out.1.2.1 _ (List.getElem_mem hjl))
          have hRL := HFQ.out.1.2.2 _ (List.getElem_mem hjl)
          have HRS : Hid (rs.take (j + 1) = rs.take j ++ [rs[j]]) := Lib.hid (List.take_succ_eq_append_getElem hjl)
          generalize rs[j] = R at *
          obtain ⟨L, Rp, Rc⟩ := R
          obtain ⟨LN, hLN⟩ : ∃ R, L.length = R := ⟨_, rfl⟩
          have HLN := Lib.hid hLN
          have q1 := HRO.out.2.1
          have q2 := HRO.out.2.2.1
          dsimp only [PC.val] at g0 q1 q2 hRL
          rw [hLN] at g0 q1 hRL
          clear hLN hjl
          unfold maxLen at q2
          have hb2w : b2 < wr.heap.size := by have := hbw.size; omega
          have g1 := (hbw.cell (p := ⟨b2, o2 + j, none⟩) hb2).trans g0
          obtain ⟨wJ, rfl⟩ : ∃ x, x = wr := ⟨_, rfl⟩
          go_wp2
          go_loopw [11] (fun nn W => ∃ (t : Nat), t ≤ LN ∧ nn = .int .i64 t ∧ Hid (SmR (L.take t)) ∧ Hid (Below wJ.heap.size wJ W)) (fun nn _ => LN - (intOf nn).toNat)
          case atStart => exact ⟨0, by omega, rfl, Lib.hid (by simp [SmR]), Lib.hid (Below.refl _ _)⟩
          case round =>
            obtain ⟨t, ht, rfl, HST, HBT⟩ := hrel
            have c0 := (HBT.out.cell (p := ⟨b, o + k * 2, none⟩) (by have := hbr.size; show b < _; omega)).trans d0
            have c1x := (HBT.out.cell (p := ⟨b2, o2 + j, none⟩) hb2w).trans g1
            have hbx := hbw.trans (HBT.out.mono hbw.size)
            by_cases htl : t < LN
            · as_aux_lemma =>
              have htl' : (t : Int) < (LN : Int) := by omega
              have htk : t < L.length := by rw [HLN.out]; exact htl
              obtain ⟨b3, o3, hp3, hb3, x0, x1⟩ := (HRO.out.1.keep hbx).pt t htk
              dsimp only at hp3
              subst hp3
              have HLT : Hid (L.take (t + 1) = L.take t ++ [L[t]]) := Lib.hid (List.take_succ_eq_append_getElem htk)
              generalize L[t] = p at *
              obtain ⟨px, py⟩ := p
              dsimp only at x0 x1
              have hbn := Below.new wr (.cells #[.int .i64 px, .int .i64 py] 46)
              have kn := Blk.new wr [.int .i64 px, .int .i64 py] 46
              have n0 := kn.cell 0 rfl
              have n1 := kn.cell 1 rfl
              have HBN := Lib.hid (HBT.out.trans (hbn.mono HBT.out.size))
              have HBW := Lib.hid (hbx.trans (hbn.mono hbx.size))
              have hsz : w.heap.size ≤ w2.heap.size := HB2.out.size
              have HBV : Hid (Below w.heap.size w (wr.alloc (.cells #[.int .i64 px, .int .i64 py] 46))) := Lib.hid (by
                have h1 := HB2.out
                rw [← HB0.out] at h1
                exact h1.trans (HBW.out.mono h1.size))
              obtain ⟨MX, hMX⟩ : ∃ m, max px py = m := ⟨_, rfl⟩
              have m1 : max py px = MX := by omega
              have m2 : (if px < py then py else px) = MX := by split <;> omega
              have m3 : (if py < px then px else py) = MX := by split <;> omega
              obtain ⟨MN, hMN⟩ : ∃ m, min px py = m := ⟨_, rfl⟩
              have m4 : min py px = MN := by omega
              have m5 : (if px < py then px else py) = MN := by split <;> omega
              have m6 : (if py < px then py else px) = MN := by split <;> omega
              clear kn htk hbn
              by_cases hA : 1048576 < MX
              · go_wp2_with fail
                refine (known13 _).mono ?_
                rintro e w9 ⟨rfl, hb9⟩
                have hbz := HBV.out.trans (hb9.mono HBV.out.size)
                go_wp2_with fail
                go_ret
                exact ⟨rfl, hbz⟩
              · by_cases hB : MN < -1048576
                · go_wp2_with fail
                  refine (known13 _).mono ?_
                  rintro e w9 ⟨rfl, hb9⟩
                  have hbz := HBV.out.trans (hb9.mono HBV.out.size)
                  go_wp2_with fail
                  go_ret
                  exact ⟨rfl, hbz⟩
                · have HS2 : Hid (SmR (L.take (t + 1))) := Lib.hid (by
                    rw [HLT.out]
                    intro q hq
                    rcases List.mem_append.1 hq with hq | hq
                    · exact HST.out q hq
                    · rw [List.mem_singleton.1 hq]
                      unfold SmP; dsimp only; omega)
                  go_wp2_with fail
                  go_roundw
                  case rel => exact ⟨t + 1, by omega, by go_num, HS2, HBN⟩
                  case measure => simp [intOf]; omega
            · obtain rfl : LN = t := by omega
              have htl' : ¬ (LN : Int) < (LN : Int) := by omega
              have HSL : Hid (SmR L) := Lib.hid (by have := HST.out; rwa [List.take_of_length_le (by rw [HLN.out]; exact Nat.le_refl _)] at this)
              clear HST htl ht
              go_wp2_with fail
              refine wp_region_stage2 31 [0, 1, 2, 3, 4, 5, 6, 7, 8, 9, 10, 14, 15, 16, 17, 18, 19, 20, 21, 22, 23, 27, 29] [28, 30] [30] (fun W => W.cell? ⟨wO.heap.size, 0, none⟩ = some va) (fun W => W.cell? ⟨wO.heap.size + 1, 0, none⟩ = some vb) (fun W => Below w2.heap.size w2 W) rfl (by kernel_rfl) (by kernel_rfl) ?_
              have hT0 : S17 wO w2 wr.drew va vb va vb j j qa qb := HST7.out.keep HBT.out.drew
              have HMV := Lib.hid (fun (W : World) (hW : Below w2.heap.size w2 W) => movedR_any ⟨vx, vy⟩ Rp Rc L (by rw [HLN.out]; omega) HRO.out.2.2.2 (fun p hp => by have := HSL.out p hp; unfold SmP at this; exact ⟨IntWalk.i64_in _ (by dsimp only; omega), IntWalk.i64_in _ (by dsimp only; omega)⟩) W (HRO.out.1.keep hW))
              have HSC := Lib.hid (fun (W : World) (hW : Below w2.heap.size w2 W) => scaledR_any Rp Rc L (by rw [HLN.out]; omega) HRO.out.2.2.2 (fun p hp => by have := HSL.out p hp; unfold SmP at this; exact ⟨IntWalk.i64_in _ (by omega), IntWalk.i64_in _ (by omega)⟩) W (HRO.out.1.keep hW))
              rw [HLN.out] at HMV HSC
              clear HBT c0 c1x hbx
              generalize wr.drew = W0 at *
              have hI := hT0.bw
              have hS1 : W0.cell? ⟨wO.heap.size, 0, none⟩ = some va := by simp [World.cell?, hT0.k8]
              have hS2 : W0.cell? ⟨wO.heap.size + 1, 0, none⟩ = some vb := by simp [World.cell?, hT0.k9]
              (refine stg2_free 0 _ ?_ (by kernel_rfl) (by kernel_rfl) rfl rfl ?_ hI ?_; rotate_left; · (intro w' _; go_simp; with_reducible rfl)); try simp only [Act.put, List.getElem_toArray, List.getElem_cons_succ, List.getElem_cons_zero, List.setIfInBounds_toArray, List.set_cons_zero, List.set_cons_succ]
              refine stg2_light1 1 _ (va) (by kernel_rfl) (by kernel_rfl) (by kernel_rfl) rfl rfl ?_ hS1 hI ?_
              · intro w' hS _
                have c7 := hS
                clear hS
                go_simp
              try simp only [Act.put, List.getElem_toArray, List.getElem_cons_succ, List.getElem_cons_zero, List.setIfInBounds_toArray, List.set_cons_zero, List.set_cons_succ]
              (refine stg2_free 2 _ ?_ (by kernel_rfl) (by kernel_rfl) rfl rfl ?_ hI ?_; rotate_left; · (intro w' _; go_simp; with_reducible rfl)); try simp only [Act.put, List.getElem_toArray, List.getElem_cons_succ, List.getElem_cons_zero, List.setIfInBounds_toArray, List.set_cons_zero, List.set_cons_succ]
              (refine stg2_free 3 _ ?_ (by kernel_rfl) (by kernel_rfl) rfl rfl ?_ hI ?_; rotate_left; · (intro w' _; go_simp; with_reducible rfl)); try simp only [Act.put, List.getElem_toArray, List.getElem_cons_succ, List.getElem_cons_zero, List.setIfInBounds_toArray, List.set_cons_zero, List.set_cons_succ]
              (refine stg2_free 4 _ ?_ (by kernel_rfl) (by kernel_rfl) rfl rfl ?_ hI ?_; rotate_left; · (intro w' _; go_simp; with_reducible rfl)); try simp only [Act.put, List.getElem_toArray, List.getElem_cons_succ, List.getElem_cons_zero, List.setIfInBounds_toArray, List.set_cons_zero, List.set_cons_succ]
              (refine stg2_free 5 _ ?_ (by kernel_rfl) (by kernel_rfl) rfl rfl ?_ hI ?_; rotate_left; · (intro w' _; go_simp; with_reducible rfl)); try simp only [Act.put, List.getElem_toArray, List.getElem_cons_succ, List.getElem_cons_zero, List.setIfInBounds_toArray, List.set_cons_zero, List.set_cons_succ]
              refine stg2_free 6 _ (.slice (some ⟨b2, o2, none⟩) RN rc) (by kernel_rfl) (by kernel_rfl) rfl rfl ?_ hI ?_
              · intro w' hJ
                have c7 := (hJ.cell (p := ⟨b, o + k * 2, none⟩) hba).trans f0
                clear hJ
                go_simp
              try simp only [Act.put, List.getElem_toArray, List.getElem_cons_succ, List.getElem_cons_zero, List.setIfInBounds_toArray, List.set_cons_zero, List.set_cons_succ]
              (refine stg2_free 7 _ ?_ (by kernel_rfl) (by kernel_rfl) rfl rfl ?_ hI ?_; rotate_left; · (intro w' _; go_simp; with_reducible rfl)); try simp only [Act.put, List.getElem_toArray, List.getElem_cons_succ, List.getElem_cons_zero, List.setIfInBounds_toArray, List.set_cons_zero, List.set_cons_succ]
              (refine stg2_free 8 _ ?_ (by kernel_rfl) (by kernel_rfl) rfl rfl ?_ hI ?_; rotate_left; · (intro w' _; go_simp; with_reducible rfl)); try simp only [Act.put, List.getElem_toArray, List.getElem_cons_succ, List.getElem_cons_zero, List.setIfInBounds_toArray, List.set_cons_zero, List.set_cons_succ]
              refine stg2_free 9 _ (.slice Rp LN Rc) (by kernel_rfl) (by kernel_rfl) rfl rfl ?_ hI ?_
              · intro w' hJ
                have c7 := (hJ.cell (p := ⟨b2, o2 + j, none⟩) hb2).trans g0
                clear hJ
                go_simp
              try simp only [Act.put, List.getElem_toArray, List.getElem_cons_succ, List.getElem_cons_zero, List.setIfInBounds_toArray, List.set_cons_zero, List.set_cons_succ]
              refine stg2_free 10 _ (.agg #[.int .i64 vx, .int .i64 vy]) (by kernel_rfl) (by kernel_rfl) rfl rfl ?_ hI ?_
              · intro w' hJ
                have c7 := (HKB.out.keep hJ).cell 0 rfl
                have c8 := (HKB.out.keep hJ).cell 1 rfl
                clear hJ
                go_simp
              try simp only [Act.put, List.getElem_toArray, List.getElem_cons_succ, List.getElem_cons_zero, List.setIfInBounds_toArray, List.set_cons_zero, List.set_cons_succ]
              (refine stg2_free 14 _ ?_ (by kernel_rfl) (by kernel_rfl) rfl rfl ?_ hI ?_; rotate_left; · (intro w' _; go_simp; with_reducible rfl)); try simp only [Act.put, List.getElem_toArray, List.getElem_cons_succ, List.getElem_cons_zero, List.setIfInBounds_toArray, List.set_cons_zero, List.set_cons_succ]
              refine stg2_light2 15 _ (vb) (by kernel_rfl) (by kernel_rfl) (by kernel_rfl) rfl rfl ?_ hS2 hI ?_
              · intro w' hS _
                have c7 := hS
                clear hS
                go_simp
              try simp only [Act.put, List.getElem_toArray, List.getElem_cons_succ, List.getElem_cons_zero, List.setIfInBounds_toArray, List.set_cons_zero, List.set_cons_succ]
              (refine stg2_free 16 _ ?_ (by kernel_rfl) (by kernel_rfl) rfl rfl ?_ hI ?_; rotate_left; · (intro w' _; go_simp; with_reducible rfl)); try simp only [Act.put, List.getElem_toArray, List.getElem_cons_succ, List.getElem_cons_zero, List.setIfInBounds_toArray, List.set_cons_zero, List.set_cons_succ]
              (refine stg2_free 17 _ ?_ (by kernel_rfl) (by kernel_rfl) rfl rfl ?_ hI ?_; rotate_left; · (intro w' _; go_simp; with_reducible rfl)); try simp only [Act.put, List.getElem_toArray, List.getElem_cons_succ, List.getElem_cons_zero, List.setIfInBounds_toArray, List.set_cons_zero, List.set_cons_succ]
              (refine stg2_free 18 _ ?_ (by kernel_rfl) (by kernel_rfl) rfl rfl ?_ hI ?_; rotate_left; · (intro w' _; go_simp; with_reducible rfl)); try simp only [Act.put, List.getElem_toArray, List.getElem_cons_succ, List.getElem_cons_zero, List.setIfInBounds_toArray, List.set_cons_zero, List.set_cons_succ]
              (refine stg2_free 19 _ ?_ (by kernel_rfl) (by kernel_rfl) rfl rfl ?_ hI ?_; rotate_left; · (intro w' _; go_simp; with_reducible rfl)); try simp only [Act.put, List.getElem_toArray, List.getElem_cons_succ, List.getElem_cons_zero, List.setIfInBounds_toArray, List.set_cons_zero, List.set_cons_succ]
              refine stg2_free 20 _ (.slice (some ⟨b2, o2, none⟩) RN rc) (by kernel_rfl) (by kernel_rfl) rfl rfl ?_ hI ?_
              · intro w' hJ
                have c7 := (hJ.cell (p := ⟨b, o + k * 2, none⟩) hba).trans f0
                clear hJ
                go_simp
              try simp only [Act.put, List.getElem_toArray, List.getElem_cons_succ, List.getElem_cons_zero, List.setIfInBounds_toArray, List.set_cons_zero, List.set_cons_succ]
              (refine stg2_free 21 _ ?_ (by kernel_rfl) (by kernel_rfl) rfl rfl ?_ hI ?_; rotate_left; · (intro w' _; go_simp; with_reducible rfl)); try simp only [Act.put, List.getElem_toArray, List.getElem_cons_succ, List.getElem_cons_zero, List.setIfInBounds_toArray, List.set_cons_zero, List.set_cons_succ]
              (refine stg2_free 22 _ ?_ (by kernel_rfl) (by kernel_rfl) rfl rfl ?_ hI ?_; rotate_left; · (intro w' _; go_simp; with_reducible rfl)); try simp only [Act.put, List.getElem_toArray, List.getElem_cons_succ, List.getElem_cons_zero, List.setIfInBounds_toArray, List.set_cons_zero, List.set_cons_succ]
              refine stg2_free 23 _ (.slice Rp LN Rc) (by kernel_rfl) (by kernel_rfl) rfl rfl ?_ hI ?_
              · intro w' hJ
                have c7 := (hJ.cell (p := ⟨b2, o2 + j, none⟩) hb2).trans g0
                clear hJ
                go_simp
              try simp only [Act.put, List.getElem_toArray, List.getElem_cons_succ, List.getElem_cons_zero, List.setIfInBounds_toArray, List.set_cons_zero, List.set_cons_succ]
              clear hI hS1 hS2
              refine stg2_one 11 _ (by kernel_rfl) (by kernel_rfl) rfl rfl (fun K hK => ?_)
              go_step
              refine (HMV.out W0 hT0.bw).mono ?_
              rintro e W1 ⟨⟨u1v, rfl, ho1⟩, hx1⟩
              obtain ⟨p1, k1, rfl, f1, f2, f3, f4, -⟩ := ho1.form
              have hM : (L.map (Pt.mv ⟨vx, vy⟩)).length = LN := by rw [List.length_map, HLN.out]
              have hPN : PcT W1 ⟨L.map (Pt.mv ⟨vx, vy⟩), p1, k1⟩ := ⟨⟨f4, by dsimp only; rw [hM]; exact f1, f2, f3⟩, TypB.of_owns ho1⟩
              have hT1 := hT0.keep hx1
              refine hK.out _ _ hT1.bw (fun _ _ => by simp only [World.cell?, hT1.k8]; rfl) (fun _ _ => by simp only [World.cell?, hT1.k9]; rfl) ?_
              clear hK K hx1 ho1 f1 f2 f3 f4 hT0
              try simp only [Act.put, List.getElem_toArray, List.getElem_cons_succ, List.getElem_cons_zero, List.setIfInBounds_toArray, List.set_cons_zero, List.set_cons_succ]
              refine stg2_one 12 _ (by kernel_rfl) (by kernel_rfl) rfl rfl (fun K hK => ?_)
              go_step
              have hx2 := Below.new W1 (.cells #[.slice p1 LN k1] 40)
              have rd := Rd.lit W1 W1.heap.size [.slice p1 LN k1] 40 rfl
              have hT2 := hT1.keep hx2
              replace hPN := hPN.keep hx2
              refine hK.out _ _ hT2.bw (fun _ _ => by simp only [World.cell?, hT2.k8]; rfl) (fun _ _ => by simp only [World.cell?, hT2.k9]; rfl) ?_
              obtain ⟨BL, hBL⟩ : ∃ b, W1.heap.size = b := ⟨_, rfl⟩
              rw [hBL] at rd ⊢
              clear hK K hx2 hT1 hBL
              generalize W1.alloc (.cells #[.slice p1 LN k1] 40) = W2 at *
              try simp only [Act.put, List.getElem_toArray, List.getElem_cons_succ, List.getElem_cons_zero, List.setIfInBounds_toArray, List.set_cons_zero, List.set_cons_succ]
              refine stg2_one 13 _ (by kernel_rfl) (by kernel_rfl) rfl rfl (fun K hK => ?_)
              refine wp_app_at (.tmp 83) (.tmp 94) 36 rfl wO.heap.size 40 (.slice none 0 0) 1 24 Try.underlying36 Try.infoRow rfl (by decide) va j (rcs qa) rfl hT2.oa ⟨BL, 0, none⟩ 1 1 [.slice p1 LN k1] rfl rd rfl (by simp [Value.oneCell']) (by omega) (by decide) hT2.bl.size ?_
              intro v3 W3 ho2 hg2 hat2
              obtain ⟨P3, C3, rfl, -⟩ := ho2.form
              rw [← hM] at ho2
              have hT3 := hT2.appA ho2 hg2 hat2 hPN
              refine hK.out _ _ hT3.bw (fun _ _ => by simp only [World.cell?, hT3.k8]; rfl) (fun _ _ => by simp only [World.cell?, hT3.k9]; rfl) ?_
              clear hK K hT2 hM hPN ho2 hg2 hat2 rd
              try simp only [Act.put, List.getElem_toArray, List.getElem_cons_succ, List.getElem_cons_zero, List.setIfInBounds_toArray, List.set_cons_zero, List.set_cons_succ]
              have hI := hT3.bw
              (refine stg2_free 27 _ ?_ (by kernel_rfl) (by kernel_rfl) rfl rfl ?_ hI ?_; rotate_left; · (intro w' _; go_simp; with_reducible rfl)); try simp only [Act.put, List.getElem_toArray, List.getElem_cons_succ, List.getElem_cons_zero, List.setIfInBounds_toArray, List.set_cons_zero, List.set_cons_succ]
              clear hI
              refine stg2_one 24 _ (by kernel_rfl) (by kernel_rfl) rfl rfl (fun K hK => ?_)
              go_step
              refine (HSC.out W3 hT3.bw).mono ?_
              rintro e W4 ⟨⟨u4v, rfl, ho1⟩, hx1⟩
              obtain ⟨p4, k4, rfl, f1, f2, f3, f4, -⟩ := ho1.form
              have hM : (L.map Pt.two).length = LN := by rw [List.length_map, HLN.out]
              have hPN : PcT W4 ⟨L.map Pt.two, p4, k4⟩ := ⟨⟨f4, by dsimp only; rw [hM]; exact f1, f2, f3⟩, TypB.of_owns ho1⟩
              have hT4 := hT3.keep hx1
              refine hK.out _ _ hT4.bw (fun _ _ => by simp only [World.cell?, hT4.k8]; rfl) (fun _ _ => by simp only [World.cell?, hT4.k9]; rfl) ?_
              clear hK K hx1 ho1 f1 f2 f3 f4 hT3
              try simp only [Act.put, List.getElem_toArray, List.getElem_cons_succ, List.getElem_cons_zero, List.setIfInBounds_toArray, List.set_cons_zero, List.set_cons_succ]
              refine stg2_one 25 _ (by kernel_rfl) (by kernel_rfl) rfl rfl (fun K hK => ?_)
              go_step
              have hx2 := Below.new W4 (.cells #[.slice p4 LN k4] 40)
              have rd := Rd.lit W4 W4.heap.size [.slice p4 LN k4] 40 rfl
              have hT5 := hT4.keep hx2
              replace hPN := hPN.keep hx2
              refine hK.out _ _ hT5.bw (fun _ _ => by simp only [World.cell?, hT5.k8]; rfl) (fun _ _ => by simp only [World.cell?, hT5.k9]; rfl) ?_
              obtain ⟨BL, hBL⟩ : ∃ b, W4.heap.size = b := ⟨_, rfl⟩
              rw [hBL] at rd ⊢
              clear hK K hx2 hT4 hBL
              generalize W4.alloc (.cells #[.slice p4 LN k4] 40) = W5 at *
              try simp only [Act.put, List.getElem_toArray, List.getElem_cons_succ, List.getElem_cons_zero, List.setIfInBounds_toArray, List.set_cons_zero, List.set_cons_succ]
              refine stg2_one 26 _ (by kernel_rfl) (by kernel_rfl) rfl rfl (fun K hK => ?_)
              refine wp_app_at (.tmp 97) (.tmp 107) 36 rfl wO.heap.size 40 (.slice none 0 0) 1 24 Try.underlying36 Try.infoRow rfl (by decide) vb j (rcs qb) rfl hT5.ob ⟨BL, 0, none⟩ 1 1 [.slice p4 LN k4] rfl rd rfl (by simp [Value.oneCell']) (by omega) (by decide) hT5.bl.size ?_
              intro v6 W6 ho2 hg2 hat2
              obtain ⟨P6, C6, rfl, -⟩ := ho2.form
              rw [← hM] at ho2
              have hT6 := hT5.appB ho2 hg2 hat2 hPN
              refine hK.out _ _ hT6.bw (fun _ _ => by simp only [World.cell?, hT6.k8]; rfl) (fun _ _ => by simp only [World.cell?, hT6.k9]; rfl) ?_
              clear hK K hT5 hM hPN ho2 hg2 hat2 rd
              try simp only [Act.put, List.getElem_toArray, List.getElem_cons_succ, List.getElem_cons_zero, List.setIfInBounds_toArray, List.set_cons_zero, List.set_cons_succ]
              refine stg2_one 28 _ (by kernel_rfl) (by kernel_rfl) rfl rfl (fun K hK => ?_)
              have c7 : W6.cell? ⟨wO.heap.size, 0, none⟩ = some va := by simp [World.cell?, hT6.k8]
              have c8 : W6.frozen? ⟨wO.heap.size, 0, none⟩ = false := by simp [World.frozen?, hT6.k8]
              go_step
              have hT7 := hT6.stA
              refine hK.out _ _ hT7.bw (fun h => by cases h) (fun _ _ => by simp only [World.cell?, hT7.k9]; rfl) ?_
              clear hK K hT6 c7 c8
              generalize W6.setCell ⟨wO.heap.size, 0, none⟩ (.slice P3 (j + 1) C3) = W7 at *
              try simp only [Act.put, List.getElem_toArray, List.getElem_cons_succ, List.getElem_cons_zero, List.setIfInBounds_toArray, List.set_cons_zero, List.set_cons_succ]
              have hI := hT7.bw
              (refine stg2_free 29 _ ?_ (by kernel_rfl) (by kernel_rfl) rfl rfl ?_ hI ?_; rotate_left; · (intro w' _; go_simp; with_reducible rfl)); try simp only [Act.put, List.getElem_toArray, List.getElem_cons_succ, List.getElem_cons_zero, List.setIfInBounds_toArray, List.set_cons_zero, List.set_cons_succ]
              clear hI
              refine stg2_one 30 _ (by kernel_rfl) (by kernel_rfl) rfl rfl (fun K hK => ?_)
              have c7 : W7.cell? ⟨wO.heap.size + 1, 0, none⟩ = some vb := by simp [World.cell?, hT7.k9]
              have c8 : W7.frozen? ⟨wO.heap.size + 1, 0, none⟩ = false := by simp [World.frozen?, hT7.k9]
              go_step
              have hT8 := hT7.stB
              refine hK.out _ _ hT8.bw (fun h => by cases h) (fun h => by cases h) ?_
              clear hK K hT7 c7 c8
              generalize W7.setCell ⟨wO.heap.size + 1, 0, none⟩ (.slice P6 (j + 1) C6) = W8 at *
              try simp only [Act.put, List.getElem_toArray, List.getElem_cons_succ, List.getElem_cons_zero, List.setIfInBounds_toArray, List.set_cons_zero, List.set_cons_succ]
              refine stg2_end (by kernel_rfl) ?_
              have HT8 := Lib.hid hT8
              clear hT8
              have HQA2 : Hid ((qa ++ [(⟨L.map (Pt.mv ⟨vx, vy⟩), p1, k1⟩ : PC)]).map PC.l = (rs.take (j + 1)).map (fun r => r.l.map (Pt.mv ⟨vx, vy⟩))) := Lib.hid (by rw [HRS.out, List.map_append, List.map_append, HQA.out]; rfl)
              have HQB2 : Hid ((qb ++ [(⟨L.map Pt.two, p4, k4⟩ : PC)]).map PC.l = (rs.take (j + 1)).map (fun r => r.l.map Pt.two)) := Lib.hid (by rw [HRS.out, List.map_append, List.map_append, HQB.out]; rfl)
              have HSR2 : Hid (SmF ((rs.take (j + 1)).map PC.l)) := Lib.hid (by
                rw [HRS.out, List.map_append]
                intro r hr
                rcases List.mem_append.1 hr with hr | hr
                · exact HSR.out r hr
                · rw [List.mem_singleton.1 hr]; exact HSL.out)
              go_wp2
              exact ⟨⟨j + 1, by omega, by go_num, Lib.hid ⟨_, _, _, _, by simp [hqa], by simp [hqb], HQA2, HQB2, HT8, HSR2⟩⟩, by simp [intOf]; omega⟩
        · as_aux_lemma =>
          obtain rfl : RN = j := by omega
          have hlr' : ¬ (RN : Int) < (RN : Int) := by omega
          have hoA := HST7.out.oa
          have hoB := HST7.out.ob
          obtain ⟨pa, ca, hva, g1, g2, g3, g4, -⟩ := hoA.form
          subst hva
          obtain ⟨pb, cb, hvb, e1, e2, e3, e4, -⟩ := hoB.form
          subst hvb
          have fa0 : FcT wr ⟨qa, pa, ca, [], none, 0⟩ := ⟨⟨⟨g4, by dsimp only; omega, g2, g3⟩, fun r hr => (HST7.out.pa r hr).1, ⟨Rd.nil _ _, by simp, by simp [maxLen], fun _ => rfl⟩⟩, TypB.of_owns hoA, HST7.out.pa, TypB.none _ _⟩
          have fb0 : FcT wr ⟨qb, pb, cb, [], none, 0⟩ := ⟨⟨⟨e4, by dsimp only; omega, e2, e3⟩, fun r hr => (HST7.out.pb r hr).1, ⟨Rd.nil _ _, by simp, by simp [maxLen], fun _ => rfl⟩⟩, TypB.of_owns hoB, HST7.out.pb, TypB.none _ _⟩
          have HCA : Hid ([Value.slice pa RN ca, .slice none 0 0] = Fc.cells ⟨qa, pa, ca, [], none, 0⟩) := Lib.hid (by simp [Fc.cells, Fc.rval, Fc.aval, hqa])
          have HCB : Hid ([Value.slice pb RN cb, .slice none 0 0] = Fc.cells ⟨qb, pb, cb, [], none, 0⟩) := Lib.hid (by simp [Fc.cells, Fc.rval, Fc.aval, hqb])
          have hE0 : S18 w2 wr u5 u6 k k gs hs := S18.keep ⟨hoM, hoS, hdM, HGT.out, HHT.out, hbl⟩ hbr
          have k8_0 := HST7.out.k8
          have k9_0 := HST7.out.k9
          have hMlt : ∀ x, u5.ownBlock = some x → x < wO.heap.size := fun x hx => (hoM.lt x hx).2
          have hSlt : ∀ x, u6.ownBlock = some x → x < wO.heap.size := fun x hx => (hoS.lt x hx).2
          have HG2 : Hid ((gs ++ [(⟨qa, pa, ca, [], none, 0⟩ : Fc)]).map Fc.rings = mapF (Pt.mv ⟨vx, vy⟩) ((fs.take (k + 1)).map Fc.rings)) := Lib.hid (by
            have h1 := HQA.out
            rw [List.take_of_length_le (by rw [HRN.out]; exact Nat.le_refl _)] at h1
            rw [HTK.out, List.map_append, HG.out]
            unfold mapF
            rw [List.map_append, List.map_singleton, List.map_singleton]
            have h2 : Fc.rings ⟨qa, pa, ca, [], none, 0⟩ = (Fc.rings ⟨rs, ra, rc, ls, aa, ac⟩).map (fun r => r.map (Pt.mv ⟨vx, vy⟩)) := by
              show qa.map PC.l = (rs.map PC.l).map _
              rw [h1, List.map_map]; rfl
            rw [h2])
          have HH2 : Hid ((hs ++ [(⟨qb, pb, cb, [], none, 0⟩ : Fc)]).map Fc.rings = mapF Pt.two ((fs.take (k + 1)).map Fc.rings)) := Lib.hid (by
            have h1 := HQB.out
            rw [List.take_of_length_le (by rw [HRN.out]; exact Nat.le_refl _)] at h1
            rw [HTK.out, List.map_append, HH.out]
            unfold mapF
            rw [List.map_append, List.map_singleton, List.map_singleton]
            have h2 : Fc.rings ⟨qb, pb, cb, [], none, 0⟩ = (Fc.rings ⟨rs, ra, rc, ls, aa, ac⟩).map (fun r => r.map Pt.two) := by
              show qb.map PC.l = (rs.map PC.l).map _
              rw [h1, List.map_map]; rfl
            rw [h2])
          have HSM2 : Hid (SmA ((fs.take (k + 1)).map Fc.rings)) := Lib.hid (by
            have h1 := HSR.out
            rw [List.take_of_length_le (by rw [HRN.out]; exact Nat.le_refl _)] at h1
            rw [HTK.out]
            intro f hf
            rcases List.mem_append.1 hf with hf | hf
            · exact HSM.out f hf
            · rw [List.mem_singleton.1 hf]; exact h1)
          clear hoA hoB g1 g2 g3 g4 e1 e2 e3 e4 HST7 hoM hoS hdM HGT HHT HQA HQB HG HH HSM HSR HTK
          go_wp2_with fail
          refine wp_region_sched 10 [0, 1, 4, 5, 8, 9] (fun W => W.heap[wO.heap.size]? = some (.cells #[.slice pa RN ca, .slice none 0 0] 39 (0, 0)) ∧ W.heap[wO.heap.size + 1]? = some (.cells #[.slice pb RN cb, .slice none 0 0] 39 (0, 0))) rfl (by kernel_rfl) (by kernel_rfl) ?_
          replace hE0 : S18 w2 wr.drew u5 u6 k k gs hs := hE0.keep (Below.refl _ _).drew
          replace fa0 : FcT wr.drew ⟨qa, pa, ca, [], none, 0⟩ := fa0.keep (Below.refl _ _).drew
          replace fb0 : FcT wr.drew ⟨qb, pb, cb, [], none, 0⟩ := fb0.keep (Below.refl _ _).drew
          replace k8_0 : wr.drew.heap[wO.heap.size]? = some (.cells #[.slice pa RN ca, .slice none 0 0] 39 (0, 0)) := k8_0
          replace k9_0 : wr.drew.heap[wO.heap.size + 1]? = some (.cells #[.slice pb RN cb, .slice none 0 0] 39 (0, 0)) := k9_0
          clear d0 hbr
          generalize wr.drew = V0 at *
          (refine sched_light 0 _ ?_ (by kernel_rfl) (by kernel_rfl) rfl rfl ?_ ⟨k8_0, k9_0⟩ ?_; rotate_left; · (intro w' hS; (try dsimp only at hS); go_simp; with_reducible rfl)); try simp only [Act.put, List.getElem_toArray, List.getElem_cons_succ, List.getElem_cons_zero, List.setIfInBounds_toArray, List.set_cons_zero, List.set_cons_succ]
          refine sched_light 1 _ (.agg #[.slice pa RN ca, .slice none 0 0]) (by kernel_rfl) (by kernel_rfl) rfl rfl ?_ ⟨k8_0, k9_0⟩ ?_
          · intro w' hS
            have c7 : w'.cell? ⟨wO.heap.size, 0, none⟩ = some (.slice pa RN ca) := by simp [World.cell?, hS.1]
            have c8 : w'.cell? ⟨wO.heap.size, 1, none⟩ = some (.slice none 0 0) := by simp [World.cell?, hS.1]
            clear hS
            go_simp
          try simp only [Act.put, List.getElem_toArray, List.getElem_cons_succ, List.getElem_cons_zero, List.setIfInBounds_toArray, List.set_cons_zero, List.set_cons_succ]
          (refine sched_light 4 _ ?_ (by kernel_rfl) (by kernel_rfl) rfl rfl ?_ ⟨k8_0, k9_0⟩ ?_; rotate_left; · (intro w' hS; (try dsimp only at hS); go_simp; with_reducible rfl)); try simp only [Act.put, List.getElem_toArray, List.getElem_cons_succ, List.getElem_cons_zero, List.setIfInBounds_toArray, List.set_cons_zero, List.set_cons_succ]
          refine sched_light 5 _ (.agg #[.slice pb RN cb, .slice none 0 0]) (by kernel_rfl) (by kernel_rfl) rfl rfl ?_ ⟨k8_0, k9_0⟩ ?_
          · intro w' hS
            have c7 : w'.cell? ⟨wO.heap.size + 1, 0, none⟩ = some (.slice pb RN cb) := by simp [World.cell?, hS.2]
            have c8 : w'.cell? ⟨wO.heap.size + 1, 1, none⟩ = some (.slice none 0 0) := by simp [World.cell?, hS.2]
            clear hS
            go_simp
          try simp only [Act.put, List.getElem_toArray, List.getElem_cons_succ, List.getElem_cons_zero, List.setIfInBounds_toArray, List.set_cons_zero, List.set_cons_succ]
          refine sched_fork [2, 6] (by kernel_rfl) (by kernel_rfl) (by decide) ?_
          intro i hi
          simp only [List.mem_cons, List.not_mem_nil, or_false] at hi
          rcases hi with rfl | rfl
          ·
            refine sched_heavy 2 _ rfl rfl (fun K hK => ?_)
            go_step
            have hx := Below.new V0 (.cells #[.slice pa RN ca, .slice none 0 0] 39)
            have rdA1 := Rd.lit V0 V0.heap.size [.slice pa RN ca, .slice none 0 0] 39 rfl
            have hBLA : wO.heap.size ≤ V0.heap.size := Nat.le_of_lt (Array.getElem?_eq_some_iff.1 k8_0).1
            have hE1 := hE0.keep hx
            have k8_1 := (hx.block _ (Array.getElem?_eq_some_iff.1 k8_0).1).trans k8_0
            have k9_1 := (hx.block _ (Array.getElem?_eq_some_iff.1 k9_0).1).trans k9_0
            have fa1 := fa0.keep hx
            have fb1 := fb0.keep hx
            obtain ⟨BLA, hq⟩ : ∃ b, V0.heap.size = b := ⟨_, rfl⟩
            rw [hq] at rdA1 hBLA ⊢
            refine hK.out _ _ ⟨k8_1, k9_1⟩ ?_
            clear hK K hx hq hE0 k8_0 k9_0 fa0 fb0
            generalize V0.alloc (.cells #[.slice pa RN ca, .slice none 0 0] 39) = V1 at *
            try simp only [Act.put, List.getElem_toArray, List.getElem_cons_succ, List.getElem_cons_zero, List.setIfInBounds_toArray, List.set_cons_zero, List.set_cons_succ]
            refine sched_fork [3, 6] (by kernel_rfl) (by kernel_rfl) (by decide) ?_
            intro i hi
            simp only [List.mem_cons, List.not_mem_nil, or_false] at hi
            rcases hi with rfl | rfl
            ·
              refine sched_heavy 3 _ rfl rfl (fun K hK => ?_)
              refine wp_app_at (.tmp 111) (.tmp 113) 22 rfl w2.heap.size 39 (.agg #[.slice none 0 0, .slice none 0 0]) 2 48 Try.underlying22 Try.infoFace rfl (by decide) u5 k (fcs gs) rfl hE1.om ⟨BLA, 0, none⟩ 1 1 [.slice pa RN ca, .slice none 0 0] rfl rdA1 rfl (by simp [Value.oneCell']) (by omega) (by decide) hE1.bl.size ?_
              intro vA V2 ho hg hat
              rw [HCA.out] at ho
              have hE2 := hE1.appM ho hg hat fa1 (by simp)
              have k8_2 := (hg.block _ (Array.getElem?_eq_some_iff.1 k8_1).1 (fun e => by have := hMlt _ e.symm; omega)).trans k8_1
              have k9_2 := (hg.block _ (Array.getElem?_eq_some_iff.1 k9_1).1 (fun e => by have := hMlt _ e.symm; omega)).trans k9_1
              have fa2 := fa1.keepS (KeepS.of_row hE1.om faceS_face hg)
              have fb2 := fb1.keepS (KeepS.of_row hE1.om faceS_face hg)
              refine hK.out _ _ ⟨k8_2, k9_2⟩ ?_
              clear hK K ho hg hat hE1 k8_1 k9_1 fa1 fb1 rdA1
              try simp only [Act.put, List.getElem_toArray, List.getElem_cons_succ, List.getElem_cons_zero, List.setIfInBounds_toArray, List.set_cons_zero, List.set_cons_succ]
              refine sched_fork [6] (by kernel_rfl) (by kernel_rfl) (by decide) ?_
              intro i hi
              simp only [List.mem_cons, List.not_mem_nil, or_false] at hi
              subst hi
              refine sched_heavy 6 _ rfl rfl (fun K hK => ?_)
              go_step
              have hx := Below.new V2 (.cells #[.slice pb RN cb, .slice none 0 0] 39)
              have rdB3 := Rd.lit V2 V2.heap.size [.slice pb RN cb, .slice none 0 0] 39 rfl
              have hBLB : wO.heap.size ≤ V2.heap.size := Nat.le_of_lt (Array.getElem?_eq_some_iff.1 k8_2).1
              have hE3 := hE2.keep hx
              have k8_3 := (hx.block _ (Array.getElem?_eq_some_iff.1 k8_2).1).trans k8_2
              have k9_3 := (hx.block _ (Array.getElem?_eq_some_iff.1 k9_2).1).trans k9_2
              have fa3 := fa2.keep hx
              have fb3 := fb2.keep hx
              obtain ⟨BLB, hq⟩ : ∃ b, V2.heap.size = b := ⟨_, rfl⟩
              rw [hq] at rdB3 hBLB ⊢
              refine hK.out _ _ ⟨k8_3, k9_3⟩ ?_
              clear hK K hx hq hE2 k8_2 k9_2 fa2 fb2
              generalize V2.alloc (.cells #[.slice pb RN cb, .slice none 0 0] 39) = V3 at *
              try simp only [Act.put, List.getElem_toArray, List.getElem_cons_succ, List.getElem_cons_zero, List.setIfInBounds_toArray, List.set_cons_zero, List.set_cons_succ]
              refine sched_fork [7] (by kernel_rfl) (by kernel_rfl) (by decide) ?_
              intro i hi
              simp only [List.mem_cons, List.not_mem_nil, or_false] at hi
              subst hi
              refine sched_heavy 7 _ rfl rfl (fun K hK => ?_)
              refine wp_app_at (.tmp 115) (.tmp 117) 22 rfl w2.heap.size 39 (.agg #[.slice none 0 0, .slice none 0 0]) 2 48 Try.underlying22 Try.infoFace rfl (by decide) u6 k (fcs hs) rfl hE3.os ⟨BLB, 0, none⟩ 1 1 [.slice pb RN cb, .slice none 0 0] rfl rdB3 rfl (by simp [Value.oneCell']) (by omega) (by decide) hE3.bl.size ?_
              intro vB V4 ho hg hat
              rw [HCB.out] at ho
              have hE4 := hE3.appS ho hg hat fb3 (by simp)
              have k8_4 := (hg.block _ (Array.getElem?_eq_some_iff.1 k8_3).1 (fun e => by have := hSlt _ e.symm; omega)).trans k8_3
              have k9_4 := (hg.block _ (Array.getElem?_eq_some_iff.1 k9_3).1 (fun e => by have := hSlt _ e.symm; omega)).trans k9_3
              have fa4 := fa3.keepS (KeepS.of_row hE3.os faceS_face hg)
              have fb4 := fb3.keepS (KeepS.of_row hE3.os faceS_face hg)
              refine hK.out _ _ ⟨k8_4, k9_4⟩ ?_
              clear hK K ho hg hat hE3 k8_3 k9_3 fa3 fb3 rdB3
              try simp only [Act.put, List.getElem_toArray, List.getElem_cons_succ, List.getElem_cons_zero, List.setIfInBounds_toArray, List.set_cons_zero, List.set_cons_succ]
              (refine sched_light 8 _ ?_ (by kernel_rfl) (by kernel_rfl) rfl rfl ?_ ⟨k8_4, k9_4⟩ ?_; rotate_left; · (intro w' hS; (try dsimp only at hS); go_simp; with_reducible rfl)); try simp only [Act.put, List.getElem_toArray, List.getElem_cons_succ, List.getElem_cons_zero, List.setIfInBounds_toArray, List.set_cons_zero, List.set_cons_succ]
              (refine sched_light 9 _ ?_ (by kernel_rfl) (by kernel_rfl) rfl rfl ?_ ⟨k8_4, k9_4⟩ ?_; rotate_left; · (intro w' hS; (try dsimp only at hS); go_simp; with_reducible rfl)); try simp only [Act.put, List.getElem_toArray, List.getElem_cons_succ, List.getElem_cons_zero, List.setIfInBounds_toArray, List.set_cons_zero, List.set_cons_succ]
              refine sched_end (by kernel_rfl) ?_
              have HE9 := Lib.hid hE4
              clear hE4 k8_4 k9_4 fa4 fb4 hMlt hSlt
              go_wp2
              go_roundw
              case rel => exact ⟨k + 1, by omega, by go_num, Lib.hid ⟨_, _, by simp [hgl], by simp [hhl], HG2, HH2, HE9.out.om, HE9.out.os, HE9.out.dj, Lib.hid HE9.out.gt, Lib.hid HE9.out.ht, HSM2, HE9.out.bl⟩⟩
              case measure => simp [intOf]; omega
            ·
              refine sched_heavy 6 _ rfl rfl (fun K hK => ?_)
              go_step
              have hx := Below.new V1 (.cells #[.slice pb RN cb, .slice none 0 0] 39)
              have rdB2 := Rd.lit V1 V1.heap.size [.slice pb RN cb, .slice none 0 0] 39 rfl
              have hBLB : wO.heap.size ≤ V1.heap.size := Nat.le_of_lt (Array.getElem?_eq_some_iff.1 k8_1).1
              have hE2 := hE1.keep hx
              have k8_2 := (hx.block _ (Array.getElem?_eq_some_iff.1 k8_1).1).trans k8_1
              have k9_2 := (hx.block _ (Array.getElem?_eq_some_iff.1 k9_1).1).trans k9_1
              have fa2 := fa1.keep hx
              have fb2 := fb1.keep hx
              have rdA2 := rdA1.keep hx
              obtain ⟨BLB, hq⟩ : ∃ b, V1.heap.size = b := ⟨_, rfl⟩
              rw [hq] at rdB2 hBLB ⊢
              refine hK.out _ _ ⟨k8_2, k9_2⟩ ?_
              clear hK K hx hq hE1 k8_1 k9_1 fa1 fb1
              generalize V1.alloc (.cells #[.slice pb RN cb, .slice none 0 0] 39) = V2 at *
              try simp only [Act.put, List.getElem_toArray, List.getElem_cons_succ, List.getElem_cons_zero, List.setIfInBounds_toArray, List.set_cons_zero, List.set_cons_succ]
              refine sched_fork [3] (by kernel_rfl) (by kernel_rfl) (by decide) ?_
              intro i hi
              simp only [List.mem_cons, List.not_mem_nil, or_false] at hi
              subst hi
              refine sched_heavy 3 _ rfl rfl (fun K hK => ?_)
              refine wp_app_at (.tmp 111) (.tmp 113) 22 rfl w2.heap.size 39 (.agg #[.slice none 0 0, .slice none 0 0]) 2 48 Try.underlying22 Try.infoFace rfl (by decide) u5 k (fcs gs) rfl hE2.om ⟨BLA, 0, none⟩ 1 1 [.slice pa RN ca, .slice none 0 0] rfl rdA2 rfl (by simp [Value.oneCell']) (by omega) (by decide) hE2.bl.size ?_
              intro vA V3 ho hg hat
              rw [HCA.out] at ho
              have hE3 := hE2.appM ho hg hat fa2 (by simp)
              have k8_3 := (hg.block _ (Array.getElem?_eq_some_iff.1 k8_2).1 (fun e => by have := hMlt _ e.symm; omega)).trans k8_2
              have k9_3 := (hg.block _ (Array.getElem?_eq_some_iff.1 k9_2).1 (fun e => by have := hMlt _ e.symm; omega)).trans k9_2
              have fa3 := fa2.keepS (KeepS.of_row hE2.om faceS_face hg)
              have fb3 := fb2.keepS (KeepS.of_row hE2.om faceS_face hg)
              have rdB3 := rdB2.grown hg (fun x hx => by simp at hx; subst hx; intro e; have := hMlt _ e.symm; omega)
              refine hK.out _ _ ⟨k8_3, k9_3⟩ ?_
              clear hK K ho hg hat hE2 k8_2 k9_2 fa2 fb2 rdA2
              try simp only [Act.put, List.getElem_toArray, List.getElem_cons_succ, List.getElem_cons_zero, List.setIfInBounds_toArray, List.set_cons_zero, List.set_cons_succ]
              refine sched_fork [7] (by kernel_rfl) (by kernel_rfl) (by decide) ?_
              intro i hi
              simp only [List.mem_cons, List.not_mem_nil, or_false] at hi
              subst hi
              refine sched_heavy 7 _ rfl rfl (fun K hK => ?_)
              refine wp_app_at (.tmp 115) (.tmp 117) 22 rfl w2.heap.size 39 (.agg #[.slice none 0 0, .slice none 0 0]) 2 48 Try.underlying22 Try.infoFace rfl (by decide) u6 k (fcs hs) rfl hE3.os ⟨BLB, 0, none⟩ 1 1 [.slice pb RN cb, .slice none 0 0] rfl rdB3 rfl (by simp [Value.oneCell']) (by omega) (by decide) hE3.bl.size ?_
              intro vB V4 ho hg hat
              rw [HCB.out] at ho
              have hE4 := hE3.appS ho hg hat fb3 (by simp)
              have k8_4 := (hg.block _ (Array.getElem?_eq_some_iff.1 k8_3).1 (fun e => by have := hSlt _ e.symm; omega)).trans k8_3
              have k9_4 := (hg.block _ (Array.getElem?_eq_some_iff.1 k9_3).1 (fun e => by have := hSlt _ e.symm; omega)).trans k9_3
              have fa4 := fa3.keepS (KeepS.of_row hE3.os faceS_face hg)
              have fb4 := fb3.keepS (KeepS.of_row hE3.os faceS_face hg)
              refine hK.out _ _ ⟨k8_4, k9_4⟩ ?_
              clear hK K ho hg hat hE3 k8_3 k9_3 fa3 fb3 rdB3
              try simp only [Act.put, List.getElem_toArray, List.getElem_cons_succ, List.getElem_cons_zero, List.setIfInBounds_toArray, List.set_cons_zero, List.set_cons_succ]
              (refine sched_light 8 _ ?_ (by kernel_rfl) (by kernel_rfl) rfl rfl ?_ ⟨k8_4, k9_4⟩ ?_; rotate_left; · (intro w' hS; (try dsimp only at hS); go_simp; with_reducible rfl)); try simp only [Act.put, List.getElem_toArray, List.getElem_cons_succ, List.getElem_cons_zero, List.setIfInBounds_toArray, List.set_cons_zero, List.set_cons_succ]
              (refine sched_light 9 _ ?_ (by kernel_rfl) (by kernel_rfl) rfl rfl ?_ ⟨k8_4, k9_4⟩ ?_; rotate_left; · (intro w' hS; (try dsimp only at hS); go_simp; with_reducible rfl)); try simp only [Act.put, List.getElem_toArray, List.getElem_cons_succ, List.getElem_cons_zero, List.setIfInBounds_toArray, List.set_cons_zero, List.set_cons_succ]
              refine sched_end (by kernel_rfl) ?_
              have HE9 := Lib.hid hE4
              clear hE4 k8_4 k9_4 fa4 fb4 hMlt hSlt
              go_wp2
              go_roundw
              case rel => exact ⟨k + 1, by omega, by go_num, Lib.hid ⟨_, _, by simp [hgl], by simp [hhl], HG2, HH2, HE9.out.om, HE9.out.os, HE9.out.dj, Lib.hid HE9.out.gt, Lib.hid HE9.out.ht, HSM2, HE9.out.bl⟩⟩
              case measure => simp [intOf]; omega
          ·
            refine sched_heavy 6 _ rfl rfl (fun K hK => ?_)
            go_step
            have hx := Below.new V0 (.cells #[.slice pb RN cb, .slice none 0 0] 39)
            have rdB1 := Rd.lit V0 V0.heap.size [.slice pb RN cb, .slice none 0 0] 39 rfl
            have hBLB : wO.heap.size ≤ V0.heap.size := Nat.le_of_lt (Array.getElem?_eq_some_iff.1 k8_0).1
            have hE1 := hE0.keep hx
            have k8_1 := (hx.block _ (Array.getElem?_eq_some_iff.1 k8_0).1).trans k8_0
            have k9_1 := (hx.block _ (Array.getElem?_eq_some_iff.1 k9_0).1).trans k9_0
            have fa1 := fa0.keep hx
            have fb1 := fb0.keep hx
            obtain ⟨BLB, hq⟩ : ∃ b, V0.heap.size = b := ⟨_, rfl⟩
            rw [hq] at rdB1 hBLB ⊢
            refine hK.out _ _ ⟨k8_1, k9_1⟩ ?_
            clear hK K hx hq hE0 k8_0 k9_0 fa0 fb0
            generalize V0.alloc (.cells #[.slice pb RN cb, .slice none 0 0] 39) = V1 at *
            try simp only [Act.put, List.getElem_toArray, List.getElem_cons_succ, List.getElem_cons_zero, List.setIfInBounds_toArray, List.set_cons_zero, List.set_cons_succ]
            refine sched_fork [2] (by kernel_rfl) (by kernel_rfl) (by decide) ?_
            intro i hi
            simp only [List.mem_cons, List.not_mem_nil, or_false] at hi
            subst hi
            refine sched_heavy 2 _ rfl rfl (fun K hK => ?_)
            go_step
            have hx := Below.new V1 (.cells #[.slice pa RN ca, .slice none 0 0] 39)
            have rdA2 := Rd.lit V1 V1.heap.size [.slice pa RN ca, .slice none 0 0] 39 rfl
            have hBLA : wO.heap.size ≤ V1.heap.size := Nat.le_of_lt (Array.getElem?_eq_some_iff.1 k8_1).1
            have hE2 := hE1.keep hx
            have k8_2 := (hx.block _ (Array.getElem?_eq_some_iff.1 k8_1).1).trans k8_1
            have k9_2 := (hx.block _ (Array.getElem?_eq_some_iff.1 k9_1).1).trans k9_1
            have fa2 := fa1.keep hx
            have fb2 := fb1.keep hx
            have rdB2 := rdB1.keep hx
            obtain ⟨BLA, hq⟩ : ∃ b, V1.heap.size = b := ⟨_, rfl⟩
            rw [hq] at rdA2 hBLA ⊢
            refine hK.out _ _ ⟨k8_2, k9_2⟩ ?_
            clear hK K hx hq hE1 k8_1 k9_1 fa1 fb1
            generalize V1.alloc (.cells #[.slice pa RN ca, .slice none 0 0] 39) = V2 at *
            try simp only [Act.put, List.getElem_toArray, List.getElem_cons_succ, List.getElem_cons_zero, List.setIfInBounds_toArray, List.set_cons_zero, List.set_cons_succ]
            refine sched_fork [3] (by kernel_rfl) (by kernel_rfl) (by decide) ?_
            intro i hi
            simp only [List.mem_cons, List.not_mem_nil, or_false] at hi
            subst hi
            refine sched_heavy 3 _ rfl rfl (fun K hK => ?_)
            refine wp_app_at (.tmp 111) (.tmp 113) 22 rfl w2.heap.size 39 (.agg #[.slice none 0 0, .slice none 0 0]) 2 48 Try.underlying22 Try.infoFace rfl (by decide) u5 k (fcs gs) rfl hE2.om ⟨BLA, 0, none⟩ 1 1 [.slice pa RN ca, .slice none 0 0] rfl rdA2 rfl (by simp [Value.oneCell']) (by omega) (by decide) hE2.bl.size ?_
            intro vA V3 ho hg hat
            rw [HCA.out] at ho
            have hE3 := hE2.appM ho hg hat fa2 (by simp)
            have k8_3 := (hg.block _ (Array.getElem?_eq_some_iff.1 k8_2).1 (fun e => by have := hMlt _ e.symm; omega)).trans k8_2
            have k9_3 := (hg.block _ (Array.getElem?_eq_some_iff.1 k9_2).1 (fun e => by have := hMlt _ e.symm; omega)).trans k9_2
            have fa3 := fa2.keepS (KeepS.of_row hE2.om faceS_face hg)
            have fb3 := fb2.keepS (KeepS.of_row hE2.om faceS_face hg)
            have rdB3 := rdB2.grown hg (fun x hx => by simp at hx; subst hx; intro e; have := hMlt _ e.symm; omega)
            refine hK.out _ _ ⟨k8_3, k9_3⟩ ?_
            clear hK K ho hg hat hE2 k8_2 k9_2 fa2 fb2 rdA2
            try simp only [Act.put, List.getElem_toArray, List.getElem_cons_succ, List.getElem_cons_zero, List.setIfInBounds_toArray, List.set_cons_zero, List.set_cons_succ]
            refine sched_fork [7] (by kernel_rfl) (by kernel_rfl) (by decide) ?_
            intro i hi
            simp only [List.mem_cons, List.not_mem_nil, or_false] at hi
            subst hi
            refine sched_heavy 7 _ rfl rfl (fun K hK => ?_)
            refine wp_app_at (.tmp 115) (.tmp 117) 22 rfl w2.heap.size 39 (.agg #[.slice none 0 0, .slice none 0 0]) 2 48 Try.underlying22 Try.infoFace rfl (by decide) u6 k (fcs hs) rfl hE3.os ⟨BLB, 0, none⟩ 1 1 [.slice pb RN cb, .slice none 0 0] rfl rdB3 rfl (by simp [Value.oneCell']) (by omega) (by decide) hE3.bl.size ?_
            intro vB V4 ho hg hat
            rw [HCB.out] at ho
            have hE4 := hE3.appS ho hg hat fb3 (by simp)
            have k8_4 := (hg.block _ (Array.getElem?_eq_some_iff.1 k8_3).1 (fun e => by have := hSlt _ e.symm; omega)).trans k8_3
            have k9_4 := (hg.block _ (Array.getElem?_eq_some_iff.1 k9_3).1 (fun e => by have := hSlt _ e.symm; omega)).trans k9_3
            have fa4 := fa3.keepS (KeepS.of_row hE3.os faceS_face hg)
            have fb4 := fb3.keepS (KeepS.of_row hE3.os faceS_face hg)
            refine hK.out _ _ ⟨k8_4, k9_4⟩ ?_
            clear hK K ho hg hat hE3 k8_3 k9_3 fa3 fb3 rdB3
            try simp only [Act.put, List.getElem_toArray, List.getElem_cons_succ, List.getElem_cons_zero, List.setIfInBounds_toArray, List.set_cons_zero, List.set_cons_succ]
            (refine sched_light 8 _ ?_ (by kernel_rfl) (by kernel_rfl) rfl rfl ?_ ⟨k8_4, k9_4⟩ ?_; rotate_left; · (intro w' hS; (try dsimp only at hS); go_simp; with_reducible rfl)); try simp only [Act.put, List.getElem_toArray, List.getElem_cons_succ, List.getElem_cons_zero, List.setIfInBounds_toArray, List.set_cons_zero, List.set_cons_succ]
            (refine sched_light 9 _ ?_ (by kernel_rfl) (by kernel_rfl) rfl rfl ?_ ⟨k8_4, k9_4⟩ ?_; rotate_left; · (intro w' hS; (try dsimp only at hS); go_simp; with_reducible rfl)); try simp only [Act.put, List.getElem_toArray, List.getElem_cons_succ, List.getElem_cons_zero, List.setIfInBounds_toArray, List.set_cons_zero, List.set_cons_succ]
            refine sched_end (by kernel_rfl) ?_
            have HE9 := Lib.hid hE4
            clear hE4 k8_4 k9_4 fa4 fb4 hMlt hSlt
            go_wp2
            go_roundw
            case rel => exact ⟨k + 1, by omega, by go_num, Lib.hid ⟨_, _, by simp [hgl], by simp [hhl], HG2, HH2, HE9.out.om, HE9.out.os, HE9.out.dj, Lib.hid HE9.out.gt, Lib.hid HE9.out.ht, HSM2, HE9.out.bl⟩⟩
            case measure => simp [intOf]; omega
    · obtain rfl : n = k := by omega
      have hnn' : ¬ (n : Int) < (n : Int) := by omega
      have hTA : fs.take n = fs := List.take_of_length_le (by rw [HN.out]; exact Nat.le_refl _)
      obtain ⟨pm, cm, rfl, -, -, -, hRM, -⟩ := hoM.form
      obtain ⟨ps, cs, rfl, -, -, -, hRS, -⟩ := hoS.form
      have hG := HG.out
      have hH := HH.out
      have hsm := HSM.out
      rw [hTA] at hG hH hsm
      have hpt : ∀ f ∈ fs, ∀ r ∈ f.rs, ∀ p ∈ r.l, SmP p := fun f hf r hr p hp => hsm _ (List.mem_map_of_mem hf) _ (List.mem_map_of_mem hr) p hp
      have hGF : ∀ f ∈ gs, FewF f := fewF_map hG (fun f hf => (HGT.out f hf).2) HFF.out (fun f hf r hr p hp => by
        have := hpt f hf r hr p hp
        unfold SmP at this
        exact ⟨wf_small _ (by unfold Pt.mv; dsimp only; omega), wf_small _ (by unfold Pt.mv; dsimp only; omega)⟩)
      have hHF : ∀ f ∈ hs, FewF f := fewF_map hH (fun f hf => (HHT.out f hf).2) HFF.out (fun f hf r hr p hp => by
        have := hpt f hf r hr p hp
        unfold SmP at this
        exact ⟨wf_small _ (by unfold Pt.two; dsimp only; omega), wf_small _ (by unfold Pt.two; dsimp only; omega)⟩)
      have hcg : cntP (gs.map Fc.rings) ≤ 40 := by rw [hG, cntP_map]; exact HS3.out
      have hch : cntP (hs.map Fc.rings) ≤ 40 := by rw [hH, cntP_map]; exact HS3.out
      have hvg : validB (gs.map Fc.rings) = validB (fs.map Fc.rings) := by
        rw [hG]
        refine sim_valid (sim_mv _) _ (fun f hf r hr p hp => ?_)
        have := hsm f hf r hr p hp
        unfold SmP at this
        exact ⟨(okPt_iff _).2 (by omega), (okPt_iff _).2 (by unfold Pt.mv; dsimp only; omega)⟩
      have hvh : validB (hs.map Fc.rings) = validB (fs.map Fc.rings) := by
        rw [hH]
        refine sim_valid sim_two _ (fun f hf r hr p hp => ?_)
        have := hsm f hf r hr p hp
        unfold SmP at this
        exact ⟨(okPt_iff _).2 (by omega), (okPt_iff _).2 (by unfold Pt.two; dsimp only; omega)⟩
      obtain ⟨V, hV⟩ : ∃ V, validB (fs.map Fc.rings) = V := ⟨_, rfl⟩
      have HV1 : Hid (∀ W, Below w2.heap.size w2 W → Calls Try.prog 12 #[.slice a1 n c1] W fun e w' => e = .returned (.int .i64 V) ∧ Below W.heap.size W w') := Lib.hid (fun W hW => by
        have := valid_fewF a1 c1 fs (by rw [HN.out]; exact s1) HFF.out HS3.out W (HR1.out.keep hW) (fun f hf => (HT.out f hf).1.keep hW)
        rw [hV, HN.out] at this
        exact this)
      have HV2 : Hid (∀ W, Below wO.heap.size wO W → Calls Try.prog 12 #[.slice pm n cm] W fun e w' => e = .returned (.int .i64 V) ∧ Below W.heap.size W w') := Lib.hid (fun W hW => by
        have := valid_fewF pm cm gs (by omega) hGF hcg W (hRM.keep hW) (fun f hf => (HGT.out f hf).1.1.keep hW)
        rw [hvg, hV, hgl] at this
        exact this)
      have HV3 : Hid (∀ W, Below wO.heap.size wO W → Calls Try.prog 12 #[.slice ps n cs] W fun e w' => e = .returned (.int .i64 V) ∧ Below W.heap.size W w') := Lib.hid (fun W hW => by
        have := valid_fewF ps cs hs (by omega) hHF hch W (hRS.keep hW) (fun f hf => (HHT.out f hf).1.1.keep hW)
        rw [hvh, hV, hhl] at this
        exact this)
      obtain ⟨F, hF⟩ : ∃ F, fs.map Fc.rings = F := ⟨_, rfl⟩
      have HN1 : Hid (∀ W, Below w2.heap.size w2 W → Calls Try.prog 20 #[.slice a1 n c1] W fun e w' => (∃ v, e = .returned v ∧ NearIs w' W.heap.size v n (nearG (allSd F) (allSd F))) ∧ Below W.heap.size W w') := Lib.hid (fun W hW => by
        have := near_fewF a1 c1 fs (by rw [HN.out]; exact s1) HFF.out HS3.out W (HR1.out.keep hW) (fun f hf => (HT.out f hf).1.keep hW)
        rw [hF, HN.out] at this
        exact this)
      have HN2 : Hid (∀ W, Below wO.heap.size wO W → Calls Try.prog 20 #[.slice pm n cm] W fun e w' => (∃ v, e = .returned v ∧ NearIs w' W.heap.size v n (nearG (allSd (mapF (Pt.mv ⟨vx, vy⟩) F)) (allSd (mapF (Pt.mv ⟨vx, vy⟩) F)))) ∧ Below W.heap.size W w') := Lib.hid (fun W hW => by
        have := near_fewF pm cm gs (by omega) hGF hcg W (hRM.keep hW) (fun f hf => (HGT.out f hf).1.1.keep hW)
        rw [hG, hF, hgl] at this
        exact this)
      have HN3 : Hid (∀ W, Below wO.heap.size wO W → Calls Try.prog 20 #[.slice ps n cs] W fun e w' => (∃ v, e = .returned v ∧ NearIs w' W.heap.size v n (nearG (allSd (mapF Pt.two F)) (allSd (mapF Pt.two F)))) ∧ Below W.heap.size W w') := Lib.hid (fun W hW => by
        have := near_fewF ps cs hs (by omega) hHF hch W (hRS.keep hW) (fun f hf => (HHT.out f hf).1.1.keep hW)
        rw [hH, hF, hhl] at this
        exact this)
      clear hG hH hsm hpt hGF hHF hcg hch hvg hvh hV hF hRM hRS hgl hhl HGT HHT HG HH HSM hoM hoS hdM hTA HFF HS3 HT hlt hk
      have HBL := Lib.hid hbl
      go_wp2_with fail
      refine (HV1.out wO HBL.out).mono ?_
      rintro e w3 ⟨rfl, hb3⟩
      have hb3' := HBL.out.trans (hb3.mono HBL.out.size)
      go_wp2_with fail
      refine (HN1.out w3 hb3').mono ?_
      rintro e w4 ⟨⟨v4, rfl, hA⟩, hb4⟩
      have hAv := hA
      obtain ⟨OA, valsA, rfl, -⟩ := hAv
      have hb5 := hb3.trans (hb4.mono hb3.size)
      go_wp2_with fail
      refine (HN2.out w4 hb5).mono ?_
      rintro e w5 ⟨⟨v5, rfl, hB⟩, hb6⟩
      have hBv := hB
      obtain ⟨OB, valsB, rfl, -⟩ := hBv
      have hb7 := hb5.trans (hb6.mono hb5.size)
      go_wp2_with fail
      refine (HN3.out w5 hb7).mono ?_
      rintro e w6 ⟨⟨v6, rfl, hC⟩, hb8⟩
      have hCv := hC
      obtain ⟨OC, valsC, rfl, -⟩ := hCv
      have hb9 := hb7.trans (hb8.mono hb7.size)
      go_wp2_with fail
      refine (HV2.out w6 hb9).mono ?_
      rintro e w7 ⟨rfl, hb10⟩
      have hb11 := hb9.trans (hb10.mono hb9.size)
      have hVV : (V != V) = false := by simp
      have hnn : ((n : Int) != (n : Int)) = false := by simp
      go_wp2_with fail
      refine (HV3.out w7 hb11).mono ?_
      rintro e w8 ⟨rfl, hb12⟩
      have hb13 := hb11.trans (hb12.mono hb11.size)
      have HNA := Lib.hid (((hA.keep hb6).keep hb8).keep (hb10.trans (hb12.mono hb10.size)))
      have HNB := Lib.hid ((hB.keep hb8).keep (hb10.trans (hb12.mono hb10.size)))
      have HNC := Lib.hid (hC.keep (hb10.trans (hb12.mono hb10.size)))
      have HBZ : Hid (Below w.heap.size w w8) := Lib.hid (by
        have h1 := HB2.out
        rw [← HB0.out] at h1
        have h2 := h1.trans (HBL.out.mono h1.size)
        exact h2.trans (hb13.mono h2.size))
      clear hA hB hC hb3 hb3' hb4 hb5 hb6 hb7 hb8 hb9 hb10 hb11 hb12 hb13 HV1 HV2 HV3 HN1 HN2 HN3 HBL hbl
      go_wp2
      go_loopw [17] (fun i wr => ∃ (k : Nat), k ≤ n ∧ i = .int .i64 k ∧ Hid (Below w8.heap.size w8 wr)) (fun i _ => n - (intOf i).toNat)
      case atStart => exact ⟨0, by omega, rfl, Lib.hid (Below.refl _ _)⟩
      case round =>
        obtain ⟨k, hk, rfl, HBK⟩ := hrel
        by_cases hkn : k < n
        · as_aux_lemma =>
          have hkn' : (k : Int) < (n : Int) := by omega
          have HROW : Hid (∃ (l : List Int) (a2 a3 a4 : Option Addr) (k2 k3 k4 : Nat), l.length ≤ 10000 ∧ ∀ W, Below w8.heap.size w8 W → W.cell? ⟨OA, k, none⟩ = some (.slice a2 l.length k2) ∧ W.cell? ⟨OB, k, none⟩ = some (.slice a3 l.length k3) ∧ W.cell? ⟨OC, k, none⟩ = some (.slice a4 l.length k4) ∧ Rd W a2 (ins l) ∧ Rd W a3 (ins l) ∧ Rd W a4 (ins l)) := Lib.hid (by
            obtain ⟨O', vA, e1, -, -, kA, fA⟩ := HNA.out
            cases e1
            obtain ⟨O', vB, e1, -, -, kB, fB⟩ := HNB.out
            cases e1
            obtain ⟨O', vC, e1, -, -, kC, fC⟩ := HNC.out
            cases e1
            obtain ⟨a2, CA, cA, h1, h2, -, h3, h4, h5⟩ := fA k hkn
            obtain ⟨a3, CB, cB, g1, g2, -, g3, g4, g5⟩ := fB k hkn
            obtain ⟨a4, CC, cC, i1, i2, -, i3, i4, i5⟩ := fC k hkn
            obtain rfl : CA = CB := rising_ext _ _ h3 g3 (fun x => by rw [h4, g4, mem_nearG, mem_nearG, near_sim (sim_mv _)])
            obtain rfl : CA = CC := rising_ext _ _ h3 i3 (fun x => by rw [h4, i4, mem_nearG, mem_nearG, near_sim sim_two])
            exact ⟨CA, a2, a3, a4, cA, cB, cC, h5, fun W hW => ⟨(kA.keep hW).cell k h1, (kB.keep hW).cell k g1, (kC.keep hW).cell k i1, h2.keep hW, g2.keep hW, i2.keep hW⟩⟩)
          obtain ⟨l, a2, a3, a4, k2, k3, k4, hl4, hrow⟩ := HROW.out
          have HRW := Lib.hid hrow
          have HI1 := Lib.hid (fun W (hW : Below w8.heap.size w8 W) => ints_same a2 a3 k2 k3 l (by omega) W (hrow W hW).2.2.2.1 (hrow W hW).2.2.2.2.1)
          have HI2 := Lib.hid (fun W (hW : Below w8.heap.size w8 W) => ints_same a2 a4 k2 k4 l (by omega) W (hrow W hW).2.2.2.1 (hrow W hW).2.2.2.2.2)
          obtain ⟨LL, hLL⟩ : ∃ x, l.length = x := ⟨_, rfl⟩
          rw [hLL] at HRW HI1 HI2
          clear hrow hl4 hLL HROW HNA HNB HNC
          go_wp2_with fail
          refine wp_region_lit_txtZ none [0, 1, 2, 3, 4, 5, 6, 7, 9, 10, 11, 12, 13, 14, 15, 16, 17, 18, 20, 21] (fun W => Below w8.heap.size w8 W) (by kernel_rfl) (by kernel_rfl) (by kernel_rfl) (by kernel_rfl) HBK.out.drew ?_
          have hbd := HBK.out.drew
          generalize wr.drew = W0 at *
          (refine txt_light ?_ rfl rfl ?_ ?_; rotate_left; · (intro w' hS; (try dsimp only at hS); go_simp; with_reducible rfl)); try simp only [Act.put, List.getElem_toArray, List.getElem_cons_succ, List.getElem_cons_zero, List.setIfInBounds_toArray, List.set_cons_zero, List.set_cons_succ]
          (refine txt_light ?_ rfl rfl ?_ ?_; rotate_left; · (intro w' hS; (try dsimp only at hS); go_simp; with_reducible rfl)); try simp only [Act.put, List.getElem_toArray, List.getElem_cons_succ, List.getElem_cons_zero, List.setIfInBounds_toArray, List.set_cons_zero, List.set_cons_succ]
          (refine txt_light ?_ rfl rfl ?_ ?_; rotate_left; · (intro w' hS; (try dsimp only at hS); go_simp; with_reducible rfl)); try simp only [Act.put, List.getElem_toArray, List.getElem_cons_succ, List.getElem_cons_zero, List.setIfInBounds_toArray, List.set_cons_zero, List.set_cons_succ]
          refine txt_light (.slice a2 LL k2) rfl rfl ?_ ?_
          · intro w' hS
            have c7 := (HRW.out w' hS).1
            clear hS
            go_simp
          try simp only [Act.put, List.getElem_toArray, List.getElem_cons_succ, List.getElem_cons_zero, List.setIfInBounds_toArray, List.set_cons_zero, List.set_cons_succ]
          (refine txt_light ?_ rfl rfl ?_ ?_; rotate_left; · (intro w' hS; (try dsimp only at hS); go_simp; with_reducible rfl)); try simp only [Act.put, List.getElem_toArray, List.getElem_cons_succ, List.getElem_cons_zero, List.setIfInBounds_toArray, List.set_cons_zero, List.set_cons_succ]
          (refine txt_light ?_ rfl rfl ?_ ?_; rotate_left; · (intro w' hS; (try dsimp only at hS); go_simp; with_reducible rfl)); try simp only [Act.put, List.getElem_toArray, List.getElem_cons_succ, List.getElem_cons_zero, List.setIfInBounds_toArray, List.set_cons_zero, List.set_cons_succ]
          (refine txt_light ?_ rfl rfl ?_ ?_; rotate_left; · (intro w' hS; (try dsimp only at hS); go_simp; with_reducible rfl)); try simp only [Act.put, List.getElem_toArray, List.getElem_cons_succ, List.getElem_cons_zero, List.setIfInBounds_toArray, List.set_cons_zero, List.set_cons_succ]
          refine txt_light (.slice a3 LL k3) rfl rfl ?_ ?_
          · intro w' hS
            have c7 := (HRW.out w' hS).2.1
            clear hS
            go_simp
          try simp only [Act.put, List.getElem_toArray, List.getElem_cons_succ, List.getElem_cons_zero, List.setIfInBounds_toArray, List.set_cons_zero, List.set_cons_succ]
          refine txt_heavy rfl rfl (fun K hK => ?_)
          go_step
          refine (HI1.out W0 hbd).mono ?_
          rintro e w9a ⟨rfl, q1, rfl⟩
          have hbd1 := below_drewN hbd q1
          refine hK.out _ _ hbd1 ?_
          clear hK K
          try simp only [Act.put, List.getElem_toArray, List.getElem_cons_succ, List.getElem_cons_zero, List.setIfInBounds_toArray, List.set_cons_zero, List.set_cons_succ]
          (refine txt_light ?_ rfl rfl ?_ ?_; rotate_left; · (intro w' hS; (try dsimp only at hS); go_simp; with_reducible rfl)); try simp only [Act.put, List.getElem_toArray, List.getElem_cons_succ, List.getElem_cons_zero, List.setIfInBounds_toArray, List.set_cons_zero, List.set_cons_succ]
          (refine txt_light ?_ rfl rfl ?_ ?_; rotate_left; · (intro w' hS; (try dsimp only at hS); go_simp; with_reducible rfl)); try simp only [Act.put, List.getElem_toArray, List.getElem_cons_succ, List.getElem_cons_zero, List.setIfInBounds_toArray, List.set_cons_zero, List.set_cons_succ]
          (refine txt_light ?_ rfl rfl ?_ ?_; rotate_left; · (intro w' hS; (try dsimp only at hS); go_simp; with_reducible rfl)); try simp only [Act.put, List.getElem_toArray, List.getElem_cons_succ, List.getElem_cons_zero, List.setIfInBounds_toArray, List.set_cons_zero, List.set_cons_succ]
          (refine txt_light ?_ rfl rfl ?_ ?_; rotate_left; · (intro w' hS; (try dsimp only at hS); go_simp; with_reducible rfl)); try simp only [Act.put, List.getElem_toArray, List.getElem_cons_succ, List.getElem_cons_zero, List.setIfInBounds_toArray, List.set_cons_zero, List.set_cons_succ]
          (refine txt_light ?_ rfl rfl ?_ ?_; rotate_left; · (intro w' hS; (try dsimp only at hS); go_simp; with_reducible rfl)); try simp only [Act.put, List.getElem_toArray, List.getElem_cons_succ, List.getElem_cons_zero, List.setIfInBounds_toArray, List.set_cons_zero, List.set_cons_succ]
          refine txt_light (.slice a2 LL k2) rfl rfl ?_ ?_
          · intro w' hS
            have c7 := (HRW.out w' hS).1
            clear hS
            go_simp
          try simp only [Act.put, List.getElem_toArray, List.getElem_cons_succ, List.getElem_cons_zero, List.setIfInBounds_toArray, List.set_cons_zero, List.set_cons_succ]
          (refine txt_light ?_ rfl rfl ?_ ?_; rotate_left; · (intro w' hS; (try dsimp only at hS); go_simp; with_reducible rfl)); try simp only [Act.put, List.getElem_toArray, List.getElem_cons_succ, List.getElem_cons_zero, List.setIfInBounds_toArray, List.set_cons_zero, List.set_cons_succ]
          (refine txt_light ?_ rfl rfl ?_ ?_; rotate_left; · (intro w' hS; (try dsimp only at hS); go_simp; with_reducible rfl)); try simp only [Act.put, List.getElem_toArray, List.getElem_cons_succ, List.getElem_cons_zero, List.setIfInBounds_toArray, List.set_cons_zero, List.set_cons_succ]
          (refine txt_light ?_ rfl rfl ?_ ?_; rotate_left; · (intro w' hS; (try dsimp only at hS); go_simp; with_reducible rfl)); try simp only [Act.put, List.getElem_toArray, List.getElem_cons_succ, List.getElem_cons_zero, List.setIfInBounds_toArray, List.set_cons_zero, List.set_cons_succ]
          refine txt_light (.slice a4 LL k4) rfl rfl ?_ ?_
          · intro w' hS
            have c7 := (HRW.out w' hS).2.2.1
            clear hS
            go_simp
          try simp only [Act.put, List.getElem_toArray, List.getElem_cons_succ, List.getElem_cons_zero, List.setIfInBounds_toArray, List.set_cons_zero, List.set_cons_succ]
          refine txt_heavy rfl rfl (fun K hK => ?_)
          go_step
          refine (HI2.out (W0.drewN q1) hbd1).mono ?_
          rintro e w9b ⟨rfl, q2, rfl⟩
          have hbd2 := below_drewN hbd1 q2
          refine hK.out _ _ hbd2 ?_
          clear hK K
          try simp only [Act.put, List.getElem_toArray, List.getElem_cons_succ, List.getElem_cons_zero, List.setIfInBounds_toArray, List.set_cons_zero, List.set_cons_succ]
          (refine txt_light ?_ rfl rfl ?_ ?_; rotate_left; · (intro w' hS; (try dsimp only at hS); go_simp; with_reducible rfl)); try simp only [Act.put, List.getElem_toArray, List.getElem_cons_succ, List.getElem_cons_zero, List.setIfInBounds_toArray, List.set_cons_zero, List.set_cons_succ]
          (refine txt_light ?_ rfl rfl ?_ ?_; rotate_left; · (intro w' hS; (try dsimp only at hS); go_simp; with_reducible rfl)); try simp only [Act.put, List.getElem_toArray, List.getElem_cons_succ, List.getElem_cons_zero, List.setIfInBounds_toArray, List.set_cons_zero, List.set_cons_succ]
          refine txt_nil ?_
          have HBN := Lib.hid (below_drewN hbd (q1 + q2))
          go_wp2
          go_roundw
          case rel => exact ⟨k + 1, by omega, by go_num, HBN⟩
          case measure => simp [intOf]; omega
        · obtain rfl : n = k := by omega
          have hkn' : ¬ (n : Int) < (n : Int) := by omega
          have HBY := Lib.hid (HBZ.out.trans (HBK.out.mono HBZ.out.size))
          clear hkn hk
          go_wp2_with fail
          refine (known13 wr).mono ?_
          rintro e w9 ⟨rfl, hb9⟩
          have hbz := HBY.out.trans (hb9.mono HBY.out.size)
          go_wp2
          go_ret
          exact ⟨rfl, hbz⟩
theorem cmoves_law {w : World} (a : Option Addr) (c : Nat) (X : List Fc) (hl : X.length ≤ c) (hm : c ≤ maxLen) (hn : a = none → c = 0) (hr : Rd w a (fcs X)) (hx : ∀ y ∈ X, FcIn w y) (bx bY : Int) (hbx : (Lit.int .i64 bx).wf = true) (hby : (Lit.int .i64 bY).wf = true) :
    Calls Try.prog 7 #[.slice a X.length c, .agg #[.int .i64 bx, .int .i64 bY]] w fun e w' => e = .returned (.bool true) ∧ Below w.heap.size w w' :=
  cmoves_walk a c X hl hm bx bY hbx hby w hr hx
end Go.Proofs.Ytkdibaphmkaaoaa
