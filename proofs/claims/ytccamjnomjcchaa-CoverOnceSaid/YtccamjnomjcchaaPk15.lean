/-
  (*rows.Index).Add: of no box, of one.
-/
import Derived.Test.YtccamjnomjcchaaPk6
import Derived.Test.YtccamjnomjcchaaPk5
import Derived.Test.YtccamjnomjcchaaPk7
import Derived.Test.YtccamjnomjcchaaPk13
import Derived.Test.YtccamjnomjcchaaPk14
import Derived.Lib.BufferOwn
/- (*rows.Index).Add: of no box, of one. -/
set_option linter.unusedVariables false
set_option linter.unusedSimpArgs false
set_option maxRecDepth 100000
namespace Go
open Go.RowKit
theorem wp_mapEntry {P : Program} {o : Oper} {a : Act} {w w' : World} {K : Act → World → Prop} {Q : Exit → Act → World → Prop} {T : TypeId} (m x : Operand) (hop : o.op = Op.mapEntry T m x) (mv key v : Value) (hm : a.eval m = mv) (hx : a.eval x = key)
    (hrun : (Instr.mapEntry T mv key).run P w = .ok v w') (h : K (a.put o.dst v) w') : o.wp P a w K Q := by
  unfold Oper.wp; simp [execOp, hop, hm, hx, hrun, Result.andThen]; exact h
theorem wp_entryStore {P : Program} {o : Oper} {a : Act} {w w' : World} {K : Act → World → Prop} {Q : Exit → Act → World → Prop} {T : TypeId} (m s x : Operand) (hop : o.op = Op.entryStore T m s x) (mv st v : Value) (hm : a.eval m = mv) (hs : a.eval s = st) (hx : a.eval x = v)
    (hrun : (Instr.entryStore T mv st v).run P w = .ok () w') (h : K (a.put o.dst undef) w') : o.wp P a w K Q := by
  unfold Oper.wp; simp [execOp, hop, hm, hs, hx, hrun, Result.andThen]; exact h
theorem ownsRow_nc {w : World} {base : Nat} {E : TypeId} {sz n : Nat} {v : Value} {xs : List Value} {r : Nat} {o : Obj} (h : w.ownsRow base E sz v n xs) (hr : w.heap[r]? = some o) (ho : o.isCells = false) : v.ownBlock ≠ some r := by
  intro e
  rcases h.2 with ⟨rfl, _⟩ | ⟨g, cap, cur, rfl, _, hg, _⟩
  · cases e
  · obtain rfl : g = r := by simpa [Value.ownBlock] using e
    rw [hg] at hr; cases hr; cases ho
theorem ownsRow_ty {w : World} {base : Nat} {E T : TypeId} {sz n : Nat} {v : Value} {xs : List Value} {r : Nat} {cs : Array Value} {fr : Nat × Nat} (h : w.ownsRow base E sz v n xs) (hr : w.heap[r]? = some (.cells cs T fr)) (ho : T ≠ E) : v.ownBlock ≠ some r := by
  intro e
  rcases h.2 with ⟨rfl, _⟩ | ⟨g, cap, cur, rfl, _, hg, _⟩
  · cases e
  · obtain rfl : g = r := by simpa [Value.ownBlock] using e
    rw [hg] at hr; cases hr; exact ho rfl
theorem ownsRow_cells {w : World} {base : Nat} {E : TypeId} {sz n : Nat} {v : Value} {xs : List Value} {r : Nat} (h : w.ownsRow base E sz v n xs) (hr : v.ownBlock = some r) : ∃ o, w.heap[r]? = some o ∧ o.isCells = true := by
  rcases h.2 with ⟨rfl, _⟩ | ⟨g, cap, cur, rfl, _, hg, _⟩
  · cases hr
  · obtain rfl : g = r := by simpa [Value.ownBlock] using hr
    exact ⟨_, hg, rfl⟩
theorem Blk.heap {w : World} {b : Nat} {vs : List Value} (h : Blk w b vs) : ∃ T, w.heap[b]? = some (.cells vs.toArray T (0, 0)) := h
end Go
namespace Go.Proofs.Ytccamjnomjcchaa
open Go.RowKit
def AddI (H B T0 T2 : Nat) (w0 : World) (bs : List Bx) (b : Bx) (va vg : Value) (pre : List (Int × Int)) (W : World) : Prop :=
  ∃ (f : Int × Int → Option Value) (m n : Nat), VMap Try.prog 110 In2.val W B f m n ∧ n ≤ 64 * bs.length + pre.length ∧ IdxIn W B (bs ++ [b]) va vg f (fieldI bs pre) (greatsF bs) ∧ Blk W (B + 1) [va, .map (some B), vg] ∧ Blk W T0 [.pointer (some ⟨B + 1, 0, none⟩)] ∧ Blk W T2 [.int .i64 (bs.length : Int)] ∧ (∀ a v, f a = some v → v.ownBlock ≠ some T0 ∧ v.ownBlock ≠ some T2) ∧ Below B w0 W ∧ H ≤ W.heap.size
theorem AddI.own (H B T0 T2 : Nat) (w0 : World) (bs : List Bx) (b : Bx) (va vg : Value) (hB : B + 2 ≤ H) : OwnFrom H (AddI H B T0 T2 w0 bs b va vg) := by
  rintro pre X Y row ⟨f, m, n, h1, h2, h3, h4, h5, h6, h7, h8, h9⟩ hg hr; have hnc : ∀ r, row = some r → ∃ o : Obj, X.heap[r]? = some o ∧ o.isCells = false := fun r e => (hr r e).2; have hblk : ∀ k vs, Blk X k vs → Blk Y k vs := fun k vs h => h.grown hg (fun e => by
    obtain ⟨o, ho, hc⟩ := hnc k e.symm; obtain ⟨T, hT⟩ := h; rw [hT] at ho; cases ho; cases hc)
  refine ⟨f, m, n, h1.kept hg (fun e => by have := (hr B e.symm).1; omega), h2, ⟨?_, ?_, ?_, h3.d1, h3.d2⟩, hblk _ _ h4, hblk _ _ h5, hblk _ _ h6, h7, h8.grown hg (by omega) (fun k e => by have := (hr k e).1; omega), Nat.le_trans h9 hg.size⟩
  · exact ownsRow_other h3.all hg (fun r e => by obtain ⟨o, ho, hc⟩ := hnc r e; exact ownsRow_nc h3.all ho hc)
  · exact ownsRow_other h3.great hg (fun r e => by obtain ⟨o, ho, hc⟩ := hnc r e; exact ownsRow_nc h3.great ho hc)
  · exact h3.rows.kept hg (fun r e a v hv => by obtain ⟨o, ho, hc⟩ := hnc r e; exact ownsRow_nc (h3.rows.own a v hv) ho hc)

theorem IdxOk.other {X Y : World} {B : Nat} {bs : List Bx} (h : IdxOk X B bs) {r : Nat} {o : Obj} (hg : X.grownBy Y (some r)) (hr : B + 2 ≤ r) (ho : X.heap[r]? = some o) (hc : o.isCells = false) : IdxOk Y B bs := by
  obtain ⟨va, vg, f, m, n, h1, h2, h3, h4, h5⟩ := h; refine ⟨va, vg, f, m, n, h1.grown hg (fun e => by cases e; omega), h2.kept hg (fun e => by cases e; omega), h3, ⟨?_, ?_, ?_, h4.d1, h4.d2⟩, h5⟩
  · exact ownsRow_other h4.all hg (fun r e => by cases e; exact ownsRow_nc h4.all ho hc)
  · exact ownsRow_other h4.great hg (fun r e => by cases e; exact ownsRow_nc h4.great ho hc)
  · exact h4.rows.kept hg (fun r e a v hv => by cases e; exact ownsRow_nc (h4.rows.own a v hv) ho hc)
attribute [local go_sem] Oper.semAt_some
set_option maxHeartbeats 12800000 in
theorem add_one (B : Nat) (bs : List Bx) (b : Bx) (hlen : bs.length ≤ 1000) (hb : b.Ok) (a : Option Addr) (c : Nat) (w : World) (hi : IdxOk w B bs) (hr : Rd w a (bxs [b])) (hBw : B + 2 ≤ w.heap.size) :
    Calls Try.prog 58 #[.pointer (some ⟨B + 1, 0, none⟩), .slice a 1 c] w fun e w' => (∃ v, e = .returned v) ∧ IdxOk w' B (bs ++ [b]) ∧ Below B w w' := by
  refine (callsIn_wide (n := 5)).1 ?_; refine callsIn_of_wp_marks Try.func58 rfl trivial ?_ rfl; simp only [Try.ntmps58, List.size_toArray, List.length_cons, List.length_nil, Nat.reduceAdd, Nat.reduceSub, Array.replicate_succ, Array.replicate_zero, List.push_toArray, List.append_toArray, List.nil_append, List.cons_append]; refine wpIn_wide.2 ?_; obtain ⟨va, vg, f, m, n, hkp, hV, hn, hI, hok⟩ := hi; obtain ⟨b0, o0, rfl, hbb, c0, c1, c2, c3⟩ := hr.bx 0 (by simp); simp only [List.getElem_cons_zero, Nat.zero_mul, Nat.add_zero] at c0 c1 c2 c3; obtain ⟨⟨lx, ly⟩, ⟨hx, hy⟩⟩ := b; dsimp only at c0 c1 c2 c3; obtain ⟨H, hH⟩ : ∃ H, w.heap.size = H := ⟨_, rfl⟩; obtain ⟨xa, xc, hve, -, -, -, -, -⟩ := hI.all.form; subst hve; obtain ⟨NB, hNB⟩ : ∃ N, bs.length = N := ⟨_, rfl⟩; have HNB := Lib.hid hNB; rw [hNB] at hlen hn hkp hI; have HV := Lib.hid (hV.alloc (.cells #[.pointer (some ⟨B + 1, 0, none⟩)] 101)); have HI := Lib.hid (hI.keep (Below.new w (.cells #[.pointer (some ⟨B + 1, 0, none⟩)] 101))); have kp := hkp.alloc (.cells #[.pointer (some ⟨B + 1, 0, none⟩)] 101); have kT := Blk.new w [.pointer (some ⟨B + 1, 0, none⟩)] 101; have hb0 : Below B w (w.alloc (.cells #[.pointer (some ⟨B + 1, 0, none⟩)] 101)) := (Below.refl B w).alloc (by omega) _; have hsz : (w.alloc (.cells #[.pointer (some ⟨B + 1, 0, none⟩)] 101)).heap.size = H + 1 := by simp [hH]
  have hcell := fun p (h : p.block < w.heap.size) => (Below.new w (.cells #[.pointer (some ⟨B + 1, 0, none⟩)] 101)).cell (p := p) h; have d0 := (hcell ⟨b0, o0, none⟩ hbb).trans c0; have d1 := (hcell ⟨b0, o0 + 1, none⟩ hbb).trans c1; have d2 := (hcell ⟨b0, o0 + 2, none⟩ hbb).trans c2; have d3 := (hcell ⟨b0, o0 + 3, none⟩ hbb).trans c3; rw [hH] at kT; have hvgl : ∀ k, vg.ownBlock = some k → k < H := fun k hk => by rw [← hH]; exact (hI.great.lt k hk).2
  have hfl : ∀ x v, f x = some v → ∀ k, v.ownBlock = some k → k < H := fun x v hv k hk => by rw [← hH]; exact ((hI.rows.own x v hv).lt k hk).2
  have hval : ∀ k, (Value.slice xa NB xc).ownBlock = some k → k < H := fun k hk => by rw [← hH]; exact (hI.all.lt k hk).2
  have HOK := Lib.hid hok; have hbH : b0 < H := by rw [← hH]; exact hbb
  clear hcell hV hI hkp hr c0 c1 c2 c3 hok hNB; have n0 : ¬ B = H := by omega
  have n1 : B + 1 < H + 1 := by omega
  have n2 : ¬ b0 = H + 1 := by omega
  go_wp2; generalize w.alloc (.cells #[.pointer (some ⟨B + 1, 0, none⟩)] 101) = w1 at *; have q0 := kT.cell 0 rfl; have q1 := kp.cell 0 rfl; have q2 := kp.free 0; have hbB : Below B w1 ((w1.alloc (.cells #[.int .i64 lx, .int .i64 ly, .int .i64 hx, .int .i64 hy] 104)).alloc (.cells #[.int .i64 (NB : Int)] 3)) := ((Below.refl B w1).alloc (by omega) _).alloc (by simp; omega) _; have hbA : Below w1.heap.size w1 ((w1.alloc (.cells #[.int .i64 lx, .int .i64 ly, .int .i64 hx, .int .i64 hy] 104)).alloc (.cells #[.int .i64 (NB : Int)] 3)) := (Below.new _ _).alloc (by simp) _; have HV2 := Lib.hid (HV.out.keep hbA); have HI2 := Lib.hid (HI.out.keep hbA); have kT2 := kT.keep hbA; have kp2 := kp.keep hbA; have kb := (Blk.lit w1 (H + 1) [.int .i64 lx, .int .i64 ly, .int .i64 hx, .int .i64 hy] 104 hsz).alloc (.cells #[.int .i64 (NB : Int)] 3); have ki := Blk.lit (w1.alloc (.cells #[.int .i64 lx, .int .i64 ly, .int .i64 hx, .int .i64 hy] 104)) (H + 2) [.int .i64 (NB : Int)] 3 (by simp [hsz]); have hb2 := hb0.trans hbB; have hsz2 : ((w1.alloc (.cells #[.int .i64 lx, .int .i64 ly, .int .i64 hx, .int .i64 hy] 104)).alloc (.cells #[.int .i64 (NB : Int)] 3)).heap.size = H + 3 := by simp [hsz]
  clear HV HI hbB hbA; refine wp_loop_rounds 2 ?_; unfold Code.rounds; go_wp2; clear q0 q1 q2; obtain ⟨W2, hW2⟩ : ∃ W2, (w1.alloc (.cells #[.int .i64 lx, .int .i64 ly, .int .i64 hx, .int .i64 hy] 104)).alloc (.cells #[.int .i64 (NB : Int)] 3) = W2 := ⟨_, rfl⟩; rw [hW2] at HV2 HI2 kT2 kp2 kb ki hb2 hsz2 ⊢; clear hW2 kT kp d0 d1 d2 d3 hb0 hsz; refine wp_region_stage 11 [0, 1, 2, 3, 4, 5, 8, 9] [10] [0, 1, 2, 3, 5, 8, 9] (fun W => Blk W (B + 1) [.slice xa NB xc, .map (some B), vg]) (fun W => Blk W H [.pointer (some ⟨B + 1, 0, none⟩)] ∧ Blk W (H + 1) [.int .i64 lx, .int .i64 ly, .int .i64 hx, .int .i64 hy]) rfl (by kernel_rfl) (by kernel_rfl) ?_; replace kT2 := kT2.drew; replace kp2 := kp2.drew; replace kb := kb.drew; replace ki := ki.drew; replace hb2 := hb2.drew; have HV3 : Hid (VMap Try.prog 110 In2.val W2.drew B f m n) := HV2; have HI3 : Hid (IdxIn W2.drew B bs (.slice xa NB xc) vg f (fieldG bs) (greatsF bs)) := Lib.hid (HI2.out.keep (Below.refl _ _).drew); have hsz3 : W2.drew.heap.size = H + 3 := hsz2; clear HV2 HI2 hsz2; generalize W2.drew = W3 at *; have hI := And.intro kT2 kb; refine stg_free 0 _ (.pointer (some ⟨B + 1, 0, none⟩)) (by kernel_rfl) (by kernel_rfl) (by kernel_rfl) rfl rfl ?_ hI ?_
  · intro w' h; have c0 := h.1.cell 0 rfl; clear h; go_simp
  try simp only [Act.put, List.getElem_toArray, List.getElem_cons_succ, List.getElem_cons_zero, List.setIfInBounds_toArray, List.set_cons_zero, List.set_cons_succ]
  refine stg_free 1 _ (.pointer (some ⟨B + 1, 0, none⟩)) (by kernel_rfl) (by kernel_rfl) (by kernel_rfl) rfl rfl ?_ hI ?_
  · intro w' h; have c0 := h.1.cell 0 rfl; clear h; go_simp
  try simp only [Act.put, List.getElem_toArray, List.getElem_cons_succ, List.getElem_cons_zero, List.setIfInBounds_toArray, List.set_cons_zero, List.set_cons_succ]
  (refine stg_free 2 _ ?_ (by kernel_rfl) (by kernel_rfl) (by kernel_rfl) rfl rfl ?_ hI ?_; rotate_left; · (intro w' _; go_simp; with_reducible rfl)); try simp only [Act.put, List.getElem_toArray, List.getElem_cons_succ, List.getElem_cons_zero, List.setIfInBounds_toArray, List.set_cons_zero, List.set_cons_succ]
  (refine stg_free 3 _ ?_ (by kernel_rfl) (by kernel_rfl) (by kernel_rfl) rfl rfl ?_ hI ?_; rotate_left; · (intro w' _; go_simp; with_reducible rfl)); try simp only [Act.put, List.getElem_toArray, List.getElem_cons_succ, List.getElem_cons_zero, List.setIfInBounds_toArray, List.set_cons_zero, List.set_cons_succ]
  refine stg_light 4 _ (.slice xa NB xc) (by kernel_rfl) (by kernel_rfl) (by kernel_rfl) rfl rfl ?_ kp2 hI ?_
  · intro w' h _; have c0 := h.cell 0 rfl; clear h; go_simp
  try simp only [Act.put, List.getElem_toArray, List.getElem_cons_succ, List.getElem_cons_zero, List.setIfInBounds_toArray, List.set_cons_zero, List.set_cons_succ]
  refine stg_free 5 _ (.agg #[.int .i64 lx, .int .i64 ly, .int .i64 hx, .int .i64 hy]) (by kernel_rfl) (by kernel_rfl) (by kernel_rfl) rfl rfl ?_ hI ?_
  · intro w' h; have c0 := h.2.cell 0 rfl; have c1 := h.2.cell 1 rfl; have c2 := h.2.cell 2 rfl; have c3 := h.2.cell 3 rfl; clear h; go_simp
  try simp only [Act.put, List.getElem_toArray, List.getElem_cons_succ, List.getElem_cons_zero, List.setIfInBounds_toArray, List.set_cons_zero, List.set_cons_succ]
  clear hI; refine stg_oneS 6 _ (by kernel_rfl) (by kernel_rfl) (by kernel_rfl) rfl rfl (fun K hK => ?_); go_step; have hbl4 := Below.new W3 (.cells #[.int .i64 lx, .int .i64 ly, .int .i64 hx, .int .i64 hy] 104); have rd := Rd.lit W3 (H + 3) [.int .i64 lx, .int .i64 ly, .int .i64 hx, .int .i64 hy] 104 hsz3; replace kT2 := kT2.keep hbl4; replace kp2 := kp2.keep hbl4; replace kb := kb.keep hbl4; replace ki := ki.keep hbl4; replace hb2 := hb2.trans (hbl4.mono (by omega)); have HV4 := Lib.hid (HV3.out.keep hbl4); have HI4 := Lib.hid (HI3.out.keep hbl4); refine hK.out _ _ kp2 ⟨kT2, kb⟩ ?_; have hsz4 : (W3.alloc (.cells #[.int .i64 lx, .int .i64 ly, .int .i64 hx, .int .i64 hy] 104)).heap.size = H + 4 := by simp [hsz3]
  clear hK K HV3 HI3 hbl4; generalize W3.alloc (.cells #[.int .i64 lx, .int .i64 ly, .int .i64 hx, .int .i64 hy] 104) = W4 at *; clear hsz3
  try simp only [Act.put, List.getElem_toArray, List.getElem_cons_succ, List.getElem_cons_zero, List.setIfInBounds_toArray, List.set_cons_zero, List.set_cons_succ]
  refine stg_oneS 7 _ (by kernel_rfl) (by kernel_rfl) (by kernel_rfl) rfl rfl (fun K hK => ?_); have hIa := HI4.out.all; rw [HNB.out] at hIa; refine wp_app_at (.tmp 26) (.tmp 28) 144 rfl (B + 2) 104 _ 4 32 Try.underlying144 Try.infoBx rfl (by decide) (.slice xa NB xc) NB (bxs bs) rfl hIa ⟨H + 3, 0, none⟩ 1 1 (Bx.cells ⟨⟨lx, ly⟩, ⟨hx, hy⟩⟩) rfl rd rfl (Bx.cells_one _) (by omega) (by decide) (by omega) ?_; intro va' W5 hown5 hg5 hat5; obtain ⟨ya, yc, hve, -, -, -, -, -⟩ := hown5.form; subst hve; have nB : ∀ k, k < B + 2 → some k ≠ (Value.slice xa NB xc).ownBlock := fun k hk e => by have := (hIa.lt k e.symm).1; omega
  have nH : ∀ k, H ≤ k → some k ≠ (Value.slice xa NB xc).ownBlock := fun k hk e => by have := hval k e.symm; omega
  replace kT2 := kT2.grown hg5 (nH _ (Nat.le_refl _)); replace kp2 := kp2.grown hg5 (nB _ (by omega)); replace kb := kb.grown hg5 (nH _ (by omega)); replace ki := ki.grown hg5 (nH _ (by omega)); replace hb2 := hb2.grown hg5 (by omega) (fun j hj => by have := (hIa.lt j hj).1; omega); have HV5 := Lib.hid (HV4.out.kept hg5 (nB _ (by omega))); have hgr5 := ownsRow_other HI4.out.great hg5 (fun r e => HI4.out.d1 r e); have hrw5 := HI4.out.rows.kept hg5 (fun r e a v hv => (HI4.out.d2 a v hv).1 r e); have hsz5 : H + 4 ≤ W5.heap.size := by have := hg5.size; omega
  have hd1 : Disj (.slice ya (NB + 1) yc) vg := fun k h1 h2 => by
    rcases hat5 with e | e
    · exact HI4.out.d1 k (e ▸ h1) h2
    · have := hvgl k h2; rw [h1] at e; cases e; omega
  have hd2 : ∀ a v, f a = some v → Disj (.slice ya (NB + 1) yc) v := fun a v hv k h1 h2 => by
    rcases hat5 with e | e
    · exact (HI4.out.d2 a v hv).1 k (e ▸ h1) h2
    · have := hfl a v hv k h2; rw [h1] at e; cases e; omega
  have hvl5 : ∀ k, (Value.slice ya (NB + 1) yc).ownBlock = some k → k < H ∨ H + 4 ≤ k := fun k h1 => by
    rcases hat5 with e | e
    · exact .inl (hval k (e ▸ h1))
    · rw [h1] at e; cases e; right; omega
  have HA5 : Hid (W5.ownsRow (B + 2) 104 4 (.slice ya (NB + 1) yc) (bs ++ [(⟨⟨lx, ly⟩, ⟨hx, hy⟩⟩ : Bx)]).length (bxs (bs ++ [(⟨⟨lx, ly⟩, ⟨hx, hy⟩⟩ : Bx)]))) := Lib.hid (by rw [bxs_snoc, List.length_append, HNB.out]; exact hown5); have HG5 := Lib.hid hgr5; have HR5 := Lib.hid hrw5; have HD5 := Lib.hid (And.intro hd1 hd2); have HD6 := Lib.hid (HI4.out.d2); refine hK.out _ _ kp2 ⟨kT2, kb⟩ ?_; clear hK K hown5 hg5 hat5 hIa HV4 HI4 rd hgr5 hrw5 hd1 hd2 nB nH hval
  try simp only [Act.put, List.getElem_toArray, List.getElem_cons_succ, List.getElem_cons_zero, List.setIfInBounds_toArray, List.set_cons_zero, List.set_cons_succ]
  have hI := And.intro kT2 kb
  (refine stg_free 8 _ ?_ (by kernel_rfl) (by kernel_rfl) (by kernel_rfl) rfl rfl ?_ hI ?_; rotate_left; · (intro w' _; go_simp; with_reducible rfl)); try simp only [Act.put, List.getElem_toArray, List.getElem_cons_succ, List.getElem_cons_zero, List.setIfInBounds_toArray, List.set_cons_zero, List.set_cons_succ]
  (refine stg_free 9 _ ?_ (by kernel_rfl) (by kernel_rfl) (by kernel_rfl) rfl rfl ?_ hI ?_; rotate_left; · (intro w' _; go_simp; with_reducible rfl)); try simp only [Act.put, List.getElem_toArray, List.getElem_cons_succ, List.getElem_cons_zero, List.setIfInBounds_toArray, List.set_cons_zero, List.set_cons_succ]
  clear hI; have q0 := kp2.free 0; have q1 := kp2.cell 0 rfl; refine stg_one 10 _ (by kernel_rfl) (by kernel_rfl) (by kernel_rfl) rfl rfl (fun K hK => ?_); go_step; have hBH : B + 1 ≠ H := by omega
  replace kT2 := kT2.set_at (b' := B + 1) (o := 0) (Ne.symm hBH) (.slice ya (NB + 1) yc); replace kb := kb.set_at (b' := B + 1) (o := 0) (by omega) (.slice ya (NB + 1) yc); replace ki := ki.set_at (b' := B + 1) (o := 0) (by omega) (.slice ya (NB + 1) yc); replace kp2 : Blk (W5.setCell ⟨B + 1, 0, none⟩ (.slice ya (NB + 1) yc)) (B + 1) [(.slice ya (NB + 1) yc), .map (some B), vg] := kp2.set 0 (.slice ya (NB + 1) yc); refine hK.out _ _ ⟨kT2, kb⟩ ?_; clear hK K q0 q1; refine stg_end (by kernel_rfl) ?_
  try simp only [Act.put, List.getElem_toArray, List.getElem_cons_succ, List.getElem_cons_zero, List.setIfInBounds_toArray, List.set_cons_zero, List.set_cons_succ]
  have hg6 : W5.grownBy (W5.setCell ⟨B + 1, 0, none⟩ (.slice ya (NB + 1) yc)) (some (B + 1)) := grownBy_setCell' W5 (B + 1) _; replace hb2 := hb2.grown hg6 (by omega) (fun k e => by cases e; omega); have HV6 := Lib.hid (HV5.out.kept hg6 (by simp)); have HI6 : Hid (IdxIn (W5.setCell ⟨B + 1, 0, none⟩ (.slice ya (NB + 1) yc)) B (bs ++ [(⟨⟨lx, ly⟩, ⟨hx, hy⟩⟩ : Bx)]) (.slice ya (NB + 1) yc) vg f (fieldG bs) (greatsF bs)) := Lib.hid
    ⟨ownsRow_other HA5.out hg6 (fun r e e2 => by cases e; have := (HA5.out.lt _ e2).1; omega), ownsRow_other HG5.out hg6 (fun r e e2 => by cases e; have := (HG5.out.lt _ e2).1; omega), HR5.out.low hg6 (by omega), HD5.out.1, fun a v hv => ⟨HD5.out.2 a v hv, (HD6.out a v hv).2⟩⟩
  have hsz6 : H + 4 ≤ (W5.setCell ⟨B + 1, 0, none⟩ (.slice ya (NB + 1) yc)).heap.size := Nat.le_trans hsz5 hg6.size; clear hg6 HV5 HA5 HG5 HR5 HD5 HD6 hsz5; generalize W5.setCell ⟨B + 1, 0, none⟩ (.slice ya (NB + 1) yc) = W6 at *; have HRT := Lib.hid (fun W => rright_any ⟨⟨lx, ly⟩, ⟨hx, hy⟩⟩ hb W); have HGT := Lib.hid (fun W => great_any ⟨⟨lx, ly⟩, ⟨hx, hy⟩⟩ hb W); dsimp only [Bx.val] at HRT HGT; have q0 := kb.cell 0 rfl; have q1 := kb.cell 1 rfl; have q2 := kb.cell 2 rfl; have q3 := kb.cell 3 rfl
  go_wp2_with fail
  refine (HRT.out W6).mono ?_; rintro e W7 ⟨rfl, hb7⟩; replace kb := kb.keep hb7; replace kT2 := kT2.keep hb7; replace kp2 := kp2.keep hb7; replace ki := ki.keep hb7; replace hb2 := hb2.trans (hb7.mono (by omega)); have HV7 := Lib.hid (HV6.out.keep hb7); have HI7 := Lib.hid (HI6.out.keep hb7); have hsz7 : H + 4 ≤ W7.heap.size := Nat.le_trans hsz6 hb7.size; clear hb7 HV6 HI6 hsz6 q0 q1 q2 q3 HRT; have q0 := kb.cell 0 rfl; have q1 := kb.cell 1 rfl; have q2 := kb.cell 2 rfl; have q3 := kb.cell 3 rfl
  go_wp2_with fail
  refine (HGT.out W7).mono ?_; rintro e W8 ⟨rfl, hb8⟩; replace kb := kb.keep hb8; replace kT2 := kT2.keep hb8; replace kp2 := kp2.keep hb8; replace ki := ki.keep hb8; replace hb2 := hb2.trans (hb8.mono (by omega)); have HV8 := Lib.hid (HV7.out.keep hb8); have HI8 := Lib.hid (HI7.out.keep hb8); have hsz8 : H + 4 ≤ W8.heap.size := Nat.le_trans hsz7 hb8.size; clear hb8 HV7 HI7 hsz7 q0 q1 q2 q3 HGT; have q0 := kb.cell 0 rfl; have q1 := kb.cell 1 rfl; have q2 := kb.cell 2 rfl; have q3 := kb.cell 3 rfl; obtain ⟨GB, hGB⟩ : ∃ g, greatF ⟨⟨lx, ly⟩, ⟨hx, hy⟩⟩ = g := ⟨_, rfl⟩; have HGB := Lib.hid hGB; rw [hGB]; clear hGB
  cases GB with
  | true =>
    obtain ⟨ga, gc, hge, -, -, -, -, -⟩ := HI8.out.great.form; have HGL := Lib.hid (greatsF_len bs); obtain ⟨GL, hGL⟩ : ∃ n, (greatsF bs).length = n := ⟨_, rfl⟩; rw [hGL] at hge HGL; have HGL2 := Lib.hid hGL; subst hge; rw [HNB.out] at HGL; clear hGL; go_wp2; refine wp_region_stage 11 [0, 1, 2, 3, 4, 5, 8, 9] [10] [0, 1, 2, 3, 5, 8, 9] (fun W => Blk W (B + 1) [.slice ya (NB + 1) yc, .map (some B), .slice ga GL gc]) (fun W => Blk W H [.pointer (some ⟨B + 1, 0, none⟩)] ∧ Blk W (H + 2) [.int .i64 (NB : Int)]) rfl (by kernel_rfl) (by kernel_rfl) ?_; replace kT2 := kT2.drew; replace kp2 := kp2.drew; replace ki := ki.drew; replace hb2 := hb2.drew; have HV9 : Hid (VMap Try.prog 110 In2.val W8.drew B f m n) := HV8; have HI9 := Lib.hid (HI8.out.keep (Below.refl _ _).drew); have hsz9 : H + 4 ≤ W8.drew.heap.size := hsz8; clear HV8 HI8 hsz8 q0 q1 q2 q3 kb; generalize W8.drew = W9 at *; have hI := And.intro kT2 ki; refine stg_free 0 _ (.pointer (some ⟨B + 1, 0, none⟩)) (by kernel_rfl) (by kernel_rfl) (by kernel_rfl) rfl rfl ?_ hI ?_
    · intro w' h; have c0 := h.1.cell 0 rfl; clear h; go_simp
    try simp only [Act.put, List.getElem_toArray, List.getElem_cons_succ, List.getElem_cons_zero, List.setIfInBounds_toArray, List.set_cons_zero, List.set_cons_succ]
    refine stg_free 1 _ (.pointer (some ⟨B + 1, 0, none⟩)) (by kernel_rfl) (by kernel_rfl) (by kernel_rfl) rfl rfl ?_ hI ?_
    · intro w' h; have c0 := h.1.cell 0 rfl; clear h; go_simp
    try simp only [Act.put, List.getElem_toArray, List.getElem_cons_succ, List.getElem_cons_zero, List.setIfInBounds_toArray, List.set_cons_zero, List.set_cons_succ]
    (refine stg_free 2 _ ?_ (by kernel_rfl) (by kernel_rfl) (by kernel_rfl) rfl rfl ?_ hI ?_; rotate_left; · (intro w' _; go_simp; with_reducible rfl)); try simp only [Act.put, List.getElem_toArray, List.getElem_cons_succ, List.getElem_cons_zero, List.setIfInBounds_toArray, List.set_cons_zero, List.set_cons_succ]
    (refine stg_free 3 _ ?_ (by kernel_rfl) (by kernel_rfl) (by kernel_rfl) rfl rfl ?_ hI ?_; rotate_left; · (intro w' _; go_simp; with_reducible rfl)); try simp only [Act.put, List.getElem_toArray, List.getElem_cons_succ, List.getElem_cons_zero, List.setIfInBounds_toArray, List.set_cons_zero, List.set_cons_succ]
    refine stg_light 4 _ (.slice ga GL gc) (by kernel_rfl) (by kernel_rfl) (by kernel_rfl) rfl rfl ?_ kp2 hI ?_
    · intro w' h _; have c0 := h.cell 2 rfl; clear h; go_simp
    try simp only [Act.put, List.getElem_toArray, List.getElem_cons_succ, List.getElem_cons_zero, List.setIfInBounds_toArray, List.set_cons_zero, List.set_cons_succ]
    refine stg_free 5 _ (.int .i64 (NB : Int)) (by kernel_rfl) (by kernel_rfl) (by kernel_rfl) rfl rfl ?_ hI ?_
    · intro w' h; have c0 := h.2.cell 0 rfl; clear h; go_simp
    try simp only [Act.put, List.getElem_toArray, List.getElem_cons_succ, List.getElem_cons_zero, List.setIfInBounds_toArray, List.set_cons_zero, List.set_cons_succ]
    clear hI; refine stg_oneS 6 _ (by kernel_rfl) (by kernel_rfl) (by kernel_rfl) rfl rfl (fun K hK => ?_); go_step; have hblA := Below.new W9 (.cells #[.int .i64 (NB : Int)] 3); obtain ⟨S9, hS9⟩ : ∃ s, W9.heap.size = s := ⟨_, rfl⟩; have rd := Rd.lit W9 S9 [.int .i64 (NB : Int)] 3 hS9; replace kT2 := kT2.keep hblA; replace kp2 := kp2.keep hblA; replace ki := ki.keep hblA; replace hb2 := hb2.trans (hblA.mono (by omega)); have HVA := Lib.hid (HV9.out.keep hblA); have HIA := Lib.hid (HI9.out.keep hblA); refine hK.out _ _ kp2 ⟨kT2, ki⟩ ?_; have hszA : (W9.alloc (.cells #[.int .i64 (NB : Int)] 3)).heap.size = S9 + 1 := by simp [hS9]
    rw [hS9] at hsz9; clear hK K HV9 HI9 hblA; rw [hS9]; generalize W9.alloc (.cells #[.int .i64 (NB : Int)] 3) = WA at *; clear hS9
    try simp only [Act.put, List.getElem_toArray, List.getElem_cons_succ, List.getElem_cons_zero, List.setIfInBounds_toArray, List.set_cons_zero, List.set_cons_succ]
    refine stg_oneS 7 _ (by kernel_rfl) (by kernel_rfl) (by kernel_rfl) rfl rfl (fun K hK => ?_); have hIa := HIA.out.great; rw [HGL2.out] at hIa; refine wp_app_at (.tmp 57) (.tmp 59) 43 rfl (B + 2) 3 _ 1 8 Try.underlying43 Try.infoIz rfl (by decide) (.slice ga GL gc) GL (ins (greatsF bs)) rfl hIa ⟨S9, 0, none⟩ 1 1 [.int .i64 (NB : Int)] rfl rd rfl (ins_one [(NB : Int)]) (by have := HGL.out; omega) (by decide) (by omega) ?_; intro vg' WB hownB hgB hatB; obtain ⟨za, zc, hze, -, -, -, -, -⟩ := hownB.form; subst hze; have nB : ∀ k, k < B + 2 → some k ≠ (Value.slice ga GL gc).ownBlock := fun k hk e => by have := (hIa.lt k e.symm).1; omega
    have nH : ∀ k, H ≤ k → some k ≠ (Value.slice ga GL gc).ownBlock := fun k hk e => by have := hvgl k e.symm; omega
    replace kT2 := kT2.grown hgB (nH _ (Nat.le_refl _)); replace kp2 := kp2.grown hgB (nB _ (by omega)); replace ki := ki.grown hgB (nH _ (by omega)); replace hb2 := hb2.grown hgB (by omega) (fun j hj => by have := (hIa.lt j hj).1; omega); have HVB := Lib.hid (HVA.out.kept hgB (nB _ (by omega))); have HAB := Lib.hid (ownsRow_other HIA.out.all hgB (fun r e => HIA.out.d1.symm r e)); have HRB := Lib.hid (HIA.out.rows.kept hgB (fun r e a v hv => (HIA.out.d2 a v hv).2 r e)); have hszB : S9 + 1 ≤ WB.heap.size := by have := hgB.size; omega
    have HD1 : Hid (Disj (.slice ya (NB + 1) yc) (.slice za (GL + 1) zc)) := Lib.hid (Disj.symm (fun k h1 h2 => by
      rcases hatB with e | e
      · exact HIA.out.d1.symm k (e ▸ h1) h2
      · have := (HIA.out.all.lt k h2).2; rw [h1] at e; cases e; omega))
    have HD2 : Hid (∀ a v, f a = some v → Disj (.slice ya (NB + 1) yc) v ∧ Disj (.slice za (GL + 1) zc) v) := Lib.hid (fun a v hv => ⟨(HIA.out.d2 a v hv).1, fun k h1 h2 => by
      rcases hatB with e | e
      · exact (HIA.out.d2 a v hv).2 k (e ▸ h1) h2
      · have := hfl a v hv k h2; rw [h1] at e; cases e; omega⟩)
    have HGB2 : Hid (WB.ownsRow (B + 2) 3 1 (.slice za (GL + 1) zc) (greatsF (bs ++ [(⟨⟨lx, ly⟩, ⟨hx, hy⟩⟩ : Bx)])).length (ins (greatsF (bs ++ [(⟨⟨lx, ly⟩, ⟨hx, hy⟩⟩ : Bx)])))) := Lib.hid (by
      rw [greatsF_snoc, HGB.out, if_pos rfl, HNB.out, List.length_append, HGL2.out]; have e1 : ins (greatsF bs ++ [(NB : Int)]) = ins (greatsF bs) ++ [.int .i64 (NB : Int)] := by simp [ins]
      rw [e1]; exact hownB)
    have HRB2 : Hid (GRows 3 1 iCell WB (B + 2) f (fieldG (bs ++ [(⟨⟨lx, ly⟩, ⟨hx, hy⟩⟩ : Bx)]))) := Lib.hid (by rw [fieldG_great _ _ HGB.out]; exact HRB.out); refine hK.out _ _ kp2 ⟨kT2, ki⟩ ?_; clear hK K hownB hgB hatB hIa HVA HIA rd nB nH HRB
    try simp only [Act.put, List.getElem_toArray, List.getElem_cons_succ, List.getElem_cons_zero, List.setIfInBounds_toArray, List.set_cons_zero, List.set_cons_succ]
    have hI := And.intro kT2 ki
    (refine stg_free 8 _ ?_ (by kernel_rfl) (by kernel_rfl) (by kernel_rfl) rfl rfl ?_ hI ?_; rotate_left; · (intro w' _; go_simp; with_reducible rfl)); try simp only [Act.put, List.getElem_toArray, List.getElem_cons_succ, List.getElem_cons_zero, List.setIfInBounds_toArray, List.set_cons_zero, List.set_cons_succ]
    (refine stg_free 9 _ ?_ (by kernel_rfl) (by kernel_rfl) (by kernel_rfl) rfl rfl ?_ hI ?_; rotate_left; · (intro w' _; go_simp; with_reducible rfl)); try simp only [Act.put, List.getElem_toArray, List.getElem_cons_succ, List.getElem_cons_zero, List.setIfInBounds_toArray, List.set_cons_zero, List.set_cons_succ]
    clear hI; have q0 := kp2.free 2; have q1 := kp2.cell 2 rfl; refine stg_one 10 _ (by kernel_rfl) (by kernel_rfl) (by kernel_rfl) rfl rfl (fun K hK => ?_); go_step; replace kT2 := kT2.set_at (b' := B + 1) (o := 2) (by omega) (.slice za (GL + 1) zc); replace ki := ki.set_at (b' := B + 1) (o := 2) (by omega) (.slice za (GL + 1) zc); replace kp2 : Blk (WB.setCell ⟨B + 1, 2, none⟩ (.slice za (GL + 1) zc)) (B + 1) [.slice ya (NB + 1) yc, .map (some B), .slice za (GL + 1) zc] := kp2.set 2 (.slice za (GL + 1) zc); refine hK.out _ _ ⟨kT2, ki⟩ ?_; clear hK K q0 q1; refine stg_end (by kernel_rfl) ?_
    try simp only [Act.put, List.getElem_toArray, List.getElem_cons_succ, List.getElem_cons_zero, List.setIfInBounds_toArray, List.set_cons_zero, List.set_cons_succ]
    have hgC : WB.grownBy (WB.setCell ⟨B + 1, 2, none⟩ (.slice za (GL + 1) zc)) (some (B + 1)) := Lib.grownBy_setB (World.grownBy.refl _ _) 2 _; replace hb2 := hb2.grown hgC (by omega) (fun k e => by cases e; omega); have HX : Hid (IdxOk (WB.setCell ⟨B + 1, 2, none⟩ (.slice za (GL + 1) zc)) B (bs ++ [(⟨⟨lx, ly⟩, ⟨hx, hy⟩⟩ : Bx)])) := Lib.hid
      ⟨_, _, f, m, n, kp2, HVB.out.kept hgC (by simp), by rw [List.length_append, HNB.out]; simp; omega, ⟨ownsRow_other HAB.out hgC (fun r e e2 => by cases e; have := (HAB.out.lt _ e2).1; omega), ownsRow_other HGB2.out hgC (fun r e e2 => by cases e; have := (HGB2.out.lt _ e2).1; omega), HRB2.out.low hgC (by omega), HD1.out, HD2.out⟩, fun x hx => by
        rcases List.mem_append.1 hx with h | h
        · exact HOK.out x h
        · obtain rfl : x = _ := by simpa using h
          exact hb⟩
    clear hgC HVB HAB HGB2 HRB2 HD1 HD2 ki hszB hszA; generalize WB.setCell ⟨B + 1, 2, none⟩ (.slice za (GL + 1) zc) = WC at *; have q0 := kT2.cell 0 rfl; have q1 := kp2.cell 0 rfl; go_wp2; unfold Code.rounds; go_wp2; exact ⟨.int .i64 ((NB : Int) + 1), by simp [results, Try.results58, go_sem], ⟨_, rfl⟩, HX.out, hb2⟩
  | false =>
    have hHS : ∃ S, W8.heap.size = S := ⟨_, rfl⟩; obtain ⟨S8, hS8⟩ := hHS; have hblA := Below.new W8 (.cells #[.int .i64 lx, .int .i64 ly, .int .i64 hx, .int .i64 hy] 104); have hBox : (W8.alloc (.cells #[.int .i64 lx, .int .i64 ly, .int .i64 hx, .int .i64 hy] 104)).heap[S8]? = some (.cells #[.int .i64 lx, .int .i64 ly, .int .i64 hx, .int .i64 hy] 104 (0, 0)) := by rw [← hS8]; exact heap_alloc_new W8 _
    replace kT2 := kT2.keep hblA; replace kp2 := kp2.keep hblA; replace ki := ki.keep hblA; replace hb2 := hb2.trans (hblA.mono (by omega)); have HVA := Lib.hid (HV8.out.keep hblA); have HIA := Lib.hid (HI8.out.keep hblA); have hszA : (W8.alloc (.cells #[.int .i64 lx, .int .i64 ly, .int .i64 hx, .int .i64 hy] 104)).heap.size = S8 + 1 := by simp [hS8]
    rw [hS8] at hsz8; clear hblA HV8 HI8
    go_wp2_with fail
    refine (callsIn_wide.1 (fields_in 5 ⟨⟨lx, ly⟩, ⟨hx, hy⟩⟩ W8)).mono ?_; rintro e WA ⟨rfl, hWA⟩; dsimp only at hWA; rw [← hWA] at hBox kT2 kp2 ki hb2 HVA HIA hszA; rw [hS8]; clear hWA hS8 q0 q1 q2 q3 kb; go_wp2; have hHS8 : H + 4 ≤ S8 := hsz8; have hAI0 : AddI (S8 + 1) B H (H + 2) w bs ⟨⟨lx, ly⟩, ⟨hx, hy⟩⟩ (.slice ya (NB + 1) yc) vg [] WA := ⟨f, m, n, HVA.out, by rw [HNB.out]; simp; omega, by rw [fieldI_nil]; exact HIA.out, kp2, kT2, by rw [HNB.out]; exact ki, fun x v hv => ⟨fun e => by have := hfl x v hv _ e; omega, fun e => by have := hfl x v hv _ e; omega⟩, hb2, by omega⟩; clear HVA HIA kp2 kT2 ki hb2; refine (wpIn_wide (n := 5)).1 ?_; refine wpIn_rangeFunc_aheadM rfl (by decide) (gf := 106) (lb := #[.pointer (some ⟨S8, 0, none⟩)]) rfl trivial (enters_of Try.func106 (by kernel_rfl) rfl)
      (fields_ahead (5 - 1) S8 ⟨⟨lx, ly⟩, ⟨hx, hy⟩⟩ hb WA (0, 0) hBox) (fun h k => k.trans h)
      (fun W l o o' hl h1 h2 => World.putObj_heap_other (by omega)) (Below.refl _ _) (fun _ => rfl)
      (fun (pre : List (Int × Int)) W => AddI (S8 + 1) B H (H + 2) w bs ⟨⟨lx, ly⟩, ⟨hx, hy⟩⟩ (.slice ya (NB + 1) yc) vg pre W ∧ W.heap[S8]? = some (.cells #[.int .i64 lx, .int .i64 ly, .int .i64 hx, .int .i64 hy] 104 (0, 0)))
      (OwnFrom.and (by rw [hszA]; exact AddI.own (S8 + 1) B H (H + 2) w bs _ _ vg (by omega)) (fun pre X Y row hX hg hr => (hg.block S8 ((Array.getElem?_eq_some_iff.1 hX).1) (fun e => by have := (hr S8 e.symm).1; omega)).trans hX))
      (ownFrom_pure _ _)
      ⟨hAI0, hBox⟩
      (fun (pre : List (Int × Int)) (x : Int × Int) a' W => (AddI (S8 + 1) B H (H + 2) w bs ⟨⟨lx, ly⟩, ⟨hx, hy⟩⟩ (.slice ya (NB + 1) yc) vg pre W ∧ W.heap[S8]? = some (.cells #[.int .i64 lx, .int .i64 ly, .int .i64 hx, .int .i64 hy] 104 (0, 0))) ∧ pre ++ [x] <+: fieldsL ⟨⟨lx, ly⟩, ⟨hx, hy⟩⟩ ∧
        ∃ Bv, S8 + 1 ≤ Bv ∧ W.heap[Bv]? = some (.cells #[.int .i64 x.1, .int .i64 x.2] 110 (0, 0)) ∧ a' = { tmps := List.toArray ((.pointer (some ⟨B + 1, 0, none⟩)) :: (.slice (some ⟨b0, o0, none⟩) 1 c) :: (.pointer (some ⟨H, 0, none⟩)) :: undef :: (.int .i64 0) :: undef :: (.pointer (some ⟨H + 1, 0, none⟩)) :: (.pointer (some ⟨H + 1 + 1, 0, none⟩)) :: (.pointer (some ⟨Bv, 0, none⟩)) :: (.pointer (some ⟨B + 1, 0, none⟩)) :: (.bool false) :: (.slice (some ⟨b0, o0, none⟩) 1 c) :: (.int .i64 1) :: (.int .i64 0) :: (.bool true) :: (.pointer (some ⟨b0, o0, none⟩)) :: (.agg #[.int .i64 lx, .int .i64 ly, .int .i64 hx, .int .i64 hy]) :: (.pointer (some ⟨B + 1, 0, none⟩)) :: (.pointer (some ⟨B + 1, 0, none⟩)) :: (.pointer (some ⟨B + 1, 0, none⟩)) :: (.slice xa NB xc) :: (.int .i64 NB) :: (.pointer (some ⟨B + 1, 0, none⟩)) :: (.pointer (some ⟨B + 1, 0, none⟩)) :: (.pointer (some ⟨B + 1, 0, none⟩)) :: (.pointer (some ⟨B + 1, 0, none⟩)) :: (.slice xa NB xc) :: (.agg #[.int .i64 lx, .int .i64 ly, .int .i64 hx, .int .i64 hy]) :: (.slice (some ⟨H + 3, 0, none⟩) 1 1) :: (.slice ya (NB + 1) yc) :: (.pointer (some ⟨B + 1, 0, none⟩)) :: (.pointer (some ⟨B + 1, 0, none⟩)) :: (.agg #[.int .i64 lx, .int .i64 ly, .int .i64 hx, .int .i64 hy]) :: (.func (.func 106) #[] #[.pointer (some ⟨S8, 0, none⟩)]) :: (In2.val x) :: undef :: undef :: undef :: undef :: undef :: undef :: undef :: undef :: undef :: undef :: undef :: (.bool false) :: (.agg #[.int .i64 lx, .int .i64 ly, .int .i64 hx, .int .i64 hy]) :: (.bool true) :: (.bool false) :: (.bool false) :: (.agg #[.int .i64 lx, .int .i64 ly, .int .i64 hx, .int .i64 hy]) :: (.bool false) :: undef :: undef :: undef :: undef :: undef :: undef :: undef :: undef :: undef :: undef :: undef :: undef :: undef :: undef :: undef :: undef :: []), defers := [] })
      ?hM ?assign ?body ?done
    case hM =>
      rintro pre x a' _ X Y row ⟨⟨hA, hS⟩, hpx, Bv, hv, bV, rfl⟩ hg hr; refine ⟨⟨AddI.own (S8 + 1) B H (H + 2) w bs _ _ vg (by omega) pre X Y row hA hg (fun r e => ⟨by have := (hr r e).1; omega, (hr r e).2⟩), (hg.block S8 ((Array.getElem?_eq_some_iff.1 hS).1) (fun e => by have := (hr S8 e.symm).1; omega)).trans hS⟩, hpx, Bv, hv, (hg.block Bv ((Array.getElem?_eq_some_iff.1 bV).1) (fun e => by
        obtain ⟨o, ho, hc⟩ := (hr Bv e.symm).2; rw [bV] at ho; cases ho; cases hc)).trans bV, rfl⟩
    case assign =>
      rintro l' pre ⟨i1, i2⟩ W ⟨hA, hS⟩ hpx; have HA := Lib.hid hA; have hsW : S8 + 1 ≤ W.heap.size := by obtain ⟨_, _, _, _, _, _, _, _, _, _, _, h⟩ := hA; exact h
      clear hA; dsimp only [In2.val]
      gi_wp2
      refine ⟨KeepsHi.of_others (KeepsOthers.alloc _ _), (Below.heap_alloc W _ S8 (by omega)), ⟨⟨(AddI.own (S8 + 1) B H (H + 2) w bs _ _ vg (by omega)).alloc _ HA.out, (Below.heap_alloc W _ S8 (by omega)).trans hS⟩, hpx, W.heap.size, hsW, heap_alloc_new W _, rfl⟩⟩
    case body =>
      rintro l' pre ⟨i1, i2⟩ a' W ⟨⟨⟨f2, m2, n2, hV, hn2, hI, kp2, kT2, ki, hdT, hbl, hsW⟩, hS⟩, hpx, Bv, hBv, hbv, rfl⟩; have hpn : (i1, i2) ∉ pre := by
        have hnd := hpx.sublist.nodup (fieldsL_nodup _); exact ((nodup_snoc pre (i1, i2)).1 hnd).2
      have hpl : pre.length ≤ 64 := by
        have h1 := hpx.length_le; have h2 := fieldsL_len ⟨⟨lx, ly⟩, ⟨hx, hy⟩⟩ HGB.out hb; rw [List.length_append] at h1; simp at h1; omega
      have hwf : (Lit.int .i64 i1).wf = true ∧ (Lit.int .i64 i2).wf = true := by
        have hm := (mem_fieldsL _ hb (i1, i2)).1 (hpx.mem (by simp)); obtain ⟨g1, g2, -, -⟩ := hb; rw [okPt_iff] at g1 g2; dsimp only at hm g1 g2; exact ⟨WalkArith.wf_i64 (by omega), WalkArith.wf_i64 (by omega)⟩
      have HKY := Lib.hid (k13.in2Key (i1, i2) hwf.1 hwf.2); rw [HNB.out] at hn2 ki; dsimp only at hbv
      gi_wp2
      refine wpIn_region_stage 12 [0, 1, 2, 3, 4, 5, 8, 10] [] [0, 1, 2, 3, 4, 5, 8, 10] (fun W => True) (fun W => (Blk W H [.pointer (some ⟨B + 1, 0, none⟩)] ∧ Blk W (B + 1) [.slice ya (NB + 1) yc, .map (some B), vg]) ∧ Blk W (H + 2) [.int .i64 (NB : Int)] ∧ W.heap[Bv]? = some (.cells #[.int .i64 i1, .int .i64 i2] 110 (0, 0))) rfl (by kernel_rfl) (by kernel_rfl) (by kernel_rfl) ?_; replace kT2 := kT2.drew; replace kp2 := kp2.drew; replace ki := ki.drew; have hVd : VMap Try.prog 110 In2.val W.drew B f2 m2 n2 := hV; have hId := hI.keep (Below.refl _ _).drew; have hbld := hbl.drew; have hbvd : W.drew.heap[Bv]? = some (.cells #[.int .i64 i1, .int .i64 i2] 110 (0, 0)) := hbv; have hK0 : KeepsHi (S8 + 1) W W.drew := ⟨Nat.le_refl _, fun k o _ hk _ => hk⟩; have hSd : W.drew.heap[S8]? = W.heap[S8]? := rfl; have hsWd : S8 + 1 ≤ W.drew.heap.size := hsW; generalize W.drew = W1 at *; clear hbv hV hI hbl; have hI0 := And.intro (And.intro kT2 kp2) (And.intro ki hbvd); refine stg_free 0 _ (.pointer (some ⟨B + 1, 0, none⟩)) (by kernel_rfl) (by kernel_rfl) (by kernel_rfl) rfl rfl ?_ hI0 ?_
      · intro w' h; have c0 := h.1.1.cell 0 rfl; clear h; go_simp
      try simp only [Act.put, List.getElem_toArray, List.getElem_cons_succ, List.getElem_cons_zero, List.setIfInBounds_toArray, List.set_cons_zero, List.set_cons_succ]
      have hI := hI0
      (refine stg_free 1 _ ?_ (by kernel_rfl) (by kernel_rfl) (by kernel_rfl) rfl rfl ?_ hI ?_; rotate_left; · (intro w' _; go_simp; with_reducible rfl)); try simp only [Act.put, List.getElem_toArray, List.getElem_cons_succ, List.getElem_cons_zero, List.setIfInBounds_toArray, List.set_cons_zero, List.set_cons_succ]
      (refine stg_free 2 _ ?_ (by kernel_rfl) (by kernel_rfl) (by kernel_rfl) rfl rfl ?_ hI ?_; rotate_left; · (intro w' _; go_simp; with_reducible rfl)); try simp only [Act.put, List.getElem_toArray, List.getElem_cons_succ, List.getElem_cons_zero, List.setIfInBounds_toArray, List.set_cons_zero, List.set_cons_succ]
      refine stg_free 3 _ (.map (some B)) (by kernel_rfl) (by kernel_rfl) (by kernel_rfl) rfl rfl ?_ hI0 ?_
      · intro w' h; have c0 := h.1.2.cell 1 rfl; clear h; go_simp
      try simp only [Act.put, List.getElem_toArray, List.getElem_cons_succ, List.getElem_cons_zero, List.setIfInBounds_toArray, List.set_cons_zero, List.set_cons_succ]
      refine stg_free 4 _ (In2.val (i1, i2)) (by kernel_rfl) (by kernel_rfl) (by kernel_rfl) rfl rfl ?_ hI0 ?_
      · intro w' h; have c0 : w'.cell? ⟨Bv, 0, none⟩ = some (.int .i64 i1) := by simp [World.cell?, h.2.2]
        have c1 : w'.cell? ⟨Bv, 1, none⟩ = some (.int .i64 i2) := by simp [World.cell?, h.2.2]
        clear h; go_simp
        try rfl
      try simp only [Act.put, List.getElem_toArray, List.getElem_cons_succ, List.getElem_cons_zero, List.setIfInBounds_toArray, List.set_cons_zero, List.set_cons_succ]
      refine stg_free 5 _ (.int .i64 (NB : Int)) (by kernel_rfl) (by kernel_rfl) (by kernel_rfl) rfl rfl ?_ hI0 ?_
      · intro w' h; have c0 := h.2.1.cell 0 rfl; clear h; go_simp
      try simp only [Act.put, List.getElem_toArray, List.getElem_cons_succ, List.getElem_cons_zero, List.setIfInBounds_toArray, List.set_cons_zero, List.set_cons_succ]
      clear hI0 hI; refine stg_oneS 6 _ (by kernel_rfl) (by kernel_rfl) (by kernel_rfl) rfl rfl (fun K hK => ?_); go_step; have hblA := Below.new W1 (.cells #[.int .i64 (NB : Int)] 3); obtain ⟨S1, hS1⟩ : ∃ s, W1.heap.size = s := ⟨_, rfl⟩; have rd := Rd.lit W1 S1 [.int .i64 (NB : Int)] 3 hS1; replace kT2 := kT2.keep hblA; replace kp2 := kp2.keep hblA; replace ki := ki.keep hblA; replace hbvd := (hblA.block Bv ((Array.getElem?_eq_some_iff.1 hbvd).1)).trans hbvd; replace hVd := hVd.keep hblA; replace hId := hId.keep hblA; replace hbld := hbld.trans (hblA.mono (by omega)); have hK1 : KeepsHi (S8 + 1) W (W1.alloc (.cells #[.int .i64 (NB : Int)] 3)) := hK0.trans (KeepsHi.of_others (KeepsOthers.alloc _ _)); have hSd1 := (hblA.block S8 (by omega)).trans hSd; refine hK.out _ _ trivial ⟨⟨kT2, kp2⟩, ki, hbvd⟩ ?_; have hszA1 : (W1.alloc (.cells #[.int .i64 (NB : Int)] 3)).heap.size = S1 + 1 := by simp [hS1]
      rw [hS1] at hsWd; clear hK K hblA hK0 hSd; rw [hS1]; generalize W1.alloc (.cells #[.int .i64 (NB : Int)] 3) = WA1 at *; clear hS1
      try simp only [Act.put, List.getElem_toArray, List.getElem_cons_succ, List.getElem_cons_zero, List.setIfInBounds_toArray, List.set_cons_zero, List.set_cons_succ]
      obtain ⟨st, ob, hrun, hob, hgM, hstore⟩ := hVd.entry k13.in2 In2.inj Try.underlying145 (by unfold maxLen; omega) Try.zeroIs HKY.out; obtain ⟨V0, hV0⟩ : ∃ v, (f2 (i1, i2)).getD (.slice none 0 0) = v := ⟨_, rfl⟩; rw [hV0] at hrun; have HST := Lib.hid hstore; refine stg_oneS 7 _ (by kernel_rfl) (by kernel_rfl) (by kernel_rfl) rfl rfl (fun K hK => ?_); refine wp_mapEntry (.tmp 38) (.tmp 39) rfl (.map (some B)) (In2.val (i1, i2)) _ rfl rfl hrun ?_; replace kT2 := kT2.grown hgM (fun e => by cases e; omega); replace kp2 := kp2.grown hgM (by simp); replace ki := ki.grown hgM (fun e => by cases e; omega); replace hbvd := (hgM.block Bv ((Array.getElem?_eq_some_iff.1 hbvd).1) (fun e => by cases e; omega)).trans hbvd; have rd2 := rd.grown hgM (fun b hb e => by simp at hb; cases e; omega); have hall := ownsRow_other hId.all hgM (fun r e e2 => by cases e; have := (hId.all.lt _ e2).1; omega); have hgrt := ownsRow_other hId.great hgM (fun r e e2 => by cases e; have := (hId.great.lt _ e2).1; omega); have hrws := hId.rows.low hgM (by omega); replace hbld := hbld.grown hgM (by omega) (fun k e => by cases e; omega); have hK2 := hK1.trans (KeepsHi.of_grown (n₀ := S8 + 1) hgM (fun r e => .inl (by cases e; omega))); have hSd2 := (hgM.block S8 (by omega) (fun e => by cases e; omega)).trans hSd1; have hszM := hgM.size; refine hK.out _ _ trivial ⟨⟨kT2, kp2⟩, ki, hbvd⟩ ?_; clear hK K hrun hgM hK1 hSd1 rd hstore; generalize Go.ChangeMaps.setBlock WA1 B ob = WB1 at *
      try simp only [Act.put, List.getElem_toArray, List.getElem_cons_succ, List.getElem_cons_zero, List.setIfInBounds_toArray, List.set_cons_zero, List.set_cons_succ]
      have hI := And.intro (And.intro kT2 kp2) (And.intro ki hbvd); refine stg_free 8 _ V0 (by kernel_rfl) (by kernel_rfl) (by kernel_rfl) rfl rfl ?_ hI ?_
      · intro w' _; go_simp
      try simp only [Act.put, List.getElem_toArray, List.getElem_cons_succ, List.getElem_cons_zero, List.setIfInBounds_toArray, List.set_cons_zero, List.set_cons_succ]
      refine stg_free 10 _ (.int .i64 (st : Int)) (by kernel_rfl) (by kernel_rfl) (by kernel_rfl) rfl rfl ?_ hI ?_
      · intro w' _; go_simp
      try simp only [Act.put, List.getElem_toArray, List.getElem_cons_succ, List.getElem_cons_zero, List.setIfInBounds_toArray, List.set_cons_zero, List.set_cons_succ]
      clear hI; refine stg_oneS 9 _ (by kernel_rfl) (by kernel_rfl) (by kernel_rfl) rfl rfl (fun K hK => ?_); have hv0 := hrws.look (i1, i2); rw [hV0, iCells] at hv0; have hfl2 := fieldI_len bs pre (i1, i2); rw [HNB.out] at hfl2; refine wp_app_at (.tmp 40) (.tmp 42) 43 rfl (B + 2) 3 _ 1 8 Try.underlying43 Try.infoIz rfl (by decide) V0 _ (ins (fieldI bs pre (i1, i2))) rfl hv0 ⟨S1, 0, none⟩ 1 1 [.int .i64 (NB : Int)] rfl rd2 rfl (ins_one [(NB : Int)]) (by omega) (by decide) (by omega) ?_; intro v' WC1 hownC hgC hatC; obtain ⟨za, zc, hze, -, -, -, -, -⟩ := hownC.form; have hS8b : WB1.heap[S8]? = some (.cells #[.int .i64 lx, .int .i64 ly, .int .i64 hx, .int .i64 hy] 104 (0, 0)) := hSd2.trans hS; have nV : ∀ k, V0.ownBlock = some k → B + 2 ≤ k ∧ k ≠ H ∧ k ≠ H + 2 := fun k hk => by
        refine ⟨(hv0.lt k hk).1, ?_⟩
        cases hf : f2 (i1, i2) with
        | none => rw [← hV0, hf] at hk; cases hk
        | some v =>
          have := hdT (i1, i2) v hf; rw [← hV0, hf] at hk; exact ⟨fun e => this.1 (e ▸ hk), fun e => this.2 (e ▸ hk)⟩
      have tBS : (104 : TypeId) ≠ 3 := by decide
      have tBv : (110 : TypeId) ≠ 3 := by decide
      have nS8 := ownsRow_ty hv0 hS8b tBS; have nBv := ownsRow_ty hv0 hbvd tBv; replace kT2 := kT2.grown hgC (fun e => (nV _ e.symm).2.1 rfl); replace kp2 := kp2.grown hgC (fun e => by have := (nV _ e.symm).1; omega); replace ki := ki.grown hgC (fun e => (nV _ e.symm).2.2 rfl); replace hbvd := (hgC.block Bv ((Array.getElem?_eq_some_iff.1 hbvd).1) (fun e => nBv e.symm)).trans hbvd; have hobC := (hgC.block B (by have := hgC.size; omega) (fun e => by have := (nV _ e.symm).1; omega)).trans hob; replace hbld := hbld.grown hgC (by omega) (fun k e => by have := (nV _ e).1; omega); have hdis : ∀ r, V0.ownBlock = some r → (Value.slice ya (NB + 1) yc).ownBlock ≠ some r ∧ vg.ownBlock ≠ some r := fun r hr => by
        cases hf : f2 (i1, i2) with
        | none => rw [← hV0, hf] at hr; cases hr
        | some v =>
          rw [← hV0, hf] at hr; exact ⟨fun e => (hId.d2 _ v hf).1 r e hr, fun e => (hId.d2 _ v hf).2 r e hr⟩
      have hallC := ownsRow_other hall hgC (fun r e => (hdis r e).1); have hgrtC := ownsRow_other hgrt hgC (fun r e => (hdis r e).2); have hK3 := hK2.trans (KeepsHi.of_grown (n₀ := S8 + 1) hgC (fun r e => .inr (ownsRow_cells hv0 e))); have hSd3 := (hgC.block S8 ((Array.getElem?_eq_some_iff.1 hS8b).1) (fun e => nS8 e.symm)).trans hSd2; have hszC := hgC.size; obtain ⟨WD1, hrun2, hVD, hgD⟩ := HST.out WC1 v' hobC; have hl2 : (fieldI bs pre (i1, i2)).length + 1 = (fieldI bs pre (i1, i2) ++ [(bs.length : Int)]).length := by simp
      have hc2 : ins (fieldI bs pre (i1, i2)) ++ [.int .i64 (NB : Int)] = (fieldI bs pre (i1, i2) ++ [(bs.length : Int)]).flatMap iCell := by rw [iCells, HNB.out]; simp [ins]
      rw [hl2, hc2] at hownC; have hatC2 : v'.ownBlock = ((f2 (i1, i2)).getD (.slice none 0 0)).ownBlock ∨ ∃ N, v'.ownBlock = some N ∧ WB1.heap.size ≤ N := by
        rw [hV0]; exact hatC.imp id (fun e => ⟨_, e, Nat.le_refl _⟩)
      have hrwD := hrws.step (i1, i2) (by rw [hV0]; exact hgC) hownC hatC2 hgD (by omega); rw [fieldI_step bs pre (i1, i2) hpn] at hrwD; have hid2 : ∀ a v, fput f2 (i1, i2) v' a = some v → (Disj (.slice ya (NB + 1) yc) v ∧ Disj vg v) ∧ v.ownBlock ≠ some H ∧ v.ownBlock ≠ some (H + 2) := by
        intro x v hv
        by_cases e : x = (i1, i2)
        · subst e; rw [fput_same] at hv; cases hv; have h1 := (hall.lt); have h2 := (hgrt.lt); refine ⟨⟨fun k ha hb2 => ?_, fun k ha hb2 => ?_⟩, ?_, ?_⟩
          · rcases hatC with e | e
            · exact (hdis k (e ▸ hb2)).1 ha
            · rw [hb2] at e; cases e; have := (h1 _ ha).2; omega
          · rcases hatC with e | e
            · exact (hdis k (e ▸ hb2)).2 ha
            · rw [hb2] at e; cases e; have := (h2 _ ha).2; omega
          · intro e2
            rcases hatC with e | e
            · exact (nV _ (e ▸ e2)).2.1 rfl
            · rw [e2] at e; have := Option.some.inj e; omega
          · intro e2
            rcases hatC with e | e
            · exact (nV _ (e ▸ e2)).2.2 rfl
            · rw [e2] at e; have := Option.some.inj e; omega
        · rw [fput_other f2 v' e] at hv; exact ⟨hId.d2 x v hv, hdT x v hv⟩
      refine hK.out _ _ trivial ⟨⟨kT2, kp2⟩, ki, hbvd⟩ ?_; clear hK K hatC hatC2
      try simp only [Act.put, List.getElem_toArray, List.getElem_cons_succ, List.getElem_cons_zero, List.setIfInBounds_toArray, List.set_cons_zero, List.set_cons_succ]
      refine stg_oneS 11 _ (by kernel_rfl) (by kernel_rfl) (by kernel_rfl) rfl rfl (fun K hK => ?_); refine wp_entryStore (.tmp 38) (.tmp 45) (.tmp 44) rfl (.map (some B)) _ v' rfl rfl rfl hrun2 ?_; replace kT2 := kT2.grown hgD (fun e => by cases e; omega); replace kp2 := kp2.grown hgD (by simp); replace ki := ki.grown hgD (fun e => by cases e; omega); replace hbvd := (hgD.block Bv ((Array.getElem?_eq_some_iff.1 hbvd).1) (fun e => by cases e; omega)).trans hbvd; replace hbld := hbld.grown hgD (by omega) (fun k e => by cases e; omega); have hallD := ownsRow_other hallC hgD (fun r e e2 => by cases e; have := (hallC.lt _ e2).1; omega); have hgrtD := ownsRow_other hgrtC hgD (fun r e e2 => by cases e; have := (hgrtC.lt _ e2).1; omega); have hK4 := hK3.trans (KeepsHi.of_grown (n₀ := S8 + 1) hgD (fun r e => .inl (by cases e; omega))); have hSd4 := (hgD.block S8 (by omega) (fun e => by cases e; omega)).trans hSd3; have hszD := hgD.size; refine hK.out _ _ trivial ⟨⟨kT2, kp2⟩, ki, hbvd⟩ ?_; clear hK K; refine stg_end (by kernel_rfl) ?_
      try simp only [Act.put, List.getElem_toArray, List.getElem_cons_succ, List.getElem_cons_zero, List.setIfInBounds_toArray, List.set_cons_zero, List.set_cons_succ]
      have hAIf : AddI (S8 + 1) B H (H + 2) w bs ⟨⟨lx, ly⟩, ⟨hx, hy⟩⟩ (.slice ya (NB + 1) yc) vg (pre ++ [(i1, i2)]) WD1 := ⟨_, _, _, hVD, by rw [HNB.out, List.length_append]; simp; omega, ⟨hallD, hgrtD, hrwD, hId.d1, fun x v hv => (hid2 x v hv).1⟩, kp2, kT2, by rw [HNB.out]; exact ki, fun x v hv => (hid2 x v hv).2, hbld, by omega⟩; exact ⟨by rw [hszA]; exact hK4, hSd4, hAIf, hSd4.trans hS⟩
    case done =>
      rintro D xs W hD rfl ⟨⟨f3, m3, n3, hV3, hn3, hI3, kp3, kT3, ki3, hd3, hb3, hsz3⟩, hS3⟩ hK3; rw [fieldI_end bs ⟨⟨lx, ly⟩, ⟨hx, hy⟩⟩ HGB.out] at hI3; rw [← greatsF_small bs ⟨⟨lx, ly⟩, ⟨hx, hy⟩⟩ HGB.out] at hI3; have hfl3 := fieldsL_len ⟨⟨lx, ly⟩, ⟨hx, hy⟩⟩ HGB.out hb; have hgP := grownBy_putObj' W D (.deferred none); have hDl : D < W.heap.size := (Array.getElem?_eq_some_iff.1 hK3).1; have q0 := kT3.cell 0 rfl; have q1 := kp3.cell 0 rfl; have HX : Hid (IdxOk W B (bs ++ [(⟨⟨lx, ly⟩, ⟨hx, hy⟩⟩ : Bx)])) := Lib.hid
        ⟨_, _, f3, m3, n3, kp3, hV3, by rw [HNB.out] at hn3; rw [List.length_append, HNB.out]; simp; omega, hI3, fun x hx => by
        rcases List.mem_append.1 hx with h | h
        · exact HOK.out x h
        · obtain rfl : x = _ := by simpa using h
          exact hb⟩
      clear hV3 hI3 hd3 hS3; go_wp2; unfold Code.rounds; go_wp2; refine ⟨by simp, .inl ⟨_, _, rfl, run_takeDeferred hK3, ?_⟩⟩; refine ⟨.int .i64 ((NB : Int) + 1), by simp [results, Try.results58, go_sem], ⟨_, rfl⟩, HX.out.other (grownBy_putObj' W D _) (by omega) hK3 rfl, hb3.grown (grownBy_putObj' W D _) (by omega) (fun k e => by cases e; omega)⟩
end Go.Proofs.Ytccamjnomjcchaa
