/-
  mvt.Decode: of layers that are right each by itself, or told by no bytes. slices.Equal, EqualFunc, table.Same: of things of which the same is told.
-/
import Derived.Test.YtjggoajfilnfjaaGreatPk26
import Derived.Test.YtjggoajfilnfjaaGreatPk12
import Derived.Test.YtjggoajfilnfjaaGreatPk9
set_option linter.unusedVariables false
set_option linter.unusedSimpArgs false
set_option maxRecDepth 100000
namespace Go.Proofs.YtjggoajfilnfjaaGreat
open Go.RowKit Go.Proto Go.Vint
attribute [local go_sem] Oper.semAt_some
set_option maxHeartbeats 25600000 in
theorem decode_any (rs : List (Option LyC)) (hrs : ∀ y, some y ∈ rs → lyE [] y = 0 ∧ LyC.Few y) (BS : List Int) (FL : List Fld) (hpa : pall BS = (FL, 0, 0)) (hfl : flt FL 3 = rs.map rFld) (hbb : ∀ x ∈ BS, 0 ≤ x ∧ x ≤ 255) (hbl : BS.length ≤ 10000000) (hlF : FL.length ≤ 1000000)
  (a : Option Addr) (c : Nat) (hc : BS.length ≤ c) (hcm : c ≤ maxLen) (w : World) (hr : Rd w a (BS.map (Value.int .u8))) :
  Calls Tryz.prog 11 #[.slice a BS.length c] w fun e w' => (∃ (p : Option Addr) (q : Nat) (ys : List Ly), e = .returned (.tuple #[.agg #[.slice p ys.length q], .int .i64 (if 16 < rs.length then 6 else dGo [] rs)]) ∧ ((if 16 < rs.length then 6 else dGo [] rs) = 0 → (ys.map Ly.core).map some = rs) ∧ Rd w' p (lys ys) ∧ ys.length ≤ q ∧ q ≤ maxLen ∧ (∀ y ∈ ys, LyT w.heap.size w' y) ∧ (p = none → q = 0)) ∧ Below w.heap.size w w' := by
 refine (callsIn_wide (n := 5)).1 ?_; refine callsIn_of_wp_marks Tryz.func11 rfl trivial ?_ rfl; simp only [Tryz.ntmps11, List.size_toArray, List.length_cons, List.length_nil, Nat.reduceAdd, Nat.reduceSub, Array.replicate_succ, Array.replicate_zero, List.push_toArray, List.append_toArray, List.nil_append, List.cons_append]; refine wpIn_wide.2 ?_; obtain ⟨iL, hiL, hL0, hL1, hL2⟩ := info_parts Tryz.infoLay; have hall := protoAll_lies a c BS hbb hbl hc hcm; rw [hpa] at hall; have HALL := Lib.hid (fun (W : World) (h : Below w.heap.size w W) => hall W (hr.keep h)); have HRS := Lib.hid hrs; obtain ⟨DE, hDE⟩ : ∃ z, (if 16 < rs.length then 6 else dGo [] rs) = z := ⟨_, rfl⟩; have HDE := Lib.hid hDE.symm; rw [hDE]; generalize BS.length = M at *; clear hall hr hrs hpa hbb hbl hc hcm hDE; have hzt : (Tryz.prog.info? 24).map (fun i => i.zero) = some (some (.agg #[.slice none 0 0])) := by kernel_rfl
 have hzl : (Tryz.prog.info? 46).map (fun i => i.zero) = some (some (.agg #[.string ⟨#[]⟩, .slice none 0 0])) := by kernel_rfl
 have kR := (BkT.lit w w.heap.size [.slice none 0 0] 24 rfl).alloc (.cells #[.int .i64 0] 32); have kE := BkT.lit (w.alloc (.cells #[.slice none 0 0] 24)) (w.heap.size + 1) [.int .i64 0] 32 (by simp); have hb0 : Below w.heap.size w ((w.alloc (.cells #[.slice none 0 0] 24)).alloc (.cells #[.int .i64 0] 32)) := (Below.new w _).alloc (by simp) _; have hs0 : ((w.alloc (.cells #[.slice none 0 0] 24)).alloc (.cells #[.int .i64 0] 32)).heap.size = w.heap.size + 1 + 1 := by simp
 go_wp2_with fail
 generalize (w.alloc (.cells #[.slice none 0 0] 24)).alloc (.cells #[.int .i64 0] 32) = w0 at *; obtain ⟨R, hR⟩ : ∃ R, w.heap.size = R := ⟨_, rfl⟩; obtain ⟨E, hE⟩ : ∃ E, R + 1 = E := ⟨_, rfl⟩; have nRE : R ≠ E := by omega
 have hwR : w.heap.size ≤ R := by omega
 have hwE : w.heap.size ≤ E := by omega
 rw [hR] at kR; rw [hR, hE] at kE; simp only [hR, hE]; have hE0 : E + 1 = w0.heap.size := by omega
 have hRE1 : R + 1 = E := hE; clear hR hE hs0; refine (HALL.out _ hb0).mono ?_; rintro e w1 ⟨v1, rfl, L, hLf, hLo, hLk, hx⟩
 try dsimp only at hLf
 obtain ⟨la, lc, rfl, -, -, -, -, -⟩ := hLo.form; have hF : LF w0.heap.size la lc L w1 := ⟨hLo, hLk⟩; have hbw := hb0.trans (hx.mono hb0.size); have kR := kR.keep hx; have kE := kE.keep hx; have hs01 := hx.size; clear hLo hLk hx HALL hb0; have hlen : L.length ≤ 1000000 := by rw [← hLf, List.length_map] at hlF; exact hlF
 have hm : (flC L 3).map (·.f) = rs.map rFld := by rw [flC_flt, hLf, hfl]
 have hl3 : (flC L 3).length = rs.length := by have := congrArg List.length hm; simpa using this
 have HX : Hid (∀ (pre : List FC) (x : FC), pre ++ [x] <+: flC L 3 → ∃ h : pre.length < rs.length, x.f = rFld rs[pre.length] ∧ x ∈ L) := Lib.hid (fun pre x hp => by
  have hx := prefix_at hp; have hmm : x ∈ flC L 3 := List.mem_of_getElem? hx; have h : ((flC L 3).map (·.f))[pre.length]? = (rs.map rFld)[pre.length]? := by rw [hm]
  rw [List.getElem?_map, hx, List.getElem?_map] at h; have hlt : pre.length < rs.length := by
   have := (List.getElem?_eq_some_iff.1 hx).1; omega
  rw [List.getElem?_eq_getElem hlt] at h; exact ⟨hlt, Option.some.inj h, (List.mem_filter.1 hmm).1⟩)
 have HK2 : Hid (∀ x ∈ flC L 3, x.f.kind = 2) := Lib.hid (fun x hx => by
  have h1 : x.f ∈ (flC L 3).map (·.f) := List.mem_map_of_mem hx; rw [hm] at h1; obtain ⟨o, -, ho⟩ := List.mem_map.1 h1; rw [← ho]; exact rFld_kind o)
 obtain ⟨N, hN⟩ : ∃ N, L.length = N := ⟨_, rfl⟩; have HN := Lib.hid hN; obtain ⟨m3, hm3⟩ : ∃ m, rs.length = m := ⟨_, rfl⟩; have HRL := Lib.hid hm3; rw [hm3] at hl3; rw [hN]; have hm3b : m3 ≤ 1000000 := by have : (flC L 3).length ≤ L.length := List.length_filter_le _ _; omega
 clear hLf hfl hlF hm hN hm3
 go_wp2_with fail
 refine (callsIn_wide.1 (only_in 5 la N lc 3 _)).mono ?_; rintro e w9 ⟨rfl, rfl⟩
 go_wp2_with fail
 have kR := (kR.alloc (.cells #[.slice la N lc] 68)).alloc (.cells #[.int .i64 3] 3); have kE := (kE.alloc (.cells #[.slice la N lc] 68)).alloc (.cells #[.int .i64 3] 3); have hx := (Below.new w1 (.cells #[.slice la N lc] 68)).alloc (by simp) (.cells #[.int .i64 3] 3); have k1 := (Boxed.new w1 68 (.slice la N lc)).alloc (.cells #[.int .i64 3] 3); have k2 := Boxed.new (w1.alloc (.cells #[.slice la N lc] 68)) 3 (.int .i64 3); have hF := hF.below hx; have hB0 := hbw.trans (hx.mono hbw.size); have hsz : ((w1.alloc (.cells #[.slice la N lc] 68)).alloc (.cells #[.int .i64 3] 3)).heap.size = w1.heap.size + 1 + 1 := by simp
 simp only [World.size_alloc] at k1 k2; obtain ⟨W0, hW0⟩ : ∃ W, (w1.alloc (.cells #[.slice la N lc] 68)).alloc (.cells #[.int .i64 3] 3) = W := ⟨_, rfl⟩; rw [hW0] at kR kE k1 k2 hF hB0 hsz ⊢; clear hW0 hx hbw; have hra := hF.rd; refine (wpIn_wide (n := 5)).1 ?_; refine wpIn_rangeFunc_leave rfl (by decide) (gf := 62) (lb := #[.pointer (some ⟨w1.heap.size, 0, none⟩), .pointer (some ⟨w1.heap.size + 1, 0, none⟩)]) rfl trivial (enters_of Tryz.func62 (by kernel_rfl) rfl)
  (only_leave (5 - 1) (w1.heap.size) (w1.heap.size + 1) la lc L 3 hlen W0 hra (0, 0) (0, 0) (by rw [HN.out]; exact k1) k2) KpF.trans (fun W l o o' hl h1 h2 => KpF.putObj (w := W0) (by omega) (by omega) W l o o' hl h1 h2) (Below.refl _ _) (fun _ => rfl)
  (fun (_ : List FC) W => Below W0.heap.size W0 W) (fun _ _ _ => False) (ownFrom_below (Nat.le_refl _) (Nat.le_refl _)) (fun _ => ownFrom_pure _ _) (ownFrom_pure _ _)
  (Below.refl _ _)
  (fun (pre : List FC) (x : FC) a' W => (fun (_ : List FC) W => Below W0.heap.size W0 W) pre W ∧ pre ++ [x] <+: flC L 3 ∧ ∃ Bv, W0.heap.size ≤ Bv ∧ Blk W Bv x.cells ∧ a' = { tmps := List.toArray ((.slice a M c) :: undef :: (.pointer (some ⟨R, 0, none⟩)) :: (.pointer (some ⟨E, 0, none⟩)) :: (.slice la N lc) :: (.int .i64 0) :: (.int .i64 0) :: (.pointer (some ⟨Bv, 0, none⟩)) :: undef :: undef :: undef :: undef :: undef :: (.tuple #[.slice la N lc, .int .i64 0, .int .i64 0]) :: (.slice a M c) :: (.tuple #[.slice la N lc, .int .i64 0, .int .i64 0]) :: (.slice la N lc) :: (.int .i64 0) :: (.int .i64 0) :: (.int .i64 0) :: (.bool false) :: undef :: undef :: (.slice la N lc) :: (.func (.func 62) #[] #[.pointer (some ⟨w1.heap.size, 0, none⟩), .pointer (some ⟨w1.heap.size + 1, 0, none⟩)]) :: x.val :: undef :: undef :: undef :: undef :: undef :: undef :: undef :: undef :: undef :: undef :: undef :: undef :: undef :: undef :: undef :: undef :: undef :: undef :: undef :: undef :: undef :: undef :: undef :: undef :: undef :: undef :: undef :: undef :: undef :: undef :: undef :: undef :: undef :: undef :: undef :: undef :: undef :: undef :: undef :: undef :: []), defers := [] })
  ?hM ?assign ?body ?done ?stop
 case hM =>
  rintro pre x a' _ X Y row ⟨hI, hx, Bv, hBv, bV, rfl⟩ hg hrow; exact ⟨(ownFrom_below (Nat.le_refl _) (Nat.le_refl _)) pre X Y row hI hg hrow, hx, Bv, hBv, blk_ownF (β := Unit) W0.heap.size Bv (fun _ => x.cells) () X Y row bV hg hrow, rfl⟩
 case assign =>
  rintro l' pre ⟨⟨fn, fk, fv, fb⟩, fp, fc⟩ W hI hx; dsimp only [FC.val]; have HI := Lib.hid hI; have hs := hI.size; clear hI
  gi_wp2
  exact ⟨KeepsOthers.alloc _ _, KpF.below (Below.new _ _) (by omega) (by omega), HI.out.alloc hs _, hx, W.heap.size, hs, Blk.new W [.int .i64 fn, .int .i64 fk, .int .u64 fv, .slice fp fb.length fc] 72, rfl⟩
 case body =>
  rintro l' pre ⟨f, fp, fc⟩ a' W ⟨hI, hpx, Bv, hBv, bV, rfl⟩; have hk := HK2.out _ (List.mem_of_getElem? (prefix_at hpx)); obtain ⟨fn, fk, fv, fb⟩ := f; dsimp only at hk; subst hk; dsimp only [FC.cells, FC.val] at bV ⊢; have v1 := bV.cell 1 rfl
  gi_wp2
  exact ⟨KeepsOthers.refl _, ⟨fun h => h, rfl, rfl⟩, hI⟩
 case done =>
  rintro D1 xs W1 hD1 rfl hI hK1; have hx := hI; have hF := hF.below hx; have kR := kR.keep hx; have kE := kE.keep hx; have hbw := hB0.trans (hx.mono hB0.size); have HC3 := mcount_any la lc L 3 hlen W1 hF.rd; rw [hl3, HN.out] at HC3; have HCN := Lib.hid HC3; have hs1 := hx.size; have hs0w := hB0.size; clear hI hx HC3 k1 k2 hra hB0
  go_wp2_with fail
  refine HCN.out.mono ?_; rintro e W2 ⟨rfl, hx⟩; have hF := hF.below hx; have kR := kR.keep hx; have kE := kE.keep hx; have hbw := hbw.trans (hx.mono hbw.size); have hK1 := (hx.block D1 (Array.getElem?_eq_some_iff.1 hK1).1).trans hK1; have hs2 := hx.size; have hD1l := (Array.getElem?_eq_some_iff.1 hK1).1; clear hx HCN
  by_cases h16 : 16 < m3
  ·have h16' : (16 : Int) < (m3 : Int) := by omega
   have hE6 : Hid (DE = 6) := Lib.hid (by rw [HDE.out, if_pos (by rw [HRL.out]; exact h16)]); have r0 := kR.blk.cell 0 rfl; have rf := kR.blk.free 0; have kR2 := (kR.set 0 (.slice none 0 0)).other (b' := E) (o := 0) nRE (.int .i64 6); have kE1 := kE.other (b' := R) (o := 0) nRE.symm (.slice none 0 0); have e0 := kE1.blk.cell 0 rfl; have ef := kE1.blk.free 0; have kE2 := kE1.set 0 (.int .i64 6); have hb2 := (hbw.set_at (b := R) (o := 0) hwR (.slice none 0 0)).set_at (b := E) (o := 0) hwE (.int .i64 6); have hK2 : ((W2.setCell ⟨R, 0, none⟩ (.slice none 0 0)).setCell ⟨E, 0, none⟩ (.int .i64 6)).heap[D1]? = some (.deferred (some [])) := by
    rw [Below.heap_setCell _ _ _ _ (by simp; omega), Below.heap_setCell _ _ _ _ (by simp; omega)]; exact hK1
   go_wp2; clear r0 rf e0 ef; generalize (W2.setCell ⟨R, 0, none⟩ (.slice none 0 0)).setCell ⟨E, 0, none⟩ (.int .i64 6) = W3 at *; refine ⟨by simp, .inl ⟨_, _, rfl, run_takeDeferred hK2, ?_⟩⟩; have kR4 := kR2.grown (grownBy_putObj' W3 D1 (.deferred none)) (fun e => by have := Option.some.inj e; omega); have kE4 := kE2.grown (grownBy_putObj' W3 D1 (.deferred none)) (fun e => by have := Option.some.inj e; omega); have r0 := kR4.blk.cell 0 rfl; have e0 := kE4.blk.cell 0 rfl; exact ⟨.tuple #[.agg #[.slice none 0 0], .int .i64 6], by simp [results, Tryz.results11, go_sem, r0, e0], ⟨none, 0, [], by rw [hE6.out]; rfl, (fun h => absurd (hE6.out.symm.trans h) (by decide)), Rd.nil _ _, Nat.le_refl _, (show (0 : Nat) ≤ maxLen by decide), (fun y hy => by cases hy), fun _ => rfl⟩, hb2.trans (putObj_belowM _ W3 D1 _ (by omega))⟩
  ·have h16' : ¬ (16 : Int) < (m3 : Int) := by omega
   have HD2 : Hid (DE = dGo [] rs) := Lib.hid (by rw [HDE.out, if_neg (by rw [HRL.out]; exact h16)]); have hmm := @run_makeMap Tryz.prog; have hS0 := StrSet.made Tryz.prog 9 4 W2; have hxm := (((Below.new W2 (.map #[] 0)).alloc (by simp) (.cells #[.map (some W2.heap.size)] 75)).alloc (by simp; omega) (.cells #[.slice none 0 0] 24)); have kM := Boxed.new (W2.alloc (.map #[] 0)) 75 (.map (some W2.heap.size)); have kO := BkT.lit ((W2.alloc (.map #[] 0)).alloc (.cells #[.map (some W2.heap.size)] 75)) (W2.heap.size + 1 + 1) [.slice none 0 0] 24 (by simp); simp only [World.size_alloc] at kM; have hsm : (((W2.alloc (.map #[] 0)).alloc (.cells #[.map (some W2.heap.size)] 75)).alloc (.cells #[.slice none 0 0] 24)).heap.size = W2.heap.size + 1 + 1 + 1 := by simp
   have hS0 := (hS0.below (Below.new _ (.cells #[.map (some W2.heap.size)] 75))).below (Below.new _ (.cells #[.slice none 0 0] 24)); have kM := kM.alloc (.cells #[.slice none 0 0] 24); have hF := hF.below hxm; have kR := kR.keep hxm; have kE := kE.keep hxm; have hbw := hbw.trans (hxm.mono hbw.size); have hK1 := (hxm.block D1 hD1l).trans hK1; clear hxm
   go_wp2_with fail
   obtain ⟨Mp, hMp⟩ : ∃ m, W2.heap.size = m := ⟨_, rfl⟩; obtain ⟨Mb, hMb⟩ : ∃ m, Mp + 1 = m := ⟨_, rfl⟩; obtain ⟨O, hO⟩ : ∃ m, Mb + 1 = m := ⟨_, rfl⟩; generalize ((W2.alloc (.map #[] 0)).alloc (.cells #[.map (some W2.heap.size)] 75)).alloc (.cells #[.slice none 0 0] 24) = W4 at *; rw [hMp] at hS0; rw [hMp, hMb] at kM; rw [hMp, hMb, hO] at kO hsm; simp only [hMp, hMb, hO]; have hD1M : D1 < Mp := by omega
   have hMpE : W0.heap.size ≤ Mp := by omega
   have hMM : Mp + 1 = Mb ∧ Mb + 1 = O := ⟨hMb, hO⟩; have HMM := Lib.hid hMM; have hOW4 : O < W4.heap.size := by omega
   have hMW4 : Mp < W4.heap.size := by omega
   have hDW4 : D1 < W4.heap.size := by omega
   have hsW4 : W0.heap.size ≤ W4.heap.size := by omega
   clear hMp hMb hO hmm hMM hsm; refine (callsIn_wide.1 (only_in 5 la N lc 3 _)).mono ?_; rintro e w9 ⟨rfl, rfl⟩
   go_wp2_with fail
   have kR := (kR.alloc (.cells #[.slice la N lc] 68)).alloc (.cells #[.int .i64 3] 3); have kE := (kE.alloc (.cells #[.slice la N lc] 68)).alloc (.cells #[.int .i64 3] 3); have kM := (kM.alloc (.cells #[.slice la N lc] 68)).alloc (.cells #[.int .i64 3] 3); have kO := (kO.alloc (.cells #[.slice la N lc] 68)).alloc (.cells #[.int .i64 3] 3); have hx := (Below.new W4 (.cells #[.slice la N lc] 68)).alloc (by simp) (.cells #[.int .i64 3] 3); have k1 := (Boxed.new W4 68 (.slice la N lc)).alloc (.cells #[.int .i64 3] 3); have k2 := Boxed.new (W4.alloc (.cells #[.slice la N lc] 68)) 3 (.int .i64 3); have hF := hF.below hx; have hS0 := hS0.below hx; have hB2 := hbw.trans (hx.mono hbw.size); have hK1 := (hx.block D1 (by omega)).trans hK1; have hsz2 : ((W4.alloc (.cells #[.slice la N lc] 68)).alloc (.cells #[.int .i64 3] 3)).heap.size = W4.heap.size + 1 + 1 := by simp
   simp only [World.size_alloc] at k1 k2; obtain ⟨W02, hW02⟩ : ∃ W, (W4.alloc (.cells #[.slice la N lc] 68)).alloc (.cells #[.int .i64 3] 3) = W := ⟨_, rfl⟩; rw [hW02] at kR kE kM kO k1 k2 hF hS0 hB2 hK1 hsz2 ⊢; clear hW02 hx hbw; have hra := hF.rd; have hMl : Mp < W02.heap.size := by omega
   have HXO : Hid (∀ x ∈ L, x.Ok W02 ∧ ∀ b, x.p.map (·.block) = some b → b ∉ [O, Mp]) := Lib.hid (fun x hx => ⟨(hF.2 x hx).1, fun b hb hm => by
    obtain ⟨cs, fr, hc⟩ := (hF.2 x hx).2 b hb; have h1 : W02.heap[O]? = _ := kO
    rcases List.mem_cons.1 hm with rfl | hm
    ·rw [h1] at hc; cases hc
    ·rw [List.mem_singleton.1 hm] at hc; obtain ⟨D, ⟨es, clock, he, -⟩, -⟩ := hS0; rw [he] at hc; cases hc⟩)
   have HLA : Hid (∀ b, la.map (·.block) = some b → b ∉ [O, Mp]) := Lib.hid (fun b hb hm => by
    obtain ⟨cs, fr, hc⟩ := typB_owns hF.1 b hb; have h1 : W02.heap[O]? = _ := kO
    rcases List.mem_cons.1 hm with rfl | hm
    ·rw [h1] at hc; cases hc
    ·rw [List.mem_singleton.1 hm] at hc; obtain ⟨D, ⟨es, clock, he, -⟩, -⟩ := hS0; rw [he] at hc; cases hc)
   refine (wpIn_wide (n := 5)).1 ?_; refine wpIn_rangeFunc_leaveM rfl (by decide) (gf := 62) (lb := #[.pointer (some ⟨W4.heap.size, 0, none⟩), .pointer (some ⟨W4.heap.size + 1, 0, none⟩)]) rfl trivial (enters_of Tryz.func62 (by kernel_rfl) rfl)
    (only_leave (5 - 1) (W4.heap.size) (W4.heap.size + 1) la lc L 3 hlen W02 hra (0, 0) (0, 0) (by rw [HN.out]; exact k1) k2) KpF.trans (fun W l o o' hl h1 h2 => KpF.putObj (w := W02) (by omega) (by omega) W l o o' hl h1 h2) (Below.refl _ _) (fun _ => rfl)
    (DI W02 O Mp rs) (DX W02 O Mp R E rs) (DI.own hMl) (DX.own) (ownFrom_pure _ _)
    ⟨_, [], [], kO.blk, hS0, World.ownsRow_nil _ _ _ _, by simp, rfl, (fun y hy => by cases hy), by simp, KB.refl _ _⟩
    (fun (pre : List FC) (x : FC) a' W => (DI W02 O Mp rs) pre W ∧ pre ++ [x] <+: flC L 3 ∧ ∃ Bv, W02.heap.size ≤ Bv ∧ Blk W Bv x.cells ∧ a' = { tmps := List.toArray ((.slice a M c) :: undef :: (.pointer (some ⟨R, 0, none⟩)) :: (.pointer (some ⟨E, 0, none⟩)) :: (.slice la N lc) :: (.int .i64 0) :: (.int .i64 0) :: undef :: (.pointer (some ⟨Mb, 0, none⟩)) :: (.pointer (some ⟨O, 0, none⟩)) :: (.pointer (some ⟨Bv, 0, none⟩)) :: undef :: undef :: (.tuple #[.slice la N lc, .int .i64 0, .int .i64 0]) :: (.slice a M c) :: (.tuple #[.slice la N lc, .int .i64 0, .int .i64 0]) :: (.slice la N lc) :: (.int .i64 0) :: (.int .i64 0) :: (.int .i64 0) :: (.bool false) :: undef :: undef :: (.slice la N lc) :: (.func (.func 62) #[] #[.pointer (some ⟨w1.heap.size, 0, none⟩), .pointer (some ⟨w1.heap.size + 1, 0, none⟩)]) :: undef :: undef :: undef :: undef :: undef :: (.slice la N lc) :: (.int .i64 (m3 : Int)) :: (.bool (decide ((16 : Int) < (m3 : Int)))) :: undef :: (.map (some Mp)) :: (.slice la N lc) :: (.func (.func 62) #[] #[.pointer (some ⟨W4.heap.size, 0, none⟩), .pointer (some ⟨W4.heap.size + 1, 0, none⟩)]) :: x.val :: undef :: undef :: undef :: undef :: undef :: undef :: undef :: undef :: undef :: undef :: undef :: undef :: undef :: undef :: undef :: undef :: undef :: undef :: undef :: undef :: undef :: undef :: undef :: undef :: undef :: undef :: undef :: undef :: []), defers := [] })
    ?hM2 ?assign2 ?body2 ?done2 ?stop2
   case hM2 =>
    rintro pre x a' _ X Y row ⟨hI, hx, Bv, hBv, bV, rfl⟩ hg hrow; exact ⟨(DI.own hMl) pre X Y row hI hg hrow, hx, Bv, hBv, blk_ownF (β := Unit) W02.heap.size Bv (fun _ => x.cells) () X Y row bV hg hrow, rfl⟩
   case assign2 =>
    rintro l' pre ⟨⟨fn, fk, fv, fb⟩, fp, fc⟩ W hI hx; dsimp only [FC.val]; have HI := Lib.hid hI; have hs := HI.out.choose_spec.choose_spec.choose_spec.2.2.2.2.2.2.2.1; clear hI
    gi_wp2
    exact ⟨KeepsHi.of_others (KeepsOthers.alloc _ _), KpF.below (Below.new _ _) (by omega) (by omega), OwnFrom.alloc (DI.own hMl) _ HI.out, hx, W.heap.size, hs, Blk.new W [.int .i64 fn, .int .i64 fk, .int .u64 fv, .slice fp fb.length fc] 72, rfl⟩
   case body2 =>
    rintro l' pre ⟨f, fp, fc⟩ a' W ⟨⟨v, ys, met, kO, hS, ho, hco, hyl, hyt, hdg, hkb⟩, hpx, Bv, hBv, bV, rfl⟩; obtain ⟨hpl, hxf, hxL⟩ := HX.out pre _ hpx; dsimp only at hxf; subst hxf; obtain ⟨xo, xn⟩ := HXO.out _ hxL; have hrW := hkb.rd xo.1 xn; obtain ⟨-, xl, xc, -⟩ := xo; dsimp only at hrW xl xc xn; have hmem := List.getElem_mem hpl; rw [List.drop_eq_getElem_cons hpl] at hdg; have htk : rs.take (pre.length + 1) = rs.take pre.length ++ [rs[pre.length]] := List.take_succ_eq_append_getElem hpl; have hmmx := HMM.out; have hRW := hkb.blk kR.blk (by simp; omega); have kRW0 : BkT W R 24 [.slice none 0 0] := kR.of_block (hkb.2.2 R kR.lt (by simp; omega)); have kEW0 : BkT W E 32 [.int .i64 0] := kE.of_block (hkb.2.2 E kE.lt (by simp; omega)); have kMW0 : Boxed W Mb 75 (.map (some Mp)) := hkb.boxed kM (by simp; omega); have hWs := hkb.1; have hplb : pre.length ≤ 16 := by have := HRL.out; omega
    have HTK := Lib.hid htk; have HYL := Lib.hid hyl; have hylb : ys.length ≤ 16 := by omega
    clear htk hxL xn hpx hRW hyl; generalize hgo : rs[pre.length] = o at *
    cases o with
    | none =>
     dsimp only [rFld, FC.cells, FC.val, List.length_nil] at bV xl hrW ⊢; have HRN := Lib.hid (rlay_nil fp fc xc W); have v3 := bV.cell 3 rfl; have hz : dGo [] rs = 7 := hdg; clear hdg hmem
     gi_wp2_with fail
     refine ⟨trivial, (CallsIn.inRound l' (callsIn_wide.2 HRN.out)).mono ?_⟩; rintro e W2 ⟨rfl, hx⟩; have hbx := hx.trans ((Below.new W2 (.cells #[.string ⟨#[]⟩, .slice none 0 0] 46)).mono hx.size); have kRW := kRW0.keep hbx; have kEW := kEW0.keep hbx; have hkbW := hkb.step (grownBy_of_below hbx none) (fun k h => by cases h); have hkoW := KeepsOthers.of_below hbx; clear v3 HRN bV kRW0 kEW0; have r0 := kRW.blk.cell 0 rfl; have rf := kRW.blk.free 0; have kR2 := (kRW.set 0 (.slice none 0 0)).other (b' := E) (o := 0) nRE (.int .i64 7); have kE1 := kEW.other (b' := R) (o := 0) nRE.symm (.slice none 0 0); have e0 := kE1.blk.cell 0 rfl; have ef := kE1.blk.free 0; have kE2 := kE1.set 0 (.int .i64 7); have hkb2 := ((kbMore (S' := [O, Mp, R, E]) hkbW (by simp)).step (grown_set _ R 0 (.slice none 0 0)) (fun k h => .inr (by cases h; simp))).step (grown_set _ E 0 (.int .i64 7)) (fun k h => .inr (by cases h; simp)); have hko2 := (hkoW.trans (KeepsOthers.setCell _ ⟨R, 0, none⟩ (.slice none 0 0))).trans (KeepsOthers.setCell _ ⟨E, 0, none⟩ (.int .i64 7))
     gi_wp2
     exact ⟨KeepsHi.of_others hko2, rfl, 7, by decide, hz.symm, kR2.blk, kE2, hkb2⟩
    | some y =>
     obtain ⟨y1, y2⟩ := HRS.out y hmem; have yz := lyE_zero y1; dsimp only [rFld, lyFld] at bV xl hrW ⊢; have HRO := Lib.hid (rlay_ok y yz.1 yz.2.2.2.2 y2 yz.2.2.1 fp fc xl xc W hrW); have hnsz := (namedF_zero yz.1).2.2; generalize lyB y = LB at *; dsimp only [FC.cells, FC.val] at bV ⊢; generalize LB.length = lb at *; have v3 := bV.cell 3 rfl; clear hmem y1 y2 yz hrW xl
     gi_wp2_with fail
     refine ⟨trivial, (CallsIn.inRound l' (callsIn_wide.2 HRO.out)).mono ?_⟩; rintro e W2 ⟨⟨NM, fs, fa, fac⟩, rfl, hcore, hLT, hx⟩; dsimp only [Ly.val, Ly.fval]; obtain ⟨n1, hn1⟩ : ∃ n, fs.length = n := ⟨_, rfl⟩; rw [hn1]; have hNM : y.1 = NM := by rw [← hcore]; rfl
     rw [hNM] at hnsz; have hnm : NM.size ≤ maxLen := by unfold maxLen; omega
     have hxa := Below.new W2 (.cells #[.string NM, .slice fa n1 fac] 46); have hbx := hx.trans (hxa.mono hx.size); have kX := Blk.new W2 [.string NM, .slice fa n1 fac] 46; have x0 := kX.cell 0 rfl; have x1 := kX.cell 1 rfl; have kRW := kRW0.keep hbx; have kEW := kEW0.keep hbx; have kMW : Boxed (W2.alloc (.cells #[.string NM, .slice fa n1 fac] 46)) Mb 75 (.map (some Mp)) := (hbx.block _ kMW0.lt).trans kMW0; have mC := kMW.cell; have hSW := hS.below hbx; have hkbW := hkb.step (grownBy_of_below hbx none) (fun k h => by cases h); have hkoW := KeepsOthers.of_below hbx; have hlk := hSW.look Tryz.underlying75 Tryz.underlying9 Tryz.underlying4 (Tryz.zeroB _) NM hnm; have hWX : W.heap.size ≤ W2.heap.size := hx.size; have hMX : Mb ≠ W2.heap.size := by have := kMW0.lt; omega
     by_cases hm : NM.data.toList ∈ met
     ·rw [decide_eq_true hm] at hlk; have hz : dGo [] rs = 8 := by rw [hdg]; unfold dGo; rw [hNM, if_pos hm]
      clear v3 HRO bV kRW0 kEW0 hm hdg; have r0 := kRW.blk.cell 0 rfl; have rf := kRW.blk.free 0; have kR2 := (kRW.set 0 (.slice none 0 0)).other (b' := E) (o := 0) nRE (.int .i64 8); have kE1 := kEW.other (b' := R) (o := 0) nRE.symm (.slice none 0 0); have e0 := kE1.blk.cell 0 rfl; have ef := kE1.blk.free 0; have kE2 := kE1.set 0 (.int .i64 8); have hkb2 := ((kbMore (S' := [O, Mp, R, E]) hkbW (by simp)).step (grown_set _ R 0 (.slice none 0 0)) (fun k h => .inr (by cases h; simp))).step (grown_set _ E 0 (.int .i64 8)) (fun k h => .inr (by cases h; simp)); have hko2 := (hkoW.trans (KeepsOthers.setCell _ ⟨R, 0, none⟩ (.slice none 0 0))).trans (KeepsOthers.setCell _ ⟨E, 0, none⟩ (.int .i64 8))
      gi_wp2
      exact ⟨KeepsHi.of_others hko2, rfl, 8, by decide, hz.symm, kR2.blk, kE2, hkb2⟩
     ·rw [decide_eq_false hm] at hlk; have HDG : Hid (dGo [] rs = dGo (NM.data.toList :: met) (rs.drop (pre.length + 1))) := Lib.hid (by rw [hdg, dGo, hNM, if_neg hm]); obtain ⟨W4, hrun, hS4, hg4⟩ := hSW.add Tryz.underlying75 Tryz.underlying9 Tryz.underlying4 (by unfold maxLen; omega) NM hnm; have kX4 := kX.grown hg4 (fun e => by have := Option.some.inj e; omega); have kO3 := kO.keep hbx; have kO4 := kO3.grown hg4 (fun e => by have := Option.some.inj e; omega); have ho3 := ho.below hbx; have ho4 := ho3.kept hg4 (.inr (fun e => by have := (ho3.lt _ e).1; omega)); have HYT4 : Hid (∀ z ∈ ys, LyT W02.heap.size W4 z) := Lib.hid (fun z hz => ((hyt z hz).below hbx).gr hg4 (Off.low (by omega))); have HLT4 : Hid (LyT W02.heap.size W4 ⟨NM, fs, fa, fac⟩) := Lib.hid (((hLT.below hxa).gr hg4 (Off.low (by omega))).mono (by omega)); have HKB4 := Lib.hid (hkbW.step hg4 (fun k h => .inr (by cases h; simp))); have hko4 := (KeepsHi.of_others (n₀ := W02.heap.size) hkoW).trans (KeepsHi.of_grown hg4 (fun r e => .inl (by cases e; omega))); have HCELLS : Hid ((⟨NM, fs, fa, fac⟩ : Ly).cells = [.string NM, .slice fa n1 fac]) := Lib.hid (by rw [← hn1]; rfl); have HCORE := Lib.hid hcore; have z0 := kX4.cell 0 rfl; have z1 := kX4.cell 1 rfl; have oC := kO4.cell 0 rfl; have hs4 := HKB4.out.1; clear v3 HRO bV kRW0 kEW0 kMW0 hm hdg hcore hNM hn1 hyt hLT hkoW hkbW hSW hxa hbx hx ho ho3 kX kO kO3 kRW kEW hS
      gi_wp2_with (gi_at_builtin; go_must (refine wpListIn_append_own _ rfl (.tmp 60) (.tmp 62) 22 rfl W02.heap.size 46 iL (.agg #[.string ⟨#[]⟩, .slice none 0 0]) 2 40 Tryz.underlying22 hiL hL0 hL1 hL2 rfl (by decide) v ys.length (lys ys) rfl (ho4.below (Below.new _ _)) ⟨W4.heap.size, 0, none⟩ 1 1 [.string NM, .slice fa n1 fac] rfl rfl (Rd.lit _ _ _ _ (by simp)).add (by simp [Value.oneCell']) (by unfold maxLen; omega) (by omega) (by simp; omega) ?_); intro v' w5 hown' hgrow _; obtain ⟨g', cap', rfl⟩ := ownsRow_succ hown'; have hO5 := (kO4.alloc (.cells #[.string NM, .slice fa n1 fac] 46)).grown hgrow (ho4.ne (by omega)); have oC5 := hO5.cell 0 rfl; have oF5 := hO5.free 0)
      have hta := ho4.below (Below.new _ (.cells #[.string NM, .slice fa n1 fac] 46)); have hO6 := hO5.set 0 (.slice (some ⟨g', 0, none⟩) (ys.length + 1) cap'); have hko6 := (hko4.trans (KeepsHi.of_others ((KeepsOthers.alloc _ (.cells #[.string NM, .slice fa n1 fac] 46)).trans (KeepsOthers.of_row hta hgrow)))).trans (KeepsHi.of_others (KeepsOthers.setCell _ ⟨O, 0, none⟩ (.slice (some ⟨g', 0, none⟩) (ys.length + 1) cap'))); have hkb6 := ((HKB4.out.step (World.grownBy_alloc _ (.cells #[.string NM, .slice fa n1 fac] 46) none) (fun k h => by cases h)).step hgrow (fun k h => .inl (hta.lt k h).1)).step (grown_set w5 O 0 (.slice (some ⟨g', 0, none⟩) (ys.length + 1) cap')) (fun k h => .inr (by cases h; simp)); have hS6 := ((hS4.kept (World.grownBy_alloc W4 (.cells #[.string NM, .slice fa n1 fac] 46) none) (fun e => by cases e)).kept hgrow (hta.ne (by omega))).kept (grown_set w5 O 0 (.slice (some ⟨g', 0, none⟩) (ys.length + 1) cap')) (fun e => by have := Option.some.inj e; omega); have ho6 := hown'.set_lt (b := O) (o := 0) (by omega) (.slice (some ⟨g', 0, none⟩) (ys.length + 1) cap'); have hall6 : ∀ z ∈ ys ++ [⟨NM, fs, fa, fac⟩], LyT W02.heap.size (w5.setCell ⟨O, 0, none⟩ (.slice (some ⟨g', 0, none⟩) (ys.length + 1) cap')) z := fun z hz => by
       rcases List.mem_append.1 hz with hz | hz
       ·exact (((HYT4.out z hz).below (Below.new _ (.cells #[.string NM, .slice fa n1 fac] 46))).gr hgrow (Off.row hta (by decide))).gr (grown_set w5 O 0 _) (Off.low (by omega))
       ·rw [List.mem_singleton.1 hz]; exact ((HLT4.out.below (Below.new _ (.cells #[.string NM, .slice fa n1 fac] 46))).gr hgrow (Off.row hta (by decide))).gr (grown_set w5 O 0 _) (Off.low (by omega))
      refine ⟨hko6, hkb.kpf hkb6 (hkb6.rd hra HLA.out) (by omega) (by omega) (by simp; omega) (by simp; omega), _, ys ++ [⟨NM, fs, fa, fac⟩], NM.data.toList :: met, hO6, ?_, ?_, ?_, ?_, hall6, ?_, hkb6⟩
      ·rw [List.length_append]; exact hS6
      ·rw [lys_snoc, List.length_append, HCELLS.out]; exact ho6
      ·rw [List.length_append, List.length_singleton, HTK.out, hco, List.map_append, List.map_append, List.map_singleton, List.map_singleton, HCORE.out]
      ·rw [List.length_append, List.length_append, HYL.out]; rfl
      ·rw [List.length_append, List.length_singleton]; exact HDG.out
   case done2 =>
    rintro D2 xs W hD2 rfl ⟨v, ys, met, kO, hS, ho, hco, hyl, hyt, hdg, hkb⟩ hK2; rw [hl3] at hco hyl hdg; rw [List.take_of_length_le (by rw [HRL.out]; exact Nat.le_refl _)] at hco; rw [List.drop_of_length_le (by rw [HRL.out]; exact Nat.le_refl _)] at hdg; have hmmx := HMM.out; have HZ : Hid (DE = 0) := Lib.hid (by rw [HD2.out, hdg]; rfl); have HCO := Lib.hid hco; obtain ⟨fa, fc, rfl, p1, p2, p3, hfr, -⟩ := ho.form; have hby := ByT.of_owns ho; have hbW := hkb.below hB2 (by simp; omega); have hK1W := (hkb.2.2 D1 (by omega) (by simp; omega)).trans hK1; have kRW : BkT W R 24 [.slice none 0 0] := kR.of_block (hkb.2.2 R kR.lt (by simp; omega)); have kEW : BkT W E 32 [.int .i64 0] := kE.of_block (hkb.2.2 E kE.lt (by simp; omega)); have hWs := hkb.1; obtain ⟨n1, hn1⟩ : ∃ n, ys.length = n := ⟨_, rfl⟩; have HN1 := Lib.hid hn1; rw [hn1] at kO p1; have oC := kO.cell 0 rfl; have r0 := kRW.blk.cell 0 rfl; have rf := kRW.blk.free 0; have kR2 := (kRW.set 0 (.slice fa n1 fc)).other (b' := E) (o := 0) nRE (.int .i64 0); have kE1 := kEW.other (b' := R) (o := 0) nRE.symm (.slice fa n1 fc); have e0 := kE1.blk.cell 0 rfl; have ef := kE1.blk.free 0; have kE2 := kE1.set 0 (.int .i64 0); have hb2 := (hbW.set_at (b := R) (o := 0) hwR (.slice fa n1 fc)).set_at (b := E) (o := 0) hwE (.int .i64 0); have hfr2 := (hfr.set_off (B := R) (o := 0) (u := .slice fa n1 fc) (fun b hb => by have := hby.2 b hb; omega)).set_off (B := E) (o := 0) (u := .int .i64 0) (fun b hb => by have := hby.2 b hb; omega); have hyt2 : ∀ y ∈ ys, LyT W02.heap.size _ y := fun y hy => ((hyt y hy).gr (grown_set W R 0 (.slice fa n1 fc)) (Off.low (by omega))).gr (grown_set _ E 0 (.int .i64 0)) (Off.low (by omega))
    have hK12 : ((W.setCell ⟨R, 0, none⟩ (.slice fa n1 fc)).setCell ⟨E, 0, none⟩ (.int .i64 0)).heap[D1]? = some (.deferred (some [])) := by
     rw [Below.heap_setCell _ _ _ _ (by simp; omega), Below.heap_setCell _ _ _ _ (by simp; omega)]; exact hK1W
    have hK22 : ((W.setCell ⟨R, 0, none⟩ (.slice fa n1 fc)).setCell ⟨E, 0, none⟩ (.int .i64 0)).heap[D2]? = some (.deferred (some [])) := by
     rw [Below.heap_setCell _ _ _ _ (by simp; omega), Below.heap_setCell _ _ _ _ (by simp; omega)]; exact hK2
    clear hco hdg hkb hS ho hfr hyt hbW hK1W hK2 hyl hn1; go_wp2; clear oC r0 rf e0 ef; generalize (W.setCell ⟨R, 0, none⟩ (.slice fa n1 fc)).setCell ⟨E, 0, none⟩ (.int .i64 0) = W3 at *; refine ⟨by simp, .inl ⟨_, _, rfl, run_takeDeferred hK22, ?_⟩⟩; have hK1X : (W3.putObj D2 (.deferred none)).heap[D1]? = some (.deferred (some [])) := (World.putObj_heap_other (by omega)).trans hK12; refine ⟨by simp, .inl ⟨_, _, rfl, run_takeDeferred hK1X, ?_⟩⟩; have kR5 := (kR2.grown (grownBy_putObj' W3 D2 (.deferred none)) (fun e => by have := Option.some.inj e; omega)).grown (grownBy_putObj' _ D1 (.deferred none)) (fun e => by have := Option.some.inj e; omega); have kE5 := (kE2.grown (grownBy_putObj' W3 D2 (.deferred none)) (fun e => by have := Option.some.inj e; omega)).grown (grownBy_putObj' _ D1 (.deferred none)) (fun e => by have := Option.some.inj e; omega); have r0 := kR5.blk.cell 0 rfl; have e0 := kE5.blk.cell 0 rfl; have hfr5 := (hfr2.putObj (.deferred none) hK22 rfl).putObj (.deferred none) hK1X rfl; have hyt5 : ∀ y ∈ ys, LyT W02.heap.size _ y := fun y hy => ((hyt2 y hy).gr (grownBy_putObj' W3 D2 (.deferred none)) (Off.walk (fun k e => by cases e; exact ⟨_, hK22, rfl⟩))).gr (grownBy_putObj' _ D1 (.deferred none)) (Off.walk (fun k e => by cases e; exact ⟨_, hK1X, rfl⟩)); have hwW : w.heap.size ≤ W02.heap.size := hB2.size; exact ⟨.tuple #[.agg #[.slice fa n1 fc], .int .i64 0], by simp [results, Tryz.results11, go_sem, r0, e0], ⟨fa, fc, ys, by rw [HZ.out, HN1.out], (fun _ => HCO.out.symm), hfr5, by rw [HN1.out]; exact p1, p2, (fun y hy => (hyt5 y hy).mono hwW), p3⟩, (hb2.trans (putObj_belowM _ W3 D2 _ (by omega))).trans (putObj_belowM _ _ D1 _ (by omega))⟩
   case stop2 =>
    rintro D2 cc pre W hD2 ⟨rfl, z, hz0, hz, hR, hE, hkb⟩ hK2; have hmmx := HMM.out; have hbW := hkb.below hB2 (by simp; omega); have hK1W := (hkb.2.2 D1 (by omega) (by simp; omega)).trans hK1; have hWs := hkb.1; have HZ : Hid (DE = z) := Lib.hid (by rw [HD2.out, ← hz]); have HZ0 := Lib.hid hz0; clear hkb hz hz0
    gi_wp2
    refine ⟨by simp, .inl ⟨_, _, rfl, run_takeDeferred hK2, ?_⟩⟩; have hK1X : (W.putObj D2 (.deferred none)).heap[D1]? = some (.deferred (some [])) := (World.putObj_heap_other (by omega)).trans hK1W; refine ⟨by simp, .inl ⟨_, _, rfl, run_takeDeferred hK1X, ?_⟩⟩; have kR5 := (hR.grown (grownBy_putObj' W D2 (.deferred none)) (fun e => by have := Option.some.inj e; omega)).grown (grownBy_putObj' _ D1 (.deferred none)) (fun e => by have := Option.some.inj e; omega); have kE5 := (hE.kept (grownBy_putObj' W D2 (.deferred none)) (fun e => by have := Option.some.inj e; omega)).kept (grownBy_putObj' _ D1 (.deferred none)) (fun e => by have := Option.some.inj e; omega); have r0 := kR5.cell 0 rfl; have e0 := kE5.cell; exact ⟨.tuple #[.agg #[.slice none 0 0], .int .i64 z], by simp [results, Tryz.results11, go_sem, r0, e0], ⟨none, 0, [], by rw [HZ.out]; rfl, (fun h => absurd (HZ.out.symm.trans h) HZ0.out), Rd.nil _ _, Nat.le_refl _, (show (0 : Nat) ≤ maxLen by decide), (fun y hy => by cases hy), fun _ => rfl⟩, (hbW.trans (putObj_belowM _ W D2 _ (by omega))).trans (putObj_belowM _ _ D1 _ (by omega))⟩
 case stop =>
  rintro D cc pre W hD hF hK; exact hF.elim
end Go.Proofs.YtjggoajfilnfjaaGreat
namespace Go.Proofs.YtjggoajfilnfjaaGreat
open Go.RowKit
set_option maxHeartbeats 1600000 in
theorem eqP_same (a b : Option Addr) (ca cb : Nat) (l : List Pt) (hl : l.length ≤ 1000000) (w : World) (hr : Rd w a (pts l)) (hs : Rd w b (pts l)) :
  Calls Tryz.prog 41 #[.slice a l.length ca, .slice b l.length cb] w fun e w' => e = .returned (.bool true) ∧ Below w.heap.size w w' := by
 have HR := Lib.hid hr; have HS := Lib.hid hs; obtain ⟨N, hN⟩ : ∃ N, l.length = N := ⟨_, rfl⟩; have HN := Lib.hid hN; rw [hN] at hl ⊢; clear hr hs hN
 go_enter Tryz.func41, Tryz.ntmps41
 go_wp2
 go_loopw [13] (fun i wr => ∃ k : Nat, k ≤ N ∧ i = .int .i64 k ∧ Below w.heap.size w wr) (fun i _ => N - (intOf i).toNat)
 case atStart => exact ⟨0, by omega, rfl, Below.refl _ _⟩
 case round =>
  obtain ⟨k, hk, rfl, hbl⟩ := hrel
  by_cases h1 : k < N
  ·have h1' : (k : Int) < (N : Int) := by omega
   have hkl : k < l.length := by rw [HN.out]; exact h1
   obtain ⟨b1, o1, rfl, hbb, c0, c1⟩ := (HR.out.keep hbl).pt k hkl; obtain ⟨b2, o2, rfl, hbb2, d0, d1⟩ := (HS.out.keep hbl).pt k hkl; generalize l[k] = p at *; obtain ⟨x, y⟩ := p; dsimp only at c0 c1 d0 d1; go_wp2
   go_quiet (fail)
   go_wp2; exact ⟨⟨k + 1, by omega, by go_num, below_drewN hbl _⟩, by simp [intOf]; omega⟩
  ·have h1' : ¬ (k : Int) < (N : Int) := by omega
   go_wp2; go_ret; exact ⟨rfl, hbl⟩
set_option maxHeartbeats 1600000 in
theorem eqA_same (a b : Option Addr) (ca cb : Nat) (l : List At) (hl : l.length ≤ 1000000) (w : World) (hr : Rd w a (ats l)) (hs : Rd w b (ats l)) :
  Calls Tryz.prog 73 #[.slice a l.length ca, .slice b l.length cb] w fun e w' => e = .returned (.bool true) ∧ Below w.heap.size w w' := by
 have HR := Lib.hid hr; have HS := Lib.hid hs; obtain ⟨N, hN⟩ : ∃ N, l.length = N := ⟨_, rfl⟩; have HN := Lib.hid hN; rw [hN] at hl ⊢; clear hr hs hN
 go_enter Tryz.func73, Tryz.ntmps73
 go_wp2
 go_loopw [13] (fun i wr => ∃ k : Nat, k ≤ N ∧ i = .int .i64 k ∧ Below w.heap.size w wr) (fun i _ => N - (intOf i).toNat)
 case atStart => exact ⟨0, by omega, rfl, Below.refl _ _⟩
 case round =>
  obtain ⟨k, hk, rfl, hbl⟩ := hrel
  by_cases h1 : k < N
  ·have h1' : (k : Int) < (N : Int) := by omega
   have hkl : k < l.length := by rw [HN.out]; exact h1
   obtain ⟨b1, o1, rfl, hbb, c0, c1, c2, c3⟩ := (HR.out.keep hbl).atr k hkl; obtain ⟨b2, o2, rfl, hbb2, d0, d1, d2, d3⟩ := (HS.out.keep hbl).atr k hkl; generalize l[k] = p at *; obtain ⟨x, y, z, u⟩ := p; dsimp only at c0 c1 c2 c3 d0 d1 d2 d3; go_wp2
   go_quiet (fail)
   go_wp2; exact ⟨⟨k + 1, by omega, by go_num, below_drewN hbl _⟩, by simp [intOf]; omega⟩
  ·have h1' : ¬ (k : Int) < (N : Int) := by omega
   go_wp2; go_ret; exact ⟨rfl, hbl⟩
set_option maxHeartbeats 800000 in
theorem tsame_same (a b : Option Addr) (ca cb : Nat) (l : List At) (hl : l.length ≤ 1000000) (w : World) (hr : Rd w a (ats l)) (hs : Rd w b (ats l)) :
  Calls Tryz.prog 39 #[.slice a l.length ca, .slice b l.length cb] w fun e w' => e = .returned (.bool true) ∧ Below w.heap.size w w' := by
 have H := Lib.hid (eqA_same a b ca cb l hl w hr hs); clear hr hs
 go_enter Tryz.func39, Tryz.ntmps39
 go_wp2_with fail
 refine H.out.mono ?_; rintro e w1 ⟨rfl, hb⟩; go_wp2; go_ret; exact ⟨rfl, hb⟩
set_option maxHeartbeats 1600000 in
theorem eqR_same (a b : Option Addr) (ca cb : Nat) (L M : List PC) (he : L.map PC.l = M.map PC.l) (hl : L.length ≤ 1000000) (hl2 : ∀ r ∈ L, r.l.length ≤ 1000000) (w : World) (hr : Rd w a (rcs L)) (hs : Rd w b (rcs M)) (hL : ∀ r ∈ L, r.Ok w) (hM : ∀ r ∈ M, r.Ok w) :
  Calls Tryz.prog 40 #[.slice a L.length ca, .slice b M.length cb, .func (.func 41) #[] #[]] w fun e w' => e = .returned (.bool true) ∧ Below w.heap.size w w' := by
 have HR := Lib.hid hr; have HS := Lib.hid hs; have HL := Lib.hid hL; have HM := Lib.hid hM; have HE := Lib.hid he; have HL2 := Lib.hid hl2; have hlm : M.length = L.length := by
  have := congrArg List.length he
  simpa using this.symm
 rw [hlm]; obtain ⟨N, hN⟩ : ∃ N, L.length = N := ⟨_, rfl⟩; have HN := Lib.hid hN; have HNM : Hid (M.length = N) := Lib.hid (hlm.trans hN); rw [hN] at hl ⊢; clear hr hs hN hL hM he hlm hl2
 go_enter Tryz.func40, Tryz.ntmps40
 go_wp2
 go_loopw [17] (fun i wr => ∃ k : Nat, k ≤ N ∧ i = .int .i64 k ∧ Below w.heap.size w wr) (fun i _ => N - (intOf i).toNat)
 case atStart => exact ⟨0, by omega, rfl, Below.refl _ _⟩
 case round =>
  obtain ⟨k, hk, rfl, hbl⟩ := hrel
  by_cases h1 : k < N
  ·have h1' : (k : Int) < (N : Int) := by omega
   have hkl : k < L.length := by rw [HN.out]; exact h1
   have hkm : k < M.length := by rw [HNM.out]; exact h1
   obtain ⟨b1, o1, rfl, hbb, c0⟩ := (HR.out.keep hbl).rc k hkl; obtain ⟨b2, o2, rfl, hbb2, d0⟩ := (HS.out.keep hbl).rc k hkm; have hle : M[k].l = L[k].l := by
    have := congrArg (fun z => z[k]?) HE.out; simp [hkl, hkm] at this; exact this.symm
   have hx := (HL.out _ (List.getElem_mem hkl)).keep hbl; have hy := (HM.out _ (List.getElem_mem hkm)).keep hbl; have hz := HL2.out _ (List.getElem_mem hkl); generalize L[k] = x at *; generalize M[k] = y at *; obtain ⟨xl, xp, xc⟩ := x; obtain ⟨yl, yp, yc⟩ := y; dsimp only at hle hz; subst hle; dsimp only [PC.val] at c0 d0; have HC := Lib.hid (eqP_same xp yp xc yc yl hz wr hx.1 hy.1); clear hx hy hz
   go_wp2_with fail
   refine HC.out.mono ?_; rintro e w1 ⟨rfl, hb1⟩; have hb2 := hbl.trans (hb1.mono hbl.size); go_wp2; exact ⟨⟨k + 1, by omega, by go_num, hb2⟩, by simp [intOf]; omega⟩
  ·have h1' : ¬ (k : Int) < (N : Int) := by omega
   go_wp2; go_ret; exact ⟨rfl, hbl⟩
end Go.Proofs.YtjggoajfilnfjaaGreat
