/-
  mvt.Same: of tiles of which the same is told. graticulelaw24.known. Plain: a text's first rune.
-/
import Derived.Test.YtjggoajfilnfjaaGreatPk31
import Derived.Test.YtjggoajfilnfjaaGreatPk24
import Derived.Test.YtjggoajfilnfjaaGreatPk5
set_option linter.unusedVariables false
set_option linter.unusedSimpArgs false
set_option maxRecDepth 100000
namespace Go.Proofs.YtjggoajfilnfjaaGreat
open Go.RowKit
set_option maxHeartbeats 3200000 in
theorem sf_same (f g : Ft) (hc : f.core = g.core) (hz : f.Sz) (w : World) (hf : f.Ok w) (hg : g.Ok w) :
  Calls Tryz.prog 38 #[f.val, g.val] w fun e w' => e = .returned (.bool true) ∧ Below w.heap.size w w' := by
 obtain ⟨id, kd, ls, aa, ac, rs, ra, rc⟩ := f; obtain ⟨id2, kd2, ls2, ba, bc, qs, qa, qc⟩ := g; simp only [Ft.core, Ft.rings, Prod.mk.injEq] at hc; obtain ⟨rfl, rfl, rfl, hrl⟩ := hc; obtain ⟨z1, z2, z3, z4⟩ := hz; obtain ⟨⟨ha, -⟩, ⟨hr, -⟩, ho⟩ := hf; obtain ⟨⟨ha2, -⟩, ⟨hr2, -⟩, ho2⟩ := hg; dsimp only at *; have HA := Lib.hid (fun W (h : Below w.heap.size w W) => tsame_same aa ba ac bc ls (by omega) W (ha.keep h) (ha2.keep h)); have HP := Lib.hid (fun W (h : Below w.heap.size w W) => eqR_same ra qa rc qc rs qs hrl (by omega) (fun r hr => by have := z4 r hr; omega) W (hr.keep h) (hr2.keep h) (fun r hr => (ho r hr).keep h) (fun r hr => (ho2 r hr).keep h)); dsimp only [Ft.val, Ft.aval, Ft.rval]; generalize ls.length = n1 at *; generalize rs.length = n2 at *; generalize qs.length = n3 at *; have kA := (Blk.new w [.int .i64 id, .int .i64 kd, .slice aa n1 ac, .slice ra n2 rc] 53).alloc (.cells #[.int .i64 id, .int .i64 kd, .slice ba n1 bc, .slice qa n3 qc] 53); have kB := Blk.lit (w.alloc (.cells #[.int .i64 id, .int .i64 kd, .slice aa n1 ac, .slice ra n2 rc] 53)) (w.heap.size + 1) [.int .i64 id, .int .i64 kd, .slice ba n1 bc, .slice qa n3 qc] 53 (by simp); have hb0 := (Below.new w (.cells #[.int .i64 id, .int .i64 kd, .slice aa n1 ac, .slice ra n2 rc] 53)).alloc (by simp) (.cells #[.int .i64 id, .int .i64 kd, .slice ba n1 bc, .slice qa n3 qc] 53); clear ha ha2 hr hr2 ho ho2 z2 z4 hrl; have a0 := kA.cell 0 rfl; have a1 := kA.cell 1 rfl; have a2 := kA.cell 2 rfl; have b0 := kB.cell 0 rfl; have b1 := kB.cell 1 rfl
 have b2 := kB.cell 2 rfl
 go_enter Tryz.func38, Tryz.ntmps38
 go_wp2_with fail
 refine (HA.out _ hb0).mono ?_; rintro e w1 ⟨rfl, hx⟩; have hb1 := hb0.trans (hx.mono hb0.size); have kA := kA.keep hx; have kB := kB.keep hx; clear a0 a1 a2 b0 b1 b2 hx hb0; have a3 := kA.cell 3 rfl; have b3 := kB.cell 3 rfl
 go_wp2_with fail
 refine (HP.out _ hb1).mono ?_; rintro e w2 ⟨rfl, hx⟩; have hb2 := hb1.trans (hx.mono hb1.size); clear a3 b3; go_wp2; go_ret; exact ⟨rfl, hb2⟩
set_option maxHeartbeats 3200000 in
theorem eqF_same (a b : Option Addr) (ca cb : Nat) (L M : List Ft) (he : L.map Ft.core = M.map Ft.core) (hl : L.length ≤ 1000000) (hz : ∀ x ∈ L, Ft.Sz x) (w : World) (hr : Rd w a (fts L)) (hs : Rd w b (fts M)) (hL : ∀ x ∈ L, x.Ok w) (hM : ∀ x ∈ M, x.Ok w) :
  Calls Tryz.prog 37 #[.slice a L.length ca, .slice b M.length cb, .func (.func 38) #[] #[]] w fun e w' => e = .returned (.bool true) ∧ Below w.heap.size w w' := by
 have HR := Lib.hid hr; have HS := Lib.hid hs; have HL := Lib.hid hL; have HM := Lib.hid hM; have HE := Lib.hid he; have HZ := Lib.hid hz; have hlm : M.length = L.length := by
  have := congrArg List.length he
  simpa using this.symm
 rw [hlm]; obtain ⟨N, hN⟩ : ∃ N, L.length = N := ⟨_, rfl⟩; have HN := Lib.hid hN; have HNM : Hid (M.length = N) := Lib.hid (hlm.trans hN); rw [hN] at hl ⊢; clear hr hs hN hL hM he hlm hz
 go_enter Tryz.func37, Tryz.ntmps37
 go_wp2
 go_loopw [17] (fun i wr => ∃ k : Nat, k ≤ N ∧ i = .int .i64 k ∧ Below w.heap.size w wr) (fun i _ => N - (intOf i).toNat)
 case atStart => exact ⟨0, by omega, rfl, Below.refl _ _⟩
 case round =>
  obtain ⟨k, hk, rfl, hbl⟩ := hrel
  by_cases h1 : k < N
  ·have h1' : (k : Int) < (N : Int) := by omega
   have hkl : k < L.length := by rw [HN.out]; exact h1
   have hkm : k < M.length := by rw [HNM.out]; exact h1
   obtain ⟨b1, o1, rfl, hbb, c0, c1, c2, c3⟩ := (HR.out.keep hbl).ft k hkl; obtain ⟨b2, o2, rfl, hbb2, d0, d1, d2, d3⟩ := (HS.out.keep hbl).ft k hkm; have hle : L[k].core = M[k].core := by
    have := congrArg (fun z => z[k]?) HE.out; simp [hkl, hkm] at this; exact this
   have hx := (HL.out _ (List.getElem_mem hkl)).keep hbl; have hy := (HM.out _ (List.getElem_mem hkm)).keep hbl; have hzx := HZ.out _ (List.getElem_mem hkl); generalize L[k] = x at *; generalize M[k] = y at *; have HC := Lib.hid (fun W (h : Below wr.heap.size wr W) => sf_same x y hle hzx W (hx.keep h) (hy.keep h)); clear hx hy hzx hle; obtain ⟨id, kd, ls, aa, ac, rs, ra, rc⟩ := x; obtain ⟨id2, kd2, ls2, ba, bc, qs, qa, qc⟩ := y; dsimp only [Ft.val, Ft.aval, Ft.rval] at HC c0 c1 c2 c3 d0 d1 d2 d3; generalize ls.length = n1 at *; generalize rs.length = n2 at *; generalize ls2.length = n4 at *; generalize qs.length = n3 at *; have kA := (Blk.new wr [.int .i64 id, .int .i64 kd, .slice aa n1 ac, .slice ra n2 rc] 53).alloc (.cells #[.int .i64 id2, .int .i64 kd2, .slice ba n4 bc, .slice qa n3 qc] 53); have kB := Blk.lit (wr.alloc (.cells #[.int .i64 id, .int .i64 kd, .slice aa n1 ac, .slice ra n2 rc] 53)) (wr.heap.size + 1) [.int .i64 id2, .int .i64 kd2, .slice ba n4 bc, .slice qa n3 qc] 53 (by simp); have hxx := (Below.new wr (.cells #[.int .i64 id, .int .i64 kd, .slice aa n1 ac, .slice ra n2 rc] 53)).alloc (by simp) (.cells #[.int .i64 id2, .int .i64 kd2, .slice ba n4 bc, .slice qa n3 qc] 53); have hb2 := hbl.trans (hxx.mono hbl.size); have e0 := kA.cell 0 rfl; have f0 := kB.cell 0 rfl; have e1 := kA.cell 1 rfl; have f1 := kB.cell 1 rfl; have e2 := kA.cell 2 rfl; have f2 := kB.cell 2 rfl; have e3 := kA.cell 3 rfl; have f3 := kB.cell 3 rfl
   go_wp2_with fail
   refine (HC.out _ hxx).mono ?_; rintro e w1 ⟨rfl, hb1⟩; have hb3 := hb2.trans (hb1.mono hb2.size); clear kA kB hxx hb2; go_wp2; exact ⟨⟨k + 1, by omega, by go_num, hb3⟩, by simp [intOf]; omega⟩
  ·have h1' : ¬ (k : Int) < (N : Int) := by omega
   go_wp2; go_ret; exact ⟨rfl, hbl⟩
set_option maxHeartbeats 3200000 in
theorem sl_same (f g : Ly) (hc : f.core = g.core) (hz : f.Sz) (w : World) (hf : f.Ok w) (hg : g.Ok w) :
  Calls Tryz.prog 36 #[f.val, g.val] w fun e w' => e = .returned (.bool true) ∧ Below w.heap.size w w' := by
 obtain ⟨NM, fs, fa, fc⟩ := f; obtain ⟨NM2, gs, ga, gc⟩ := g; simp only [Ly.core, Prod.mk.injEq] at hc; obtain ⟨rfl, hcf⟩ := hc; obtain ⟨z1, z2, z3⟩ := hz; obtain ⟨⟨ha, -⟩, ho⟩ := hf; obtain ⟨⟨ha2, -⟩, ho2⟩ := hg; dsimp only at *; have HP := Lib.hid (fun W (h : Below w.heap.size w W) => eqF_same fa ga fc gc fs gs hcf (by omega) z3 W (ha.keep h) (ha2.keep h) (fun r hr => (ho r hr).keep h) (fun r hr => (ho2 r hr).keep h)); dsimp only [Ly.val, Ly.fval]; generalize fs.length = n2 at *; generalize gs.length = n3 at *; have kA := (Blk.new w [.string NM, .slice fa n2 fc] 46).alloc (.cells #[.string NM, .slice ga n3 gc] 46); have kB := Blk.lit (w.alloc (.cells #[.string NM, .slice fa n2 fc] 46)) (w.heap.size + 1) [.string NM, .slice ga n3 gc] 46 (by simp); have hb0 := (Below.new w (.cells #[.string NM, .slice fa n2 fc] 46)).alloc (by simp) (.cells #[.string NM, .slice ga n3 gc] 46); clear ha ha2 ho ho2 z3 hcf; have a0 := kA.cell 0 rfl; have a1 := kA.cell 1 rfl; have b0 := kB.cell 0 rfl; have b1 := kB.cell 1 rfl
 go_enter Tryz.func36, Tryz.ntmps36
 go_wp2_with fail
 refine (HP.out _ hb0).mono ?_; rintro e w2 ⟨rfl, hx⟩; have hb2 := hb0.trans (hx.mono hb0.size); clear a0 a1 b0 b1; go_wp2; go_ret; exact ⟨rfl, hb2⟩
set_option maxHeartbeats 3200000 in
theorem eqL_same (a b : Option Addr) (ca cb : Nat) (L M : List Ly) (he : L.map Ly.core = M.map Ly.core) (hl : L.length ≤ 1000000) (hz : ∀ x ∈ L, Ly.Sz x) (w : World) (hr : Rd w a (lys L)) (hs : Rd w b (lys M)) (hL : ∀ x ∈ L, x.Ok w) (hM : ∀ x ∈ M, x.Ok w) :
  Calls Tryz.prog 35 #[.slice a L.length ca, .slice b M.length cb, .func (.func 36) #[] #[]] w fun e w' => e = .returned (.bool true) ∧ Below w.heap.size w w' := by
 have HR := Lib.hid hr; have HS := Lib.hid hs; have HL := Lib.hid hL; have HM := Lib.hid hM; have HE := Lib.hid he; have HZ := Lib.hid hz; have hlm : M.length = L.length := by
  have := congrArg List.length he
  simpa using this.symm
 rw [hlm]; obtain ⟨N, hN⟩ : ∃ N, L.length = N := ⟨_, rfl⟩; have HN := Lib.hid hN; have HNM : Hid (M.length = N) := Lib.hid (hlm.trans hN); rw [hN] at hl ⊢; clear hr hs hN hL hM he hlm hz
 go_enter Tryz.func35, Tryz.ntmps35
 go_wp2
 go_loopw [17] (fun i wr => ∃ k : Nat, k ≤ N ∧ i = .int .i64 k ∧ Below w.heap.size w wr) (fun i _ => N - (intOf i).toNat)
 case atStart => exact ⟨0, by omega, rfl, Below.refl _ _⟩
 case round =>
  obtain ⟨k, hk, rfl, hbl⟩ := hrel
  by_cases h1 : k < N
  ·have h1' : (k : Int) < (N : Int) := by omega
   have hkl : k < L.length := by rw [HN.out]; exact h1
   have hkm : k < M.length := by rw [HNM.out]; exact h1
   obtain ⟨b1, o1, rfl, hbb, c0, c1⟩ := (HR.out.keep hbl).ly k hkl; obtain ⟨b2, o2, rfl, hbb2, d0, d1⟩ := (HS.out.keep hbl).ly k hkm; have hle : L[k].core = M[k].core := by
    have := congrArg (fun z => z[k]?) HE.out; simp [hkl, hkm] at this; exact this
   have hx := (HL.out _ (List.getElem_mem hkl)).keep hbl; have hy := (HM.out _ (List.getElem_mem hkm)).keep hbl; have hzx := HZ.out _ (List.getElem_mem hkl); generalize L[k] = x at *; generalize M[k] = y at *; have HC := Lib.hid (fun W (h : Below wr.heap.size wr W) => sl_same x y hle hzx W (hx.keep h) (hy.keep h)); clear hx hy hzx hle; obtain ⟨NM, fs, fa, fc⟩ := x; obtain ⟨NM2, gs, ga, gc⟩ := y; dsimp only [Ly.val, Ly.fval] at HC c0 c1 d0 d1; generalize fs.length = n1 at *; generalize gs.length = n2 at *; have kA := (Blk.new wr [.string NM, .slice fa n1 fc] 46).alloc (.cells #[.string NM2, .slice ga n2 gc] 46); have kB := Blk.lit (wr.alloc (.cells #[.string NM, .slice fa n1 fc] 46)) (wr.heap.size + 1) [.string NM2, .slice ga n2 gc] 46 (by simp); have hxx := (Below.new wr (.cells #[.string NM, .slice fa n1 fc] 46)).alloc (by simp) (.cells #[.string NM2, .slice ga n2 gc] 46); have hb2 := hbl.trans (hxx.mono hbl.size); have e0 := kA.cell 0 rfl; have f0 := kB.cell 0 rfl; have e1 := kA.cell 1 rfl; have f1 := kB.cell 1 rfl
   go_wp2_with fail
   refine (HC.out _ hxx).mono ?_; rintro e w1 ⟨rfl, hb1⟩; have hb3 := hb2.trans (hb1.mono hb2.size); clear kA kB hxx hb2; go_wp2; exact ⟨⟨k + 1, by omega, by go_num, hb3⟩, by simp [intOf]; omega⟩
  ·have h1' : ¬ (k : Int) < (N : Int) := by omega
   go_wp2; go_ret; exact ⟨rfl, hbl⟩
set_option maxHeartbeats 3200000 in
theorem msame_same (a b : Option Addr) (ca cb : Nat) (L M : List Ly) (he : L.map Ly.core = M.map Ly.core) (hl : L.length ≤ 1000000) (hz : ∀ x ∈ L, Ly.Sz x) (w : World) (hr : Rd w a (lys L)) (hs : Rd w b (lys M)) (hL : ∀ x ∈ L, x.Ok w) (hM : ∀ x ∈ M, x.Ok w) :
  Calls Tryz.prog 14 #[.agg #[.slice a L.length ca], .agg #[.slice b M.length cb]] w fun e w' => e = .returned (.bool true) ∧ Below w.heap.size w w' := by
 have HP := Lib.hid (fun W (h : Below w.heap.size w W) => eqL_same a b ca cb L M he hl hz W (hr.keep h) (hs.keep h) (fun r hr => (hL r hr).keep h) (fun r hr => (hM r hr).keep h)); generalize L.length = n2 at *; generalize M.length = n3 at *; have kA := (Blk.new w [.slice a n2 ca] 24).alloc (.cells #[.slice b n3 cb] 24); have kB := Blk.lit (w.alloc (.cells #[.slice a n2 ca] 24)) (w.heap.size + 1) [.slice b n3 cb] 24 (by simp); have hb0 := (Below.new w (.cells #[.slice a n2 ca] 24)).alloc (by simp) (.cells #[.slice b n3 cb] 24); clear hr hs hL hM he hz; have a0 := kA.cell 0 rfl; have b0 := kB.cell 0 rfl
 go_enter Tryz.func14, Tryz.ntmps14
 go_wp2_with fail
 refine (HP.out _ hb0).mono ?_; rintro e w2 ⟨rfl, hx⟩; have hb2 := hb0.trans (hx.mono hb0.size); clear a0 b0; go_wp2; go_ret; exact ⟨rfl, hb2⟩
end Go.Proofs.YtjggoajfilnfjaaGreat
namespace Go
open Go.RowKit Go.Proto Go.Vint
def exC : FtC := (0, 2, [], [[⟨0, 0⟩, ⟨1, 0⟩]])
def exY : LyC := (⟨#[97]⟩, [exC])
theorem exY_ok : tileE [exY] = 0 := by decide +kernel
theorem exY_few : LyC.Few exY := by
 refine ⟨by decide, fun c hc => ?_⟩; obtain rfl := List.mem_singleton.1 hc; exact ⟨by decide, by decide, by decide, by simp [exC]⟩
theorem by26 : fby ⟨3, 2, 0, []⟩ = [26, 0] := by decide +kernel
theorem pall26 : pall [26, 0] = ([⟨3, 2, 0, []⟩], 0, 0) := by
 have h := pall_ok (l := [⟨3, 2, 0, []⟩]) (fun f hf => by rw [List.mem_singleton.1 hf]; exact FOk.bytes (by omega) (by simp) (by simp)); rw [List.flatMap_singleton, by26] at h; exact h
theorem pall_tl (l : List LyC) (h : ∀ y ∈ l, lyE [] y = 0 ∧ LyC.Few y) : pall (tlB l) = (l.map lyFld, 0, 0) := pall_ok (l := l.map lyFld) (fun f hf => by
 obtain ⟨y, hy, rfl⟩ := List.mem_map.1 hf; exact (lyFld_ok (h y hy).1 (h y hy).2).1)
theorem tl_bd (l : List LyC) (h : ∀ y ∈ l, lyE [] y = 0 ∧ LyC.Few y) (hl : l.length ≤ 36) : (∀ x ∈ tlB l, 0 ≤ x ∧ x ≤ 255) ∧ (tlB l).length ≤ 9100000 := by
 have h1 : ∀ f ∈ l.map lyFld, FOk f ∧ f.bs.length ≤ 250000 := fun f hf => by
  obtain ⟨y, hy, rfl⟩ := List.mem_map.1 hf; exact lyFld_ok (h y hy).1 (h y hy).2
 refine ⟨flds_bd (fun f hf => (h1 f hf).1), ?_⟩; have h2 := flds_len h1; rw [List.length_map] at h2; have : l.length * (250000 + 20) ≤ 36 * (250000 + 20) := Nat.mul_le_mul_right _ hl; unfold tlB; omega
theorem flt_tl (l : List LyC) : flt (l.map lyFld) 3 = (l.map some).map rFld := by
 rw [flt_all (fun f hf => by obtain ⟨y, -, rfl⟩ := List.mem_map.1 hf; rfl), List.map_map]
 rfl
theorem tl_pos : 0 < (tlB [exY]).length := by
 have h : tlB [exY] = fby (lyFld exY) := by simp [tlB]
 rw [h]; unfold fby; rw [List.length_append]; have h2 := vbs_len_ge [8 * (lyFld exY).num + (lyFld exY).kind]; simp only [List.length_singleton, vbs, List.flatMap_singleton] at h2; omega
end Go
namespace Go.Proofs.YtjggoajfilnfjaaGreat
open Go.RowKit Go.Proto Go.Vint
theorem decode_tl (l : List LyC) (h : ∀ y ∈ l, lyE [] y = 0 ∧ LyC.Few y) (hl : l.length ≤ 36) (a : Option Addr) (c : Nat) (hc : (tlB l).length ≤ c) (hcm : c ≤ maxLen) (w : World) (hr : Rd w a ((tlB l).map (Value.int .u8))) :
  Calls Tryz.prog 11 #[.slice a (tlB l).length c] w fun e w' => (∃ (p : Option Addr) (q : Nat) (ys : List Ly), e = .returned (.tuple #[.agg #[.slice p ys.length q], .int .i64 (tileE l)]) ∧ (tileE l = 0 → ys.map Ly.core = l) ∧ Rd w' p (lys ys) ∧ ys.length ≤ q ∧ q ≤ maxLen ∧ (∀ y ∈ ys, LyT w.heap.size w' y) ∧ (p = none → q = 0)) ∧ Below w.heap.size w w' := by
 have hb := tl_bd l h hl; have hd := decode_any (l.map some) (fun y hy => by obtain ⟨z, hz, e⟩ := List.mem_map.1 hy; exact Option.some.inj e ▸ h z hz) (tlB l) (l.map lyFld) (pall_tl l h) (flt_tl l) hb.1 (by omega) (by rw [List.length_map]; omega) a c hc hcm w hr; have he : (if 16 < (l.map some).length then 6 else dGo [] (l.map some)) = tileE l := by
  unfold tileE; rw [List.length_map, dGo_some l [] (fun y hy => (h y hy).1)]
 rw [he] at hd; refine hd.mono ?_; rintro e w' ⟨⟨p, q, ys, h1, h2, h3, h4, h5, h6, h7⟩, hb⟩; exact ⟨⟨p, q, ys, h1, fun hz => (List.map_inj_right (fun x y hxy => Option.some.inj hxy)).1 (h2 hz), h3, h4, h5, h6, h7⟩, hb⟩
set_option maxHeartbeats 6400000 in
theorem known24_any (w : World) : Calls Tryz.prog 10 #[] w fun e w' => e = .returned (.bool true) ∧ Below w.heap.size w w' := by
 have HE0 := Lib.hid (fun W => encode_any none 0 [] (by simp) (by simp) (by simp) W (Rd.nil _ _) (by simp)); have hE0 : tileE ([].map Ly.core) = 0 := rfl; have hT0 : tlB ([].map Ly.core) = [] := rfl; rw [hE0, hT0] at HE0; simp only [if_true, List.length_nil, List.map_nil] at HE0; have HD0 := Lib.hid (fun (W : World) => decode_any [none] (by simp) [26, 0] [⟨3, 2, 0, []⟩] pall26 rfl (by simp) (by simp) (by simp) (some ⟨W.heap.size, 0, none⟩) 2 (by simp) (by decide) _ (Rd.new W [.int .u8 26, .int .u8 0] 5)); have hz : (Tryz.prog.info? 24).map (fun i => i.zero) = some (some (.agg #[.slice none 0 0])) := by kernel_rfl
 have hzp : (Tryz.prog.info? 79).map (fun i => i.zero) = some (some (.agg #[.int .i64 0, .int .i64 0])) := by kernel_rfl
 have hzf : (Tryz.prog.info? 53).map (fun i => i.zero) = some (some (.agg #[.int .i64 0, .int .i64 0, .slice none 0 0, .slice none 0 0])) := by kernel_rfl
 have hzl : (Tryz.prog.info? 46).map (fun i => i.zero) = some (some (.agg #[.string ⟨#[]⟩, .slice none 0 0])) := by kernel_rfl
 go_enter Tryz.func10, Tryz.ntmps10
 go_wp2_with fail
 refine (HE0.out w).mono ?_; rintro e w1 ⟨v1, rfl, ho1, hb1⟩; obtain ⟨a1, c1, rfl, -⟩ := ho1.form; clear ho1 HE0; have hx := Below.new w1 (.cells #[.int .u8 26, .int .u8 0] 5); have hb2 := hb1.trans (hx.mono hb1.size)
 go_wp2_with fail
 refine (HD0.out w1).mono ?_; rintro e w2 ⟨⟨p, q, ys, rfl, -⟩, hx2⟩; have hd7 : (if 16 < [(none : Option LyC)].length then 6 else dGo [] [none]) = (7 : Int) := rfl; rw [hd7]; have hb3 := hb2.trans (hx2.mono hb2.size); clear hx hx2 HD0 hb1 hb2 hd7; have r1 : Rd ((((((w2.alloc (.cells #[.slice p ys.length q] 24)).alloc (.cells #[.int .i64 0, .int .i64 0, .int .i64 1, .int .i64 0] 79)).alloc (.cells #[.slice (some ⟨w2.heap.size + 1, 0, none⟩) 2 2] 80)).alloc (.cells #[.int .i64 0, .int .i64 2, .slice none 0 0, .slice (some ⟨w2.heap.size + 1 + 1, 0, none⟩) 1 1] 53)).alloc (.cells #[.string ⟨#[97]⟩, .slice (some ⟨w2.heap.size + 1 + 1 + 1, 0, none⟩) 1 1] 46)).alloc (.cells #[.slice (some ⟨w2.heap.size + 1 + 1 + 1 + 1, 0, none⟩) 1 1] 24)) (some ⟨w2.heap.size + 1, 0, none⟩) [.int .i64 0, .int .i64 0, .int .i64 1, .int .i64 0] := (((((Rd.lit (w2.alloc (.cells #[.slice p ys.length q] 24)) (w2.heap.size + 1) [.int .i64 0, .int .i64 0, .int .i64 1, .int .i64 0] 79 (by simp)).alloc _).alloc _).alloc _).alloc _); have r2 : Rd ((((((w2.alloc (.cells #[.slice p ys.length q] 24)).alloc (.cells #[.int .i64 0, .int .i64 0, .int .i64 1, .int .i64 0] 79)).alloc (.cells #[.slice (some ⟨w2.heap.size + 1, 0, none⟩) 2 2] 80)).alloc (.cells #[.int .i64 0, .int .i64 2, .slice none 0 0, .slice (some ⟨w2.heap.size + 1 + 1, 0, none⟩) 1 1] 53)).alloc (.cells #[.string ⟨#[97]⟩, .slice (some ⟨w2.heap.size + 1 + 1 + 1, 0, none⟩) 1 1] 46)).alloc (.cells #[.slice (some ⟨w2.heap.size + 1 + 1 + 1 + 1, 0, none⟩) 1 1] 24)) (some ⟨w2.heap.size + 1 + 1, 0, none⟩) [.slice (some ⟨w2.heap.size + 1, 0, none⟩) 2 2] := ((((Rd.lit ((w2.alloc (.cells #[.slice p ys.length q] 24)).alloc (.cells #[.int .i64 0, .int .i64 0, .int .i64 1, .int .i64 0] 79)) (w2.heap.size + 1 + 1) [.slice (some ⟨w2.heap.size + 1, 0, none⟩) 2 2] 80 (by simp)).alloc _).alloc _).alloc _)
 have r3 : Rd ((((((w2.alloc (.cells #[.slice p ys.length q] 24)).alloc (.cells #[.int .i64 0, .int .i64 0, .int .i64 1, .int .i64 0] 79)).alloc (.cells #[.slice (some ⟨w2.heap.size + 1, 0, none⟩) 2 2] 80)).alloc (.cells #[.int .i64 0, .int .i64 2, .slice none 0 0, .slice (some ⟨w2.heap.size + 1 + 1, 0, none⟩) 1 1] 53)).alloc (.cells #[.string ⟨#[97]⟩, .slice (some ⟨w2.heap.size + 1 + 1 + 1, 0, none⟩) 1 1] 46)).alloc (.cells #[.slice (some ⟨w2.heap.size + 1 + 1 + 1 + 1, 0, none⟩) 1 1] 24)) (some ⟨w2.heap.size + 1 + 1 + 1, 0, none⟩) [.int .i64 0, .int .i64 2, .slice none 0 0, .slice (some ⟨w2.heap.size + 1 + 1, 0, none⟩) 1 1] := (((Rd.lit (((w2.alloc (.cells #[.slice p ys.length q] 24)).alloc (.cells #[.int .i64 0, .int .i64 0, .int .i64 1, .int .i64 0] 79)).alloc (.cells #[.slice (some ⟨w2.heap.size + 1, 0, none⟩) 2 2] 80)) (w2.heap.size + 1 + 1 + 1) [.int .i64 0, .int .i64 2, .slice none 0 0, .slice (some ⟨w2.heap.size + 1 + 1, 0, none⟩) 1 1] 53 (by simp)).alloc _).alloc _); have r4 : Rd ((((((w2.alloc (.cells #[.slice p ys.length q] 24)).alloc (.cells #[.int .i64 0, .int .i64 0, .int .i64 1, .int .i64 0] 79)).alloc (.cells #[.slice (some ⟨w2.heap.size + 1, 0, none⟩) 2 2] 80)).alloc (.cells #[.int .i64 0, .int .i64 2, .slice none 0 0, .slice (some ⟨w2.heap.size + 1 + 1, 0, none⟩) 1 1] 53)).alloc (.cells #[.string ⟨#[97]⟩, .slice (some ⟨w2.heap.size + 1 + 1 + 1, 0, none⟩) 1 1] 46)).alloc (.cells #[.slice (some ⟨w2.heap.size + 1 + 1 + 1 + 1, 0, none⟩) 1 1] 24)) (some ⟨w2.heap.size + 1 + 1 + 1 + 1, 0, none⟩) [.string ⟨#[97]⟩, .slice (some ⟨w2.heap.size + 1 + 1 + 1, 0, none⟩) 1 1] := ((Rd.lit ((((w2.alloc (.cells #[.slice p ys.length q] 24)).alloc (.cells #[.int .i64 0, .int .i64 0, .int .i64 1, .int .i64 0] 79)).alloc (.cells #[.slice (some ⟨w2.heap.size + 1, 0, none⟩) 2 2] 80)).alloc (.cells #[.int .i64 0, .int .i64 2, .slice none 0 0, .slice (some ⟨w2.heap.size + 1 + 1, 0, none⟩) 1 1] 53)) (w2.heap.size + 1 + 1 + 1 + 1) [.string ⟨#[97]⟩, .slice (some ⟨w2.heap.size + 1 + 1 + 1, 0, none⟩) 1 1] 46 (by simp)).alloc _)
 have kT := Blk.lit (((((w2.alloc (.cells #[.slice p ys.length q] 24)).alloc (.cells #[.int .i64 0, .int .i64 0, .int .i64 1, .int .i64 0] 79)).alloc (.cells #[.slice (some ⟨w2.heap.size + 1, 0, none⟩) 2 2] 80)).alloc (.cells #[.int .i64 0, .int .i64 2, .slice none 0 0, .slice (some ⟨w2.heap.size + 1 + 1, 0, none⟩) 1 1] 53)).alloc (.cells #[.string ⟨#[97]⟩, .slice (some ⟨w2.heap.size + 1 + 1 + 1, 0, none⟩) 1 1] 46)) (w2.heap.size + 1 + 1 + 1 + 1 + 1) [.slice (some ⟨w2.heap.size + 1 + 1 + 1 + 1, 0, none⟩) 1 1] 24 (by simp); have hx : Below w2.heap.size w2 ((((((w2.alloc (.cells #[.slice p ys.length q] 24)).alloc (.cells #[.int .i64 0, .int .i64 0, .int .i64 1, .int .i64 0] 79)).alloc (.cells #[.slice (some ⟨w2.heap.size + 1, 0, none⟩) 2 2] 80)).alloc (.cells #[.int .i64 0, .int .i64 2, .slice none 0 0, .slice (some ⟨w2.heap.size + 1 + 1, 0, none⟩) 1 1] 53)).alloc (.cells #[.string ⟨#[97]⟩, .slice (some ⟨w2.heap.size + 1 + 1 + 1, 0, none⟩) 1 1] 46)).alloc (.cells #[.slice (some ⟨w2.heap.size + 1 + 1 + 1 + 1, 0, none⟩) 1 1] 24)) := (((((Below.new w2 _).alloc (by simp) _).alloc (by simp; omega) _).alloc (by simp; omega) _).alloc (by simp; omega) _).alloc (by simp; omega) _; obtain ⟨Y0, hY0⟩ : ∃ y : Ly, y = ⟨⟨#[97]⟩, [⟨0, 2, [], none, 0, [⟨[⟨0, 0⟩, ⟨1, 0⟩], some ⟨w2.heap.size + 1, 0, none⟩, 2⟩], some ⟨w2.heap.size + 1 + 1, 0, none⟩, 1⟩], some ⟨w2.heap.size + 1 + 1 + 1, 0, none⟩, 1⟩ := ⟨_, rfl⟩; have hcore : Y0.core = exY := by rw [hY0]; rfl
 have hok : Y0.Ok ((((((w2.alloc (.cells #[.slice p ys.length q] 24)).alloc (.cells #[.int .i64 0, .int .i64 0, .int .i64 1, .int .i64 0] 79)).alloc (.cells #[.slice (some ⟨w2.heap.size + 1, 0, none⟩) 2 2] 80)).alloc (.cells #[.int .i64 0, .int .i64 2, .slice none 0 0, .slice (some ⟨w2.heap.size + 1 + 1, 0, none⟩) 1 1] 53)).alloc (.cells #[.string ⟨#[97]⟩, .slice (some ⟨w2.heap.size + 1 + 1 + 1, 0, none⟩) 1 1] 46)).alloc (.cells #[.slice (some ⟨w2.heap.size + 1 + 1 + 1 + 1, 0, none⟩) 1 1] 24)) := by
  rw [hY0]; refine ⟨⟨r3, Nat.le_refl _, (show (1 : Nat) ≤ maxLen by decide), fun h => by cases h⟩, fun f hf => ?_⟩; rw [List.mem_singleton.1 hf]; refine ⟨⟨Rd.nil _ _, Nat.le_refl _, (show (0 : Nat) ≤ maxLen by decide), fun _ => rfl⟩, ⟨r2, Nat.le_refl _, (show (1 : Nat) ≤ maxLen by decide), fun h => by cases h⟩, fun r hr => ?_⟩; rw [List.mem_singleton.1 hr]; exact ⟨r1, Nat.le_refl _, (show (2 : Nat) ≤ maxLen by decide), fun h => by cases h⟩
 have hsz : Y0.Sz := by
  rw [hY0]; refine ⟨(show (1 : Nat) ≤ maxLen by decide), (show (1 : Nat) ≤ 100000 by decide), fun f hf => ?_⟩; rw [List.mem_singleton.1 hf]; refine ⟨(show (0 : Nat) ≤ 1000 by decide), by simp, (show (1 : Nat) ≤ 1000 by decide), fun r hr => ?_⟩; rw [List.mem_singleton.1 hr]; exact (show (2 : Nat) ≤ 1000 by decide)
 have hly : Rd ((((((w2.alloc (.cells #[.slice p ys.length q] 24)).alloc (.cells #[.int .i64 0, .int .i64 0, .int .i64 1, .int .i64 0] 79)).alloc (.cells #[.slice (some ⟨w2.heap.size + 1, 0, none⟩) 2 2] 80)).alloc (.cells #[.int .i64 0, .int .i64 2, .slice none 0 0, .slice (some ⟨w2.heap.size + 1 + 1, 0, none⟩) 1 1] 53)).alloc (.cells #[.string ⟨#[97]⟩, .slice (some ⟨w2.heap.size + 1 + 1 + 1, 0, none⟩) 1 1] 46)).alloc (.cells #[.slice (some ⟨w2.heap.size + 1 + 1 + 1 + 1, 0, none⟩) 1 1] 24)) (some ⟨w2.heap.size + 1 + 1 + 1 + 1, 0, none⟩) (lys [Y0]) := by rw [hY0]; exact r4
 clear r1 r2 r3 r4 hY0; have hb4 := hb3.trans (hx.mono hb3.size); clear hb3 hx
 go_wp2_with fail
 generalize ((((((w2.alloc (.cells #[.slice p ys.length q] 24)).alloc (.cells #[.int .i64 0, .int .i64 0, .int .i64 1, .int .i64 0] 79)).alloc (.cells #[.slice (some ⟨w2.heap.size + 1, 0, none⟩) 2 2] 80)).alloc (.cells #[.int .i64 0, .int .i64 2, .slice none 0 0, .slice (some ⟨w2.heap.size + 1 + 1, 0, none⟩) 1 1] 53)).alloc (.cells #[.string ⟨#[97]⟩, .slice (some ⟨w2.heap.size + 1 + 1 + 1, 0, none⟩) 1 1] 46)).alloc (.cells #[.slice (some ⟨w2.heap.size + 1 + 1 + 1 + 1, 0, none⟩) 1 1] 24)) = w3 at *; have hmap : [Y0].map Ly.core = [exY] := by rw [List.map_singleton, hcore]
 have HE := encode_any (some ⟨w2.heap.size + 1 + 1 + 1 + 1, 0, none⟩) 1 [Y0] (show (1 : Nat) ≤ 1000 by decide) (fun y hy => by rw [List.mem_singleton.1 hy]; exact hsz) (fun _ y hy => by rw [List.mem_singleton.1 hy, hcore]; exact exY_few) w3 hly (fun y hy => by rw [List.mem_singleton.1 hy]; exact hok); rw [hmap, exY_ok] at HE; simp only [if_true] at HE; have HE2 := Lib.hid HE; clear HE; refine HE2.out.mono ?_; rintro e w4 ⟨v4, rfl, ho4, hx⟩; have hb5 := hb4.trans (hx.mono hb4.size); have kT4 := kT.keep hx; have hok4 := hok.keep hx; have hly4 := hly.keep hx; obtain ⟨pa, pc, rfl, p1, p2, p3, hpr, -⟩ := ho4.form; have HDC := Lib.hid (decode_tl [exY] (fun y hy => by rw [List.mem_singleton.1 hy]; exact ⟨(tileE_zero exY_ok).2.1 exY (by simp), exY_few⟩) (by decide) pa pc p1 p2 w4 hpr); rw [exY_ok] at HDC; have hpos := tl_pos; generalize (tlB [exY]).length = TL at *; clear ho4 hpr hx kT hok hly hb4 HE2
 go_wp2_with fail
 refine HDC.out.mono ?_; rintro e w5 ⟨⟨ra, rc, zs, rfl, hzs, hrz, h4, h5, h6, h7⟩, hx⟩; have hzs := hzs trivial; have hb6 := hb5.trans (hx.mono hb5.size); have kT5 := kT4.keep hx; have hok5 := hok4.keep hx; have hly5 := hly4.keep hx; have hxn := Below.new w5 (.cells #[.slice ra zs.length rc] 24); have kV := Blk.new w5 [.slice ra zs.length rc] 24; have hlz : [Y0].length = 1 := rfl; have HSM := Lib.hid (msame_same (some ⟨w2.heap.size + 1 + 1 + 1 + 1, 0, none⟩) ra 1 rc [Y0] zs (by rw [hmap, hzs]) (show (1 : Nat) ≤ 1000000 by decide) (fun y hy => by rw [List.mem_singleton.1 hy]; exact hsz) _ (hly5.keep hxn) (hrz.keep hxn) (fun y hy => by rw [List.mem_singleton.1 hy]; exact hok5.keep hxn) (fun y hy => (h6 y hy).1.keep hxn)); rw [hlz] at HSM; have hb7 := hb6.trans (hxn.mono hb6.size); have kT6 := kT5.keep hxn; have t0 := kT6.cell 0 rfl; have v0 := kV.cell 0 rfl; have hpos2 : (0 : Int) < (TL : Int) := by omega
 clear hzs hrz h4 h5 h6 h7 hx hok4 hly4 kT4 hok5 hly5 HDC hmap hcore hsz hb5 hb6 hlz
 go_wp2_with fail
 refine HSM.out.mono ?_; rintro e w6 ⟨rfl, hx⟩; have hb8 := hb7.trans (hx.mono hb7.size); go_wp2; go_ret; exact ⟨rfl, hb8⟩
end Go.Proofs.YtjggoajfilnfjaaGreat
namespace Go
open Go.RowKit
def firstT (t : ByteArray) : Nat × Nat := if t.size = 0 then (0, 0) else firstF t 0
theorem byt_get {t : ByteArray} {k : Nat} (h : k < t.size) : (t[k]'h).toNat = byt t k := by
 unfold byt
 congr 1
 show t[k] = t.data[k]!; rw [getElem!_pos t.data k h]; rfl
def partR (t : ByteArray) (r0 : Nat) : Nat → Nat
 | 0 => r0
 | k + 1 => 64 * partR t r0 k + byt t (k + 1) - 128
theorem firstF_eq (t : ByteArray) (i : Nat) : firstF t i =
    (if byt t i < 128 then (byt t i, 1)
     else if 192 ≤ byt t i ∧ byt t i < 224 ∧ cont t (i + 1) = true then (if 128 ≤ (byt t i - 192) * 64 + (byt t (i + 1) - 128) then ((byt t i - 192) * 64 + (byt t (i + 1) - 128), 2) else (0, 0))
     else if 224 ≤ byt t i ∧ byt t i < 240 ∧ cont t (i + 1) = true ∧ cont t (i + 2) = true then
       (if 2048 ≤ (byt t i - 224) * 4096 + (byt t (i + 1) - 128) * 64 + (byt t (i + 2) - 128) ∧ ¬ (55296 ≤ (byt t i - 224) * 4096 + (byt t (i + 1) - 128) * 64 + (byt t (i + 2) - 128) ∧ (byt t i - 224) * 4096 + (byt t (i + 1) - 128) * 64 + (byt t (i + 2) - 128) ≤ 57343)
        then ((byt t i - 224) * 4096 + (byt t (i + 1) - 128) * 64 + (byt t (i + 2) - 128), 3) else (0, 0))
     else if 240 ≤ byt t i ∧ byt t i < 248 ∧ cont t (i + 1) = true ∧ cont t (i + 2) = true ∧ cont t (i + 3) = true then
       (if 65536 ≤ (byt t i - 240) * 262144 + (byt t (i + 1) - 128) * 4096 + (byt t (i + 2) - 128) * 64 + (byt t (i + 3) - 128) ∧ (byt t i - 240) * 262144 + (byt t (i + 1) - 128) * 4096 + (byt t (i + 2) - 128) * 64 + (byt t (i + 3) - 128) ≤ 1114111
        then ((byt t i - 240) * 262144 + (byt t (i + 1) - 128) * 4096 + (byt t (i + 2) - 128) * 64 + (byt t (i + 3) - 128), 4) else (0, 0))
     else (0, 0)) := by
  have h0 := byt_lt t i; unfold firstF badAt; rw [decode_eq]
  repeat' split
  all_goals simp_all
  all_goals omega
theorem first_none {t : ByteArray} (h1 : 128 ≤ byt t 0) (h2 : ¬ (192 ≤ byt t 0 ∧ byt t 0 < 248)) : firstF t 0 = (0, 0) := by
 rw [firstF_eq, if_neg (by omega), if_neg (by omega), if_neg (by omega), if_neg (by omega)]
theorem first_one {t : ByteArray} (h : byt t 0 < 128) : firstF t 0 = (byt t 0, 1) := by
 rw [firstF_eq, if_pos (by omega)]
theorem first_cut2 {t : ByteArray} (h1 : 192 ≤ byt t 0) (h2 : byt t 0 < 224) (h : ¬ (cont t 1 = true)) : firstF t 0 = (0, 0) := by
 rw [firstF_eq, if_neg (by omega)]; rw [if_neg (by intro hh; exact h (by simpa using hh.2.2))]; rw [if_neg (by omega)]; rw [if_neg (by omega)]
theorem first_all2 {t : ByteArray} (h1 : 192 ≤ byt t 0) (h2 : byt t 0 < 224) (h : cont t 1 = true) : firstF t 0 = if 128 ≤ partR t (byt t 0 - 192) 1 ∧ partR t (byt t 0 - 192) 1 ≤ 1114111 ∧ ¬ (55296 ≤ partR t (byt t 0 - 192) 1 ∧ partR t (byt t 0 - 192) 1 ≤ 57343) then (partR t (byt t 0 - 192) 1, 2) else (0, 0) := by
 have c1 := (cont_iff t 1).1 h; have e : partR t (byt t 0 - 192) 1 = (byt t 0 - 192) * 64 + (byt t 1 - 128) := by simp only [partR, Nat.zero_add, Nat.reduceAdd]; omega
 rw [e, firstF_eq, if_neg (by omega)]; rw [if_pos ⟨h1, h2, by simpa using h⟩]; simp only [Nat.zero_add]
 split <;> split <;> first | rfl | omega
theorem first_cut3 {t : ByteArray} (h1 : 224 ≤ byt t 0) (h2 : byt t 0 < 240) (h : ¬ (cont t 1 = true ∧ cont t 2 = true)) : firstF t 0 = (0, 0) := by
 rw [firstF_eq, if_neg (by omega)]; rw [if_neg (by omega)]; rw [if_neg (by intro hh; exact h (by simpa using hh.2.2))]; rw [if_neg (by omega)]
theorem first_all3 {t : ByteArray} (h1 : 224 ≤ byt t 0) (h2 : byt t 0 < 240) (h : cont t 1 = true ∧ cont t 2 = true) : firstF t 0 = if 2048 ≤ partR t (byt t 0 - 224) 2 ∧ partR t (byt t 0 - 224) 2 ≤ 1114111 ∧ ¬ (55296 ≤ partR t (byt t 0 - 224) 2 ∧ partR t (byt t 0 - 224) 2 ≤ 57343) then (partR t (byt t 0 - 224) 2, 3) else (0, 0) := by
 have c1 := (cont_iff t 1).1 h.1; have c2 := (cont_iff t 2).1 h.2; have e : partR t (byt t 0 - 224) 2 = (byt t 0 - 224) * 4096 + (byt t 1 - 128) * 64 + (byt t 2 - 128) := by simp only [partR, Nat.zero_add, Nat.reduceAdd]; omega
 rw [e, firstF_eq, if_neg (by omega)]; rw [if_neg (by omega)]; rw [if_pos ⟨h1, h2, by simpa using h⟩]; simp only [Nat.zero_add]
 split <;> split <;> first | rfl | omega
theorem first_cut4 {t : ByteArray} (h1 : 240 ≤ byt t 0) (h2 : byt t 0 < 248) (h : ¬ (cont t 1 = true ∧ cont t 2 = true ∧ cont t 3 = true)) : firstF t 0 = (0, 0) := by
 rw [firstF_eq, if_neg (by omega)]; rw [if_neg (by omega)]; rw [if_neg (by omega)]; rw [if_neg (by intro hh; exact h (by simpa using hh.2.2))]
theorem first_all4 {t : ByteArray} (h1 : 240 ≤ byt t 0) (h2 : byt t 0 < 248) (h : cont t 1 = true ∧ cont t 2 = true ∧ cont t 3 = true) : firstF t 0 = if 65536 ≤ partR t (byt t 0 - 240) 3 ∧ partR t (byt t 0 - 240) 3 ≤ 1114111 ∧ ¬ (55296 ≤ partR t (byt t 0 - 240) 3 ∧ partR t (byt t 0 - 240) 3 ≤ 57343) then (partR t (byt t 0 - 240) 3, 4) else (0, 0) := by
 have c1 := (cont_iff t 1).1 h.1; have c2 := (cont_iff t 2).1 h.2.1; have c3 := (cont_iff t 3).1 h.2.2; have e : partR t (byt t 0 - 240) 3 = (byt t 0 - 240) * 262144 + (byt t 1 - 128) * 4096 + (byt t 2 - 128) * 64 + (byt t 3 - 128) := by simp only [partR, Nat.zero_add, Nat.reduceAdd]; omega
 rw [e, firstF_eq, if_neg (by omega)]; rw [if_neg (by omega)]; rw [if_neg (by omega)]; rw [if_pos ⟨h1, h2, by simpa using h⟩]; simp only [Nat.zero_add]
 split <;> split <;> first | rfl | omega
end Go
