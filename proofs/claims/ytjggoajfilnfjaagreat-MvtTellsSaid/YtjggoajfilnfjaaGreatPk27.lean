/-
  Tiles that are cut: in memory, and encoded. graticulelaw01.Of. graticulelaw01.Ofs. graticulelaw23.Ofs; plain: how great a geometry's numbers are. The document's attribute: its zero value and size. graticulelaw11.Ofs.
-/
import Derived.Test.YtjggoajfilnfjaaGreatPk26
import Derived.Test.YtjggoajfilnfjaaGreatPk25
import Derived.Test.YtjggoajfilnfjaaGreatPk9
import Derived.Test.YtjggoajfilnfjaaGreatProg
import Derived.BigRegion
import Derived.RegionTactic
import Derived.Maps.AppendAt
import Derived.Test.YtjggoajfilnfjaaGreatPk3
import Derived.Test.YtjggoajfilnfjaaGreatPk16
import Derived.Test.YtjggoajfilnfjaaGreatPk12
import Derived.Test.YtjggoajfilnfjaaGreatPk8
set_option linter.unusedVariables false
set_option linter.unusedSimpArgs false
set_option maxRecDepth 100000
namespace Go.Proofs.YtjggoajfilnfjaaGreat
open Go.RowKit Go.Vint Go.Proto
def lyAs : List TypeId := 46 :: ftAs
def TlX (w0 : World) (base : Nat) (W : World) (p : Option Addr) (q : Nat) (Z : List Ly) : Prop :=
 (Rd W p (lys Z) ∧ Z.length ≤ q ∧ q ≤ maxLen ∧ (p = none → q = 0)) ∧ ByT W base p 46 ∧ ∀ z ∈ Z, LyX w0 base W z
theorem TlX.gr {w0 : World} {base : Nat} {W W' : World} {p : Option Addr} {q : Nat} {Z : List Ly} {r : Option Nat} (h : TlX w0 base W p q Z) (hg : W.grownBy W' r) (ho : Off W base lyAs r) : TlX w0 base W' p q Z := by
 obtain ⟨⟨h1, h1'⟩, h3, h4⟩ := h; exact ⟨⟨h1.grown hg (h3.ne ho (by simp [lyAs])), h1'⟩, h3.gr hg ho (by simp [lyAs]), fun f hf => (h4 f hf).gr hg (fun b cs T fr hc hT hb => ho b cs T fr hc (List.mem_cons_of_mem _ hT) hb)⟩
theorem TlX.below {w0 : World} {base : Nat} {W W' : World} {p : Option Addr} {q : Nat} {Z : List Ly} (h : TlX w0 base W p q Z) (hb : Below W.heap.size W W') : TlX w0 base W' p q Z := h.gr (grownBy_of_below hb none) Off.none
theorem TlX.ok {w0 : World} {base : Nat} {W : World} {p : Option Addr} {q : Nat} {Z : List Ly} (h : TlX w0 base W p q Z) (hb : Below w0.heap.size w0 W) : ∀ z ∈ Z, z.Ok W := fun z hz => (h.2.2 z hz).ok hb
def TlIn (w : World) (a : Option Addr) (N c : Nat) (A : List Ly) : Prop := A.length = N ∧ N ≤ c ∧ c ≤ maxLen ∧ Rd w a (lys A) ∧ ∀ y ∈ A, LyIn w y
theorem mcut_tl (w : World) (a : Option Addr) (N c : Nat) (A : List Ly) (h : TlIn w a N c A) (W : World) (hb : Below w.heap.size w W) :
  Calls Tryz.prog 5 #[.agg #[.slice a N c]] W fun e w' => ∃ (p : Option Addr) (q : Nat) (Z : List Ly), e = .returned (.agg #[.slice p Z.length q]) ∧ Z.length ≤ 18 ∧ (∀ z ∈ Z, LyFw z) ∧ TlX w w.heap.size w' p q Z ∧ Below W.heap.size W w' := by
 obtain ⟨rfl, h1, h2, h3, h4⟩ := h; refine (mcut_any a c A h1 h2 w W hb h3 h4).mono ?_; rintro e w' ⟨p, q, Z, rfl, x1, y1, l1, z1, hb2⟩; exact ⟨p, q, Z, rfl, l1, fun z hz => (z1 z hz).2, ⟨x1, y1.mono hb.size, fun z hz => (z1 z hz).1.mono hb.size⟩, hb2⟩
theorem menc_tl (w : World) (p : Option Addr) (q N : Nat) (Z : List Ly) (hn : Z.length = N) (hl : N ≤ 18) (hz : ∀ z ∈ Z, LyFw z) (W : World) (hb : Below w.heap.size w W) (h : TlX w w.heap.size W p q Z) :
  Calls Tryz.prog 8 #[.agg #[.slice p N q]] W fun e w' => ∃ v, e = .returned (.tuple #[v, .int .i64 (tileE (Z.map Ly.core))]) ∧ w'.ownsRow W.heap.size 5 1 v (if tileE (Z.map Ly.core) = 0 then tlB (Z.map Ly.core) else []).length ((if tileE (Z.map Ly.core) = 0 then tlB (Z.map Ly.core) else []).map (Value.int .u8)) ∧ Below W.heap.size W w' := by
 subst hn; exact encode_any p q Z (by omega) (fun y hy => (hz y hy).sz) (fun _ y hy => (hz y hy).2.1) W h.1.1 (h.ok hb)
theorem few_cores {Z : List Ly} (h : ∀ z ∈ Z, LyFw z) : ∀ y ∈ Z.map Ly.core, LyC.Few y := fun y hy => by
 obtain ⟨z, hz, rfl⟩ := List.mem_map.1 hy; exact (h z hz).2.1
theorem Ly.sz_coreS {x y : Ly} (h : x.core = y.core) (hy : y.Sz) : x.Sz := by
 obtain ⟨xn, xf, xa, xc⟩ := x; obtain ⟨yn, yf, ya, yc⟩ := y; have h1 : xn = yn := congrArg Prod.fst h; have h2 : xf.map Ft.core = yf.map Ft.core := congrArg Prod.snd h; have hl : xf.length = yf.length := by have := congrArg List.length h2; simpa using this
 refine ⟨by rw [show (⟨xn, xf, xa, xc⟩ : Ly).name = yn from h1]; exact hy.1, by rw [show (⟨xn, xf, xa, xc⟩ : Ly).fs = xf from rfl, hl]; exact hy.2.1, fun f hf => ?_⟩; have hm : f.core ∈ yf.map Ft.core := by rw [← h2]; exact List.mem_map_of_mem hf
 obtain ⟨g, hg, e⟩ := List.mem_map.1 hm; obtain ⟨g1, g2, g3, g4⟩ := hy.2.2 g hg; have e1 : f.ls = g.ls := (congrArg (fun c : FtC => c.2.2.1) e).symm; have e2 : f.rings = g.rings := (congrArg (fun c : FtC => c.2.2.2) e).symm; have e3 : f.rs.length = g.rs.length := by have := congrArg List.length e2; simpa [Ft.rings] using this
 refine ⟨by rw [e1]; exact g1, by rw [e1]; exact g2, by rw [e3]; exact g3, fun r hr => ?_⟩; have hr2 : r.l ∈ g.rings := by rw [← e2]; exact List.mem_map_of_mem hr
 obtain ⟨s, hs, e4⟩ := List.mem_map.1 hr2; rw [← e4]; exact g4 s hs
theorem szs_coreS {L M : List Ly} (h : L.map Ly.core = M.map Ly.core) (hM : ∀ y ∈ M, y.Sz) : ∀ y ∈ L, y.Sz := fun y hy => by
 have hm : y.core ∈ M.map Ly.core := by rw [← h]; exact List.mem_map_of_mem hy
 obtain ⟨z, hz, e⟩ := List.mem_map.1 hm; exact Ly.sz_coreS e.symm (hM z hz)
end Go.Proofs.YtjggoajfilnfjaaGreat
namespace Go.Proofs.YtjggoajfilnfjaaGreat
open Go.RowKit
theorem Tryz.infoRP : (Tryz.prog.info? 159).map (fun i => (i.zero, i.size, i.bytes)) = some (some (.agg #[.int .i64 0, .int .i64 0]), 2, 16) := by kernel_rfl
theorem lof_any (p : Pt) (w : World) :
  Calls Tryz.prog 78 #[p.val] w fun e w' => e = .returned p.val ∧ Below w.heap.size w w' := by
 obtain ⟨x, y⟩ := p; dsimp only [Pt.val]
 go_enter Tryz.func78, Tryz.ntmps78
 go_wp2; refine bodyPost_ret (v := .agg #[.int .i64 x, .int .i64 y]) (by simp [results, Tryz.results78, go_sem]) rfl ⟨rfl, ((Below.new _ _).alloc (by simp) _)⟩
end Go.Proofs.YtjggoajfilnfjaaGreat
namespace Go.Proofs.YtjggoajfilnfjaaGreat
open Go.RowKit
set_option maxHeartbeats 800000 in
theorem lofs_any (a : Option Addr) (c : Nat) (l : List Pt) (hl : l.length ≤ 1000000) (w : World) (hr : Rd w a (pts l)) :
  Calls Tryz.prog 50 #[.slice a l.length c] w fun e w' => ∃ v, e = .returned v ∧
   w'.ownsRow w.heap.size 159 2 v l.length (pts l) ∧ Below w.heap.size w w' := by
 go_enter Tryz.func50, Tryz.ntmps50
 go_wp2
 go_loopw [3, 4] (fun o i wr => ∃ k : Nat, k ≤ l.length ∧ i = .int .i64 k ∧ wr.ownsRow w.heap.size 159 2 o k (pts (l.take k)) ∧ Below w.heap.size w wr) (fun _ i _ => l.length - (intOf i).toNat)
 case atStart => exact ⟨0, Nat.zero_le _, rfl, World.ownsRow_nil _ _ _ _, Below.refl _ _⟩
 case round =>
  obtain ⟨k, hk, rfl, hown, hbl⟩ := hrel
  by_cases hlt : k < l.length
  ·obtain ⟨b, off, rfl, hb, c0, c1⟩ := (hr.keep hbl).pt k hlt; have hst : Hid (pts (l.take (k + 1)) = pts (l.take k) ++ (l[k]).cells) := by
    refine Lib.hid ?_; rw [List.take_succ_eq_append_getElem hlt, pts_snoc]
   generalize l[k] = p at *; have hm := lof_any p wr; have HM := Lib.hid hm; obtain ⟨x, y⟩ := p; dsimp only [Pt.val] at c0 c1; clear hm
   go_wp2_with fail
   refine HM.out.mono ?_; rintro e w1 ⟨rfl, hb1⟩; have hbl1 := hbl.trans (hb1.mono hbl.size); have hown1 := hown.below hb1; dsimp only [Pt.val]; clear hown HM hb1 hbl c0 c1; obtain ⟨i0, hi, hz0, hz1, hz2⟩ := info_parts Tryz.infoRP
   go_wp2_with (at_builtin; go_must (refine wpList_append_own_at (w1.alloc (.cells #[.int .i64 x, .int .i64 y] 159)) rfl (.tmp 11) (.tmp 17) 115 rfl w.heap.size 159 i0 (.agg #[.int .i64 0, .int .i64 0]) 2 16 Tryz.underlying115 hi hz0 hz1 hz2 rfl (by decide) u3 k (pts (l.take k)) rfl (hown1.below (Below.new _ _)) ⟨w1.heap.size, 0, none⟩ 1 1 [.int .i64 x, .int .i64 y] rfl rfl (Rd.new w1 [.int .i64 x, .int .i64 y] 159).add (by simp [Value.oneCell']) (by unfold maxLen; omega) (by omega) (by have := hbl1.size; simp; omega) ?_); intro v2 w2 hown2 hg2 _ _; have hbl2 := (hbl1.alloc hbl1.size (.cells #[.int .i64 x, .int .i64 y] 159)).grown hg2 (by have := hbl1.size; simp; omega) (fun j hj => ((hown1.below (Below.new _ (.cells #[.int .i64 x, .int .i64 y] 159))).lt j hj).1); clear hown1 hbl1 hg2)
   go_roundw
   case rel =>
    refine ⟨k + 1, by omega, by go_num, ?_, hbl2⟩; rw [hst.out]; exact hown2
   case measure => simp [intOf]; omega
  ·obtain rfl : k = l.length := by omega
   rw [List.take_length] at hown; go_wp2; go_ret; exact ⟨_, rfl, hown, hbl⟩

end Go.Proofs.YtjggoajfilnfjaaGreat
namespace Go.Proofs.YtjggoajfilnfjaaGreat
open Go.RowKit
theorem Tryz.infoRPts : (Tryz.prog.info? 115).map (fun i => (i.zero, i.size, i.bytes)) = some (some (.slice none 0 0), 1, 24) := by kernel_rfl

set_option maxHeartbeats 800000 in
theorem ofs23_any (a : Option Addr) (c : Nat) (xs : List PC) (hl : xs.length ≤ 1000000) (hle : ∀ x ∈ xs, x.l.length ≤ 1000) (w : World) (hr : Rd w a (xs.map PC.val)) (hok : ∀ x ∈ xs, x.Ok w) :
  Calls Tryz.prog 23 #[.slice a xs.length c] w fun e w' => ∃ v vals, e = .returned v ∧
   w'.ownsRow w.heap.size 115 1 v xs.length vals ∧ InP 159 w.heap.size w' vals (xs.map (·.l)) ∧ Below w.heap.size w w' := by
 go_enter Tryz.func23, Tryz.ntmps23
 go_wp2
 go_loopw [3, 4] (fun o i wr => ∃ (k : Nat) (vals : List Value), k ≤ xs.length ∧ i = .int .i64 k ∧ wr.ownsRow w.heap.size 115 1 o k vals ∧ InP 159 w.heap.size wr vals ((xs.take k).map (·.l)) ∧ Below w.heap.size w wr) (fun _ i _ => xs.length - (intOf i).toNat)
 case atStart => exact ⟨0, [], Nat.zero_le _, rfl, World.ownsRow_nil _ _ _ _, ⟨rfl, by simp⟩, Below.refl _ _⟩
 case round =>
  obtain ⟨k, vals, hk, rfl, hown, hin, hbl⟩ := hrel; have hs := hbl.size
  by_cases hlt : k < xs.length
  ·obtain ⟨x, hxk⟩ : ∃ x, xs[k] = x := ⟨_, rfl⟩; have hxm : x ∈ xs := by rw [← hxk]; exact List.getElem_mem _
   have hxo : x.Ok w := hok x hxm; have hxl := hle x hxm; obtain ⟨b1, off1, rfl, c0, _⟩ := (hr.keep hbl).at (i := k) (v := x.val) (by simp [hlt, hxk]); have hst : Hid ((xs.take (k + 1)).map (·.l) = (xs.take k).map (·.l) ++ [x.l]) := by
    refine Lib.hid ?_; rw [List.take_succ_eq_append_getElem hlt, List.map_append, hxk]; rfl
   have hof := lofs_any x.p x.c x.l (by omega) wr (hxo.keep hbl).1; have HOF := Lib.hid hof; have hob := hown.lt; clear hof hxk hxm; obtain ⟨l, p, cx⟩ := x; dsimp only [PC.val] at *
   go_wp2_with fail
   refine HOF.out.mono ?_; rintro e w1 ⟨v1, rfl, hv1, hb1⟩; have hown1 := hown.below hb1; have hin1 := (hin.keep hb1).snoc (hv1.mono hs); have hbl1 := hbl.trans (hb1.mono hs); obtain ⟨va, vc, rfl, -, -, -, -, -⟩ := hv1.form; clear HOF hown hin hbl hb1 hv1 c0; obtain ⟨ti, hti, hz0, hz1, hz2⟩ := info_parts Tryz.infoRPts
   go_wp2_with (at_builtin; go_must (refine wpList_append_own_at (w1.alloc (.cells #[.slice va l.length vc] 115)) rfl (.tmp 11) (.tmp 17) 61 rfl w.heap.size 115 ti (.slice none 0 0) 1 24 Tryz.underlying61 hti hz0 hz1 hz2 rfl (by decide) u3 k vals rfl (hown1.below (Below.new _ _)) ⟨w1.heap.size, 0, none⟩ 1 1 [.slice va l.length vc] rfl rfl (Rd.new w1 [.slice va l.length vc] 115).add (by simp [Value.oneCell']) (by unfold maxLen; omega) (by omega) (by have := hbl1.size; simp; omega) ?_); intro v2 w2 hown2 hg3 _ _)
   have hin2 := (hin1.keep (Below.new _ (.cells #[.slice va l.length vc] 115))).grown (hown1.below (Below.new _ (.cells #[.slice va l.length vc] 115))) (by decide) hg3; go_roundw
   case rel => exact ⟨k + 1, _, by omega, by go_num, hown2, by rw [hst.out]; exact hin2, (hbl1.alloc hbl1.size _).grown hg3 (by have := hbl1.size; simp; omega) (fun g e => (hob g e).1)⟩
   case measure => simp [intOf]; omega
  ·obtain rfl : k = xs.length := by omega
   rw [List.take_length] at hin; go_wp2; go_ret; exact ⟨_, vals, rfl, hown, hin, hbl⟩
end Go.Proofs.YtjggoajfilnfjaaGreat
namespace Go.Proofs.YtjggoajfilnfjaaGreat
theorem Tryz.infoRA : (Tryz.prog.info? 112).map (fun i => (i.zero, i.size, i.bytes)) = some (some (.agg #[.string ⟨#[]⟩, .int .i64 0, .string ⟨#[]⟩, .int .i64 0]), 4, 48) := by kernel_rfl
end Go.Proofs.YtjggoajfilnfjaaGreat
namespace Go.Proofs.YtjggoajfilnfjaaGreat
open Go.RowKit
set_option maxHeartbeats 3200000 in
theorem ofs11_any (a : Option Addr) (c : Nat) (l : List At) (hn : l.length ≤ 100000) (w : World) (hr : Rd w a (ats l)) :
  Calls Tryz.prog 22 #[.slice a l.length c] w fun e w' => ∃ v, e = .returned v ∧ w'.ownsRow w.heap.size 112 4 v l.length (ats l) ∧ Below w.heap.size w w' := by
 have HR := Lib.hid hr; obtain ⟨N, hN⟩ : ∃ N, l.length = N := ⟨_, rfl⟩; have HN := Lib.hid hN; have HTA : Hid (ats (l.take N) = ats l) := Lib.hid (by rw [← hN, List.take_length]); rw [hN] at hn ⊢; clear hr hN
 go_enter Tryz.func22, Tryz.ntmps22
 go_wp2
 go_loopw [3, 4] (fun o i wr => ∃ k : Nat, k ≤ N ∧ i = .int .i64 k ∧ wr.ownsRow w.heap.size 112 4 o k (ats (l.take k)) ∧ Below w.heap.size w wr) (fun _ i _ => N - (intOf i).toNat)
 case atStart => exact ⟨0, by omega, rfl, World.ownsRow_nil _ _ _ _, Below.refl _ _⟩
 case round =>
  obtain ⟨i, hi, rfl, ho, hbl⟩ := hrel
  by_cases h1 : i < N
  ·have h1' : (i : Int) < (N : Int) := by omega
   have hil : i < l.length := by rw [HN.out]; exact h1
   obtain ⟨b1, o1, rfl, hbb, c0, c1, c2, c3⟩ := HR.out.atr i hil; have HSN : Hid (ats (l.take (i + 1)) = ats (l.take i) ++ [.string l[i].key, .int .i64 l[i].kind, .string l[i].text, .int .i64 l[i].n]) := Lib.hid (by
    rw [List.take_succ_eq_append_getElem hil, ats_snoc]; rfl)
   generalize l[i].key = K1 at *; generalize l[i].kind = kd at *; generalize l[i].text = T1 at *; generalize l[i].n = nn at *; go_wp2; refine wp_region_lit_txt [0, 1, 2, 3, 4, 5, 6, 7, 8, 9, 10, 11, 14] (fun W => Below w.heap.size w W) (by kernel_rfl) (by kernel_rfl) (by kernel_rfl) (hbl.drew) ?_
   iterate 5 ((refine txt_light ?_ rfl rfl ?_ ?_; rotate_left; · (intro w' hS; (try dsimp only at hS); go_simp; with_reducible rfl)); try simp only [Act.put, List.getElem_toArray, List.getElem_cons_succ, List.getElem_cons_zero, List.setIfInBounds_toArray, List.set_cons_zero, List.set_cons_succ])
   refine txt_light (.string K1) rfl rfl ?_ ?_
   ·intro w' hS; have e0 := (hS.cell (p := ⟨b1, o1 + i * 4, none⟩) hbb).trans c0; clear hS; go_simp
   try simp only [Act.put, List.getElem_toArray, List.getElem_cons_succ, List.getElem_cons_zero, List.setIfInBounds_toArray, List.set_cons_zero, List.set_cons_succ]
   iterate 4 ((refine txt_light ?_ rfl rfl ?_ ?_; rotate_left; · (intro w' hS; (try dsimp only at hS); go_simp; with_reducible rfl)); try simp only [Act.put, List.getElem_toArray, List.getElem_cons_succ, List.getElem_cons_zero, List.setIfInBounds_toArray, List.set_cons_zero, List.set_cons_succ])
   refine txt_light (.agg #[.int .i64 kd, .string T1, .int .i64 nn]) rfl rfl ?_ ?_
   ·intro w' hS; have e1 := (hS.cell (p := ⟨b1, o1 + i * 4 + 1, none⟩) hbb).trans c1; have e2 := (hS.cell (p := ⟨b1, o1 + i * 4 + 2, none⟩) hbb).trans c2; have e3 := (hS.cell (p := ⟨b1, o1 + i * 4 + 3, none⟩) hbb).trans c3; clear hS; go_simp
   try simp only [Act.put, List.getElem_toArray, List.getElem_cons_succ, List.getElem_cons_zero, List.setIfInBounds_toArray, List.set_cons_zero, List.set_cons_succ]
   refine txt_light (.agg #[.string K1, .int .i64 kd, .string T1, .int .i64 nn]) rfl rfl ?_ ?_
   ·intro w' hS; clear hS; go_simp
   try simp only [Act.put, List.getElem_toArray, List.getElem_cons_succ, List.getElem_cons_zero, List.setIfInBounds_toArray, List.set_cons_zero, List.set_cons_succ]
   have ho0 : wr.drew.ownsRow w.heap.size 112 4 u3 i (ats (l.take i)) := ho; have hbd : Below w.heap.size w wr.drew := hbl.drew; generalize wr.drew = W1 at *; refine txt_heavy rfl rfl (fun K hK => ?_); go_step; have ho2 := ho0.below (Below.new W1 (.cells #[.string K1, .int .i64 kd, .string T1, .int .i64 nn] 112)); have hb2 := hbd.alloc hbd.size (.cells #[.string K1, .int .i64 kd, .string T1, .int .i64 nn] 112); have rd := Rd.lit W1 W1.heap.size [.string K1, .int .i64 kd, .string T1, .int .i64 nn] 112 rfl; refine hK.out _ _ hb2 ?_; clear hK K ho0 hbd; generalize W1.alloc (.cells #[.string K1, .int .i64 kd, .string T1, .int .i64 nn] 112) = W2 at *
   try simp only [Act.put, List.getElem_toArray, List.getElem_cons_succ, List.getElem_cons_zero, List.setIfInBounds_toArray, List.set_cons_zero, List.set_cons_succ]
   refine txt_app w hb2 rfl rfl (.tmp 11) (.tmp 23) 60 rfl 112 (.agg #[.string ⟨#[]⟩, .int .i64 0, .string ⟨#[]⟩, .int .i64 0]) 4 48 Tryz.underlying60 Tryz.infoRA rfl (by decide) u3 i (ats (l.take i)) rfl ho2 (some ⟨W1.heap.size, 0, none⟩) 1 1 [.string K1, .int .i64 kd, .string T1, .int .i64 nn] rfl (fun h => by cases h) rd rfl (by simp [Value.oneCell']) (by omega) (by decide) ?_; intro v3 W3 ho3 hg3 hb3; refine ⟨hb3, ?_⟩
   try simp only [Act.put, List.getElem_toArray, List.getElem_cons_succ, List.getElem_cons_zero, List.setIfInBounds_toArray, List.set_cons_zero, List.set_cons_succ]
   (refine txt_light ?_ rfl rfl ?_ ?_; rotate_left; · (intro w' hS; (try dsimp only at hS); go_simp; with_reducible rfl)); try simp only [Act.put, List.getElem_toArray, List.getElem_cons_succ, List.getElem_cons_zero, List.setIfInBounds_toArray, List.set_cons_zero, List.set_cons_succ]
   refine txt_nil ?_; clear c0 c1 c2 c3 ho2 hb2 hg3 rd; have HO9 : Hid (W3.ownsRow w.heap.size 112 4 v3 (i + 1) (ats (l.take (i + 1)))) := Lib.hid (by rw [HSN.out]; exact ho3); clear ho3; go_wp2; exact ⟨⟨i + 1, by omega, by go_num, HO9.out, hb3⟩, by simp [intOf]; omega⟩
  ·obtain rfl : i = N := by omega
   rw [HTA.out] at ho; go_wp2; go_ret; exact ⟨u3, rfl, ho, hbl⟩
end Go.Proofs.YtjggoajfilnfjaaGreat
