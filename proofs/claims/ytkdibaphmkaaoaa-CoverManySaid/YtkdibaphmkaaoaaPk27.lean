/-
  Opening a law's arguments: faces. What all laws of chapter 13 import first (so that their claims have the same files). graticulelaw12.Cut. A map of strings to bools that the call makes: a set of strings. Runes of a text: the model's decoding and the document's first rune, in plain terms. text.bad; plain: where no rune begins.
-/
import Derived.Test.YtkdibaphmkaaoaaPk1
import Derived.Test.YtkdibaphmkaaoaaPk6
import Derived.Test.YtkdibaphmkaaoaaPk26
import Derived.Test.YtkdibaphmkaaoaaPk25
import Derived.Test.YtkdibaphmkaaoaaPk7
import Derived.Maps.Own
import Derived.Maps.OwnOps
import Derived.Maps.Views
import Derived.Laws.RangeAny
import Derived.Test.YtkdibaphmkaaoaaShelf
/- Opening a law's arguments: faces. -/
set_option linter.unusedVariables false
set_option linter.unusedSimpArgs false
set_option maxRecDepth 100000
namespace Go
open Go.RowKit
/-- An attribute that came in. -/
def AtIn (a : At) : Prop := AtOk a ∧ (Lit.int .i64 a.kind).wf = true ∧ (Lit.int .i64 a.n).wf = true
/-- A face that came in, its attributes' numbers too. -/
def FcIn (W : World) (f : Fc) : Prop := f.Ok W ∧ (∀ x ∈ f.ls, AtIn x) ∧ ∀ r ∈ f.rs, ∀ p ∈ r.l, (Lit.int .i64 p.x).wf = true ∧ (Lit.int .i64 p.y).wf = true
theorem FcIn.in {W : World} {f : Fc} (h : FcIn W f) : f.In W := ⟨h.1, fun x hx => (h.2.1 x hx).1⟩
end Go
namespace Go.Proofs.Ytkdibaphmkaaoaa
open Go.RowKit Go.ChangeShapes Go.WideShapes Go.ChangeAt
theorem one_attr {H : Type} {enc : TypeId × Value → H} {W : World} {base : Nat} {spare : Nat → Bool} {held : Bool} (n : Nat) (cs : List Value) (z : DataW H × List MemPlace) (hcl : cs.length = 4)
    (ht : DataW.trod enc Try.prog W base spare held n 93 cs = some z) : ∃ y : At, cs = y.cells ∧ AtIn y := by
  have c3 : Try.prog.cellsOf 3 = 1 := by kernel_rfl
  have c1 : Try.prog.cellsOf 9 = 1 := by kernel_rfl
  have cv : Try.prog.cellsOf 91 = 3 := by kernel_rfl
  obtain ⟨ys, k, hk, hxy, _, hxl, hf⟩ := DataW.trod_struct Try.underlying93 ht
  match ys, hxl, cs, hcl with
  | [y0, y1], _, [v0, v1, v2, v3], _ =>
    have g0 := hf 0 _ rfl
    have g1 := hf 1 _ rfl
    simp [c1, cv] at g0 g1
    obtain ⟨s0, e0, -, w0⟩ := DataW.trod_string Try.underlying9 g0
    simp at e0
    subst e0
    obtain ⟨zs, k2, hk2, hxy2, _, hzl, hf2⟩ := DataW.trod_struct Try.underlying91 g1
    match zs, hzl with
    | [u0, u1, u2], _ =>
      have g2 := hf2 0 _ rfl
      have g3 := hf2 1 _ rfl
      have g4 := hf2 2 _ rfl
      simp [c1, c3] at g2 g3 g4
      obtain ⟨n1, e1, -, w1⟩ := DataW.trod_int Try.underlying3 g2
      obtain ⟨s2, e2, -, w2⟩ := DataW.trod_string Try.underlying9 g3
      obtain ⟨n3, e3, -, w3⟩ := DataW.trod_int Try.underlying3 g4
      simp at e1 e2 e3
      subst e1 e2 e3
      exact ⟨⟨s0, n1, s2, n3⟩, rfl, ⟨w0, w2⟩, w1, w3⟩

theorem one_ringW {H : Type} {enc : TypeId × Value → H} {W : World} {base : Nat} {spare : Nat → Bool} {held : Bool} (hsp : ∀ b, spare b = true) (n : Nat) (cs' : List Value) (z : DataW H × List MemPlace) (hl : cs'.length = 1)
    (h : DataW.trod enc Try.prog W base spare held n 40 cs' = some z) : ∃ y : PC, cs' = y.cells ∧ y.Ok W ∧ ∀ p ∈ y.l, PtIn p := by
  match cs', hl with
  | [v], _ =>
    obtain ⟨a, l, c, rfl⟩ : ∃ a l c, v = .slice a l c := by
      rcases DataW.trod_slice Try.underlying40 h with ⟨hc, _⟩ | ⟨a, l, c, _, _, _, _, hc, _⟩
      · simp at hc; exact ⟨_, _, _, hc⟩
      · simp at hc; exact ⟨_, _, _, hc⟩
    obtain ⟨xs, rfl, h1, h2, h3, h4, h5⟩ := open_pts hsp h
    exact ⟨⟨xs, a, c⟩, rfl, ⟨h4, h1, h2, h3⟩, h5⟩
theorem one_slice {cs : List Value} {H : Type} {enc : TypeId × Value → H} {W : World} {base : Nat} {spare : Nat → Bool} {held : Bool} {n : Nat} {v : Value} {z : DataW H × List MemPlace} {t e : TypeId} (ht : Try.prog.underlying t = some (.slice e))
    (h : DataW.trod enc Try.prog W base spare held n t [v] = some z) : ∃ a l c, v = .slice a l c := by
  rcases DataW.trod_slice ht h with ⟨hc, _⟩ | ⟨a, l, c, _, _, _, _, hc, _⟩
  · simp at hc; exact ⟨_, _, _, hc⟩
  · simp at hc; exact ⟨_, _, _, hc⟩

theorem one_face {H : Type} {enc : TypeId × Value → H} {W : World} {base : Nat} {spare : Nat → Bool} {held : Bool} (hsp : ∀ b, spare b = true) (n : Nat) (cs' : List Value) (z : DataW H × List MemPlace) (hl : cs'.length = 2)
    (h : DataW.trod enc Try.prog W base spare held n 39 cs' = some z) : ∃ y : Fc, cs' = y.cells ∧ FcIn W y := by
  have c1 : Try.prog.cellsOf 36 = 1 := by kernel_rfl
  have c2 : Try.prog.cellsOf 37 = 1 := by kernel_rfl
  obtain ⟨ys, k, hk, hxy, _, hxl, hf⟩ := DataW.trod_struct Try.underlying39 h
  match ys, hxl, cs', hl with
  | [y0, y1], _, [v0, v1], _ =>
    have g0 := hf 0 _ rfl
    have g1 := hf 1 _ rfl
    simp [c1, c2] at g0 g1
    obtain ⟨a, l, c, rfl⟩ := one_slice (cs := []) Try.underlying36 g0
    obtain ⟨b, m, d, rfl⟩ := one_slice (cs := []) Try.underlying37 g1
    obtain ⟨xs, rfl, h1, h2, h3, h4, h5⟩ := open_flat 1 (by decide) PC.cells (fun y => y.Ok W ∧ ∀ p ∈ y.l, PtIn p) (fun _ => rfl) Try.underlying36 (by kernel_rfl) (fun n cs' z hl hz => one_ringW hsp n cs' z hl hz) g0
    obtain ⟨ys, rfl, k1, k2, k3, k4, k5⟩ := open_flat 4 (by decide) At.cells AtIn (fun _ => rfl) Try.underlying37 (by kernel_rfl) (fun n cs' z hl hz => one_attr n cs' z hl hz) g1
    exact ⟨⟨xs, a, c, ys, b, d⟩, rfl, ⟨⟨h4, h1, h2, h3⟩, fun r hr => (h5 r hr).1, ⟨k4, k1, k2, k3⟩⟩, k5, fun r hr => (h5 r hr).2⟩

theorem open_faces {H : Type} {enc : TypeId × Value → H} {W : World} {base : Nat} {spare : Nat → Bool} {fuel : Nat} {a : Option Addr} {len cap : Nat} {x : DataW H × List MemPlace} {held : Bool} (hsp : ∀ b, spare b = true)
    (h : DataW.trod enc Try.prog W base spare held fuel 22 [.slice a len cap] = some x) :
    ∃ xs : List Fc, len = xs.length ∧ len ≤ cap ∧ cap ≤ maxLen ∧ (a = none → cap = 0) ∧ Rd W a (fcs xs) ∧ ∀ y ∈ xs, FcIn W y :=
  open_flat 2 (by decide) Fc.cells (FcIn W) (fun _ => rfl) Try.underlying22 (by kernel_rfl) (fun n cs' z hl hz => one_face hsp n cs' z hl hz) h
/-- One face as an argument. -/
theorem open_face {H : Type} {enc : TypeId × Value → H} {W : World} {base b0 : Nat} {spare : Nat → Bool} {held : Bool} {r : Reach} {v : Value} {d : DataW H} {ps : List MemPlace} (hv : Value.okWide Try.prog W r b0 39 v) (hsp : ∀ b, spare b = true)
    (hd : DataW.Trod enc Try.prog W base spare held 39 v d ps) : ∃ f : Fc, v = f.val ∧ FcIn W f := by
  obtain ⟨cs, rfl, hsz⟩ := okWide_struct Try.underlying39 hv
  obtain ⟨n, hd⟩ := hd
  have hc : (Value.agg cs).cells.toList = cs.toList := by simp [Value.cells]
  rw [hc] at hd
  have c2 : Try.prog.cellsOf 39 = 2 := by kernel_rfl
  rw [c2] at hsz
  obtain ⟨l⟩ := cs
  obtain ⟨f, e, hf⟩ := one_face hsp n l _ hsz hd
  exact ⟨f, by subst e; rfl, hf⟩
end Go.Proofs.Ytkdibaphmkaaoaa
/- What all laws of chapter 13 import first (so that their claims have the same files). -/

/- graticulelaw12.Cut. -/
set_option linter.unusedVariables false
set_option linter.unusedSimpArgs false
set_option maxRecDepth 100000
namespace Go
open Go.RowKit
/-- Attributes that are left. -/
def AtsOk (l : List At) : Prop := l.length ≤ 10 ∧ ∀ x ∈ l, x.key.size ≤ 100 ∧ x.text.size ≤ 100
theorem cutS_le (s : ByteArray) : (cutS s).size ≤ 100 := by unfold cutS; simp; omega
theorem atsOk_cut (l : List At) : AtsOk ((l.take 10).map cutA) := by
  refine ⟨by simp; omega, fun x hx => ?_⟩
  obtain ⟨y, -, rfl⟩ := List.mem_map.1 hx
  exact ⟨cutS_le _, cutS_le _⟩
/-- How great faces are that Cut leaves. -/
def CutOk (fs : List Fc) : Prop := fs.length ≤ 40 ∧ cntR (fs.map Fc.rings) ≤ 70 ∧ cntP (fs.map Fc.rings) ≤ 600 ∧ ∀ f ∈ fs, AtsOk f.ls
end Go
namespace Go.Proofs.Ytkdibaphmkaaoaa
open Go.RowKit

set_option maxHeartbeats 12800000 in
theorem cut12_any (a : Option Addr) (c : Nat) (l : List Fc) (hlc : l.length ≤ c) (hcm : c ≤ maxLen) (w : World) (hr : Rd w a (fcs l)) (hok : ∀ f ∈ l, f.In w) :
    Calls Try.prog 16 #[.slice a l.length c] w fun e w' => ∃ (fs : List Fc) (v : Value), e = .returned v ∧ w'.ownsRow w.heap.size 39 2 v fs.length (fcs fs) ∧ (∀ f ∈ fs, FcT w' f) ∧ CutOk fs ∧ Below w.heap.size w w' := by
  have HCUT := Lib.hid (fun (f : Fc) (hf : f ∈ l) (W : World) (h : Rd W f.aa (ats f.ls)) => cut11_any f.aa f.ac f.ls (hok f hf).1.2.2.2.1 (hok f hf).1.2.2.2.2.1 (hok f hf).2 W h)
  have HOK := Lib.hid hok
  have HR := Lib.hid hr
  unfold maxLen at hcm
  obtain ⟨N, hN⟩ : ∃ N, l.length = N := ⟨_, rfl⟩
  have HN := Lib.hid hN
  rw [hN] at hlc ⊢
  clear hr hN hok
  go_enter Try.func16, Try.ntmps16
  go_wp2
  go_loopw [3, 4, 5, 6] (fun o ri p i wr => ∃ (k : Nat) (fs : List Fc) (rn pn : Nat), k ≤ N ∧ k ≤ 40 ∧ i = .int .i64 k ∧ ri = .int .i64 rn ∧ p = .int .i64 pn ∧ fs.length = k ∧ Hid ((cntR (fs.map Fc.rings) = rn ∧ cntP (fs.map Fc.rings) = pn) ∧ ∀ f ∈ fs, AtsOk f.ls) ∧ rn ≤ 70 ∧ pn ≤ 600 ∧ wr.ownsRow w.heap.size 39 2 o k (fcs fs) ∧ Hid (∀ f ∈ fs, FcT wr f) ∧ Below w.heap.size w wr) (fun _ _ _ i _ => 40 - (intOf i).toNat)
  case atStart => exact ⟨0, [], 0, 0, by omega, by omega, rfl, rfl, rfl, rfl, Lib.hid ⟨⟨rfl, rfl⟩, by simp⟩, by omega, by omega, World.ownsRow_nil _ _ _ _, Lib.hid (by simp), Below.refl _ _⟩
  case round =>
    obtain ⟨i, fs, rn, pn, hi, hi10, rfl, rfl, rfl, hfl, HST, hrm, hpm, ho, HFT, hbl⟩ := hrel
    by_cases hlt : i < N ∧ i < 40
    · obtain ⟨h1, h2⟩ := hlt
      have h1' : (i : Int) < (N : Int) := by omega
      have h2' : (i : Int) < 40 := by omega
      have hil : i < l.length := by rw [HN.out]; exact h1
      obtain ⟨b1, o1, rfl, hbb, c0, c1⟩ := (HR.out.keep hbl).fc i hil
      have HIN := Lib.hid (HOK.out l[i] (List.getElem_mem hil))
      have HCT := Lib.hid (fun (W : World) (h : Rd W (l[i]'hil).aa (ats (l[i]'hil).ls)) => HCUT.out (l[i]'hil) (List.getElem_mem hil) W h)
      generalize l[i] = f at *
      obtain ⟨rs, ra, rc, ls, aa, ac⟩ := f
      dsimp only [Fc.rval, Fc.aval] at c0 c1 HCT
      go_wp2_with fail
      refine (HCT.out _ (HIN.out.1.2.2.1.keep hbl)).mono ?_
      rintro e wB ⟨va, rfl, hoa, hxB⟩
      try dsimp only at hoa
      have hcu : ∀ x ∈ (ls.take 10).map cutA, AtOk x := fun x hx => by
        obtain ⟨y, -, rfl⟩ := List.mem_map.1 hx
        exact cutA_ok y
      have HATS : Hid (AtsOk ((ls.take 10).map cutA)) := Lib.hid (atsOk_cut ls)
      obtain ⟨AL, hAL⟩ : ∃ A, (ls.take 10).map cutA = A := ⟨_, rfl⟩
      rw [hAL] at HATS
      rw [hAL] at hoa
      obtain ⟨AN, hAN⟩ : ∃ A, AL.length = A := ⟨_, rfl⟩
      have HAN := Lib.hid hAN
      rw [hAN] at hoa
      clear hAL hAN hcu HCT
      obtain ⟨aa2, ac2, rfl, hac1, hac2, hac3, har, -⟩ := hoa.form
      have hat := TypB.of_owns hoa
      have hsr := hbl.size
      have hsB := hxB.size
      have hoB := ho.below hxB
      have HFB : Hid (∀ f ∈ fs, FcT wB f) := Lib.hid (fun f hf => (HFT.out f hf).keep hxB)
      have hblB := hbl.trans (hxB.mono hsr)
      have kF : (wB.alloc (.cells #[.slice none 0 0, .slice aa2 AN ac2] 39)).heap[wB.heap.size]? = some (.cells #[.slice none 0 0, .slice aa2 AN ac2] 39 (0, 0)) := heap_alloc_new wB _
      have hbC := Below.new wB (.cells #[.slice none 0 0, .slice aa2 AN ac2] 39)
      have cB0 := (hxB.cell (p := ⟨b1, o1 + i * 2, none⟩) hbb).trans c0
      have hbB : b1 < wB.heap.size := by omega
      have hsB' : w.heap.size ≤ wB.heap.size := hblB.size
      clear ho HFT
      obtain ⟨RN, hRN⟩ : ∃ R, rs.length = R := ⟨_, rfl⟩
      have HRN := Lib.hid hRN
      have hrc := HIN.out.1.1.2
      dsimp only at hrc
      rw [hRN] at cB0 hrc
      clear hRN
      unfold maxLen at hrc
      go_wp2
      go_loopw [4, 5, 8] (fun ri p k W => ∃ (j : Nat) (q : List PC) (rm pm : Nat) (v : Value), j ≤ RN ∧ Hid (rm = rn + j) ∧ k = .int .i64 j ∧ ri = .int .i64 rm ∧ p = .int .i64 pm ∧ q.length = j ∧ Hid (pm = pn + lenS (q.map PC.l)) ∧ rm ≤ 70 ∧ pm ≤ 600 ∧ Hid (W.heap[wB.heap.size]? = some (.cells #[v, .slice aa2 AN ac2] 39 (0, 0))) ∧ W.ownsRow wB.heap.size 40 1 v j (rcs q) ∧ Hid (∀ r ∈ q, PcT W r) ∧ Below wB.heap.size wB W) (fun _ _ k _ => RN - (intOf k).toNat)
      case atStart => exact ⟨0, [], rn, pn, .slice none 0 0, by omega, Lib.hid rfl, rfl, rfl, rfl, rfl, Lib.hid rfl, hrm, hpm, Lib.hid kF, World.ownsRow_nil _ _ _ _, Lib.hid (by simp), hbC⟩
      case round =>
        obtain ⟨j, q, rm, pm, v, hj, hrj, rfl, rfl, rfl, hql, HSR, hrm2, hpm2, HKF, hor, HPT, hbr⟩ := hrel
        have e0 := (hbr.cell (p := ⟨b1, o1 + i * 2, none⟩) hbB).trans cB0
        by_cases hlr : j < RN ∧ rm < 70
        · obtain ⟨r1, r2⟩ := hlr
          have r1' : (j : Int) < (RN : Int) := by omega
          have r2' : (rm : Int) < 70 := by omega
          have hj70 : j < 70 := by have := hrj.out; omega
          have hjl : j < rs.length := by rw [HRN.out]; exact r1
          have hbw := hblB.trans (hbr.mono hsB')
          obtain ⟨b2, o2, rfl, hb2, d0⟩ := (HIN.out.1.1.1.keep hbw).rc j hjl
          have HRO := Lib.hid ((HIN.out.1.2.1 _ (List.getElem_mem hjl)).keep hbw)
          generalize rs[j] = R at *
          obtain ⟨L, Rp, Rc⟩ := R
          obtain ⟨LN, hLN⟩ : ∃ R, L.length = R := ⟨_, rfl⟩
          have HLN := Lib.hid hLN
          have q1 := HRO.out.2.1
          have q2 := HRO.out.2.2.1
          dsimp only [PC.val] at d0 q1 q2
          rw [hLN] at d0 q1
          clear hLN
          unfold maxLen at q2
          obtain ⟨MN, hMN⟩ : ∃ z : Nat, min (600 - pm) LN = z := ⟨_, rfl⟩
          have hz0 : (if (600 - (pm : Int)) < (LN : Int) then (600 - (pm : Int)) else (LN : Int)) = (MN : Int) := by split <;> omega
          have hzm : min (LN : Int) (600 - (pm : Int)) = (MN : Int) := by omega
          have hzn : min (600 - (pm : Int)) (LN : Int) = (MN : Int) := by omega
          have HMN := Lib.hid hMN
          have q3 : (MN : Int) ≤ LN := by omega
          have q4 : MN ≤ 600 - pm := by omega
          clear hMN
          go_wp2
          refine wp_region_lit_txtZ (some 8) [0, 1, 3, 7] (fun W => W.heap[wB.heap.size]? = some (.cells #[v, .slice aa2 AN ac2] 39 (0, 0)) ∧ Below wB.heap.size wB W) (by kernel_rfl) (by kernel_rfl) (by kernel_rfl) (by kernel_rfl) ⟨HKF.out, hbr.drew⟩ ?_
          (refine txt_light ?_ rfl rfl ?_ ?_; rotate_left; · (intro w' hS; (try dsimp only at hS); go_simp; with_reducible rfl)); try simp only [Act.put, List.getElem_toArray, List.getElem_cons_succ, List.getElem_cons_zero, List.setIfInBounds_toArray, List.set_cons_zero, List.set_cons_succ]
          refine txt_light (v) rfl rfl ?_ ?_
          · intro w' hS
            obtain ⟨hS1, hS2⟩ := hS
            have c7 : w'.cell? ⟨wB.heap.size, 0, none⟩ = some v := by simp [World.cell?, hS1]
            clear hS1
            go_simp
          try simp only [Act.put, List.getElem_toArray, List.getElem_cons_succ, List.getElem_cons_zero, List.setIfInBounds_toArray, List.set_cons_zero, List.set_cons_succ]
          have HK0 : Hid (wr.drew.heap[wB.heap.size]? = some (.cells #[v, .slice aa2 AN ac2] 39 (0, 0))) := HKF
          have hbd : Below wB.heap.size wB wr.drew := hbr.drew
          have hor0 : wr.drew.ownsRow wB.heap.size 40 1 v j (rcs q) := hor
          have HP0 : Hid (∀ r ∈ q, PcT wr.drew r) := HPT
          have hrL : Rd wr.drew Rp (pts (L.take MN)) := by
            have := HRO.out.1.take (MN * 2)
            rw [pts_take] at this
            exact this
          have hRN0 : Rp = none → Rc = 0 := HRO.out.2.2.2
          clear hor HKF HPT hbr e0 d0
          generalize wr.drew = W0 at *
          refine txt_heavy rfl rfl (fun K hK => ?_)
          go_step
          have hlW : wB.heap.size < W0.heap.size := (Array.getElem?_eq_some_iff.1 HK0.out).1
          have hb1 := hbd.alloc (by omega) (.cells #[] 46)
          have k1 : (W0.alloc (.cells #[] 46)).heap[wB.heap.size]? = some (.cells #[v, .slice aa2 AN ac2] 39 (0, 0)) := (Below.heap_alloc _ _ _ hlW).trans HK0.out
          have hr1 := hrL.keep (Below.new W0 (.cells #[] 46))
          have ho1 : (W0.alloc (.cells #[] 46)).ownsRow W0.heap.size 46 2 (.slice (some ⟨W0.heap.size, 0, none⟩) 0 0) 0 [] := World.ownsRow_lit W0 #[] 0 (Nat.le_refl _) (by decide) rfl
          have hlt : (L.take MN).length = MN := by rw [List.length_take, HLN.out]; omega
          refine hK.out _ _ ⟨k1, hb1⟩ ?_
          clear hK K
          try simp only [Act.put, List.getElem_toArray, List.getElem_cons_succ, List.getElem_cons_zero, List.setIfInBounds_toArray, List.set_cons_zero, List.set_cons_succ]
          (refine txt_light ?_ rfl rfl ?_ ?_; rotate_left; · (intro w' hS; (try dsimp only at hS); go_simp; with_reducible rfl)); try simp only [Act.put, List.getElem_toArray, List.getElem_cons_succ, List.getElem_cons_zero, List.setIfInBounds_toArray, List.set_cons_zero, List.set_cons_succ]
          refine txt_app W0 (Below.new W0 (.cells #[] 46)) rfl rfl (.tmp 58) (.tmp 59) 40 rfl 46 (.agg #[.int .i64 0, .int .i64 0]) 2 16 Try.underlying40 Try.infoPnt rfl (by decide) (.slice (some ⟨W0.heap.size, 0, none⟩) 0 0) 0 [] rfl ho1 Rp MN Rc (pts (L.take MN)) rfl hRN0 hr1 (by rw [pts_len, hlt]) (pts_one _) (by omega) (by decide) ?_
          intro v2 W2 ho2 hg2 hb2
          rw [Nat.zero_add, List.nil_append] at ho2
          have HK2 : Hid (W2.heap[wB.heap.size]? = some (.cells #[v, .slice aa2 AN ac2] 39 (0, 0))) := Lib.hid ((hb2.block _ hlW).trans HK0.out)
          have hbd2 := hbd.trans (hb2.mono hbd.size)
          refine ⟨⟨HK2.out, hbd2⟩, ?_⟩
          have hor2 := hor0.below hb2
          have HP2 : Hid (∀ r ∈ q, PcT W2 r) := Lib.hid (fun r hr => (HP0.out r hr).keep hb2)
          obtain ⟨p2, k2, rfl, f1, f2, f3, f4, -⟩ := ho2.form
          have HPN : Hid (PcT W2 ⟨L.take MN, p2, k2⟩) := Lib.hid ⟨⟨f4, by dsimp only; omega, f2, f3⟩, TypB.of_owns ho2⟩
          clear k1 hb1 hr1 ho1 hg2 hrL hor0 HK0 HP0
          try simp only [Act.put, List.getElem_toArray, List.getElem_cons_succ, List.getElem_cons_zero, List.setIfInBounds_toArray, List.set_cons_zero, List.set_cons_succ]
          refine txt_heavy rfl rfl (fun K hK => ?_)
          go_step
          have hlX : wB.heap.size < W2.heap.size := (Array.getElem?_eq_some_iff.1 HK2.out).1
          have hb3 := hbd2.alloc (by omega) (.cells #[.slice p2 MN k2] 40)
          have hx3 := Below.new W2 (.cells #[.slice p2 MN k2] 40)
          have k3 : (W2.alloc (.cells #[.slice p2 MN k2] 40)).heap[wB.heap.size]? = some (.cells #[v, .slice aa2 AN ac2] 39 (0, 0)) := (Below.heap_alloc _ _ _ hlX).trans HK2.out
          have rd := Rd.lit W2 W2.heap.size [.slice p2 MN k2] 40 rfl
          have hor3 := hor2.below hx3
          have HP3 : Hid (∀ r ∈ q, PcT (W2.alloc (.cells #[.slice p2 MN k2] 40)) r) := Lib.hid (fun r hr => (HP2.out r hr).keep hx3)
          have HPN3 := Lib.hid (HPN.out.keep hx3)
          have HK3 := Lib.hid k3
          refine hK.out _ _ ⟨k3, hb3⟩ ?_
          clear hK K k3 hx3 ho2 hor2 HP2 HPN HK2 hbd2 hb2 hlX
          generalize W2.alloc (.cells #[.slice p2 MN k2] 40) = W3 at *
          try simp only [Act.put, List.getElem_toArray, List.getElem_cons_succ, List.getElem_cons_zero, List.setIfInBounds_toArray, List.set_cons_zero, List.set_cons_succ]
          refine txt_app wB hb3 rfl rfl (.tmp 57) (.tmp 61) 36 rfl 40 (.slice none 0 0) 1 24 Try.underlying36 Try.infoRow rfl (by decide) v j (rcs q) rfl hor3 (some ⟨W2.heap.size, 0, none⟩) 1 1 [.slice p2 MN k2] rfl (fun h => by cases h) rd rfl (by simp [Value.oneCell']) (by omega) (by decide) ?_
          intro v3 W4 ho4 hg4 hb4
          have HK4 : Hid (W4.heap[wB.heap.size]? = some (.cells #[v, .slice aa2 AN ac2] 39 (0, 0))) := Lib.hid (((KeepS.of_row (S := fun T => T = 39) hor3 (by decide) hg4).2 _ _ _ _ HK3.out rfl).trans HK3.out)
          have HKS := Lib.hid (KeepS.of_row (S := fun T => T = 46) hor3 (by decide) hg4)
          have HP4 : Hid (∀ r ∈ q ++ [⟨L.take MN, p2, k2⟩], PcT W4 r) := Lib.hid (fun r hr => by
            rcases List.mem_append.1 hr with hr | hr
            · exact (HP3.out r hr).keepS (S := fun T => T = 46) rfl HKS.out
            · rw [List.mem_singleton.1 hr]; exact HPN3.out.keepS (S := fun T => T = 46) rfl HKS.out)
          have hqc : rcs q ++ [.slice p2 MN k2] = rcs (q ++ [⟨L.take MN, p2, k2⟩]) := by rw [rcs_snoc]; simp [PC.val, hlt]
          rw [hqc] at ho4
          obtain ⟨p3, k3, rfl, -⟩ := ho4.form
          refine ⟨⟨HK4.out, hb4⟩, ?_⟩
          clear hor3 HP3 HPN3 HK3 HKS hg4 rd hb3 hqc
          try simp only [Act.put, List.getElem_toArray, List.getElem_cons_succ, List.getElem_cons_zero, List.setIfInBounds_toArray, List.set_cons_zero, List.set_cons_succ]
          (refine txt_light ?_ rfl rfl ?_ ?_; rotate_left; · (intro w' hS; (try dsimp only at hS); go_simp; with_reducible rfl)); try simp only [Act.put, List.getElem_toArray, List.getElem_cons_succ, List.getElem_cons_zero, List.setIfInBounds_toArray, List.set_cons_zero, List.set_cons_succ]
          refine txt_last rfl rfl rfl (fun K hK => ?_)
          have c7 : W4.cell? ⟨wB.heap.size, 0, none⟩ = some v := by simp [World.cell?, HK4.out]
          have c8 : W4.frozen? ⟨wB.heap.size, 0, none⟩ = false := by simp [World.frozen?, HK4.out]
          go_step
          refine hK.out _ _ ?_
          refine txt_nil ?_
          have HK5 : Hid ((W4.setCell ⟨wB.heap.size, 0, none⟩ (.slice p3 (j + 1) k3)).heap[wB.heap.size]? = some (.cells #[.slice p3 (j + 1) k3, .slice aa2 AN ac2] 39 (0, 0))) := Lib.hid (blkT_set (vs := [v, .slice aa2 AN ac2]) HK4.out 0 _)
          have ho5 := ownsRow_box ho4 HK4.out (by decide) 0 (.slice p3 (j + 1) k3)
          have HP5 : Hid (∀ r ∈ q ++ [⟨L.take MN, p2, k2⟩], PcT (W4.setCell ⟨wB.heap.size, 0, none⟩ (.slice p3 (j + 1) k3)) r) := Lib.hid (fun r hr => (HP4.out r hr).keepS (S := fun T => T = 46) rfl (KeepS.store HK4.out (by decide) _))
          have hb5 := hb4.setCell (p := ⟨wB.heap.size, 0, none⟩) (Nat.le_refl _) (.slice p3 (j + 1) k3)
          have HSQ : Hid (pm + MN = pn + lenS ((q ++ [(⟨L.take MN, p2, k2⟩ : PC)]).map PC.l)) := Lib.hid (by
            rw [List.map_append, lenS_append, HSR.out]
            simp only [List.map_cons, List.map_nil, lenS, hlt]
            omega)
          have hql5 : (q ++ [(⟨L.take MN, p2, k2⟩ : PC)]).length = j + 1 := by simp [hql]
          clear hK K c7 c8 ho4 HP4 hb4 HK4 HSR HRO hlt HMN HLN hRN0 f1 f2 f3 f4 hz0 hbd
          generalize q ++ [(⟨L.take MN, p2, k2⟩ : PC)] = q5 at *
          generalize W4.setCell ⟨wB.heap.size, 0, none⟩ (.slice p3 (j + 1) k3) = W5 at *
          go_wp2
          exact ⟨⟨j + 1, q5, rm + 1, pm + MN, .slice p3 (j + 1) k3, by omega, Lib.hid (by have := hrj.out; omega), by go_num, by go_num, by go_num, hql5, HSQ, by omega, by omega, HK5, ho5, HP5, hb5⟩, by simp [intOf]; omega⟩
        · obtain ⟨p3, k3, rfl, g1, g2, g3, g4, -⟩ := hor.form
          have e6 : wr.cell? ⟨wB.heap.size, 0, none⟩ = some (.slice p3 j k3) := by simp [World.cell?, HKF.out]
          have e7 : wr.cell? ⟨wB.heap.size, 0 + 1, none⟩ = some (.slice aa2 AN ac2) := by simp [World.cell?, HKF.out]
          have hbw := hblB.trans (hbr.mono hsB')
          have hoX := hoB.below hbr
          have HFC : Hid (fcs fs ++ [.slice p3 j k3, .slice aa2 AN ac2] = fcs (fs ++ [⟨q, p3, k3, AL, aa2, ac2⟩])) := Lib.hid (by
            rw [fcs_snoc]
            simp [Fc.cells, Fc.rval, Fc.aval, hql, HAN.out])
          have HSX : Hid ((cntR ((fs ++ [(⟨q, p3, k3, AL, aa2, ac2⟩ : Fc)]).map Fc.rings) = rm ∧ cntP ((fs ++ [(⟨q, p3, k3, AL, aa2, ac2⟩ : Fc)]).map Fc.rings) = pm) ∧ ∀ f ∈ fs ++ [(⟨q, p3, k3, AL, aa2, ac2⟩ : Fc)], AtsOk f.ls) := Lib.hid (by
            obtain ⟨⟨e1, e2⟩, e3⟩ := HST.out
            refine ⟨⟨?_, ?_⟩, ?_⟩
            · rw [List.map_append, cntR_append, e1]
              simp only [List.map_cons, List.map_nil, cntR, Fc.rings, List.length_map, hql]
              have := hrj.out
              omega
            · rw [List.map_append, cntP_append, e2, HSR.out]
              simp only [List.map_cons, List.map_nil, cntP, Fc.rings]
              omega
            · intro f hf
              rcases List.mem_append.1 hf with hf | hf
              · exact e3 f hf
              · rw [List.mem_singleton.1 hf]; exact HATS.out)
          have HFA : Hid (∀ f ∈ fs ++ [(⟨q, p3, k3, AL, aa2, ac2⟩ : Fc)], FcT wr f) := Lib.hid (fun f hf => by
            rcases List.mem_append.1 hf with hf | hf
            · exact (HFB.out f hf).keep hbr
            · rw [List.mem_singleton.1 hf]
              exact ⟨⟨⟨g4, by rw [hql]; exact g1, g2, g3⟩, fun r hr => (HPT.out r hr).1, ⟨har.keep hbr, by rw [HAN.out]; exact hac1, hac2, hac3⟩⟩, TypB.of_owns hor, HPT.out, hat.keepS (S := fun _ => True) trivial (KeepS.of_below hbr)⟩)
          clear hor HSR HKF HPT g1 g2 g3 g4 hoB HFB
          by_cases r1 : j < RN
          · have r1' : (j : Int) < (RN : Int) := by omega
            have r2' : ¬ (rm : Int) < 70 := by omega
            go_wp2_with (at_builtin; go_must (refine wpList_appLit' w hbw rfl (.tmp 70) (.tmp 72) 22 rfl 39 (.agg #[.slice none 0 0, .slice none 0 0]) 2 48 Try.underlying22 Try.infoFace rfl (by decide) (by decide) u3 i (fcs fs) rfl hoX 1 1 [.slice p3 j k3, .slice aa2 AN ac2] _ rfl rfl (by simp [Value.oneCell']) (by omega) ?_); intro v9 W9 ho9 hg9 hb9; have HKP := Lib.hid (KeepS.of_row hoX faceS_face hg9); clear hg9 hoX)
            rw [HFC.out] at ho9
            exact ⟨⟨i + 1, fs ++ [⟨q, p3, k3, AL, aa2, ac2⟩], rm, pm, by omega, by omega, by go_num, rfl, rfl, by simp [hfl], HSX, hrm2, hpm2, ho9, Lib.hid (fun f hf => (HFA.out f hf).keepS HKP.out), hb9⟩, by simp [intOf]; omega⟩
          · have r1' : ¬ (j : Int) < (RN : Int) := by omega
            go_wp2_with (at_builtin; go_must (refine wpList_appLit' w hbw rfl (.tmp 70) (.tmp 72) 22 rfl 39 (.agg #[.slice none 0 0, .slice none 0 0]) 2 48 Try.underlying22 Try.infoFace rfl (by decide) (by decide) u3 i (fcs fs) rfl hoX 1 1 [.slice p3 j k3, .slice aa2 AN ac2] _ rfl rfl (by simp [Value.oneCell']) (by omega) ?_); intro v9 W9 ho9 hg9 hb9; have HKP := Lib.hid (KeepS.of_row hoX faceS_face hg9); clear hg9 hoX)
            rw [HFC.out] at ho9
            exact ⟨⟨i + 1, fs ++ [⟨q, p3, k3, AL, aa2, ac2⟩], rm, pm, by omega, by omega, by go_num, rfl, rfl, by simp [hfl], HSX, hrm2, hpm2, ho9, Lib.hid (fun f hf => (HFA.out f hf).keepS HKP.out), hb9⟩, by simp [intOf]; omega⟩
    · have HRE : Hid (CutOk fs) := Lib.hid (by
        obtain ⟨⟨e1, e2⟩, e3⟩ := HST.out
        exact ⟨by omega, by omega, by omega, e3⟩)
      rw [← hfl] at ho
      by_cases h1 : i < N
      · have h1' : (i : Int) < (N : Int) := by omega
        have h2' : ¬ (i : Int) < 40 := by omega
        go_wp2
        go_ret
        exact ⟨fs, _, rfl, ho, HFT.out, HRE.out, hbl⟩
      · have h1' : ¬ (i : Int) < (N : Int) := by omega
        go_wp2
        go_ret
        exact ⟨fs, _, rfl, ho, HFT.out, HRE.out, hbl⟩
end Go.Proofs.Ytkdibaphmkaaoaa
/- A map of strings to bools that the call makes: a set of strings. -/
set_option linter.unusedVariables false
set_option linter.unusedSimpArgs false
namespace Go
open Go.RowKit
open Go.Maps (Keyed IsMap string_keyed)
/-- Block b is a map that says yes at these strings, and holds no others. -/
def StrSet (P : Program) (K E : TypeId) (w : World) (b n : Nat) (ks : List (List UInt8)) : Prop :=
  ∃ D : DataW Unit, w.ownsMap P K (plainElem P E) b n D ∧ IsMap D ∧ ∀ s : ByteArray, D.atKey (.string s.data.toList) (.lit (.bool false)) = .lit (.bool (decide (s.data.toList ∈ ks)))
theorem StrSet.made (P : Program) (K E : TypeId) (w : World) : StrSet P K E (w.alloc (.map #[] 0)) w.heap.size 0 [] :=
  ⟨.map [], World.ownsMap_made w P K _, ⟨[], rfl⟩, fun s => by simp [DataW.atKey]⟩
theorem StrSet.below {P : Program} {K E : TypeId} {w w' : World} {b n : Nat} {ks : List (List UInt8)} (h : StrSet P K E w b n ks) (hb : Below w.heap.size w w') : StrSet P K E w' b n ks := by
  obtain ⟨D, hD, hm, hk⟩ := h
  have hl := hD.lt
  obtain ⟨es, clock, he, r⟩ := hD
  exact ⟨D, ⟨es, clock, (hb.block b hl).trans he, r⟩, hm, hk⟩
theorem StrSet.lt {P : Program} {K E : TypeId} {w : World} {b n : Nat} {ks : List (List UInt8)} (h : StrSet P K E w b n ks) : b < w.heap.size := by
  obtain ⟨D, hD, -⟩ := h
  exact hD.lt
theorem StrSet.look {P : Program} {K E T : TypeId} {w : World} {b n : Nat} {ks : List (List UInt8)} (h : StrSet P K E w b n ks) (ht : P.underlying T = some (.map K E)) (hK : P.underlying K = some .string) (hE : P.underlying E = some .bool) (hz : (zeroValue E).run P w = .ok (.bool false) w) (s : ByteArray) (hs : s.size ≤ maxLen) :
    (Instr.lookup T (.map (some b)) (.string s) false).run P w = .ok (.bool (decide (s.data.toList ∈ ks))) w := by
  obtain ⟨D, hD, hm, hk⟩ := h
  obtain ⟨v, ps, hrun, hv⟩ := hD.lookup (string_keyed hK) ht hz (plainElem_bool hE false) (WideMaps.keyOf_string_mk hK hs)
  rw [hk] at hv
  have : v = .bool (decide (s.data.toList ∈ ks)) := by
    unfold plainElem at hv
    rw [hE] at hv
    cases v <;> simp at hv
    obtain ⟨h1, -⟩ := hv
    rw [h1]
  rw [hrun, this]
theorem wpList_set_add {P : Program} {K E T : TypeId} (w : World) {ops : Array Oper} {rest : List Oper} {o : Oper} {a : Act} {Q : Exit → Act → World → Prop}
    (hg : o.guard = none) (m x v : Operand) (hop : o.op = Op.mapUpdate T m x v) (ht : P.underlying T = some (.map K E)) (hK : P.underlying K = some .string) (hE : P.underlying E = some .bool) (b n : Nat) (ks : List (List UInt8))
    (hm : a.eval m = .map (some b)) (hown : StrSet P K E w b n ks) (hn : n < maxLen) (s : ByteArray) (hs : s.size ≤ maxLen) (hx : a.eval x = .string s) (hv : a.eval v = .bool true)
    (hk : ∀ w', StrSet P K E w' b (n + 1) (s.data.toList :: ks) → w.grownBy w' (some b) → wpList P ops Q rest (a.put o.dst undef) w') :
    wpList P ops Q (o :: rest) a w := by
  obtain ⟨D, hD, hmap, hat⟩ := hown
  refine wpList_mapUpdate_own w hg m x v T hop K E (string_keyed hK) ht (plainElem P E) b n D hm hD hn (.string s) (.bool true) (.string s.data.toList) hx hv (WideMaps.keyOf_string_mk hK hs) (.lit (.bool true)) [] (plainElem_bool hE true) ?_
  intro w' h1 h2
  refine hk w' ⟨_, h1, hmap.put _ _, fun s' => ?_⟩ h2
  by_cases he : s'.data.toList = s.data.toList
  · rw [he, Maps.atKey_put_same hmap (by trivial)]
    simp
  · rw [Maps.atKey_put_other (by
      intro h
      apply he
      injection h), hat]
    simp [he]
end Go
/- Runes of a text: the model's decoding and the document's first rune, in plain terms. -/
set_option linter.unusedVariables false
set_option linter.unusedSimpArgs false
namespace Go
open Go.RowKit
/-- The byte at a place, as a number. -/
def byt (s : ByteArray) (i : Nat) : Nat := (s.get! i).toNat
theorem byt_lt (s : ByteArray) (i : Nat) : byt s i < 256 := (s.get! i).toNat_lt
/-- Is there a byte that goes on with a rune? -/
def cont (s : ByteArray) (i : Nat) : Bool := decide (i < s.size) && decide (128 ≤ byt s i) && decide (byt s i < 192)
/-- Where no rune begins. -/
def badAt (s : ByteArray) (i : Nat) : Bool := decide (Utf8.decode s i = (65533, 1))
/-- The document's first rune from a place on, and how many bytes it has; (0, 0): there is none. -/
def firstF (s : ByteArray) (i : Nat) : Nat × Nat := if badAt s i then (0, 0) else Utf8.decode s i
theorem cont_eq (s : ByteArray) (i : Nat) : (decide (i < s.size) && ((s.get! i).toNat / 64 == 2)) = cont s i := by
  have h := byt_lt s i
  unfold cont byt at *
  rw [Bool.and_assoc]
  congr 1
  rw [Bool.eq_iff_iff]
  simp
  omega
theorem decode_eq (s : ByteArray) (i : Nat) : Utf8.decode s i =
    (if byt s i < 128 then (byt s i, 1)
     else if 192 ≤ byt s i ∧ byt s i < 224 ∧ cont s (i + 1) = true then (if 128 ≤ (byt s i - 192) * 64 + (byt s (i + 1) - 128) then ((byt s i - 192) * 64 + (byt s (i + 1) - 128), 2) else (65533, 1))
     else if 224 ≤ byt s i ∧ byt s i < 240 ∧ cont s (i + 1) = true ∧ cont s (i + 2) = true then
       (if 2048 ≤ (byt s i - 224) * 4096 + (byt s (i + 1) - 128) * 64 + (byt s (i + 2) - 128) ∧ ¬ (55296 ≤ (byt s i - 224) * 4096 + (byt s (i + 1) - 128) * 64 + (byt s (i + 2) - 128) ∧ (byt s i - 224) * 4096 + (byt s (i + 1) - 128) * 64 + (byt s (i + 2) - 128) ≤ 57343)
        then ((byt s i - 224) * 4096 + (byt s (i + 1) - 128) * 64 + (byt s (i + 2) - 128), 3) else (65533, 1))
     else if 240 ≤ byt s i ∧ byt s i < 248 ∧ cont s (i + 1) = true ∧ cont s (i + 2) = true ∧ cont s (i + 3) = true then
       (if 65536 ≤ (byt s i - 240) * 262144 + (byt s (i + 1) - 128) * 4096 + (byt s (i + 2) - 128) * 64 + (byt s (i + 3) - 128) ∧ (byt s i - 240) * 262144 + (byt s (i + 1) - 128) * 4096 + (byt s (i + 2) - 128) * 64 + (byt s (i + 3) - 128) ≤ 1114111
        then ((byt s i - 240) * 262144 + (byt s (i + 1) - 128) * 4096 + (byt s (i + 2) - 128) * 64 + (byt s (i + 3) - 128), 4) else (65533, 1))
     else (65533, 1)) := by
  have h0 := byt_lt s i
  have h1 := byt_lt s (i + 1)
  have h2 := byt_lt s (i + 2)
  have h3 := byt_lt s (i + 3)
  unfold Utf8.decode
  simp only [cont_eq, Nat.add_zero, Utf8.runeError]
  show (if (byt s i) < 128 then _ else _) = _
  have hm : ∀ k, cont s k = true → 128 ≤ byt s k ∧ byt s k < 192 := by
    intro k h
    unfold cont at h
    simp only [Bool.and_eq_true, decide_eq_true_eq] at h
    omega
  by_cases c0 : byt s i < 128
  · rw [if_pos c0, if_pos c0]; rfl
  rw [if_neg c0, if_neg c0]
  by_cases c1 : 192 ≤ byt s i ∧ byt s i < 224 ∧ cont s (i + 1) = true
  · rw [if_pos c1]
    have d1 : ((s.get! i).toNat / 32 == 6 && cont s (i + 1)) = true := by
      rw [c1.2.2, Bool.and_true, beq_iff_eq]; show byt s i / 32 = 6; omega
    rw [if_pos d1]
    have := hm _ c1.2.2
    show (if byt s i % 32 * 64 + byt s (i + 1) % 64 ≥ 128 then (byt s i % 32 * 64 + byt s (i + 1) % 64, 2) else (65533, 1)) = _
    rw [show byt s i % 32 * 64 + byt s (i + 1) % 64 = (byt s i - 192) * 64 + (byt s (i + 1) - 128) by omega]
  · rw [if_neg c1]
    have d1 : ¬ ((s.get! i).toNat / 32 == 6 && cont s (i + 1)) = true := by
      intro h
      rw [Bool.and_eq_true, beq_iff_eq] at h
      have hb : byt s i / 32 = 6 := h.1
      exact c1 ⟨by omega, by omega, h.2⟩
    rw [if_neg d1]
    by_cases c2 : 224 ≤ byt s i ∧ byt s i < 240 ∧ cont s (i + 1) = true ∧ cont s (i + 2) = true
    · rw [if_pos c2]
      have d2 : ((s.get! i).toNat / 16 == 14 && cont s (i + 1) && cont s (i + 2)) = true := by
        rw [c2.2.2.1, c2.2.2.2, Bool.and_true, Bool.and_true, beq_iff_eq]; show byt s i / 16 = 14; omega
      rw [if_pos d2]
      have e1 := hm _ c2.2.2.1
      have e2 := hm _ c2.2.2.2
      show (if (decide (byt s i % 16 * 4096 + byt s (i + 1) % 64 * 64 + byt s (i + 2) % 64 ≥ 2048) && Utf8.valid ((byt s i % 16 * 4096 + byt s (i + 1) % 64 * 64 + byt s (i + 2) % 64 : Nat) : Int)) = true then (byt s i % 16 * 4096 + byt s (i + 1) % 64 * 64 + byt s (i + 2) % 64, 3) else (65533, 1)) = _
      rw [show byt s i % 16 * 4096 + byt s (i + 1) % 64 * 64 + byt s (i + 2) % 64 = (byt s i - 224) * 4096 + (byt s (i + 1) - 128) * 64 + (byt s (i + 2) - 128) by omega]
      have hb : (byt s i - 224) * 4096 + (byt s (i + 1) - 128) * 64 + (byt s (i + 2) - 128) < 65536 := by omega
      generalize (byt s i - 224) * 4096 + (byt s (i + 1) - 128) * 64 + (byt s (i + 2) - 128) = r at *
      congr 1
      rw [Bool.and_eq_true]
      simp only [Utf8.valid, decide_eq_true_eq, Bool.or_eq_true, Bool.and_eq_true, ge_iff_le, eq_iff_iff]
      omega
    · rw [if_neg c2]
      have d2 : ¬ ((s.get! i).toNat / 16 == 14 && cont s (i + 1) && cont s (i + 2)) = true := by
        intro h
        rw [Bool.and_eq_true, Bool.and_eq_true, beq_iff_eq] at h
        have hb : byt s i / 16 = 14 := h.1.1
        exact c2 ⟨by omega, by omega, h.1.2, h.2⟩
      rw [if_neg d2]
      by_cases c3 : 240 ≤ byt s i ∧ byt s i < 248 ∧ cont s (i + 1) = true ∧ cont s (i + 2) = true ∧ cont s (i + 3) = true
      · rw [if_pos c3]
        have d3 : ((s.get! i).toNat / 8 == 30 && cont s (i + 1) && cont s (i + 2) && cont s (i + 3)) = true := by
          rw [c3.2.2.1, c3.2.2.2.1, c3.2.2.2.2, Bool.and_true, Bool.and_true, Bool.and_true, beq_iff_eq]; show byt s i / 8 = 30; omega
        rw [if_pos d3]
        have e1 := hm _ c3.2.2.1
        have e2 := hm _ c3.2.2.2.1
        have e3 := hm _ c3.2.2.2.2
        show (if (decide (byt s i % 8 * 262144 + byt s (i + 1) % 64 * 4096 + byt s (i + 2) % 64 * 64 + byt s (i + 3) % 64 ≥ 65536) && Utf8.valid ((byt s i % 8 * 262144 + byt s (i + 1) % 64 * 4096 + byt s (i + 2) % 64 * 64 + byt s (i + 3) % 64 : Nat) : Int)) = true then (byt s i % 8 * 262144 + byt s (i + 1) % 64 * 4096 + byt s (i + 2) % 64 * 64 + byt s (i + 3) % 64, 4) else (65533, 1)) = _
        rw [show byt s i % 8 * 262144 + byt s (i + 1) % 64 * 4096 + byt s (i + 2) % 64 * 64 + byt s (i + 3) % 64 = (byt s i - 240) * 262144 + (byt s (i + 1) - 128) * 4096 + (byt s (i + 2) - 128) * 64 + (byt s (i + 3) - 128) by omega]
        generalize (byt s i - 240) * 262144 + (byt s (i + 1) - 128) * 4096 + (byt s (i + 2) - 128) * 64 + (byt s (i + 3) - 128) = r at *
        congr 1
        rw [Bool.and_eq_true]
        simp only [Utf8.valid, decide_eq_true_eq, Bool.or_eq_true, Bool.and_eq_true, ge_iff_le, eq_iff_iff]
        omega
      · rw [if_neg c3]
        have d3 : ¬ ((s.get! i).toNat / 8 == 30 && cont s (i + 1) && cont s (i + 2) && cont s (i + 3)) = true := by
          intro h
          rw [Bool.and_eq_true, Bool.and_eq_true, Bool.and_eq_true, beq_iff_eq] at h
          have hb : byt s i / 8 = 30 := h.1.1.1
          exact c3 ⟨by omega, by omega, h.1.1.2, h.1.2, h.2⟩
        rw [if_neg d3]
end Go
/- text.bad; plain: where no rune begins. -/
set_option linter.unusedVariables false
set_option linter.unusedSimpArgs false
namespace Go
open Go.RowKit
theorem get_lt {s : ByteArray} {i : Nat} (h : i < s.size) : s.data.toList[i]? = some (s.get! i) := by
  rw [Array.getElem?_toList]
  have : s.get! i = s.data[i]'h := by
    show s.data[i]! = _
    rw [getElem!_pos s.data i h]
  rw [this, Array.getElem?_eq_getElem h]
theorem ext_size (s : ByteArray) (i : Nat) : (s.extract i s.size).size = s.size - i := by
  simp [ByteArray.size_extract]
theorem ext_get (s : ByteArray) (i k : Nat) (h : i + k < s.size) : (s.extract i s.size).get! k = s.get! (i + k) := by
  have h1 : k < (s.extract i s.size).size := by rw [ext_size]; omega
  have e1 := get_lt h1
  have e2 := get_lt h
  have : (s.extract i s.size).data.toList[k]? = s.data.toList[i + k]? := by
    rw [Array.getElem?_toList, Array.getElem?_toList, ByteArray.data_extract, Array.getElem?_extract]
    have hs : s.data.size = s.size := rfl
    rw [hs, Nat.min_self, if_pos (by omega)]
  rw [this, e2] at e1
  exact (Option.some.inj e1).symm
theorem byt_out {s : ByteArray} {i : Nat} (h : ¬ i < s.size) : byt s i = 0 := by
  unfold byt
  have : s.get! i = default := by
    show s.data[i]! = _
    rw [getElem!_neg s.data i h]
  rw [this]; rfl
theorem ext_byt (s : ByteArray) (i k : Nat) : byt (s.extract i s.size) k = byt s (i + k) := by
  by_cases h : i + k < s.size
  · unfold byt; rw [ext_get s i k h]
  · rw [byt_out h, byt_out (by rw [ext_size]; omega)]
theorem ext_cont (s : ByteArray) (i k : Nat) : cont (s.extract i s.size) k = cont s (i + k) := by
  unfold cont
  rw [ext_byt, ext_size]
  by_cases h : i + k < s.size
  · simp [h, show k < s.size - i by omega]
  · simp [h, show ¬ k < s.size - i by omega]
theorem ext_decode (s : ByteArray) (i k : Nat) : Utf8.decode (s.extract i s.size) k = Utf8.decode s (i + k) := by
  rw [decode_eq, decode_eq]
  simp only [ext_byt, ext_cont, Nat.add_assoc]
theorem ext_bad (s : ByteArray) (i k : Nat) : badAt (s.extract i s.size) k = badAt s (i + k) := by
  unfold badAt; rw [ext_decode]
theorem ext_first (s : ByteArray) (i k : Nat) : firstF (s.extract i s.size) k = firstF s (i + k) := by
  unfold firstF; rw [ext_bad, ext_decode]
theorem cont_iff (s : ByteArray) (i : Nat) : cont s i = true ↔ i < s.size ∧ 128 ≤ byt s i ∧ byt s i < 192 := by
  unfold cont
  simp only [Bool.and_eq_true, decide_eq_true_eq, and_assoc]
/-- How far a rune goes. -/
theorem decode_wid {s : ByteArray} {i : Nat} (h : i < s.size) : 1 ≤ (Utf8.decode s i).2 ∧ i + (Utf8.decode s i).2 ≤ s.size ∧ (Utf8.decode s i).2 ≤ 4 ∧ (Utf8.decode s i).1 ≤ 1114111 := by
  have h0 := byt_lt s i
  have c1 := cont_iff s (i + 1)
  have c2 := cont_iff s (i + 2)
  have c3 := cont_iff s (i + 3)
  rw [decode_eq]
  repeat' split
  all_goals simp_all
  all_goals omega
/-- Where the replacement's bytes stand, its rune is told; it is told elsewhere for what is none. -/
theorem bad_iff {s : ByteArray} {i : Nat} (h : i < s.size) : badAt s i = true ↔ (Utf8.decode s i).1 = 65533 ∧ ¬ (byt s i = 239 ∧ byt s (i + 1) = 191 ∧ byt s (i + 2) = 189) := by
  have h0 := byt_lt s i
  have c1 := cont_iff s (i + 1)
  have c2 := cont_iff s (i + 2)
  have c3 := cont_iff s (i + 3)
  have o1 : ¬ i + 1 < s.size → byt s (i + 1) = 0 := byt_out
  have o2 : ¬ i + 2 < s.size → byt s (i + 2) = 0 := byt_out
  unfold badAt
  rw [decide_eq_true_eq, decode_eq]
  repeat' split
  all_goals simp_all
  all_goals omega
theorem isPrefixOf_three (l : List UInt8) (a b c : UInt8) : [a, b, c].isPrefixOf l = (decide (l[0]? = some a) && decide (l[1]? = some b) && decide (l[2]? = some c)) := by
  match l with
  | [] => simp [List.isPrefixOf]
  | [x] => simp [List.isPrefixOf]
  | [x, y] => simp [List.isPrefixOf]
  | x :: y :: z :: t =>
    simp only [List.isPrefixOf, Bool.and_true, List.getElem?_cons_zero, List.getElem?_cons_succ, Option.some.injEq, Bool.and_assoc]
    rw [Bool.eq_iff_iff]
    simp only [Bool.and_eq_true, beq_iff_eq, decide_eq_true_eq]
    constructor <;> (rintro ⟨rfl, rfl, rfl⟩; exact ⟨rfl, rfl, rfl⟩)
theorem get_byt {s : ByteArray} {i : Nat} {b : UInt8} : s.data.toList[i]? = some b ↔ i < s.size ∧ byt s i = b.toNat := by
  by_cases h : i < s.size
  · rw [get_lt h]
    simp only [Option.some.injEq, h, true_and]
    unfold byt
    exact ⟨fun e => by rw [e], fun e => UInt8.toNat_inj.1 e⟩
  · have : s.data.toList[i]? = none := by rw [Array.getElem?_toList]; exact Array.getElem?_eq_none (Nat.le_of_not_lt h)
    rw [this]
    simp [h]
theorem pre_fffd (s : ByteArray) (i : Nat) : Lib.hasPrefix (s.extract i s.size).data.toList [239, 191, 189] = decide (byt s i = 239 ∧ byt s (i + 1) = 191 ∧ byt s (i + 2) = 189) := by
  unfold Lib.hasPrefix
  rw [isPrefixOf_three]
  have e : ∀ (k : Nat) (b : UInt8), 0 < b.toNat → ((s.extract i s.size).data.toList[k]? = some b ↔ byt s (i + k) = b.toNat) := by
    intro k b hb
    rw [get_byt, ext_byt, ext_size]
    constructor
    · exact fun h => h.2
    · intro h
      refine ⟨?_, h⟩
      by_cases hk : i + k < s.size
      · omega
      · rw [byt_out hk] at h; omega
  rw [Bool.eq_iff_iff]
  simp only [Bool.and_eq_true, decide_eq_true_eq, e 0 239 (by decide), e 1 191 (by decide), e 2 189 (by decide), Nat.add_zero, and_assoc]
  exact Iff.rfl
end Go
namespace Go.Proofs.Ytkdibaphmkaaoaa
open Go.RowKit

set_option maxHeartbeats 800000 in
theorem bad_any (s : ByteArray) (i : Nat) (h : i < s.size) (hs : s.size ≤ maxLen) (w : World) :
    Calls Try.prog 115 #[.string s, .int .i64 i, .int .i32 (Utf8.decode s i).1] w fun e w' => e = .returned (.bool (badAt s i)) ∧ w' = w := by
  have hb := bad_iff h
  have hp := pre_fffd s i
  have hi : (i : Int) ≤ (s.size : Int) := by omega
  obtain ⟨X, hX⟩ : ∃ X : Bool, decide (byt s i = 239 ∧ byt s (i + 1) = 191 ∧ byt s (i + 2) = 189) = X := ⟨_, rfl⟩
  have HC : Hid (∀ w, Calls Try.prog 117 #[.string (s.extract i s.size), .string ⟨#[239, 191, 189]⟩] w fun e w' => e = .returned (.bool X) ∧ w' = w) := Lib.hid (fun w => by
    have := Try.strings_HasPrefix (s.extract i s.size) ⟨#[239, 191, 189]⟩ w
    rw [show (⟨#[239, 191, 189]⟩ : ByteArray).data.toList = [239, 191, 189] from rfl, hp, hX] at this
    exact this)
  have HB : Hid ((badAt s i) = (decide ((Utf8.decode s i).1 = 65533) && !X)) := Lib.hid (by
    rw [← hX, Bool.eq_iff_iff, hb, Bool.and_eq_true, Bool.not_eq_true', decide_eq_true_eq, decide_eq_false_iff_not])
  clear hb hp hX
  generalize badAt s i = B at *
  generalize (Utf8.decode s i).1 = r at *
  go_enter Try.func115, Try.ntmps115
  by_cases hr : (r : Int) = 65533
  · have hB : B = !X := by rw [HB.out]; simp; omega
    rw [hr]
    subst hB
    go_wp2_with fail
    refine (HC.out _).mono ?_
    rintro e w1 ⟨rfl, rfl⟩
    go_wp2
    go_ret
    exact ⟨rfl, rfl⟩
  · have hB : B = false := by rw [HB.out]; simp; omega
    subst hB
    have hrb : ((r : Int) == 65533) = false := by simp; omega
    go_wp2
    go_ret
    exact ⟨rfl, rfl⟩
end Go.Proofs.Ytkdibaphmkaaoaa
