/-
  CoverChecks: the walk.
-/
import Derived.Test.YtccamjnomjcchaaPk27
import Derived.Test.YtccamjnomjcchaaPk7
import Derived.Test.YtccamjnomjcchaaPk28
import Derived.Test.YtccamjnomjcchaaPk29
import Derived.Test.YtccamjnomjcchaaPk32
import Derived.Test.YtccamjnomjcchaaPk40
import Derived.Test.YtccamjnomjcchaaPk41
/- CoverChecks: the walk. -/
set_option linter.unusedVariables false
set_option linter.unusedSimpArgs false
set_option maxRecDepth 100000
namespace Go
open Go.RowKit
theorem fewFs_ats (most : Nat) (l : List Fp) : ∀ f ∈ (fewFs most l).1, AtsOk f.ls := by
  have key : ∀ (l : List Fp) (s : List Fp × Nat), (∀ f ∈ s.1, AtsOk f.ls) → ∀ f ∈ (l.foldl (fewStepF most) s).1, AtsOk f.ls := by
    intro l
    induction l with
    | nil => intro s h; exact h
    | cons f l ih =>
      intro s h
      refine ih (fewStepF most s f) ?_
      intro g hg
      simp only [fewStepF, List.mem_append, List.mem_singleton] at hg
      rcases hg with hg | hg
      · exact h g hg
      · rw [hg]; exact atsOk_cut _
  exact key l ([], 0) (by simp)
theorem few_ats {fs : List Fc} {most : Nat} {l : List Fp} (h : fs.map Fc.plain = fewF most l) : ∀ f ∈ fs, AtsOk f.ls := by
  intro f hf
  have h1 : f.plain ∈ fewF most l := by rw [← h]; exact List.mem_map_of_mem hf
  exact fewFs_ats most _ _ h1
def RCheckIs (n : Nat) (F : List (List (List Pt))) (ls : List (List At)) (x : Int) : Prop := (chkF tcF n F ls ≠ 0 ∧ x = chkF tcF n F ls) ∨ (chkF tcF n F ls = 0 ∧ RValIs F (allSd F) x)
theorem rcheck_check {n : Nat} {F : List (List (List Pt))} {ls : List (List At)} {x y : Int} (h1 : RCheckIs n F ls x) (h2 : CheckIs tcF n F ls y) : y = x := by
  rcases h1 with ⟨h1, rfl⟩ | ⟨h1, h3⟩
  · rcases h2 with ⟨-, h2⟩ | ⟨h2, -⟩
    · exact h2
    · exact absurd h2 h1
  · rcases h2 with ⟨h2, -⟩ | ⟨-, h4⟩
    · exact absurd h1 h2
    · exact rval_valid h3 h4
theorem plain_three {a b : List Fc} (h : a.map Fc.plain = b.map Fc.plain) : a.map Fc.rings = b.map Fc.rings ∧ a.map Fc.ls = b.map Fc.ls ∧ a.length = b.length := by
  refine ⟨?_, ?_, ?_⟩
  · have := congrArg (List.map Fp.rings) h
    simpa [List.map_map, Function.comp_def, Fc.plain] using this
  · have := congrArg (List.map Fp.ls) h
    simpa [List.map_map, Function.comp_def, Fc.plain] using this
  · have := congrArg List.length h
    simpa using this
theorem mem_ls {a b : List Fc} {P : List At → Prop} (h : a.map Fc.ls = b.map Fc.ls) (hb : ∀ f ∈ b, P f.ls) : ∀ f ∈ a, P f.ls := by
  intro f hf
  have h1 : f.ls ∈ b.map Fc.ls := by rw [← h]; exact List.mem_map_of_mem hf
  obtain ⟨g, hg, he⟩ := List.mem_map.1 h1
  rw [← he]; exact hb g hg
theorem mem_rings {a b : List Fc} {P : List (List Pt) → Prop} (h : a.map Fc.rings = b.map Fc.rings) (hb : ∀ f ∈ b, P f.rings) : ∀ f ∈ a, P f.rings := by
  intro f hf
  have h1 : f.rings ∈ b.map Fc.rings := by rw [← h]; exact List.mem_map_of_mem hf
  obtain ⟨g, hg, he⟩ := List.mem_map.1 h1
  rw [← he]; exact hb g hg
theorem allSd_len (F : List (List (List Pt))) : (allSd F).length = cntP F := by
  rw [← allEd_sd, List.length_map, allEd_len]
end Go
namespace Go.Proofs.Ytccamjnomjcchaa
open Go.RowKit

set_option maxHeartbeats 1600000 in
theorem rcheck13_any (a : Option Addr) (c : Nat) (L : List Fc) (hlen : L.length ≤ 1000) (hl : ∀ f ∈ L, f.rs.length ≤ 1000 ∧ ∀ r ∈ f.rs, r.l.length ≤ 1000) (ha : ∀ f ∈ L, AtsOk f.ls) (h1 : cntR (L.map Fc.rings) ≤ 60000) (h2 : cntP (L.map Fc.rings) ≤ 60000) (w : World) (hr : Rd w a (fcs L)) (hok : ∀ f ∈ L, f.Ok w) :
    Calls Try.prog 14 #[.slice a L.length c] w fun e w' => (∃ x, e = .returned (.int .i64 x) ∧ RCheckIs L.length (L.map Fc.rings) (L.map Fc.ls) x) ∧ Below w.heap.size w w' := by
  have HF := Lib.hid (rfcheck_any a c L (by omega) (by omega) (by omega) (fun f hf => by have := hl f hf; exact ⟨by omega, fun r hr => by have := this.2 r hr; omega⟩) (fun f hf => by have := ha f hf; exact ⟨by have := this.1; omega, fun x hx => by have := this.2 x hx; omega⟩) w hr hok)
  have HV := Lib.hid (fun W (hW : Below w.heap.size w W) => rvalid_any a c L hlen hl h1 h2 (by rw [allSd_len]; exact h2) W (hr.keep hW) (fun f hf => (hok f hf).keep hW))
  obtain ⟨C, hC⟩ : ∃ C, chkF tcF L.length (L.map Fc.rings) (L.map Fc.ls) = C := ⟨_, rfl⟩
  have HC := Lib.hid hC
  rw [hC] at HF
  have HRC : Hid (∀ x, RCheckIs L.length (L.map Fc.rings) (L.map Fc.ls) x ↔ (C ≠ 0 ∧ x = C) ∨ (C = 0 ∧ RValIs (L.map Fc.rings) (allSd (L.map Fc.rings)) x)) := Lib.hid (fun x => by unfold RCheckIs; rw [hC])
  generalize L.map Fc.rings = F at *
  generalize L.map Fc.ls = LS at *
  generalize L.length = N at *
  clear hr hok hC h1 h2 hl ha
  go_enter Try.func14, Try.ntmps14
  go_wp2_with fail
  refine HF.out.mono ?_
  rintro e w1 ⟨rfl, hb1⟩
  by_cases hc : C = 0
  · have hc' : (C != 0) = false := by simp [hc]
    have HVV := Lib.hid (HV.out w1 hb1)
    have HC2 := Lib.hid hc
    clear HV hc
    go_wp2_with fail
    refine HVV.out.mono ?_
    rintro e w2 ⟨⟨x, rfl, hx⟩, hb2⟩
    have HX := Lib.hid ((HRC.out x).2 (.inr ⟨HC2.out, hx⟩))
    have hb3 := hb1.trans (hb2.mono hb1.size)
    clear hx
    go_wp2
    go_ret
    exact ⟨⟨x, rfl, HX.out⟩, hb3⟩
  · have hc' : (C != 0) = true := by simp [hc]
    have HX := Lib.hid ((HRC.out C).2 (.inl ⟨hc, rfl⟩))
    go_wp2
    go_ret
    exact ⟨⟨C, rfl, HX.out⟩, hb1⟩

set_option maxHeartbeats 3200000 in
theorem cchecks_walk (a : Option Addr) (c : Nat) (X : List Fc) (hl : X.length ≤ c) (hm : c ≤ maxLen) (w : World) (hr : Rd w a (fcs X)) (hx : ∀ y ∈ X, FcIn w y) :
    Calls Try.prog 3 #[.slice a X.length c] w fun e w' => e = .returned (.bool true) ∧ Below w.heap.size w w' := by
  have HFW := Lib.hid (few_any a c X hl hm 40 (by decide) w hr (fun f hf => (hx f hf).in))
  have HWF := Lib.hid (fun f hf => (hx f hf).2.2)
  generalize X.length = N at *
  clear hr hl hm
  go_enter Try.func3, Try.ntmps3
  go_wp2_with fail
  refine HFW.out.mono ?_
  rintro e w1 ⟨fs, v, rfl, hO, hT, hP, hb1⟩
  obtain ⟨s1, s2, s3, s4, s5⟩ := few_13 hP Pt.Wf (fun f hf => HWF.out f hf)
  have s6 := few_ats hP
  obtain ⟨a1, c1, rfl, hc1, hc2, hc3, hR1, -⟩ := hO.form
  have hOK : ∀ f ∈ fs, f.Ok w1 := fun f hf => (hT f hf).1
  have HOF := Lib.hid (ofs12_any a1 c1 fs (by omega) (fun f hf => by have := s2 f hf; exact ⟨by omega, by omega, fun r hr => by have := this.2.2 r hr; omega⟩) w1 hR1 hOK)
  have HV := Lib.hid (fun W (hW : Below w1.heap.size w1 W) => valid_any a1 c1 fs (by omega) (by omega) (by rw [allEd_len]; omega) (by omega) (fun f hf r hr => by have := (s2 f hf).2.2 r hr; omega) (fun f hf => by have := s2 f hf; omega) s5 W (hR1.keep hW) (fun f hf => (hOK f hf).keep hW))
  have HK := Lib.hid (fun W (hW : Below w1.heap.size w1 W) => ccheck_any tcF a1 c1 fs (by omega) (by omega) (by omega) (fun f hf r hr => by have := (s2 f hf).2.2 r hr; omega) (fun f hf => by have := s2 f hf; omega) W (hR1.keep hW) (fun f hf => (hOK f hf).keep hW) (fun f hf W2 h2 => tcheck_any f.aa f.ac f.ls (by have := s2 f hf; omega) (fun x hx => by have := (s6 f hf).2 x hx; unfold AtOk maxLen; omega) W2 h2))
  have HS : Hid (fs.length ≤ 10 ∧ cntP (fs.map Fc.rings) ≤ 40 ∧ cntR (fs.map Fc.rings) ≤ 80 ∧ (∀ f ∈ fs, AtsOk f.ls) ∧ ∀ f ∈ fs, f.rings.length ≤ 8 ∧ ∀ r ∈ f.rings, r.length ≤ 40) := Lib.hid ⟨s1, s3, s4, s6, fun f hf => by
    have := s2 f hf
    refine ⟨by simp [Fc.rings]; omega, fun r hr => ?_⟩
    obtain ⟨x, hx, rfl⟩ := List.mem_map.1 hr
    exact this.2.2 x hx⟩
  obtain ⟨n, hn⟩ : ∃ n, fs.length = n := ⟨_, rfl⟩
  have HN := Lib.hid hn
  rw [hn] at hc1 HV HK HOF ⊢
  clear hO hT hP hR1 s1 s2 s3 s4 s5 s6 HFW HWF hn hx hOK
  go_wp2_with fail
  refine HOF.out.mono ?_
  rintro e w2 ⟨gs, v2, rfl, hO2, hT2, hPL, hb2⟩
  clear HOF
  obtain ⟨p1, p2, p3⟩ := plain_three hPL
  obtain ⟨a2, c2, rfl, hd1, hd2, hd3, hR2, -⟩ := hO2.form
  have hOK2 : ∀ f ∈ gs, f.Ok w2 := fun f hf => (hT2 f hf).1
  obtain ⟨t1, t2, t3, t4, t5⟩ := HS.out
  have u4 := mem_ls (P := AtsOk) p2 t4
  have u5 := mem_rings (P := fun R => R.length ≤ 8 ∧ ∀ r ∈ R, r.length ≤ 40) p1 t5
  have u6 : ∀ f ∈ gs, f.rs.length ≤ 1000 ∧ ∀ r ∈ f.rs, r.l.length ≤ 1000 := fun f hf => by
    have := u5 f hf
    refine ⟨by have h := this.1; simp [Fc.rings] at h; omega, fun r hr => ?_⟩
    have := this.2 r.l (List.mem_map_of_mem hr)
    omega
  have HRV := Lib.hid (fun W (hW : Below w2.heap.size w2 W) => rvalid_any a2 c2 gs (by omega) u6 (by rw [p1]; omega) (by rw [p1]; omega) (by rw [p1, allSd_len]; omega) W (hR2.keep hW) (fun f hf => (hOK2 f hf).keep hW))
  have HRK := Lib.hid (fun W (hW : Below w2.heap.size w2 W) => rcheck13_any a2 c2 gs (by omega) u6 u4 (by rw [p1]; omega) (by rw [p1]; omega) W (hR2.keep hW) (fun f hf => (hOK2 f hf).keep hW))
  rw [p1, p3, HN.out] at HRV HRK
  rw [p2] at HRK
  rw [p3, HN.out] at hd1 ⊢
  clear hO2 hT2 hPL hR2 hOK2 t1 t2 t3 t4 t5 u4 u5 u6 p1 p2 p3 HS
  have HJ := Lib.hid (fun x y (h1 : RValIs (fs.map Fc.rings) (allSd (fs.map Fc.rings)) x) (h2 : ValidIs (fs.map Fc.rings) y) => rval_valid h1 h2)
  have HJ2 := Lib.hid (fun x y (h1 : RCheckIs n (fs.map Fc.rings) (fs.map Fc.ls) x) (h2 : CheckIs tcF n (fs.map Fc.rings) (fs.map Fc.ls) y) => rcheck_check h1 h2)
  have hb3 := hb1.trans (hb2.mono hb1.size)
  go_wp2_with fail
  refine (known13 w2).mono ?_
  rintro e w3 ⟨rfl, hb4⟩
  have hb5 := hb3.trans (hb4.mono hb3.size)
  have hb6 := hb2.trans (hb4.mono hb2.size)
  go_wp2_with fail
  refine (HV.out w3 hb6).mono ?_
  rintro e w4 ⟨⟨x, rfl, hx⟩, hb7⟩
  have hb8 := hb5.trans (hb7.mono hb5.size)
  have hb9 := hb6.trans (hb7.mono hb6.size)
  have hb10 := hb4.trans (hb7.mono hb4.size)
  have HX := Lib.hid hx
  clear hx HV hb7 hb4 hb5 hb6 hb3
  go_wp2_with fail
  refine (HRV.out w4 hb10).mono ?_
  rintro e w5 ⟨⟨y, rfl, hy⟩, hb11⟩
  obtain rfl := HJ.out y x hy HX.out
  have hb12 := hb8.trans (hb11.mono hb8.size)
  have hb13 := hb9.trans (hb11.mono hb9.size)
  have hb14 := hb10.trans (hb11.mono hb10.size)
  clear HRV hy HX HJ hb11 hb8 hb9 hb10
  go_wp2_with fail
  refine (HK.out w5 hb13).mono ?_
  rintro e w6 ⟨⟨z, rfl, hz⟩, hb15⟩
  have hb16 := hb12.trans (hb15.mono hb12.size)
  have hb17 := hb14.trans (hb15.mono hb14.size)
  have HZ := Lib.hid hz
  clear hz HK hb15 hb12 hb13 hb14
  go_wp2_with fail
  refine (HRK.out w6 hb17).mono ?_
  rintro e w7 ⟨⟨u, rfl, hu⟩, hb18⟩
  obtain rfl := HJ2.out u z hu HZ.out
  have hb19 := hb16.trans (hb18.mono hb16.size)
  clear HRK hu HZ HJ2
  go_wp2
  go_ret
  exact ⟨rfl, hb19⟩
theorem cchecks_law {w : World} (a : Option Addr) (c : Nat) (X : List Fc) (hl : X.length ≤ c) (hm : c ≤ maxLen) (hn : a = none → c = 0) (hr : Rd w a (fcs X)) (hx : ∀ y ∈ X, FcIn w y) :
    Calls Try.prog 3 #[.slice a X.length c] w fun e w' => e = .returned (.bool true) ∧ Below w.heap.size w w' :=
  cchecks_walk a c X hl hm w hr hx
end Go.Proofs.Ytccamjnomjcchaa
