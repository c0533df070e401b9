/-
  ring.First.
-/
import Derived.Test.YtkdibaphmkaaoaaPk28
import Derived.Test.YtkdibaphmkaaoaaPk10
import Derived.Test.YtkdibaphmkaaoaaPk5
import Derived.Test.YtkdibaphmkaaoaaPk2
/- ring.First. -/
set_option linter.unusedVariables false
set_option linter.unusedSimpArgs false
set_option maxRecDepth 100000
namespace Go
open Go.RowKit
theorem ptsDrop (l : List Pt) (n : Nat) : (pts l).drop (n * 2) = pts (l.drop n) := by
  induction l generalizing n with
  | nil => simp [pts]
  | cons f l ih =>
    cases n with
    | zero => simp [pts]
    | succ n =>
      rw [show (n + 1) * 2 = n * 2 + 1 + 1 by omega]
      show (Value.int .i64 f.x :: Value.int .i64 f.y :: pts l).drop (n * 2 + 1 + 1) = _
      rw [List.drop_succ_cons, List.drop_succ_cons, ih, List.drop_succ_cons]
end Go
namespace Go.Proofs.Ytkdibaphmkaaoaa
open Go.RowKit
set_option maxHeartbeats 3200000 in
theorem first_any (a : Option Addr) (c : Nat) (L : List Pt) (hlen : L.length ≤ 1000000) (hlc : L.length ≤ c) (hcm : c ≤ maxLen) (hc : a = none → c = 0) (w : World) (hr : Rd w a (pts L)) :
    Calls Try.prog 19 #[.slice a L.length c] w fun e w' => (∃ v s, e = .returned v ∧ w'.ownsRow w.heap.size 46 2 v (rotR s L).length (pts (rotR s L))) ∧ Below w.heap.size w w' := by
  have HR := Lib.hid hr
  obtain ⟨N, hN⟩ : ∃ N, L.length = N := ⟨_, rfl⟩
  have HN := Lib.hid hN
  rw [hN] at hlen hlc ⊢
  unfold maxLen at hcm
  have HCL := Lib.hid (fun W a c L h1 h2 h3 => cloneP_any a c L h1 W h2 h3)
  clear hr hN
  go_enter Try.func19, Try.ntmps19
  go_wp2
  go_loopw [3, 8] (fun s i wr => ∃ (k m : Nat), k ≤ N ∧ i = .int .i64 k ∧ s = .int .i64 m ∧ (m < N ∨ (m = 0 ∧ k = 0)) ∧ Below w.heap.size w wr) (fun _ i _ => N - (intOf i).toNat)
  case atStart => exact ⟨0, 0, by omega, rfl, rfl, .inr ⟨rfl, rfl⟩, Below.refl _ _⟩
  case round =>
    obtain ⟨k, m, hk, rfl, rfl, hm, hbl⟩ := hrel
    by_cases h1 : k < N
    · have h1' : (k : Int) < (N : Int) := by omega
      have hmN : m < N := by omega
      have hmI : (m : Int) < (N : Int) := by omega
      have hkl : k < L.length := by rw [HN.out]; exact h1
      have hml : m < L.length := by rw [HN.out]; exact hmN
      have HRW := Lib.hid (HR.out.keep hbl)
      obtain ⟨b, o, rfl, hb, c0, c1⟩ := HRW.out.pt k hkl
      obtain ⟨b', o', he, hb', d0, d1⟩ := HRW.out.pt m hml
      cases he
      have HLS := Lib.hid (fun W => xless_any L[k] L[m] W)
      generalize L[k] = p at *
      generalize L[m] = q at *
      obtain ⟨px, py⟩ := p
      obtain ⟨qx, qy⟩ := q
      dsimp only [Pt.val] at c0 c1 d0 d1 HLS
      obtain ⟨LB, hLB⟩ : ∃ l, lessP ⟨px, py⟩ ⟨qx, qy⟩ = l := ⟨_, rfl⟩
      rw [hLB] at HLS
      have kA := Blk.new wr [.int .i64 px, .int .i64 py] 46
      have hbA := Below.new wr (.cells #[.int .i64 px, .int .i64 py] 46)
      have d0' := (hbA.cell (p := ⟨b, o + m * 2, none⟩) hb).trans d0
      have d1' := (hbA.cell (p := ⟨b, o + m * 2 + 1, none⟩) hb).trans d1
      have hbl2 := (hbl.trans (hbA.mono hbl.size)).drew
      have q0 := kA.drew.cell 0 rfl
      have q1 := kA.drew.cell 1 rfl
      replace d0' : (wr.alloc (.cells #[.int .i64 px, .int .i64 py] 46)).drew.cell? ⟨b, o + m * 2, none⟩ = _ := d0'
      replace d1' : (wr.alloc (.cells #[.int .i64 px, .int .i64 py] 46)).drew.cell? ⟨b, o + m * 2 + 1, none⟩ = _ := d1'
      clear kA hbA hm hLB d0 d1
      go_wp2
      have hbS : b < wr.heap.size := hb
      have hwz : wr.heap.size < (wr.alloc (.cells #[.int .i64 px, .int .i64 py] 46)).drew.heap.size := by show wr.heap.size < (wr.alloc _).heap.size; simp
      have hbz : b < (wr.alloc (.cells #[.int .i64 px, .int .i64 py] 46)).drew.heap.size := by omega
      obtain ⟨S0, hS0⟩ : ∃ n, wr.heap.size = n := ⟨_, rfl⟩
      rw [hS0] at q0 q1 hwz hbS
      refine wp_region_lit_txt [0, 1, 2, 3, 4] (fun W => Below (wr.alloc (.cells #[.int .i64 px, .int .i64 py] 46)).drew.heap.size (wr.alloc (.cells #[.int .i64 px, .int .i64 py] 46)).drew W) (by kernel_rfl) (by kernel_rfl) (by kernel_rfl) (Below.refl _ _) ?_
      generalize (wr.alloc (.cells #[.int .i64 px, .int .i64 py] 46)).drew = wA at *
      refine txt_light (.agg #[.int .i64 px, .int .i64 py]) rfl rfl ?_ ?_
      · intro w' hS
        have z0 := (hS.cell (p := ⟨S0, 0, none⟩) hwz).trans q0
        have z1 := (hS.cell (p := ⟨S0, 1, none⟩) hwz).trans q1
        clear hS q0 q1
        go_simp
      try simp only [Act.put, List.getElem_toArray, List.getElem_cons_succ, List.getElem_cons_zero, List.setIfInBounds_toArray, List.set_cons_zero, List.set_cons_succ]
      (refine txt_light ?_ rfl rfl ?_ ?_; rotate_left; · (intro w' hS; (try dsimp only at hS); go_simp; with_reducible rfl)); try simp only [Act.put, List.getElem_toArray, List.getElem_cons_succ, List.getElem_cons_zero, List.setIfInBounds_toArray, List.set_cons_zero, List.set_cons_succ]
      (refine txt_light ?_ rfl rfl ?_ ?_; rotate_left; · (intro w' hS; (try dsimp only at hS); go_simp; with_reducible rfl)); try simp only [Act.put, List.getElem_toArray, List.getElem_cons_succ, List.getElem_cons_zero, List.setIfInBounds_toArray, List.set_cons_zero, List.set_cons_succ]
      (refine txt_light ?_ rfl rfl ?_ ?_; rotate_left; · (intro w' hS; (try dsimp only at hS); go_simp; with_reducible rfl)); try simp only [Act.put, List.getElem_toArray, List.getElem_cons_succ, List.getElem_cons_zero, List.setIfInBounds_toArray, List.set_cons_zero, List.set_cons_succ]
      refine txt_light (.agg #[.int .i64 qx, .int .i64 qy]) rfl rfl ?_ ?_
      · intro w' hS
        have z0 := (hS.cell (p := ⟨b, o + m * 2, none⟩) hbz).trans d0'
        have z1 := (hS.cell (p := ⟨b, o + m * 2 + 1, none⟩) hbz).trans d1'
        clear hS q0 q1 d0' d1'
        go_simp
      try simp only [Act.put, List.getElem_toArray, List.getElem_cons_succ, List.getElem_cons_zero, List.setIfInBounds_toArray, List.set_cons_zero, List.set_cons_succ]
      refine txt_call [.agg #[.int .i64 px, .int .i64 py], .agg #[.int .i64 qx, .int .i64 qy]] Try.f43 rfl rfl Try.func43 (by kernel_rfl) (by kernel_rfl) rfl ((HLS.out _).mono ?_)
      rintro e w4 ⟨rfl, hb4⟩
      have hb5 := hbl2.trans (hb4.mono hbl2.size)
      refine ⟨_, rfl, hb4, ?_⟩
      try simp only [Act.put, List.getElem_toArray, List.getElem_cons_succ, List.getElem_cons_zero, List.setIfInBounds_toArray, List.set_cons_zero, List.set_cons_succ]
      refine txt_nil ?_
      clear hb4 hbl2 hbl q0 q1 d0' d1' c0 c1 hS0
      cases LB with
      | true =>
        go_wp2
        exact ⟨⟨k + 1, k, by omega, by go_num, rfl, .inl h1, hb5⟩, by simp [intOf]; omega⟩
      | false =>
        go_wp2
        exact ⟨⟨k + 1, m, by omega, by go_num, rfl, .inl hmN, hb5⟩, by simp [intOf]; omega⟩
    · have h1' : ¬ (k : Int) < (N : Int) := by omega
      obtain rfl : k = N := by omega
      by_cases h0 : k = 0
      · subst h0
        obtain rfl : m = 0 := by omega
        have hL0 : L = [] := List.eq_nil_of_length_eq_zero HN.out
        have HC0 := Lib.hid (fun W a c h3 => HCL.out W a c [] (by simp) (Rd.nil _ _) h3)
        clear HCL
        have hfin : ∀ (v : Value) (W : World), W.ownsRow w.heap.size 46 2 v 0 (pts []) → W.ownsRow w.heap.size 46 2 v (rotR 0 L).length (pts (rotR 0 L)) := fun v W h => by
          rw [hL0]; exact h
        have HF := Lib.hid hfin
        clear hfin hm h1 h1'
        cases a with
        | none =>
          have hc0 := hc rfl
          subst hc0
          go_wp2
          refine wp_region_lit_txt [0, 1, 2, 4, 5, 6, 8] (fun W => True) (by kernel_rfl) (by kernel_rfl) (by kernel_rfl) trivial ?_
          have hbd := hbl.drew
          generalize wr.drew = W0 at *
          (refine txt_light ?_ rfl rfl ?_ ?_; rotate_left; · (intro w' hS; (try dsimp only at hS); go_simp; with_reducible rfl)); try simp only [Act.put, List.getElem_toArray, List.getElem_cons_succ, List.getElem_cons_zero, List.setIfInBounds_toArray, List.set_cons_zero, List.set_cons_succ]
          (refine txt_light ?_ rfl rfl ?_ ?_; rotate_left; · (intro w' hS; (try dsimp only at hS); go_simp; with_reducible rfl)); try simp only [Act.put, List.getElem_toArray, List.getElem_cons_succ, List.getElem_cons_zero, List.setIfInBounds_toArray, List.set_cons_zero, List.set_cons_succ]
          (refine txt_light ?_ rfl rfl ?_ ?_; rotate_left; · (intro w' hS; (try dsimp only at hS); go_simp; with_reducible rfl)); try simp only [Act.put, List.getElem_toArray, List.getElem_cons_succ, List.getElem_cons_zero, List.setIfInBounds_toArray, List.set_cons_zero, List.set_cons_succ]
          refine txt_call [.slice none 0 0] Try.f44 rfl rfl Try.func44 (by kernel_rfl) (by kernel_rfl) rfl ((HC0.out W0 (none) 0 (fun _ => rfl)).mono ?_)
          rintro e W1 ⟨v1, rfl, hO1, hb1⟩
          refine ⟨v1, rfl, trivial, ?_⟩
          have hO1' := hO1.mono hbd.size
          have hbd1 := hbd.trans (hb1.mono hbd.size)
          try simp only [Act.put, List.getElem_toArray, List.getElem_cons_succ, List.getElem_cons_zero, List.setIfInBounds_toArray, List.set_cons_zero, List.set_cons_succ]
          (refine txt_light ?_ rfl rfl ?_ ?_; rotate_left; · (intro w' hS; (try dsimp only at hS); go_simp; with_reducible rfl)); try simp only [Act.put, List.getElem_toArray, List.getElem_cons_succ, List.getElem_cons_zero, List.setIfInBounds_toArray, List.set_cons_zero, List.set_cons_succ]
          (refine txt_light ?_ rfl rfl ?_ ?_; rotate_left; · (intro w' hS; (try dsimp only at hS); go_simp; with_reducible rfl)); try simp only [Act.put, List.getElem_toArray, List.getElem_cons_succ, List.getElem_cons_zero, List.setIfInBounds_toArray, List.set_cons_zero, List.set_cons_succ]
          (refine txt_light ?_ rfl rfl ?_ ?_; rotate_left; · (intro w' hS; (try dsimp only at hS); go_simp; with_reducible rfl)); try simp only [Act.put, List.getElem_toArray, List.getElem_cons_succ, List.getElem_cons_zero, List.setIfInBounds_toArray, List.set_cons_zero, List.set_cons_succ]
          refine txt_app w hbd1 rfl rfl (.tmp 24) (.tmp 27) 40 rfl 46 (.agg #[.int .i64 0, .int .i64 0]) 2 16 Try.underlying40 Try.infoZP rfl (by decide) v1 0 (pts []) rfl hO1' none 0 0 (pts []) rfl (fun _ => rfl) (Rd.nil _ _) rfl (pts_one _) (by omega) (by decide) ?_
          intro v2 W2 hO2 _ hb2
          refine ⟨trivial, ?_⟩
          try simp only [Act.put, List.getElem_toArray, List.getElem_cons_succ, List.getElem_cons_zero, List.setIfInBounds_toArray, List.set_cons_zero, List.set_cons_succ]
          (refine txt_light ?_ rfl rfl ?_ ?_; rotate_left; · (intro w' hS; (try dsimp only at hS); go_simp; with_reducible rfl)); try simp only [Act.put, List.getElem_toArray, List.getElem_cons_succ, List.getElem_cons_zero, List.setIfInBounds_toArray, List.set_cons_zero, List.set_cons_succ]
          refine txt_nil ?_
          have HO2 := Lib.hid (HF.out v2 W2 hO2)
          clear hO1 hO1' hO2 HF
          go_wp2
          refine bodyPost_ret (v := v2) (by simp [results, Try.results19, go_sem]) rfl ⟨⟨v2, 0, rfl, HO2.out⟩, hb2⟩
        | some ad =>
          go_wp2
          refine wp_region_lit_txt [0, 1, 2, 4, 5, 6, 8] (fun W => True) (by kernel_rfl) (by kernel_rfl) (by kernel_rfl) trivial ?_
          have hbd := hbl.drew
          generalize wr.drew = W0 at *
          (refine txt_light ?_ rfl rfl ?_ ?_; rotate_left; · (intro w' hS; (try dsimp only at hS); go_simp; with_reducible rfl)); try simp only [Act.put, List.getElem_toArray, List.getElem_cons_succ, List.getElem_cons_zero, List.setIfInBounds_toArray, List.set_cons_zero, List.set_cons_succ]
          (refine txt_light ?_ rfl rfl ?_ ?_; rotate_left; · (intro w' hS; (try dsimp only at hS); go_simp; with_reducible rfl)); try simp only [Act.put, List.getElem_toArray, List.getElem_cons_succ, List.getElem_cons_zero, List.setIfInBounds_toArray, List.set_cons_zero, List.set_cons_succ]
          (refine txt_light ?_ rfl rfl ?_ ?_; rotate_left; · (intro w' hS; (try dsimp only at hS); go_simp; with_reducible rfl)); try simp only [Act.put, List.getElem_toArray, List.getElem_cons_succ, List.getElem_cons_zero, List.setIfInBounds_toArray, List.set_cons_zero, List.set_cons_succ]
          refine txt_call [.slice (some ad) 0 c] Try.f44 rfl rfl Try.func44 (by kernel_rfl) (by kernel_rfl) rfl ((HC0.out W0 (some ad) c (fun h => by cases h)).mono ?_)
          rintro e W1 ⟨v1, rfl, hO1, hb1⟩
          refine ⟨v1, rfl, trivial, ?_⟩
          have hO1' := hO1.mono hbd.size
          have hbd1 := hbd.trans (hb1.mono hbd.size)
          try simp only [Act.put, List.getElem_toArray, List.getElem_cons_succ, List.getElem_cons_zero, List.setIfInBounds_toArray, List.set_cons_zero, List.set_cons_succ]
          (refine txt_light ?_ rfl rfl ?_ ?_; rotate_left; · (intro w' hS; (try dsimp only at hS); go_simp; with_reducible rfl)); try simp only [Act.put, List.getElem_toArray, List.getElem_cons_succ, List.getElem_cons_zero, List.setIfInBounds_toArray, List.set_cons_zero, List.set_cons_succ]
          (refine txt_light ?_ rfl rfl ?_ ?_; rotate_left; · (intro w' hS; (try dsimp only at hS); go_simp; with_reducible rfl)); try simp only [Act.put, List.getElem_toArray, List.getElem_cons_succ, List.getElem_cons_zero, List.setIfInBounds_toArray, List.set_cons_zero, List.set_cons_succ]
          (refine txt_light ?_ rfl rfl ?_ ?_; rotate_left; · (intro w' hS; (try dsimp only at hS); go_simp; with_reducible rfl)); try simp only [Act.put, List.getElem_toArray, List.getElem_cons_succ, List.getElem_cons_zero, List.setIfInBounds_toArray, List.set_cons_zero, List.set_cons_succ]
          refine txt_app w hbd1 rfl rfl (.tmp 24) (.tmp 27) 40 rfl 46 (.agg #[.int .i64 0, .int .i64 0]) 2 16 Try.underlying40 Try.infoZP rfl (by decide) v1 0 (pts []) rfl hO1' (some ad) 0 c (pts []) rfl (fun h => by cases h) (Rd.nil _ _) rfl (pts_one _) (by omega) (by decide) ?_
          intro v2 W2 hO2 _ hb2
          refine ⟨trivial, ?_⟩
          try simp only [Act.put, List.getElem_toArray, List.getElem_cons_succ, List.getElem_cons_zero, List.setIfInBounds_toArray, List.set_cons_zero, List.set_cons_succ]
          (refine txt_light ?_ rfl rfl ?_ ?_; rotate_left; · (intro w' hS; (try dsimp only at hS); go_simp; with_reducible rfl)); try simp only [Act.put, List.getElem_toArray, List.getElem_cons_succ, List.getElem_cons_zero, List.setIfInBounds_toArray, List.set_cons_zero, List.set_cons_succ]
          refine txt_nil ?_
          have HO2 := Lib.hid (HF.out v2 W2 hO2)
          clear hO1 hO1' hO2 HF
          go_wp2
          refine bodyPost_ret (v := v2) (by simp [results, Try.results19, go_sem]) rfl ⟨⟨v2, 0, rfl, HO2.out⟩, hb2⟩
      · have hmN : m < k := by omega
        have hml : m < L.length := by rw [HN.out]; exact hmN
        have HRW := Lib.hid (HR.out.keep hbl)
        obtain ⟨b, o, rfl, hb, c0, c1⟩ := HRW.out.pt m hml
        have hmc : m ≤ c := by omega
        have hmk : m ≤ k := by omega
        have hmI : (m : Int) ≤ (k : Int) := by omega
        have hcm2 : ¬ c = m := by omega
        have HRT : Hid (Rd wr (some ⟨b, o, none⟩) (pts (L.take m))) := Lib.hid (by have := HRW.out.take (m * 2); rwa [pts_take] at this)
        have HRD : Hid (Rd wr (some ⟨b, o + m * 2, none⟩) (pts (L.drop m))) := Lib.hid (by have := HRW.out.drop (m * 2); rwa [ptsDrop] at this)
        have HDL : Hid ((L.drop m).length = k - m) := Lib.hid (by rw [List.length_drop, HN.out])
        have HTL : Hid ((L.take m).length = m) := Lib.hid (by rw [List.length_take, HN.out]; omega)
        clear c0 c1 hm h1 h1' hml
        go_wp2
        refine wp_region_lit_txt [0, 1, 2, 4, 5, 6, 8] (fun W => True) (by kernel_rfl) (by kernel_rfl) (by kernel_rfl) trivial ?_
        have hbd := hbl.drew
        have HT0 : Hid (Rd wr.drew (some ⟨b, o, none⟩) (pts (L.take m))) := HRT
        have HD0 : Hid (Rd wr.drew (some ⟨b, o + m * 2, none⟩) (pts (L.drop m))) := HRD
        clear HRT HRD HRW hbl
        generalize wr.drew = W0 at *
        (refine txt_light ?_ rfl rfl ?_ ?_; rotate_left; · (intro w' hS; (try dsimp only at hS); go_simp; with_reducible rfl)); try simp only [Act.put, List.getElem_toArray, List.getElem_cons_succ, List.getElem_cons_zero, List.setIfInBounds_toArray, List.set_cons_zero, List.set_cons_succ]
        (refine txt_light ?_ rfl rfl ?_ ?_; rotate_left; · (intro w' hS; (try dsimp only at hS); go_simp; with_reducible rfl)); try simp only [Act.put, List.getElem_toArray, List.getElem_cons_succ, List.getElem_cons_zero, List.setIfInBounds_toArray, List.set_cons_zero, List.set_cons_succ]
        refine txt_light (.slice (some ⟨b, o + m * 2, none⟩) (k - m) (c - m)) rfl rfl ?_ ?_
        · intro w' hS
          clear hS
          go_simp
        try simp only [Act.put, List.getElem_toArray, List.getElem_cons_succ, List.getElem_cons_zero, List.setIfInBounds_toArray, List.set_cons_zero, List.set_cons_succ]
        refine txt_call [.slice (some ⟨b, o + m * 2, none⟩) (k - m) (c - m)] Try.f44 rfl rfl Try.func44 (by kernel_rfl) (by kernel_rfl) rfl ?_
        rw [← HDL.out]
        refine (HCL.out W0 _ _ (L.drop m) (by rw [HDL.out]; omega) HD0.out (by simp)).mono ?_
        rintro e W1 ⟨v1, rfl, hO1, hb1⟩
        refine ⟨v1, rfl, trivial, ?_⟩
        have HT1 := Lib.hid (HT0.out.keep hb1)
        have hO1' := hO1.mono hbd.size
        try simp only [Act.put, List.getElem_toArray, List.getElem_cons_succ, List.getElem_cons_zero, List.setIfInBounds_toArray, List.set_cons_zero, List.set_cons_succ]
        (refine txt_light ?_ rfl rfl ?_ ?_; rotate_left; · (intro w' hS; (try dsimp only at hS); go_simp; with_reducible rfl)); try simp only [Act.put, List.getElem_toArray, List.getElem_cons_succ, List.getElem_cons_zero, List.setIfInBounds_toArray, List.set_cons_zero, List.set_cons_succ]
        (refine txt_light ?_ rfl rfl ?_ ?_; rotate_left; · (intro w' hS; (try dsimp only at hS); go_simp; with_reducible rfl)); try simp only [Act.put, List.getElem_toArray, List.getElem_cons_succ, List.getElem_cons_zero, List.setIfInBounds_toArray, List.set_cons_zero, List.set_cons_succ]
        refine txt_light (.slice (some ⟨b, o, none⟩) m c) rfl rfl ?_ ?_
        · intro w' hS
          clear hS
          go_simp
        try simp only [Act.put, List.getElem_toArray, List.getElem_cons_succ, List.getElem_cons_zero, List.setIfInBounds_toArray, List.set_cons_zero, List.set_cons_succ]
        have hbd1 := hbd.trans (hb1.mono hbd.size)
        refine txt_app w hbd1 rfl rfl (.tmp 24) (.tmp 27) 40 rfl 46 (.agg #[.int .i64 0, .int .i64 0]) 2 16 Try.underlying40 Try.infoZP rfl (by decide) v1 (L.drop m).length (pts (L.drop m)) rfl hO1' (some ⟨b, o, none⟩) m c (pts (L.take m)) rfl (by simp) HT1.out (by rw [pts_len, HTL.out]) (pts_one _) (by rw [HDL.out]; omega) (by decide) ?_
        intro v2 W2 hO2 _ hb2
        refine ⟨trivial, ?_⟩
        try simp only [Act.put, List.getElem_toArray, List.getElem_cons_succ, List.getElem_cons_zero, List.setIfInBounds_toArray, List.set_cons_zero, List.set_cons_succ]
        (refine txt_light ?_ rfl rfl ?_ ?_; rotate_left; · (intro w' hS; (try dsimp only at hS); go_simp; with_reducible rfl)); try simp only [Act.put, List.getElem_toArray, List.getElem_cons_succ, List.getElem_cons_zero, List.setIfInBounds_toArray, List.set_cons_zero, List.set_cons_succ]
        refine txt_nil ?_
        have HO2 : Hid (W2.ownsRow w.heap.size 46 2 v2 (rotR m L).length (pts (rotR m L))) := Lib.hid (by
          have e1 : (rotR m L).length = (L.drop m).length + m := by unfold rotR; rw [List.length_append, HTL.out]
          have e2 : pts (rotR m L) = pts (L.drop m) ++ pts (L.take m) := by unfold rotR pts; rw [List.flatMap_append]
          rw [e1, e2]; exact hO2)
        clear hO1 hO1' hO2 HT1 HT0 HD0 HDL HTL
        go_wp2
        refine bodyPost_ret (v := v2) (by simp [results, Try.results19, go_sem]) rfl ⟨⟨v2, m, rfl, HO2.out⟩, hb2⟩
end Go.Proofs.Ytkdibaphmkaaoaa
