/-
  SnapExact: the walk.
-/
import Derived.Test.YtediblljgakoeaaPk20
import Derived.Test.YtediblljgakoeaaPk2
import Derived.Test.YtediblljgakoeaaPk12
/- SnapExact: the walk. -/
set_option linter.unusedVariables false
set_option linter.unusedSimpArgs false
set_option maxRecDepth 100000
namespace Go
theorem wp_post {P : Program} {c : Code} {Q : Exit → Act → World → Prop} {a : Act} {w : World} (h : ∀ R : Exit → Act → World → Prop, R = Q → c.wp P R a w) : c.wp P Q a w := h Q rfl
end Go
namespace Go.Proofs.Ytediblljgakoeaa
open Go.RowKit

set_option maxHeartbeats 16000000 in
theorem snapexact_any {w : World} (a0 : Option Addr) (cap0 : Nat) (X0 : List Fc) (hl0 : X0.length ≤ cap0) (hm0 : cap0 ≤ maxLen) (hn0 : a0 = none → cap0 = 0) (hr0 : Rd w a0 (fcs X0)) (hw0 : ∀ y ∈ X0, FcIn w y) (z : Int) (wz : (Lit.int .i64 z).wf = true) (b : Int) (wb : (Lit.int .i64 b).wf = true) :
    Calls Try.prog 3 #[.slice a0 X0.length cap0, .int .i64 z, .int .i64 b] w fun e w' => e = .returned (.bool true) ∧ Below w.heap.size w w' := by
  have hz : -9223372036854775808 ≤ z ∧ z ≤ 9223372036854775807 := by
    simp [Lit.wf, IntKind.min, IntKind.max, IntKind.bits, IntKind.signed] at wz; omega
  have HFEW := Lib.hid (few_any a0 cap0 X0 hl0 hm0 30 (by omega) w hr0 (fun f hf => (hw0 f hf).in))
  clear hl0 hm0 hn0 hr0 hw0 wz wb
  obtain ⟨N0, hN0⟩ : ∃ N, X0.length = N := ⟨_, rfl⟩
  rw [hN0] at HFEW ⊢
  clear hN0
  go_enter Try.func3, Try.ntmps3
  go_wp2_with fail
  refine HFEW.out.mono ?_
  rintro e w1 ⟨fs, v1, rfl, hown1, hft1, hpl, hb1⟩
  obtain ⟨hfl, hfb⟩ := few_bd hpl
  obtain ⟨p1, c1, rfl, -, -, -, hr1, -⟩ := hown1.form
  clear HFEW hown1 hpl
  obtain ⟨L, hL⟩ : ∃ L, fs.map Fc.rings = L := ⟨_, rfl⟩
  have hLb : L.length ≤ 10 ∧ ∀ f ∈ L, f.length ≤ 8 ∧ ∀ r ∈ f, r.length ≤ 30 := by
    rw [← hL]
    refine ⟨by rw [List.length_map]; exact hfl, fun f hf => ?_⟩
    obtain ⟨g, hg, rfl⟩ := List.mem_map.1 hf
    have h := hfb g hg
    refine ⟨by simpa [Fc.rings] using h.1, fun r hr => ?_⟩
    obtain ⟨x, hx, rfl⟩ := List.mem_map.1 hr
    exact h.2.2 x hx
  have hSL := sides_len L 30 hLb.1 hLb.2
  have HFA := Lib.hid (fun W (h : Below w1.heap.size w1 W) => zfaces_any p1 c1 fs z b hz (by omega) (fun f hf => ⟨by have := (hfb f hf).1; omega, by have := (hfb f hf).2.1; omega, fun r hr => by have := (hfb f hf).2.2 r hr; omega⟩) W (hr1.keep h) (fun f hf => (hft1 f hf).1.keep h))
  have HEX := Lib.hid (fun W (h : Below w1.heap.size w1 W) => zexact_any p1 c1 fs z hz (by omega) (fun f hf => by have := (hfb f hf).1; omega) (fun f hf r hr => by have := (hfb f hf).2.2 r hr; omega) (by rw [hL]; omega) W (hr1.keep h) (fun f hf => (hft1 f hf).1.keep h))
  have HSD := Lib.hid (fun W (h : Below w1.heap.size w1 W) => fsides_any p1 c1 fs (by omega) (fun f hf => by have := (hfb f hf).1; omega) (fun f hf r hr => by have := (hfb f hf).2.2 r hr; omega) (by rw [hL]; omega) W (hr1.keep h) (fun f hf => (hft1 f hf).1.keep h))
  rw [hL] at HFA HEX HSD
  have HLB := Lib.hid hLb
  obtain ⟨N, hN⟩ : ∃ N, fs.length = N := ⟨_, rfl⟩
  rw [hN] at HFA HEX HSD ⊢
  clear hft1 hfb hr1 hfl hN hL hLb
  go_wp2_with fail
  refine (HFA.out w1 (Below.refl _ _)).mono ?_
  rintro e w2 ⟨v2, E2, rfl, hE2, hb2, hfs2⟩
  have hbw2 := hb1.trans (hb2.mono hb1.size)
  have HF2 := Lib.hid hfs2
  clear HFA hfs2
  by_cases hE : E2 = 0
  · subst hE
    have hfo : facesOk z b L = true := by
      cases h : facesOk z b L with
      | true => rfl
      | false => rw [h] at hE2; simp at hE2
    obtain ⟨gs, hgm, hown2, hgt⟩ := HF2.out hfo
    clear hE2 HF2
    obtain ⟨EX, hEX⟩ : ∃ EX, exactF z L = EX := ⟨_, rfl⟩
    rw [hEX] at HEX
    go_wp2_with fail
    refine (HEX.out w2 hb2).mono ?_
    rintro e w3 ⟨rfl, hb3⟩
    have hb13 := hb2.trans (hb3.mono hb2.size)
    have hbw3 := hbw2.trans (hb3.mono hbw2.size)
    cases EX with
    | false =>
      clear HEX HSD hown2 hgt hb13 hb2 hb3 hbw2
      go_wp2_with fail
      refine (zknown_any _).mono ?_
      rintro e w4 ⟨rfl, hb4⟩
      have hbz := hbw3.trans (hb4.mono hbw3.size)
      clear hb4
      go_wp2
      go_ret
      exact ⟨rfl, hbz⟩
    | true =>
      obtain ⟨p2, cc2, rfl, -, -, -, hr2, -⟩ := hown2.form
      obtain ⟨T, hT⟩ : ∃ T, L.map (fun f => f.map (ringF z b)) = T := ⟨_, rfl⟩
      rw [hT] at hgm
      have hgb : gs.length ≤ 10 ∧ ∀ g ∈ gs, g.rs.length ≤ 8 ∧ ∀ r ∈ g.rs, r.l.length ≤ 1950 := by
        have hTl : gs.length = L.length := by
          have := congrArg List.length (hgm.trans hT.symm)
          simpa using this
        refine ⟨by rw [hTl]; exact HLB.out.1, fun g hg => ?_⟩
        have hgT : g.rings ∈ T := by rw [← hgm]; exact List.mem_map_of_mem hg
        rw [← hT] at hgT
        obtain ⟨f, hf, hfe⟩ := List.mem_map.1 hgT
        have h := HLB.out.2 f hf
        refine ⟨by have := congrArg List.length hfe; simp [Fc.rings] at this; omega, fun r hr => ?_⟩
        have hrr : r.l ∈ g.rings := List.mem_map_of_mem hr
        rw [← hfe] at hrr
        obtain ⟨x, hx, hxe⟩ := List.mem_map.1 hrr
        rw [← hxe]
        exact ringF_len z b x (h.2 x hx)
      have hTb : T.length ≤ 10 ∧ ∀ f ∈ T, f.length ≤ 8 ∧ ∀ r ∈ f, r.length ≤ 1950 := by
        rw [← hgm]
        refine ⟨by rw [List.length_map]; exact hgb.1, fun f hf => ?_⟩
        obtain ⟨g, hg, rfl⟩ := List.mem_map.1 hf
        have h := hgb.2 g hg
        refine ⟨by simpa [Fc.rings] using h.1, fun r hr => ?_⟩
        obtain ⟨x, hx, rfl⟩ := List.mem_map.1 hr
        exact h.2 x hx
      have hTL := sides_len T 1950 hTb.1 hTb.2
      have HSD2 := Lib.hid (fun W (h : Below w2.heap.size w2 W) => fsides_any p2 cc2 gs (by have := hgb.1; omega) (fun f hf => by have := (hgb.2 f hf).1; omega) (fun f hf r hr => by have := (hgb.2 f hf).2 r hr; omega) (by rw [hgm]; omega) W (hr2.keep h) (fun f hf => (hgt f hf).1.keep h))
      rw [hgm] at HSD2
      obtain ⟨M, hM⟩ : ∃ M, gs.length = M := ⟨_, rfl⟩
      rw [hM] at HSD2 ⊢
      have HFOUND : Hid (∀ t ∈ allSd T, (∃ s ∈ allSd L, s.f = t.f ∧ s.r = t.r ∧ onX s.a s.b ⟨powD z * t.a.x, powD z * t.a.y⟩ = true ∧ onX s.a s.b ⟨powD z * t.b.x, powD z * t.b.y⟩ = true) ∧
          ((0 ≤ powD z * t.a.x ∧ powD z * t.a.x ≤ 65536) ∧ 0 ≤ powD z * t.a.y ∧ powD z * t.a.y ≤ 65536) ∧ (0 ≤ powD z * t.b.x ∧ powD z * t.b.x ≤ 65536) ∧ 0 ≤ powD z * t.b.y ∧ powD z * t.b.y ≤ 65536) :=
        Lib.hid fun t ht => exact_found hEX hfo (by rw [hT]; exact ht)
      have HOKP : Hid (∀ s ∈ allSd L, okPt s.a = true ∧ okPt s.b = true) := Lib.hid fun s hs => ex_okPt (ex_side hEX hs)
      have hlv : levelB z = true := by unfold exactF at hEX; rw [Bool.and_eq_true] at hEX; exact hEX.1
      have hz04 : 0 ≤ z ∧ z ≤ 4 := by unfold levelB at hlv; rw [decide_eq_true_eq] at hlv; exact hlv
      clear hown2 hgt hr2 hgm hT hgb hTb hM HEX hEX hfo hlv
      generalize hSLd : allSd L = SL at *
      generalize hTLd : allSd T = TL at *
      clear hSLd hTLd HLB
      go_wp2
      have HPW : Hid (powD z = 2 ^ (4 - z).toNat) := Lib.hid rfl
      generalize powD z = D at *
      go_loopw [9, 10] (fun dd i wr => ∃ (kd : Nat), kd ≤ (4 - z).toNat ∧ i = .int .i64 (z + kd) ∧ dd = .int .i64 (2 ^ kd) ∧ wr = w3) (fun _ i _ => (4 - intOf i).toNat)
      case atStart => exact ⟨0, Nat.zero_le _, by simp, rfl, rfl⟩
      case round =>
        obtain ⟨kd, hk, rfl, rfl, rfl⟩ := hrel
        by_cases hlt : z + kd < 4
        · have hkk : kd ≤ 3 := by omega
          have hp : (2 : Int) ^ (kd + 1) = 2 * 2 ^ kd := by rw [Int.pow_succ]; omega
          have hp1 : (1 : Int) ≤ 2 ^ kd ∧ (2 : Int) ^ kd ≤ 8 := by
            rcases (by omega : kd = 0 ∨ kd = 1 ∨ kd = 2 ∨ kd = 3) with rfl | rfl | rfl | rfl <;> decide
          obtain ⟨P, hP⟩ : ∃ P, (2 : Int) ^ kd = P := ⟨_, rfl⟩
          have HP := Lib.hid hP
          rw [hP] at hp1 hp ⊢
          have HPP := Lib.hid hp
          have hq0 := hp1.1
          have hq1 := hp1.2
          clear hP hp hp1
          go_wp2
          go_roundw
          case rel => exact ⟨kd + 1, by omega, by go_num, by rw [HPP.out], by first | rfl | trivial⟩
          case measure => simp [intOf]; omega
        · have hke : kd = (4 - z).toNat := by omega
          have hDD : (2 : Int) ^ kd = D := by rw [HPW.out, hke]
          rw [hDD]
          have hD1 : 1 ≤ D ∧ D ≤ 16 := by
            rw [← hDD]
            rcases (by omega : kd = 0 ∨ kd = 1 ∨ kd = 2 ∨ kd = 3 ∨ kd = 4) with rfl | rfl | rfl | rfl | rfl <;> decide
          have hD0 := hD1.1
          have hD2 := hD1.2
          clear hke hDD hD1 HPW
          go_wp2_with fail
          refine (HSD.out wr hb13).mono ?_
          rintro e w4 ⟨v4, rfl, hown4, hb4⟩
          obtain ⟨p4, cc4, rfl, -, -, -, hr4, -⟩ := hown4.form
          have hb24 := hb3.trans (hb4.mono hb3.size)
          have hbw4 := hbw3.trans (hb4.mono hbw3.size)
          clear hown4 HSD hb4
          go_wp2_with fail
          refine (HSD2.out w4 hb24).mono ?_
          rintro e w5 ⟨v5, rfl, hown5, hb5⟩
          obtain ⟨p5, cc5, rfl, -, -, -, hr5, -⟩ := hown5.form
          have hr45 := hr4.keep hb5
          have hbw5 := hbw4.trans (hb5.mono hbw4.size)
          clear hown5 HSD2 hb5 hr4 hb24 hbw4 hbw3 hb13 hb3 hb2 hbw2 hb1
          have HBW5 := Lib.hid hbw5
          clear hbw5
          go_wp2
          go_loopw [13] (fun i wr => ∃ k : Nat, k ≤ TL.length ∧ i = .int .i64 k ∧ Hid (Below w5.heap.size w5 wr)) (fun i _ => TL.length - (intOf i).toNat)
          case atStart => exact ⟨0, Nat.zero_le _, rfl, Lib.hid (Below.refl _ _)⟩
          case round =>
            obtain ⟨k, hk, rfl, HB⟩ := hrel
            by_cases hlt : k < TL.length
            · obtain ⟨t, ht⟩ : ∃ t, TL[k] = t := ⟨_, rfl⟩
              have htm : t ∈ TL := by rw [← ht]; exact List.getElem_mem _
              obtain ⟨b5, o5, rfl, -, -⟩ := (hr5.keep HB.out).sd k hlt
              have HTC : Hid (∀ W, Below w5.heap.size w5 W → W.cell? ⟨b5, o5 + k * 6, none⟩ = some (.int .i64 t.f) ∧ W.cell? ⟨b5, o5 + k * 6 + 1, none⟩ = some (.int .i64 t.r) ∧ W.cell? ⟨b5, o5 + k * 6 + 2, none⟩ = some (.int .i64 t.a.x) ∧ W.cell? ⟨b5, o5 + k * 6 + 3, none⟩ = some (.int .i64 t.a.y) ∧ W.cell? ⟨b5, o5 + k * 6 + 4, none⟩ = some (.int .i64 t.b.x) ∧ W.cell? ⟨b5, o5 + k * 6 + 5, none⟩ = some (.int .i64 t.b.y)) := by
                refine Lib.hid fun W hW => ?_
                obtain ⟨b', o', e, -, h⟩ := (hr5.keep hW).sd k hlt
                cases e
                rw [ht] at h
                exact h
              obtain ⟨hfnd, hbd⟩ := HFOUND.out t htm
              clear ht htm
              obtain ⟨tf, tr, ⟨ax, ay⟩, ⟨bx, by'⟩⟩ := t
              dsimp only at HTC hfnd hbd
              obtain ⟨ux, hux⟩ : ∃ u, D * ax = u := ⟨_, rfl⟩
              obtain ⟨uy, huy⟩ : ∃ u, D * ay = u := ⟨_, rfl⟩
              obtain ⟨vx, hvx⟩ : ∃ u, D * bx = u := ⟨_, rfl⟩
              obtain ⟨vy, hvy⟩ : ∃ u, D * by' = u := ⟨_, rfl⟩
              rw [hux, huy, hvx, hvy] at hbd
              rw [hux, huy, hvx, hvy] at hfnd
              obtain ⟨⟨⟨i1, i2⟩, i3, i4⟩, ⟨i5, i6⟩, i7, i8⟩ := hbd
              have hoA : okPt ⟨ux, uy⟩ = true := by rw [okPt_iff]; dsimp only; omega
              have hoB : okPt ⟨vx, vy⟩ = true := by rw [okPt_iff]; dsimp only; omega
              have HOA := Lib.hid hoA
              have HOB := Lib.hid hoB
              have HFND := Lib.hid hfnd
              clear hoA hoB hfnd
              obtain ⟨-, -, c2, c3, c4, c5⟩ := HTC.out wr HB.out
              have hltB : b5 < wr.heap.size := World.block_lt_of_cell? wr ⟨b5, o5 + k * 6 + 2, none⟩ c2
              have hneB : b5 ≠ wr.heap.size := by omega
              have hneB1 : b5 ≠ wr.heap.size + 1 := by omega
              go_wp2
              refine wp_post (fun R hR => ?_)
              have HR := Lib.hid hR
              clear hR
              have main : ∀ (PB QB : Nat) (Wx : World), Below wr.heap.size wr Wx → Blk Wx PB [.int .i64 ux, .int .i64 uy] → Blk Wx QB [.int .i64 vx, .int .i64 vy] → R Exit.normal { tmps := List.toArray ((Value.slice p1 N c1) :: (Value.int .i64 z) :: (Value.int .i64 b) :: (undef) :: (undef) :: (undef) :: (u6) :: (Value.slice p2 M cc2) :: (Value.int .i64 0) :: (Value.int .i64 D) :: (Value.int .i64 (z + ((kd : Nat) : Int))) :: (Value.slice p4 SL.length cc4) :: (Value.slice (some ⟨b5, o5, none⟩) TL.length cc5) :: (Value.int .i64 ((k : Nat) : Int)) :: (Value.pointer (some ⟨PB, 0, none⟩)) :: (Value.pointer (some ⟨QB, 0, none⟩)) :: (u16) :: (u17) :: (Value.slice a0 N0 cap0) :: (Value.slice p1 N c1) :: (Value.tuple #[Value.slice p2 M cc2, Value.int .i64 0]) :: (Value.slice p1 N c1) :: (Value.int .i64 z) :: (Value.int .i64 b) :: (Value.tuple #[Value.slice p2 M cc2, Value.int .i64 0]) :: (Value.slice p2 M cc2) :: (Value.int .i64 0) :: (Value.int .i64 0) :: (Value.bool false) :: (Value.bool false) :: (Value.slice p1 N c1) :: (Value.int .i64 z) :: (Value.bool true) :: (Value.bool false) :: (Value.bool false) :: (undef) :: (Value.int .i64 z) :: (Value.int .i64 (z + ((kd : Nat) : Int))) :: (Value.bool false) :: (u39) :: (u40) :: (u41) :: (u42) :: (Value.slice p1 N c1) :: (Value.slice p4 SL.length cc4) :: (Value.slice p2 M cc2) :: (Value.slice (some ⟨b5, o5, none⟩) TL.length cc5) :: (Value.int .i64 ((k : Nat) : Int)) :: (Value.slice (some ⟨b5, o5, none⟩) TL.length cc5) :: (Value.int .i64 ((TL.length : Nat) : Int)) :: (Value.bool true) :: (u51) :: (u52) :: (Value.int .i64 D) :: (Value.slice (some ⟨b5, o5, none⟩) TL.length cc5) :: (Value.int .i64 ((k : Nat) : Int)) :: (Value.pointer (some ⟨b5, o5 + k * 6, none⟩)) :: (Value.pointer (some ⟨b5, o5 + k * 6 + 2, none⟩)) :: (Value.pointer (some ⟨b5, o5 + k * 6 + 2, none⟩)) :: (Value.int .i64 ax) :: (Value.int .i64 ux) :: (Value.int .i64 D) :: (Value.slice (some ⟨b5, o5, none⟩) TL.length cc5) :: (Value.int .i64 ((k : Nat) : Int)) :: (Value.pointer (some ⟨b5, o5 + k * 6, none⟩)) :: (Value.pointer (some ⟨b5, o5 + k * 6 + 2, none⟩)) :: (Value.pointer (some ⟨b5, o5 + k * 6 + 2 + 1, none⟩)) :: (Value.int .i64 ay) :: (Value.int .i64 uy) :: (Value.agg #[Value.int .i64 ux, Value.int .i64 uy]) :: (Value.int .i64 D) :: (Value.slice (some ⟨b5, o5, none⟩) TL.length cc5) :: (Value.int .i64 ((k : Nat) : Int)) :: (Value.pointer (some ⟨b5, o5 + k * 6, none⟩)) :: (Value.pointer (some ⟨b5, o5 + k * 6 + 4, none⟩)) :: (Value.pointer (some ⟨b5, o5 + k * 6 + 4, none⟩)) :: (Value.int .i64 bx) :: (Value.int .i64 vx) :: (Value.int .i64 D) :: (Value.slice (some ⟨b5, o5, none⟩) TL.length cc5) :: (Value.int .i64 ((k : Nat) : Int)) :: (Value.pointer (some ⟨b5, o5 + k * 6, none⟩)) :: (Value.pointer (some ⟨b5, o5 + k * 6 + 4, none⟩)) :: (Value.pointer (some ⟨b5, o5 + k * 6 + 4 + 1, none⟩)) :: (Value.int .i64 by') :: (Value.int .i64 vy) :: (Value.agg #[Value.int .i64 vx, Value.int .i64 vy]) :: (u87) :: (u88) :: (u89) :: (u90) :: (u91) :: (u92) :: (u93) :: (u94) :: (u95) :: (u96) :: (u97) :: (u98) :: (u99) :: (u100) :: (u101) :: (u102) :: (u103) :: (u104) :: (u105) :: (u106) :: (u107) :: (u108) :: (u109) :: (u110) :: (u111) :: (u112) :: (u113) :: (u114) :: (u115) :: (u116) :: (u117) :: (u118) :: (u119) :: (u120) :: (u121) :: (u122) :: (u123) :: (u124) :: (u125) :: (u126) :: (u127) :: (u128) :: (u129) :: (u130) :: (u131) :: (u132) :: (u133) :: (u134) :: (u135) :: (u136) :: (u137) :: (u138) :: (u139) :: (u140) :: (u141) :: (u142) :: (u143) :: (u144) :: (u145) :: (u146) :: (u147) :: (u148) :: (u149) :: (u150) :: (undef) :: []), defers := [] } Wx := by
                as_aux_lemma =>
                intro PB QB Wx hbX kP kQ
                rw [HR.out]
                have HBX := Lib.hid (HB.out.trans (hbX.mono HB.out.size))
                clear HR HB hbX hltB hneB hneB1 c2 c3 c4 c5 hux huy hvx hvy i1 i2 i3 i4 i5 i6 i7 i8 hD0 hD2
                have HTX : Hid (∀ W, Below Wx.heap.size Wx W → W.cell? ⟨b5, o5 + k * 6, none⟩ = some (.int .i64 tf) ∧ W.cell? ⟨b5, o5 + k * 6 + 1, none⟩ = some (.int .i64 tr) ∧ (W.cell? ⟨PB, 0, none⟩ = some (.int .i64 ux) ∧ W.cell? ⟨PB, 1, none⟩ = some (.int .i64 uy)) ∧ W.cell? ⟨QB, 0, none⟩ = some (.int .i64 vx) ∧ W.cell? ⟨QB, 1, none⟩ = some (.int .i64 vy)) := by
                  refine Lib.hid fun W hW => ?_
                  have h := HTC.out W (HBX.out.trans (hW.mono HBX.out.size))
                  have p := kP.keep hW
                  have q := kQ.keep hW
                  exact ⟨h.1, h.2.1, ⟨p.cell 0 rfl, p.cell 1 rfl⟩, q.cell 0 rfl, q.cell 1 rfl⟩
                have hrS := hr45.keep HBX.out
                clear HTC kP kQ hr5
                go_wp2
                go_loopw [16, 17] (fun fd i wi => ∃ (m : Nat) (f : Bool), m ≤ SL.length ∧ i = .int .i64 m ∧ fd = .bool f ∧ Hid (f = true ∨ ∀ s ∈ SL.take m, ¬ (s.f = tf ∧ s.r = tr ∧ onX s.a s.b ⟨ux, uy⟩ = true ∧ onX s.a s.b ⟨vx, vy⟩ = true)) ∧ Hid (Below Wx.heap.size Wx wi)) (fun _ i _ => SL.length - (intOf i).toNat)
                case atStart => exact ⟨0, false, Nat.zero_le _, rfl, rfl, Lib.hid (.inr (by intro s hs; simp at hs)), Lib.hid (Below.refl _ _)⟩
                case round =>
                  obtain ⟨m, f, hm, rfl, rfl, HN, HBI⟩ := hrel
                  cases f with
                  | true =>
                    have HBO := Lib.hid (HBX.out.trans (HBI.out.mono HBX.out.size))
                    go_wp2
                    all_goals exact ⟨⟨k + 1, by omega, by go_num, HBO⟩, by simp [intOf]; omega⟩
                  | false =>
                    by_cases hml : m < SL.length
                    · obtain ⟨s, hs⟩ : ∃ s, SL[m] = s := ⟨_, rfl⟩
                      have hsm : s ∈ SL := by rw [← hs]; exact List.getElem_mem _
                      obtain ⟨b4, o4, rfl, -, -⟩ := (hrS.keep HBI.out).sd m hml
                      have HSC : Hid (∀ W, Below wr.heap.size wr W → W.cell? ⟨b4, o4 + m * 6, none⟩ = some (.int .i64 s.f) ∧ W.cell? ⟨b4, o4 + m * 6 + 1, none⟩ = some (.int .i64 s.r) ∧ (W.cell? ⟨b4, o4 + m * 6 + 2, none⟩ = some (.int .i64 s.a.x) ∧ W.cell? ⟨b4, o4 + m * 6 + 2 + 1, none⟩ = some (.int .i64 s.a.y)) ∧ W.cell? ⟨b4, o4 + m * 6 + 4, none⟩ = some (.int .i64 s.b.x) ∧ W.cell? ⟨b4, o4 + m * 6 + 4 + 1, none⟩ = some (.int .i64 s.b.y)) := by
                        refine Lib.hid fun W hW => ?_
                        obtain ⟨b', o', e, -, h⟩ := (hrS.keep (HBI.out.trans (hW.mono HBI.out.size))).sd m hml
                        cases e
                        rw [hs] at h
                        exact ⟨h.1, h.2.1, ⟨h.2.2.1, h.2.2.2.1⟩, h.2.2.2.2.1, h.2.2.2.2.2⟩
                      have HTI : Hid (∀ W, Below wr.heap.size wr W → _) := Lib.hid fun W hW => HTX.out W (HBI.out.trans (hW.mono HBI.out.size))
                      obtain ⟨hoa, hob⟩ := HOKP.out s hsm
                      have HON1 := Lib.hid (fun W => xon_any s.a s.b ⟨ux, uy⟩ hoa hob HOA.out W)
                      have HON2 := Lib.hid (fun W => xon_any s.a s.b ⟨vx, vy⟩ hoa hob HOB.out W)
                      have HNX : ∀ g : Bool, (g = true ↔ (s.f = tf ∧ s.r = tr ∧ onX s.a s.b ⟨ux, uy⟩ = true ∧ onX s.a s.b ⟨vx, vy⟩ = true)) → Hid (g = true ∨ ∀ s ∈ SL.take (m + 1), ¬ (s.f = tf ∧ s.r = tr ∧ onX s.a s.b ⟨ux, uy⟩ = true ∧ onX s.a s.b ⟨vx, vy⟩ = true)) := by
                        intro g hg
                        refine Lib.hid ?_
                        cases g with
                        | true => exact .inl rfl
                        | false =>
                          refine .inr fun s' hs' hc => ?_
                          rw [List.take_succ_eq_append_getElem hml, hs] at hs'
                          rcases List.mem_append.1 hs' with h | h
                          · rcases HN.out with h0 | h0
                            · cases h0
                            · exact h0 s' h hc
                          · obtain rfl := List.mem_singleton.1 h
                            have := hg.2 hc
                            cases this
                      have HNX := Lib.hid HNX
                      clear hs hsm hoa hob HN
                      obtain ⟨sf, sr, ⟨sax, say⟩, ⟨sbx, sby⟩⟩ := s
                      dsimp only [Pt.val] at HSC HON1 HON2 HNX
                      generalize onX ⟨sax, say⟩ ⟨sbx, sby⟩ ⟨ux, uy⟩ = O1 at *
                      generalize onX ⟨sax, say⟩ ⟨sbx, sby⟩ ⟨vx, vy⟩ = O2 at *
                      have hbi0 : Below wr.heap.size wr wr.drew := (Below.refl _ _).drew
                      go_wp2
                      by_cases hf : sf = tf
                      · have hfb : (((sf : Nat) : Int) == ((tf : Nat) : Int)) = true := by rw [hf]; simp
                        by_cases hrr : sr = tr
                        · have hrb : (((sr : Nat) : Int) == ((tr : Nat) : Int)) = true := by rw [hrr]; simp
                          cases O1 with
                          | false =>
                            as_aux_lemma =>
                            refine wp_region_lit_txt [0, 1, 2, 3, 4, 5, 6, 7, 8, 9, 10, 11, 12, 13, 14, 15, 16, 17, 18, 19, 20, 21, 22, 23, 24, 25, 26, 27, 28, 29, 30, 31, 32, 33, 34, 35, 37, 38, 39, 40, 41, 42, 43, 44, 45, 46, 47, 48, 49, 51, 52] (fun W => Below wr.heap.size wr W) (by kernel_rfl) (by kernel_rfl) (by kernel_rfl) hbi0 ?_
                            refine txt_light ?_ rfl rfl ?_ ?_
                            rotate_left
                            · intro w' hS
                              obtain ⟨q0, q1, ⟨q2, q3⟩, q4, q5⟩ := HSC.out w' hS
                              obtain ⟨t0, t1, ⟨t2, t3⟩, t4, t5⟩ := HTI.out w' hS
                              clear hS
                              go_simp
                              try with_reducible rfl
                            try simp only [Act.put, List.getElem_toArray, List.getElem_cons_succ, List.getElem_cons_zero, List.setIfInBounds_toArray, List.set_cons_zero, List.set_cons_succ]
                            refine txt_light ?_ rfl rfl ?_ ?_
                            rotate_left
                            · intro w' hS
                              obtain ⟨q0, q1, ⟨q2, q3⟩, q4, q5⟩ := HSC.out w' hS
                              obtain ⟨t0, t1, ⟨t2, t3⟩, t4, t5⟩ := HTI.out w' hS
                              clear hS
                              go_simp
                              try with_reducible rfl
                            try simp only [Act.put, List.getElem_toArray, List.getElem_cons_succ, List.getElem_cons_zero, List.setIfInBounds_toArray, List.set_cons_zero, List.set_cons_succ]
                            refine txt_light ?_ rfl rfl ?_ ?_
                            rotate_left
                            · intro w' hS
                              obtain ⟨q0, q1, ⟨q2, q3⟩, q4, q5⟩ := HSC.out w' hS
                              obtain ⟨t0, t1, ⟨t2, t3⟩, t4, t5⟩ := HTI.out w' hS
                              clear hS
                              go_simp
                              try with_reducible rfl
                            try simp only [Act.put, List.getElem_toArray, List.getElem_cons_succ, List.getElem_cons_zero, List.setIfInBounds_toArray, List.set_cons_zero, List.set_cons_succ]
                            refine txt_light ?_ rfl rfl ?_ ?_
                            rotate_left
                            · intro w' hS
                              obtain ⟨q0, q1, ⟨q2, q3⟩, q4, q5⟩ := HSC.out w' hS
                              obtain ⟨t0, t1, ⟨t2, t3⟩, t4, t5⟩ := HTI.out w' hS
                              clear hS
                              go_simp
                              try with_reducible rfl
                            try simp only [Act.put, List.getElem_toArray, List.getElem_cons_succ, List.getElem_cons_zero, List.setIfInBounds_toArray, List.set_cons_zero, List.set_cons_succ]
                            refine txt_light ?_ rfl rfl ?_ ?_
                            rotate_left
                            · intro w' hS
                              obtain ⟨q0, q1, ⟨q2, q3⟩, q4, q5⟩ := HSC.out w' hS
                              obtain ⟨t0, t1, ⟨t2, t3⟩, t4, t5⟩ := HTI.out w' hS
                              clear hS
                              go_simp
                              try with_reducible rfl
                            try simp only [Act.put, List.getElem_toArray, List.getElem_cons_succ, List.getElem_cons_zero, List.setIfInBounds_toArray, List.set_cons_zero, List.set_cons_succ]
                            refine txt_light ?_ rfl rfl ?_ ?_
                            rotate_left
                            · intro w' hS
                              obtain ⟨q0, q1, ⟨q2, q3⟩, q4, q5⟩ := HSC.out w' hS
                              obtain ⟨t0, t1, ⟨t2, t3⟩, t4, t5⟩ := HTI.out w' hS
                              clear hS
                              go_simp
                              try with_reducible rfl
                            try simp only [Act.put, List.getElem_toArray, List.getElem_cons_succ, List.getElem_cons_zero, List.setIfInBounds_toArray, List.set_cons_zero, List.set_cons_succ]
                            refine txt_light ?_ rfl rfl ?_ ?_
                            rotate_left
                            · intro w' hS
                              obtain ⟨q0, q1, ⟨q2, q3⟩, q4, q5⟩ := HSC.out w' hS
                              obtain ⟨t0, t1, ⟨t2, t3⟩, t4, t5⟩ := HTI.out w' hS
                              clear hS
                              go_simp
                              try with_reducible rfl
                            try simp only [Act.put, List.getElem_toArray, List.getElem_cons_succ, List.getElem_cons_zero, List.setIfInBounds_toArray, List.set_cons_zero, List.set_cons_succ]
                            refine txt_light ?_ rfl rfl ?_ ?_
                            rotate_left
                            · intro w' hS
                              obtain ⟨q0, q1, ⟨q2, q3⟩, q4, q5⟩ := HSC.out w' hS
                              obtain ⟨t0, t1, ⟨t2, t3⟩, t4, t5⟩ := HTI.out w' hS
                              clear hS
                              go_simp
                              try with_reducible rfl
                            try simp only [Act.put, List.getElem_toArray, List.getElem_cons_succ, List.getElem_cons_zero, List.setIfInBounds_toArray, List.set_cons_zero, List.set_cons_succ]
                            refine txt_light ?_ rfl rfl ?_ ?_
                            rotate_left
                            · intro w' hS
                              obtain ⟨q0, q1, ⟨q2, q3⟩, q4, q5⟩ := HSC.out w' hS
                              obtain ⟨t0, t1, ⟨t2, t3⟩, t4, t5⟩ := HTI.out w' hS
                              clear hS
                              go_simp
                              try with_reducible rfl
                            try simp only [Act.put, List.getElem_toArray, List.getElem_cons_succ, List.getElem_cons_zero, List.setIfInBounds_toArray, List.set_cons_zero, List.set_cons_succ]
                            refine txt_light ?_ rfl rfl ?_ ?_
                            rotate_left
                            · intro w' hS
                              obtain ⟨q0, q1, ⟨q2, q3⟩, q4, q5⟩ := HSC.out w' hS
                              obtain ⟨t0, t1, ⟨t2, t3⟩, t4, t5⟩ := HTI.out w' hS
                              clear hS
                              go_simp
                              try with_reducible rfl
                            try simp only [Act.put, List.getElem_toArray, List.getElem_cons_succ, List.getElem_cons_zero, List.setIfInBounds_toArray, List.set_cons_zero, List.set_cons_succ]
                            refine txt_light ?_ rfl rfl ?_ ?_
                            rotate_left
                            · intro w' hS
                              obtain ⟨q0, q1, ⟨q2, q3⟩, q4, q5⟩ := HSC.out w' hS
                              obtain ⟨t0, t1, ⟨t2, t3⟩, t4, t5⟩ := HTI.out w' hS
                              clear hS
                              go_simp
                              try with_reducible rfl
                            try simp only [Act.put, List.getElem_toArray, List.getElem_cons_succ, List.getElem_cons_zero, List.setIfInBounds_toArray, List.set_cons_zero, List.set_cons_succ]
                            refine txt_light ?_ rfl rfl ?_ ?_
                            rotate_left
                            · intro w' hS
                              obtain ⟨q0, q1, ⟨q2, q3⟩, q4, q5⟩ := HSC.out w' hS
                              obtain ⟨t0, t1, ⟨t2, t3⟩, t4, t5⟩ := HTI.out w' hS
                              clear hS
                              go_simp
                              try with_reducible rfl
                            try simp only [Act.put, List.getElem_toArray, List.getElem_cons_succ, List.getElem_cons_zero, List.setIfInBounds_toArray, List.set_cons_zero, List.set_cons_succ]
                            refine txt_light ?_ rfl rfl ?_ ?_
                            rotate_left
                            · intro w' hS
                              obtain ⟨q0, q1, ⟨q2, q3⟩, q4, q5⟩ := HSC.out w' hS
                              obtain ⟨t0, t1, ⟨t2, t3⟩, t4, t5⟩ := HTI.out w' hS
                              clear hS
                              go_simp
                              try with_reducible rfl
                            try simp only [Act.put, List.getElem_toArray, List.getElem_cons_succ, List.getElem_cons_zero, List.setIfInBounds_toArray, List.set_cons_zero, List.set_cons_succ]
                            refine txt_light ?_ rfl rfl ?_ ?_
                            rotate_left
                            · intro w' hS
                              obtain ⟨q0, q1, ⟨q2, q3⟩, q4, q5⟩ := HSC.out w' hS
                              obtain ⟨t0, t1, ⟨t2, t3⟩, t4, t5⟩ := HTI.out w' hS
                              clear hS
                              go_simp
                              try with_reducible rfl
                            try simp only [Act.put, List.getElem_toArray, List.getElem_cons_succ, List.getElem_cons_zero, List.setIfInBounds_toArray, List.set_cons_zero, List.set_cons_succ]
                            refine txt_light ?_ rfl rfl ?_ ?_
                            rotate_left
                            · intro w' hS
                              obtain ⟨q0, q1, ⟨q2, q3⟩, q4, q5⟩ := HSC.out w' hS
                              obtain ⟨t0, t1, ⟨t2, t3⟩, t4, t5⟩ := HTI.out w' hS
                              clear hS
                              go_simp
                              try with_reducible rfl
                            try simp only [Act.put, List.getElem_toArray, List.getElem_cons_succ, List.getElem_cons_zero, List.setIfInBounds_toArray, List.set_cons_zero, List.set_cons_succ]
                            refine txt_light ?_ rfl rfl ?_ ?_
                            rotate_left
                            · intro w' hS
                              obtain ⟨q0, q1, ⟨q2, q3⟩, q4, q5⟩ := HSC.out w' hS
                              obtain ⟨t0, t1, ⟨t2, t3⟩, t4, t5⟩ := HTI.out w' hS
                              clear hS
                              go_simp
                              try with_reducible rfl
                            try simp only [Act.put, List.getElem_toArray, List.getElem_cons_succ, List.getElem_cons_zero, List.setIfInBounds_toArray, List.set_cons_zero, List.set_cons_succ]
                            refine txt_light ?_ rfl rfl ?_ ?_
                            rotate_left
                            · intro w' hS
                              obtain ⟨q0, q1, ⟨q2, q3⟩, q4, q5⟩ := HSC.out w' hS
                              obtain ⟨t0, t1, ⟨t2, t3⟩, t4, t5⟩ := HTI.out w' hS
                              clear hS
                              go_simp
                              try with_reducible rfl
                            try simp only [Act.put, List.getElem_toArray, List.getElem_cons_succ, List.getElem_cons_zero, List.setIfInBounds_toArray, List.set_cons_zero, List.set_cons_succ]
                            refine txt_light ?_ rfl rfl ?_ ?_
                            rotate_left
                            · intro w' hS
                              obtain ⟨q0, q1, ⟨q2, q3⟩, q4, q5⟩ := HSC.out w' hS
                              obtain ⟨t0, t1, ⟨t2, t3⟩, t4, t5⟩ := HTI.out w' hS
                              clear hS
                              go_simp
                              try with_reducible rfl
                            try simp only [Act.put, List.getElem_toArray, List.getElem_cons_succ, List.getElem_cons_zero, List.setIfInBounds_toArray, List.set_cons_zero, List.set_cons_succ]
                            refine txt_light ?_ rfl rfl ?_ ?_
                            rotate_left
                            · intro w' hS
                              obtain ⟨q0, q1, ⟨q2, q3⟩, q4, q5⟩ := HSC.out w' hS
                              obtain ⟨t0, t1, ⟨t2, t3⟩, t4, t5⟩ := HTI.out w' hS
                              clear hS
                              go_simp
                              try with_reducible rfl
                            try simp only [Act.put, List.getElem_toArray, List.getElem_cons_succ, List.getElem_cons_zero, List.setIfInBounds_toArray, List.set_cons_zero, List.set_cons_succ]
                            refine txt_light ?_ rfl rfl ?_ ?_
                            rotate_left
                            · intro w' hS
                              obtain ⟨q0, q1, ⟨q2, q3⟩, q4, q5⟩ := HSC.out w' hS
                              obtain ⟨t0, t1, ⟨t2, t3⟩, t4, t5⟩ := HTI.out w' hS
                              clear hS
                              go_simp
                              try with_reducible rfl
                            try simp only [Act.put, List.getElem_toArray, List.getElem_cons_succ, List.getElem_cons_zero, List.setIfInBounds_toArray, List.set_cons_zero, List.set_cons_succ]
                            refine txt_light ?_ rfl rfl ?_ ?_
                            rotate_left
                            · intro w' hS
                              obtain ⟨q0, q1, ⟨q2, q3⟩, q4, q5⟩ := HSC.out w' hS
                              obtain ⟨t0, t1, ⟨t2, t3⟩, t4, t5⟩ := HTI.out w' hS
                              clear hS
                              go_simp
                              try with_reducible rfl
                            try simp only [Act.put, List.getElem_toArray, List.getElem_cons_succ, List.getElem_cons_zero, List.setIfInBounds_toArray, List.set_cons_zero, List.set_cons_succ]
                            refine txt_light ?_ rfl rfl ?_ ?_
                            rotate_left
                            · intro w' hS
                              obtain ⟨q0, q1, ⟨q2, q3⟩, q4, q5⟩ := HSC.out w' hS
                              obtain ⟨t0, t1, ⟨t2, t3⟩, t4, t5⟩ := HTI.out w' hS
                              clear hS
                              go_simp
                              try with_reducible rfl
                            try simp only [Act.put, List.getElem_toArray, List.getElem_cons_succ, List.getElem_cons_zero, List.setIfInBounds_toArray, List.set_cons_zero, List.set_cons_succ]
                            refine txt_light ?_ rfl rfl ?_ ?_
                            rotate_left
                            · intro w' hS
                              obtain ⟨q0, q1, ⟨q2, q3⟩, q4, q5⟩ := HSC.out w' hS
                              obtain ⟨t0, t1, ⟨t2, t3⟩, t4, t5⟩ := HTI.out w' hS
                              clear hS
                              go_simp
                              try with_reducible rfl
                            try simp only [Act.put, List.getElem_toArray, List.getElem_cons_succ, List.getElem_cons_zero, List.setIfInBounds_toArray, List.set_cons_zero, List.set_cons_succ]
                            refine txt_light ?_ rfl rfl ?_ ?_
                            rotate_left
                            · intro w' hS
                              obtain ⟨q0, q1, ⟨q2, q3⟩, q4, q5⟩ := HSC.out w' hS
                              obtain ⟨t0, t1, ⟨t2, t3⟩, t4, t5⟩ := HTI.out w' hS
                              clear hS
                              go_simp
                              try with_reducible rfl
                            try simp only [Act.put, List.getElem_toArray, List.getElem_cons_succ, List.getElem_cons_zero, List.setIfInBounds_toArray, List.set_cons_zero, List.set_cons_succ]
                            refine txt_light ?_ rfl rfl ?_ ?_
                            rotate_left
                            · intro w' hS
                              obtain ⟨q0, q1, ⟨q2, q3⟩, q4, q5⟩ := HSC.out w' hS
                              obtain ⟨t0, t1, ⟨t2, t3⟩, t4, t5⟩ := HTI.out w' hS
                              clear hS
                              go_simp
                              try with_reducible rfl
                            try simp only [Act.put, List.getElem_toArray, List.getElem_cons_succ, List.getElem_cons_zero, List.setIfInBounds_toArray, List.set_cons_zero, List.set_cons_succ]
                            refine txt_light ?_ rfl rfl ?_ ?_
                            rotate_left
                            · intro w' hS
                              obtain ⟨q0, q1, ⟨q2, q3⟩, q4, q5⟩ := HSC.out w' hS
                              obtain ⟨t0, t1, ⟨t2, t3⟩, t4, t5⟩ := HTI.out w' hS
                              clear hS
                              go_simp
                              try with_reducible rfl
                            try simp only [Act.put, List.getElem_toArray, List.getElem_cons_succ, List.getElem_cons_zero, List.setIfInBounds_toArray, List.set_cons_zero, List.set_cons_succ]
                            refine txt_light ?_ rfl rfl ?_ ?_
                            rotate_left
                            · intro w' hS
                              obtain ⟨q0, q1, ⟨q2, q3⟩, q4, q5⟩ := HSC.out w' hS
                              obtain ⟨t0, t1, ⟨t2, t3⟩, t4, t5⟩ := HTI.out w' hS
                              clear hS
                              go_simp
                              try with_reducible rfl
                            try simp only [Act.put, List.getElem_toArray, List.getElem_cons_succ, List.getElem_cons_zero, List.setIfInBounds_toArray, List.set_cons_zero, List.set_cons_succ]
                            refine txt_light ?_ rfl rfl ?_ ?_
                            rotate_left
                            · intro w' hS
                              obtain ⟨q0, q1, ⟨q2, q3⟩, q4, q5⟩ := HSC.out w' hS
                              obtain ⟨t0, t1, ⟨t2, t3⟩, t4, t5⟩ := HTI.out w' hS
                              clear hS
                              go_simp
                              try with_reducible rfl
                            try simp only [Act.put, List.getElem_toArray, List.getElem_cons_succ, List.getElem_cons_zero, List.setIfInBounds_toArray, List.set_cons_zero, List.set_cons_succ]
                            refine txt_light ?_ rfl rfl ?_ ?_
                            rotate_left
                            · intro w' hS
                              obtain ⟨q0, q1, ⟨q2, q3⟩, q4, q5⟩ := HSC.out w' hS
                              obtain ⟨t0, t1, ⟨t2, t3⟩, t4, t5⟩ := HTI.out w' hS
                              clear hS
                              go_simp
                              try with_reducible rfl
                            try simp only [Act.put, List.getElem_toArray, List.getElem_cons_succ, List.getElem_cons_zero, List.setIfInBounds_toArray, List.set_cons_zero, List.set_cons_succ]
                            refine txt_light ?_ rfl rfl ?_ ?_
                            rotate_left
                            · intro w' hS
                              obtain ⟨q0, q1, ⟨q2, q3⟩, q4, q5⟩ := HSC.out w' hS
                              obtain ⟨t0, t1, ⟨t2, t3⟩, t4, t5⟩ := HTI.out w' hS
                              clear hS
                              go_simp
                              try with_reducible rfl
                            try simp only [Act.put, List.getElem_toArray, List.getElem_cons_succ, List.getElem_cons_zero, List.setIfInBounds_toArray, List.set_cons_zero, List.set_cons_succ]
                            refine txt_light ?_ rfl rfl ?_ ?_
                            rotate_left
                            · intro w' hS
                              obtain ⟨q0, q1, ⟨q2, q3⟩, q4, q5⟩ := HSC.out w' hS
                              obtain ⟨t0, t1, ⟨t2, t3⟩, t4, t5⟩ := HTI.out w' hS
                              clear hS
                              go_simp
                              try with_reducible rfl
                            try simp only [Act.put, List.getElem_toArray, List.getElem_cons_succ, List.getElem_cons_zero, List.setIfInBounds_toArray, List.set_cons_zero, List.set_cons_succ]
                            refine txt_light ?_ rfl rfl ?_ ?_
                            rotate_left
                            · intro w' hS
                              obtain ⟨q0, q1, ⟨q2, q3⟩, q4, q5⟩ := HSC.out w' hS
                              obtain ⟨t0, t1, ⟨t2, t3⟩, t4, t5⟩ := HTI.out w' hS
                              clear hS
                              go_simp
                              try with_reducible rfl
                            try simp only [Act.put, List.getElem_toArray, List.getElem_cons_succ, List.getElem_cons_zero, List.setIfInBounds_toArray, List.set_cons_zero, List.set_cons_succ]
                            refine txt_light ?_ rfl rfl ?_ ?_
                            rotate_left
                            · intro w' hS
                              obtain ⟨q0, q1, ⟨q2, q3⟩, q4, q5⟩ := HSC.out w' hS
                              obtain ⟨t0, t1, ⟨t2, t3⟩, t4, t5⟩ := HTI.out w' hS
                              clear hS
                              go_simp
                              try with_reducible rfl
                            try simp only [Act.put, List.getElem_toArray, List.getElem_cons_succ, List.getElem_cons_zero, List.setIfInBounds_toArray, List.set_cons_zero, List.set_cons_succ]
                            refine txt_light ?_ rfl rfl ?_ ?_
                            rotate_left
                            · intro w' hS
                              obtain ⟨q0, q1, ⟨q2, q3⟩, q4, q5⟩ := HSC.out w' hS
                              obtain ⟨t0, t1, ⟨t2, t3⟩, t4, t5⟩ := HTI.out w' hS
                              clear hS
                              go_simp
                              try with_reducible rfl
                            try simp only [Act.put, List.getElem_toArray, List.getElem_cons_succ, List.getElem_cons_zero, List.setIfInBounds_toArray, List.set_cons_zero, List.set_cons_succ]
                            refine txt_light ?_ rfl rfl ?_ ?_
                            rotate_left
                            · intro w' hS
                              obtain ⟨q0, q1, ⟨q2, q3⟩, q4, q5⟩ := HSC.out w' hS
                              obtain ⟨t0, t1, ⟨t2, t3⟩, t4, t5⟩ := HTI.out w' hS
                              clear hS
                              go_simp
                              try with_reducible rfl
                            try simp only [Act.put, List.getElem_toArray, List.getElem_cons_succ, List.getElem_cons_zero, List.setIfInBounds_toArray, List.set_cons_zero, List.set_cons_succ]
                            refine txt_light ?_ rfl rfl ?_ ?_
                            rotate_left
                            · intro w' hS
                              obtain ⟨q0, q1, ⟨q2, q3⟩, q4, q5⟩ := HSC.out w' hS
                              obtain ⟨t0, t1, ⟨t2, t3⟩, t4, t5⟩ := HTI.out w' hS
                              clear hS
                              go_simp
                              try with_reducible rfl
                            try simp only [Act.put, List.getElem_toArray, List.getElem_cons_succ, List.getElem_cons_zero, List.setIfInBounds_toArray, List.set_cons_zero, List.set_cons_succ]
                            refine txt_call [.agg #[.int .i64 sax, .int .i64 say], .agg #[.int .i64 sbx, .int .i64 sby], .agg #[.int .i64 ux, .int .i64 uy]] Try.f9 rfl rfl Try.func9 (by kernel_rfl) (by kernel_rfl) rfl ((HON1.out _).mono ?_)
                            rintro e y1 ⟨rfl, hbcy1⟩
                            have hbi1 := hbi0.trans (hbcy1.mono hbi0.size)
                            refine ⟨_, rfl, hbi1, ?_⟩
                            try simp only [Act.put, List.getElem_toArray, List.getElem_cons_succ, List.getElem_cons_zero, List.setIfInBounds_toArray, List.set_cons_zero, List.set_cons_succ]
                            refine txt_light ?_ rfl rfl ?_ ?_
                            rotate_left
                            · intro w' hS
                              obtain ⟨q0, q1, ⟨q2, q3⟩, q4, q5⟩ := HSC.out w' hS
                              obtain ⟨t0, t1, ⟨t2, t3⟩, t4, t5⟩ := HTI.out w' hS
                              clear hS
                              go_simp
                              try with_reducible rfl
                            try simp only [Act.put, List.getElem_toArray, List.getElem_cons_succ, List.getElem_cons_zero, List.setIfInBounds_toArray, List.set_cons_zero, List.set_cons_succ]
                            refine txt_light ?_ rfl rfl ?_ ?_
                            rotate_left
                            · intro w' hS
                              obtain ⟨q0, q1, ⟨q2, q3⟩, q4, q5⟩ := HSC.out w' hS
                              obtain ⟨t0, t1, ⟨t2, t3⟩, t4, t5⟩ := HTI.out w' hS
                              clear hS
                              go_simp
                              try with_reducible rfl
                            try simp only [Act.put, List.getElem_toArray, List.getElem_cons_succ, List.getElem_cons_zero, List.setIfInBounds_toArray, List.set_cons_zero, List.set_cons_succ]
                            refine txt_skip rfl ?_
                            try simp only [Act.put, List.getElem_toArray, List.getElem_cons_succ, List.getElem_cons_zero, List.setIfInBounds_toArray, List.set_cons_zero, List.set_cons_succ]
                            refine txt_skip rfl ?_
                            try simp only [Act.put, List.getElem_toArray, List.getElem_cons_succ, List.getElem_cons_zero, List.setIfInBounds_toArray, List.set_cons_zero, List.set_cons_succ]
                            refine txt_skip rfl ?_
                            try simp only [Act.put, List.getElem_toArray, List.getElem_cons_succ, List.getElem_cons_zero, List.setIfInBounds_toArray, List.set_cons_zero, List.set_cons_succ]
                            refine txt_skip rfl ?_
                            try simp only [Act.put, List.getElem_toArray, List.getElem_cons_succ, List.getElem_cons_zero, List.setIfInBounds_toArray, List.set_cons_zero, List.set_cons_succ]
                            refine txt_skip rfl ?_
                            try simp only [Act.put, List.getElem_toArray, List.getElem_cons_succ, List.getElem_cons_zero, List.setIfInBounds_toArray, List.set_cons_zero, List.set_cons_succ]
                            refine txt_skip rfl ?_
                            try simp only [Act.put, List.getElem_toArray, List.getElem_cons_succ, List.getElem_cons_zero, List.setIfInBounds_toArray, List.set_cons_zero, List.set_cons_succ]
                            refine txt_skip rfl ?_
                            try simp only [Act.put, List.getElem_toArray, List.getElem_cons_succ, List.getElem_cons_zero, List.setIfInBounds_toArray, List.set_cons_zero, List.set_cons_succ]
                            refine txt_skip rfl ?_
                            try simp only [Act.put, List.getElem_toArray, List.getElem_cons_succ, List.getElem_cons_zero, List.setIfInBounds_toArray, List.set_cons_zero, List.set_cons_succ]
                            refine txt_skip rfl ?_
                            try simp only [Act.put, List.getElem_toArray, List.getElem_cons_succ, List.getElem_cons_zero, List.setIfInBounds_toArray, List.set_cons_zero, List.set_cons_succ]
                            refine txt_skip rfl ?_
                            try simp only [Act.put, List.getElem_toArray, List.getElem_cons_succ, List.getElem_cons_zero, List.setIfInBounds_toArray, List.set_cons_zero, List.set_cons_succ]
                            refine txt_skip rfl ?_
                            try simp only [Act.put, List.getElem_toArray, List.getElem_cons_succ, List.getElem_cons_zero, List.setIfInBounds_toArray, List.set_cons_zero, List.set_cons_succ]
                            refine txt_skip rfl ?_
                            try simp only [Act.put, List.getElem_toArray, List.getElem_cons_succ, List.getElem_cons_zero, List.setIfInBounds_toArray, List.set_cons_zero, List.set_cons_succ]
                            refine txt_light ?_ rfl rfl ?_ ?_
                            rotate_left
                            · intro w' hS
                              obtain ⟨q0, q1, ⟨q2, q3⟩, q4, q5⟩ := HSC.out w' hS
                              obtain ⟨t0, t1, ⟨t2, t3⟩, t4, t5⟩ := HTI.out w' hS
                              clear hS
                              go_simp
                              try with_reducible rfl
                            try simp only [Act.put, List.getElem_toArray, List.getElem_cons_succ, List.getElem_cons_zero, List.setIfInBounds_toArray, List.set_cons_zero, List.set_cons_succ]
                            refine txt_light ?_ rfl rfl ?_ ?_
                            rotate_left
                            · intro w' hS
                              obtain ⟨q0, q1, ⟨q2, q3⟩, q4, q5⟩ := HSC.out w' hS
                              obtain ⟨t0, t1, ⟨t2, t3⟩, t4, t5⟩ := HTI.out w' hS
                              clear hS
                              go_simp
                              try with_reducible rfl
                            try simp only [Act.put, List.getElem_toArray, List.getElem_cons_succ, List.getElem_cons_zero, List.setIfInBounds_toArray, List.set_cons_zero, List.set_cons_succ]
                            refine txt_nil ?_
                            go_wp2
                            go_roundw
                            case rel => exact ⟨m + 1, false, by omega, by go_num, rfl, HNX.out false (by simp), Lib.hid (HBI.out.trans (hbi1.mono HBI.out.size))⟩
                            case measure => simp [intOf]; omega

                          | true =>
                            as_aux_lemma =>
                            refine wp_region_lit_txt [0, 1, 2, 3, 4, 5, 6, 7, 8, 9, 10, 11, 12, 13, 14, 15, 16, 17, 18, 19, 20, 21, 22, 23, 24, 25, 26, 27, 28, 29, 30, 31, 32, 33, 34, 35, 37, 38, 39, 40, 41, 42, 43, 44, 45, 46, 47, 48, 49, 51, 52] (fun W => Below wr.heap.size wr W) (by kernel_rfl) (by kernel_rfl) (by kernel_rfl) hbi0 ?_
                            refine txt_light ?_ rfl rfl ?_ ?_
                            rotate_left
                            · intro w' hS
                              obtain ⟨q0, q1, ⟨q2, q3⟩, q4, q5⟩ := HSC.out w' hS
                              obtain ⟨t0, t1, ⟨t2, t3⟩, t4, t5⟩ := HTI.out w' hS
                              clear hS
                              go_simp
                              try with_reducible rfl
                            try simp only [Act.put, List.getElem_toArray, List.getElem_cons_succ, List.getElem_cons_zero, List.setIfInBounds_toArray, List.set_cons_zero, List.set_cons_succ]
                            refine txt_light ?_ rfl rfl ?_ ?_
                            rotate_left
                            · intro w' hS
                              obtain ⟨q0, q1, ⟨q2, q3⟩, q4, q5⟩ := HSC.out w' hS
                              obtain ⟨t0, t1, ⟨t2, t3⟩, t4, t5⟩ := HTI.out w' hS
                              clear hS
                              go_simp
                              try with_reducible rfl
                            try simp only [Act.put, List.getElem_toArray, List.getElem_cons_succ, List.getElem_cons_zero, List.setIfInBounds_toArray, List.set_cons_zero, List.set_cons_succ]
                            refine txt_light ?_ rfl rfl ?_ ?_
                            rotate_left
                            · intro w' hS
                              obtain ⟨q0, q1, ⟨q2, q3⟩, q4, q5⟩ := HSC.out w' hS
                              obtain ⟨t0, t1, ⟨t2, t3⟩, t4, t5⟩ := HTI.out w' hS
                              clear hS
                              go_simp
                              try with_reducible rfl
                            try simp only [Act.put, List.getElem_toArray, List.getElem_cons_succ, List.getElem_cons_zero, List.setIfInBounds_toArray, List.set_cons_zero, List.set_cons_succ]
                            refine txt_light ?_ rfl rfl ?_ ?_
                            rotate_left
                            · intro w' hS
                              obtain ⟨q0, q1, ⟨q2, q3⟩, q4, q5⟩ := HSC.out w' hS
                              obtain ⟨t0, t1, ⟨t2, t3⟩, t4, t5⟩ := HTI.out w' hS
                              clear hS
                              go_simp
                              try with_reducible rfl
                            try simp only [Act.put, List.getElem_toArray, List.getElem_cons_succ, List.getElem_cons_zero, List.setIfInBounds_toArray, List.set_cons_zero, List.set_cons_succ]
                            refine txt_light ?_ rfl rfl ?_ ?_
                            rotate_left
                            · intro w' hS
                              obtain ⟨q0, q1, ⟨q2, q3⟩, q4, q5⟩ := HSC.out w' hS
                              obtain ⟨t0, t1, ⟨t2, t3⟩, t4, t5⟩ := HTI.out w' hS
                              clear hS
                              go_simp
                              try with_reducible rfl
                            try simp only [Act.put, List.getElem_toArray, List.getElem_cons_succ, List.getElem_cons_zero, List.setIfInBounds_toArray, List.set_cons_zero, List.set_cons_succ]
                            refine txt_light ?_ rfl rfl ?_ ?_
                            rotate_left
                            · intro w' hS
                              obtain ⟨q0, q1, ⟨q2, q3⟩, q4, q5⟩ := HSC.out w' hS
                              obtain ⟨t0, t1, ⟨t2, t3⟩, t4, t5⟩ := HTI.out w' hS
                              clear hS
                              go_simp
                              try with_reducible rfl
                            try simp only [Act.put, List.getElem_toArray, List.getElem_cons_succ, List.getElem_cons_zero, List.setIfInBounds_toArray, List.set_cons_zero, List.set_cons_succ]
                            refine txt_light ?_ rfl rfl ?_ ?_
                            rotate_left
                            · intro w' hS
                              obtain ⟨q0, q1, ⟨q2, q3⟩, q4, q5⟩ := HSC.out w' hS
                              obtain ⟨t0, t1, ⟨t2, t3⟩, t4, t5⟩ := HTI.out w' hS
                              clear hS
                              go_simp
                              try with_reducible rfl
                            try simp only [Act.put, List.getElem_toArray, List.getElem_cons_succ, List.getElem_cons_zero, List.setIfInBounds_toArray, List.set_cons_zero, List.set_cons_succ]
                            refine txt_light ?_ rfl rfl ?_ ?_
                            rotate_left
                            · intro w' hS
                              obtain ⟨q0, q1, ⟨q2, q3⟩, q4, q5⟩ := HSC.out w' hS
                              obtain ⟨t0, t1, ⟨t2, t3⟩, t4, t5⟩ := HTI.out w' hS
                              clear hS
                              go_simp
                              try with_reducible rfl
                            try simp only [Act.put, List.getElem_toArray, List.getElem_cons_succ, List.getElem_cons_zero, List.setIfInBounds_toArray, List.set_cons_zero, List.set_cons_succ]
                            refine txt_light ?_ rfl rfl ?_ ?_
                            rotate_left
                            · intro w' hS
                              obtain ⟨q0, q1, ⟨q2, q3⟩, q4, q5⟩ := HSC.out w' hS
                              obtain ⟨t0, t1, ⟨t2, t3⟩, t4, t5⟩ := HTI.out w' hS
                              clear hS
                              go_simp
                              try with_reducible rfl
                            try simp only [Act.put, List.getElem_toArray, List.getElem_cons_succ, List.getElem_cons_zero, List.setIfInBounds_toArray, List.set_cons_zero, List.set_cons_succ]
                            refine txt_light ?_ rfl rfl ?_ ?_
                            rotate_left
                            · intro w' hS
                              obtain ⟨q0, q1, ⟨q2, q3⟩, q4, q5⟩ := HSC.out w' hS
                              obtain ⟨t0, t1, ⟨t2, t3⟩, t4, t5⟩ := HTI.out w' hS
                              clear hS
                              go_simp
                              try with_reducible rfl
                            try simp only [Act.put, List.getElem_toArray, List.getElem_cons_succ, List.getElem_cons_zero, List.setIfInBounds_toArray, List.set_cons_zero, List.set_cons_succ]
                            refine txt_light ?_ rfl rfl ?_ ?_
                            rotate_left
                            · intro w' hS
                              obtain ⟨q0, q1, ⟨q2, q3⟩, q4, q5⟩ := HSC.out w' hS
                              obtain ⟨t0, t1, ⟨t2, t3⟩, t4, t5⟩ := HTI.out w' hS
                              clear hS
                              go_simp
                              try with_reducible rfl
                            try simp only [Act.put, List.getElem_toArray, List.getElem_cons_succ, List.getElem_cons_zero, List.setIfInBounds_toArray, List.set_cons_zero, List.set_cons_succ]
                            refine txt_light ?_ rfl rfl ?_ ?_
                            rotate_left
                            · intro w' hS
                              obtain ⟨q0, q1, ⟨q2, q3⟩, q4, q5⟩ := HSC.out w' hS
                              obtain ⟨t0, t1, ⟨t2, t3⟩, t4, t5⟩ := HTI.out w' hS
                              clear hS
                              go_simp
                              try with_reducible rfl
                            try simp only [Act.put, List.getElem_toArray, List.getElem_cons_succ, List.getElem_cons_zero, List.setIfInBounds_toArray, List.set_cons_zero, List.set_cons_succ]
                            refine txt_light ?_ rfl rfl ?_ ?_
                            rotate_left
                            · intro w' hS
                              obtain ⟨q0, q1, ⟨q2, q3⟩, q4, q5⟩ := HSC.out w' hS
                              obtain ⟨t0, t1, ⟨t2, t3⟩, t4, t5⟩ := HTI.out w' hS
                              clear hS
                              go_simp
                              try with_reducible rfl
                            try simp only [Act.put, List.getElem_toArray, List.getElem_cons_succ, List.getElem_cons_zero, List.setIfInBounds_toArray, List.set_cons_zero, List.set_cons_succ]
                            refine txt_light ?_ rfl rfl ?_ ?_
                            rotate_left
                            · intro w' hS
                              obtain ⟨q0, q1, ⟨q2, q3⟩, q4, q5⟩ := HSC.out w' hS
                              obtain ⟨t0, t1, ⟨t2, t3⟩, t4, t5⟩ := HTI.out w' hS
                              clear hS
                              go_simp
                              try with_reducible rfl
                            try simp only [Act.put, List.getElem_toArray, List.getElem_cons_succ, List.getElem_cons_zero, List.setIfInBounds_toArray, List.set_cons_zero, List.set_cons_succ]
                            refine txt_light ?_ rfl rfl ?_ ?_
                            rotate_left
                            · intro w' hS
                              obtain ⟨q0, q1, ⟨q2, q3⟩, q4, q5⟩ := HSC.out w' hS
                              obtain ⟨t0, t1, ⟨t2, t3⟩, t4, t5⟩ := HTI.out w' hS
                              clear hS
                              go_simp
                              try with_reducible rfl
                            try simp only [Act.put, List.getElem_toArray, List.getElem_cons_succ, List.getElem_cons_zero, List.setIfInBounds_toArray, List.set_cons_zero, List.set_cons_succ]
                            refine txt_light ?_ rfl rfl ?_ ?_
                            rotate_left
                            · intro w' hS
                              obtain ⟨q0, q1, ⟨q2, q3⟩, q4, q5⟩ := HSC.out w' hS
                              obtain ⟨t0, t1, ⟨t2, t3⟩, t4, t5⟩ := HTI.out w' hS
                              clear hS
                              go_simp
                              try with_reducible rfl
                            try simp only [Act.put, List.getElem_toArray, List.getElem_cons_succ, List.getElem_cons_zero, List.setIfInBounds_toArray, List.set_cons_zero, List.set_cons_succ]
                            refine txt_light ?_ rfl rfl ?_ ?_
                            rotate_left
                            · intro w' hS
                              obtain ⟨q0, q1, ⟨q2, q3⟩, q4, q5⟩ := HSC.out w' hS
                              obtain ⟨t0, t1, ⟨t2, t3⟩, t4, t5⟩ := HTI.out w' hS
                              clear hS
                              go_simp
                              try with_reducible rfl
                            try simp only [Act.put, List.getElem_toArray, List.getElem_cons_succ, List.getElem_cons_zero, List.setIfInBounds_toArray, List.set_cons_zero, List.set_cons_succ]
                            refine txt_light ?_ rfl rfl ?_ ?_
                            rotate_left
                            · intro w' hS
                              obtain ⟨q0, q1, ⟨q2, q3⟩, q4, q5⟩ := HSC.out w' hS
                              obtain ⟨t0, t1, ⟨t2, t3⟩, t4, t5⟩ := HTI.out w' hS
                              clear hS
                              go_simp
                              try with_reducible rfl
                            try simp only [Act.put, List.getElem_toArray, List.getElem_cons_succ, List.getElem_cons_zero, List.setIfInBounds_toArray, List.set_cons_zero, List.set_cons_succ]
                            refine txt_light ?_ rfl rfl ?_ ?_
                            rotate_left
                            · intro w' hS
                              obtain ⟨q0, q1, ⟨q2, q3⟩, q4, q5⟩ := HSC.out w' hS
                              obtain ⟨t0, t1, ⟨t2, t3⟩, t4, t5⟩ := HTI.out w' hS
                              clear hS
                              go_simp
                              try with_reducible rfl
                            try simp only [Act.put, List.getElem_toArray, List.getElem_cons_succ, List.getElem_cons_zero, List.setIfInBounds_toArray, List.set_cons_zero, List.set_cons_succ]
                            refine txt_light ?_ rfl rfl ?_ ?_
                            rotate_left
                            · intro w' hS
                              obtain ⟨q0, q1, ⟨q2, q3⟩, q4, q5⟩ := HSC.out w' hS
                              obtain ⟨t0, t1, ⟨t2, t3⟩, t4, t5⟩ := HTI.out w' hS
                              clear hS
                              go_simp
                              try with_reducible rfl
                            try simp only [Act.put, List.getElem_toArray, List.getElem_cons_succ, List.getElem_cons_zero, List.setIfInBounds_toArray, List.set_cons_zero, List.set_cons_succ]
                            refine txt_light ?_ rfl rfl ?_ ?_
                            rotate_left
                            · intro w' hS
                              obtain ⟨q0, q1, ⟨q2, q3⟩, q4, q5⟩ := HSC.out w' hS
                              obtain ⟨t0, t1, ⟨t2, t3⟩, t4, t5⟩ := HTI.out w' hS
                              clear hS
                              go_simp
                              try with_reducible rfl
                            try simp only [Act.put, List.getElem_toArray, List.getElem_cons_succ, List.getElem_cons_zero, List.setIfInBounds_toArray, List.set_cons_zero, List.set_cons_succ]
                            refine txt_light ?_ rfl rfl ?_ ?_
                            rotate_left
                            · intro w' hS
                              obtain ⟨q0, q1, ⟨q2, q3⟩, q4, q5⟩ := HSC.out w' hS
                              obtain ⟨t0, t1, ⟨t2, t3⟩, t4, t5⟩ := HTI.out w' hS
                              clear hS
                              go_simp
                              try with_reducible rfl
                            try simp only [Act.put, List.getElem_toArray, List.getElem_cons_succ, List.getElem_cons_zero, List.setIfInBounds_toArray, List.set_cons_zero, List.set_cons_succ]
                            refine txt_light ?_ rfl rfl ?_ ?_
                            rotate_left
                            · intro w' hS
                              obtain ⟨q0, q1, ⟨q2, q3⟩, q4, q5⟩ := HSC.out w' hS
                              obtain ⟨t0, t1, ⟨t2, t3⟩, t4, t5⟩ := HTI.out w' hS
                              clear hS
                              go_simp
                              try with_reducible rfl
                            try simp only [Act.put, List.getElem_toArray, List.getElem_cons_succ, List.getElem_cons_zero, List.setIfInBounds_toArray, List.set_cons_zero, List.set_cons_succ]
                            refine txt_light ?_ rfl rfl ?_ ?_
                            rotate_left
                            · intro w' hS
                              obtain ⟨q0, q1, ⟨q2, q3⟩, q4, q5⟩ := HSC.out w' hS
                              obtain ⟨t0, t1, ⟨t2, t3⟩, t4, t5⟩ := HTI.out w' hS
                              clear hS
                              go_simp
                              try with_reducible rfl
                            try simp only [Act.put, List.getElem_toArray, List.getElem_cons_succ, List.getElem_cons_zero, List.setIfInBounds_toArray, List.set_cons_zero, List.set_cons_succ]
                            refine txt_light ?_ rfl rfl ?_ ?_
                            rotate_left
                            · intro w' hS
                              obtain ⟨q0, q1, ⟨q2, q3⟩, q4, q5⟩ := HSC.out w' hS
                              obtain ⟨t0, t1, ⟨t2, t3⟩, t4, t5⟩ := HTI.out w' hS
                              clear hS
                              go_simp
                              try with_reducible rfl
                            try simp only [Act.put, List.getElem_toArray, List.getElem_cons_succ, List.getElem_cons_zero, List.setIfInBounds_toArray, List.set_cons_zero, List.set_cons_succ]
                            refine txt_light ?_ rfl rfl ?_ ?_
                            rotate_left
                            · intro w' hS
                              obtain ⟨q0, q1, ⟨q2, q3⟩, q4, q5⟩ := HSC.out w' hS
                              obtain ⟨t0, t1, ⟨t2, t3⟩, t4, t5⟩ := HTI.out w' hS
                              clear hS
                              go_simp
                              try with_reducible rfl
                            try simp only [Act.put, List.getElem_toArray, List.getElem_cons_succ, List.getElem_cons_zero, List.setIfInBounds_toArray, List.set_cons_zero, List.set_cons_succ]
                            refine txt_light ?_ rfl rfl ?_ ?_
                            rotate_left
                            · intro w' hS
                              obtain ⟨q0, q1, ⟨q2, q3⟩, q4, q5⟩ := HSC.out w' hS
                              obtain ⟨t0, t1, ⟨t2, t3⟩, t4, t5⟩ := HTI.out w' hS
                              clear hS
                              go_simp
                              try with_reducible rfl
                            try simp only [Act.put, List.getElem_toArray, List.getElem_cons_succ, List.getElem_cons_zero, List.setIfInBounds_toArray, List.set_cons_zero, List.set_cons_succ]
                            refine txt_light ?_ rfl rfl ?_ ?_
                            rotate_left
                            · intro w' hS
                              obtain ⟨q0, q1, ⟨q2, q3⟩, q4, q5⟩ := HSC.out w' hS
                              obtain ⟨t0, t1, ⟨t2, t3⟩, t4, t5⟩ := HTI.out w' hS
                              clear hS
                              go_simp
                              try with_reducible rfl
                            try simp only [Act.put, List.getElem_toArray, List.getElem_cons_succ, List.getElem_cons_zero, List.setIfInBounds_toArray, List.set_cons_zero, List.set_cons_succ]
                            refine txt_light ?_ rfl rfl ?_ ?_
                            rotate_left
                            · intro w' hS
                              obtain ⟨q0, q1, ⟨q2, q3⟩, q4, q5⟩ := HSC.out w' hS
                              obtain ⟨t0, t1, ⟨t2, t3⟩, t4, t5⟩ := HTI.out w' hS
                              clear hS
                              go_simp
                              try with_reducible rfl
                            try simp only [Act.put, List.getElem_toArray, List.getElem_cons_succ, List.getElem_cons_zero, List.setIfInBounds_toArray, List.set_cons_zero, List.set_cons_succ]
                            refine txt_light ?_ rfl rfl ?_ ?_
                            rotate_left
                            · intro w' hS
                              obtain ⟨q0, q1, ⟨q2, q3⟩, q4, q5⟩ := HSC.out w' hS
                              obtain ⟨t0, t1, ⟨t2, t3⟩, t4, t5⟩ := HTI.out w' hS
                              clear hS
                              go_simp
                              try with_reducible rfl
                            try simp only [Act.put, List.getElem_toArray, List.getElem_cons_succ, List.getElem_cons_zero, List.setIfInBounds_toArray, List.set_cons_zero, List.set_cons_succ]
                            refine txt_light ?_ rfl rfl ?_ ?_
                            rotate_left
                            · intro w' hS
                              obtain ⟨q0, q1, ⟨q2, q3⟩, q4, q5⟩ := HSC.out w' hS
                              obtain ⟨t0, t1, ⟨t2, t3⟩, t4, t5⟩ := HTI.out w' hS
                              clear hS
                              go_simp
                              try with_reducible rfl
                            try simp only [Act.put, List.getElem_toArray, List.getElem_cons_succ, List.getElem_cons_zero, List.setIfInBounds_toArray, List.set_cons_zero, List.set_cons_succ]
                            refine txt_light ?_ rfl rfl ?_ ?_
                            rotate_left
                            · intro w' hS
                              obtain ⟨q0, q1, ⟨q2, q3⟩, q4, q5⟩ := HSC.out w' hS
                              obtain ⟨t0, t1, ⟨t2, t3⟩, t4, t5⟩ := HTI.out w' hS
                              clear hS
                              go_simp
                              try with_reducible rfl
                            try simp only [Act.put, List.getElem_toArray, List.getElem_cons_succ, List.getElem_cons_zero, List.setIfInBounds_toArray, List.set_cons_zero, List.set_cons_succ]
                            refine txt_light ?_ rfl rfl ?_ ?_
                            rotate_left
                            · intro w' hS
                              obtain ⟨q0, q1, ⟨q2, q3⟩, q4, q5⟩ := HSC.out w' hS
                              obtain ⟨t0, t1, ⟨t2, t3⟩, t4, t5⟩ := HTI.out w' hS
                              clear hS
                              go_simp
                              try with_reducible rfl
                            try simp only [Act.put, List.getElem_toArray, List.getElem_cons_succ, List.getElem_cons_zero, List.setIfInBounds_toArray, List.set_cons_zero, List.set_cons_succ]
                            refine txt_light ?_ rfl rfl ?_ ?_
                            rotate_left
                            · intro w' hS
                              obtain ⟨q0, q1, ⟨q2, q3⟩, q4, q5⟩ := HSC.out w' hS
                              obtain ⟨t0, t1, ⟨t2, t3⟩, t4, t5⟩ := HTI.out w' hS
                              clear hS
                              go_simp
                              try with_reducible rfl
                            try simp only [Act.put, List.getElem_toArray, List.getElem_cons_succ, List.getElem_cons_zero, List.setIfInBounds_toArray, List.set_cons_zero, List.set_cons_succ]
                            refine txt_light ?_ rfl rfl ?_ ?_
                            rotate_left
                            · intro w' hS
                              obtain ⟨q0, q1, ⟨q2, q3⟩, q4, q5⟩ := HSC.out w' hS
                              obtain ⟨t0, t1, ⟨t2, t3⟩, t4, t5⟩ := HTI.out w' hS
                              clear hS
                              go_simp
                              try with_reducible rfl
                            try simp only [Act.put, List.getElem_toArray, List.getElem_cons_succ, List.getElem_cons_zero, List.setIfInBounds_toArray, List.set_cons_zero, List.set_cons_succ]
                            refine txt_light ?_ rfl rfl ?_ ?_
                            rotate_left
                            · intro w' hS
                              obtain ⟨q0, q1, ⟨q2, q3⟩, q4, q5⟩ := HSC.out w' hS
                              obtain ⟨t0, t1, ⟨t2, t3⟩, t4, t5⟩ := HTI.out w' hS
                              clear hS
                              go_simp
                              try with_reducible rfl
                            try simp only [Act.put, List.getElem_toArray, List.getElem_cons_succ, List.getElem_cons_zero, List.setIfInBounds_toArray, List.set_cons_zero, List.set_cons_succ]
                            refine txt_call [.agg #[.int .i64 sax, .int .i64 say], .agg #[.int .i64 sbx, .int .i64 sby], .agg #[.int .i64 ux, .int .i64 uy]] Try.f9 rfl rfl Try.func9 (by kernel_rfl) (by kernel_rfl) rfl ((HON1.out _).mono ?_)
                            rintro e y1 ⟨rfl, hbcy1⟩
                            have hbi1 := hbi0.trans (hbcy1.mono hbi0.size)
                            refine ⟨_, rfl, hbi1, ?_⟩
                            try simp only [Act.put, List.getElem_toArray, List.getElem_cons_succ, List.getElem_cons_zero, List.setIfInBounds_toArray, List.set_cons_zero, List.set_cons_succ]
                            refine txt_light ?_ rfl rfl ?_ ?_
                            rotate_left
                            · intro w' hS
                              obtain ⟨q0, q1, ⟨q2, q3⟩, q4, q5⟩ := HSC.out w' hS
                              obtain ⟨t0, t1, ⟨t2, t3⟩, t4, t5⟩ := HTI.out w' hS
                              clear hS
                              go_simp
                              try with_reducible rfl
                            try simp only [Act.put, List.getElem_toArray, List.getElem_cons_succ, List.getElem_cons_zero, List.setIfInBounds_toArray, List.set_cons_zero, List.set_cons_succ]
                            refine txt_light ?_ rfl rfl ?_ ?_
                            rotate_left
                            · intro w' hS
                              obtain ⟨q0, q1, ⟨q2, q3⟩, q4, q5⟩ := HSC.out w' hS
                              obtain ⟨t0, t1, ⟨t2, t3⟩, t4, t5⟩ := HTI.out w' hS
                              clear hS
                              go_simp
                              try with_reducible rfl
                            try simp only [Act.put, List.getElem_toArray, List.getElem_cons_succ, List.getElem_cons_zero, List.setIfInBounds_toArray, List.set_cons_zero, List.set_cons_succ]
                            refine txt_light ?_ rfl rfl ?_ ?_
                            rotate_left
                            · intro w' hS
                              obtain ⟨q0, q1, ⟨q2, q3⟩, q4, q5⟩ := HSC.out w' hS
                              obtain ⟨t0, t1, ⟨t2, t3⟩, t4, t5⟩ := HTI.out w' hS
                              clear hS
                              go_simp
                              try with_reducible rfl
                            try simp only [Act.put, List.getElem_toArray, List.getElem_cons_succ, List.getElem_cons_zero, List.setIfInBounds_toArray, List.set_cons_zero, List.set_cons_succ]
                            refine txt_light ?_ rfl rfl ?_ ?_
                            rotate_left
                            · intro w' hS
                              obtain ⟨q0, q1, ⟨q2, q3⟩, q4, q5⟩ := HSC.out w' hS
                              obtain ⟨t0, t1, ⟨t2, t3⟩, t4, t5⟩ := HTI.out w' hS
                              clear hS
                              go_simp
                              try with_reducible rfl
                            try simp only [Act.put, List.getElem_toArray, List.getElem_cons_succ, List.getElem_cons_zero, List.setIfInBounds_toArray, List.set_cons_zero, List.set_cons_succ]
                            refine txt_light ?_ rfl rfl ?_ ?_
                            rotate_left
                            · intro w' hS
                              obtain ⟨q0, q1, ⟨q2, q3⟩, q4, q5⟩ := HSC.out w' hS
                              obtain ⟨t0, t1, ⟨t2, t3⟩, t4, t5⟩ := HTI.out w' hS
                              clear hS
                              go_simp
                              try with_reducible rfl
                            try simp only [Act.put, List.getElem_toArray, List.getElem_cons_succ, List.getElem_cons_zero, List.setIfInBounds_toArray, List.set_cons_zero, List.set_cons_succ]
                            refine txt_light ?_ rfl rfl ?_ ?_
                            rotate_left
                            · intro w' hS
                              obtain ⟨q0, q1, ⟨q2, q3⟩, q4, q5⟩ := HSC.out w' hS
                              obtain ⟨t0, t1, ⟨t2, t3⟩, t4, t5⟩ := HTI.out w' hS
                              clear hS
                              go_simp
                              try with_reducible rfl
                            try simp only [Act.put, List.getElem_toArray, List.getElem_cons_succ, List.getElem_cons_zero, List.setIfInBounds_toArray, List.set_cons_zero, List.set_cons_succ]
                            refine txt_light ?_ rfl rfl ?_ ?_
                            rotate_left
                            · intro w' hS
                              obtain ⟨q0, q1, ⟨q2, q3⟩, q4, q5⟩ := HSC.out w' hS
                              obtain ⟨t0, t1, ⟨t2, t3⟩, t4, t5⟩ := HTI.out w' hS
                              clear hS
                              go_simp
                              try with_reducible rfl
                            try simp only [Act.put, List.getElem_toArray, List.getElem_cons_succ, List.getElem_cons_zero, List.setIfInBounds_toArray, List.set_cons_zero, List.set_cons_succ]
                            refine txt_light ?_ rfl rfl ?_ ?_
                            rotate_left
                            · intro w' hS
                              obtain ⟨q0, q1, ⟨q2, q3⟩, q4, q5⟩ := HSC.out w' hS
                              obtain ⟨t0, t1, ⟨t2, t3⟩, t4, t5⟩ := HTI.out w' hS
                              clear hS
                              go_simp
                              try with_reducible rfl
                            try simp only [Act.put, List.getElem_toArray, List.getElem_cons_succ, List.getElem_cons_zero, List.setIfInBounds_toArray, List.set_cons_zero, List.set_cons_succ]
                            refine txt_light ?_ rfl rfl ?_ ?_
                            rotate_left
                            · intro w' hS
                              obtain ⟨q0, q1, ⟨q2, q3⟩, q4, q5⟩ := HSC.out w' hS
                              obtain ⟨t0, t1, ⟨t2, t3⟩, t4, t5⟩ := HTI.out w' hS
                              clear hS
                              go_simp
                              try with_reducible rfl
                            try simp only [Act.put, List.getElem_toArray, List.getElem_cons_succ, List.getElem_cons_zero, List.setIfInBounds_toArray, List.set_cons_zero, List.set_cons_succ]
                            refine txt_light ?_ rfl rfl ?_ ?_
                            rotate_left
                            · intro w' hS
                              obtain ⟨q0, q1, ⟨q2, q3⟩, q4, q5⟩ := HSC.out w' hS
                              obtain ⟨t0, t1, ⟨t2, t3⟩, t4, t5⟩ := HTI.out w' hS
                              clear hS
                              go_simp
                              try with_reducible rfl
                            try simp only [Act.put, List.getElem_toArray, List.getElem_cons_succ, List.getElem_cons_zero, List.setIfInBounds_toArray, List.set_cons_zero, List.set_cons_succ]
                            refine txt_light ?_ rfl rfl ?_ ?_
                            rotate_left
                            · intro w' hS
                              obtain ⟨q0, q1, ⟨q2, q3⟩, q4, q5⟩ := HSC.out w' hS
                              obtain ⟨t0, t1, ⟨t2, t3⟩, t4, t5⟩ := HTI.out w' hS
                              clear hS
                              go_simp
                              try with_reducible rfl
                            try simp only [Act.put, List.getElem_toArray, List.getElem_cons_succ, List.getElem_cons_zero, List.setIfInBounds_toArray, List.set_cons_zero, List.set_cons_succ]
                            refine txt_light ?_ rfl rfl ?_ ?_
                            rotate_left
                            · intro w' hS
                              obtain ⟨q0, q1, ⟨q2, q3⟩, q4, q5⟩ := HSC.out w' hS
                              obtain ⟨t0, t1, ⟨t2, t3⟩, t4, t5⟩ := HTI.out w' hS
                              clear hS
                              go_simp
                              try with_reducible rfl
                            try simp only [Act.put, List.getElem_toArray, List.getElem_cons_succ, List.getElem_cons_zero, List.setIfInBounds_toArray, List.set_cons_zero, List.set_cons_succ]
                            refine txt_light ?_ rfl rfl ?_ ?_
                            rotate_left
                            · intro w' hS
                              obtain ⟨q0, q1, ⟨q2, q3⟩, q4, q5⟩ := HSC.out w' hS
                              obtain ⟨t0, t1, ⟨t2, t3⟩, t4, t5⟩ := HTI.out w' hS
                              clear hS
                              go_simp
                              try with_reducible rfl
                            try simp only [Act.put, List.getElem_toArray, List.getElem_cons_succ, List.getElem_cons_zero, List.setIfInBounds_toArray, List.set_cons_zero, List.set_cons_succ]
                            refine txt_call [.agg #[.int .i64 sax, .int .i64 say], .agg #[.int .i64 sbx, .int .i64 sby], .agg #[.int .i64 vx, .int .i64 vy]] Try.f9 rfl rfl Try.func9 (by kernel_rfl) (by kernel_rfl) rfl ((HON2.out _).mono ?_)
                            rintro e y2 ⟨rfl, hbcy2⟩
                            have hbi2 := hbi1.trans (hbcy2.mono hbi1.size)
                            refine ⟨_, rfl, hbi2, ?_⟩
                            try simp only [Act.put, List.getElem_toArray, List.getElem_cons_succ, List.getElem_cons_zero, List.setIfInBounds_toArray, List.set_cons_zero, List.set_cons_succ]
                            refine txt_light ?_ rfl rfl ?_ ?_
                            rotate_left
                            · intro w' hS
                              obtain ⟨q0, q1, ⟨q2, q3⟩, q4, q5⟩ := HSC.out w' hS
                              obtain ⟨t0, t1, ⟨t2, t3⟩, t4, t5⟩ := HTI.out w' hS
                              clear hS
                              go_simp
                              try with_reducible rfl
                            try simp only [Act.put, List.getElem_toArray, List.getElem_cons_succ, List.getElem_cons_zero, List.setIfInBounds_toArray, List.set_cons_zero, List.set_cons_succ]
                            refine txt_light ?_ rfl rfl ?_ ?_
                            rotate_left
                            · intro w' hS
                              obtain ⟨q0, q1, ⟨q2, q3⟩, q4, q5⟩ := HSC.out w' hS
                              obtain ⟨t0, t1, ⟨t2, t3⟩, t4, t5⟩ := HTI.out w' hS
                              clear hS
                              go_simp
                              try with_reducible rfl
                            try simp only [Act.put, List.getElem_toArray, List.getElem_cons_succ, List.getElem_cons_zero, List.setIfInBounds_toArray, List.set_cons_zero, List.set_cons_succ]
                            refine txt_nil ?_
                            go_wp2
                            go_roundw
                            case rel => exact ⟨m + 1, O2, by omega, by go_num, rfl, HNX.out O2 (by simp [hf, hrr]), Lib.hid (HBI.out.trans (hbi2.mono HBI.out.size))⟩
                            case measure => simp [intOf]; omega

                        · have hrb : (((sr : Nat) : Int) == ((tr : Nat) : Int)) = false := by simp; omega
                          as_aux_lemma =>
                          refine wp_region_lit_txt [0, 1, 2, 3, 4, 5, 6, 7, 8, 9, 10, 11, 12, 13, 14, 15, 16, 17, 18, 19, 20, 21, 22, 23, 24, 25, 26, 27, 28, 29, 30, 31, 32, 33, 34, 35, 37, 38, 39, 40, 41, 42, 43, 44, 45, 46, 47, 48, 49, 51, 52] (fun W => Below wr.heap.size wr W) (by kernel_rfl) (by kernel_rfl) (by kernel_rfl) hbi0 ?_
                          refine txt_light ?_ rfl rfl ?_ ?_
                          rotate_left
                          · intro w' hS
                            obtain ⟨q0, q1, ⟨q2, q3⟩, q4, q5⟩ := HSC.out w' hS
                            obtain ⟨t0, t1, ⟨t2, t3⟩, t4, t5⟩ := HTI.out w' hS
                            clear hS
                            go_simp
                            try with_reducible rfl
                          try simp only [Act.put, List.getElem_toArray, List.getElem_cons_succ, List.getElem_cons_zero, List.setIfInBounds_toArray, List.set_cons_zero, List.set_cons_succ]
                          refine txt_light ?_ rfl rfl ?_ ?_
                          rotate_left
                          · intro w' hS
                            obtain ⟨q0, q1, ⟨q2, q3⟩, q4, q5⟩ := HSC.out w' hS
                            obtain ⟨t0, t1, ⟨t2, t3⟩, t4, t5⟩ := HTI.out w' hS
                            clear hS
                            go_simp
                            try with_reducible rfl
                          try simp only [Act.put, List.getElem_toArray, List.getElem_cons_succ, List.getElem_cons_zero, List.setIfInBounds_toArray, List.set_cons_zero, List.set_cons_succ]
                          refine txt_light ?_ rfl rfl ?_ ?_
                          rotate_left
                          · intro w' hS
                            obtain ⟨q0, q1, ⟨q2, q3⟩, q4, q5⟩ := HSC.out w' hS
                            obtain ⟨t0, t1, ⟨t2, t3⟩, t4, t5⟩ := HTI.out w' hS
                            clear hS
                            go_simp
                            try with_reducible rfl
                          try simp only [Act.put, List.getElem_toArray, List.getElem_cons_succ, List.getElem_cons_zero, List.setIfInBounds_toArray, List.set_cons_zero, List.set_cons_succ]
                          refine txt_light ?_ rfl rfl ?_ ?_
                          rotate_left
                          · intro w' hS
                            obtain ⟨q0, q1, ⟨q2, q3⟩, q4, q5⟩ := HSC.out w' hS
                            obtain ⟨t0, t1, ⟨t2, t3⟩, t4, t5⟩ := HTI.out w' hS
                            clear hS
                            go_simp
                            try with_reducible rfl
                          try simp only [Act.put, List.getElem_toArray, List.getElem_cons_succ, List.getElem_cons_zero, List.setIfInBounds_toArray, List.set_cons_zero, List.set_cons_succ]
                          refine txt_light ?_ rfl rfl ?_ ?_
                          rotate_left
                          · intro w' hS
                            obtain ⟨q0, q1, ⟨q2, q3⟩, q4, q5⟩ := HSC.out w' hS
                            obtain ⟨t0, t1, ⟨t2, t3⟩, t4, t5⟩ := HTI.out w' hS
                            clear hS
                            go_simp
                            try with_reducible rfl
                          try simp only [Act.put, List.getElem_toArray, List.getElem_cons_succ, List.getElem_cons_zero, List.setIfInBounds_toArray, List.set_cons_zero, List.set_cons_succ]
                          refine txt_light ?_ rfl rfl ?_ ?_
                          rotate_left
                          · intro w' hS
                            obtain ⟨q0, q1, ⟨q2, q3⟩, q4, q5⟩ := HSC.out w' hS
                            obtain ⟨t0, t1, ⟨t2, t3⟩, t4, t5⟩ := HTI.out w' hS
                            clear hS
                            go_simp
                            try with_reducible rfl
                          try simp only [Act.put, List.getElem_toArray, List.getElem_cons_succ, List.getElem_cons_zero, List.setIfInBounds_toArray, List.set_cons_zero, List.set_cons_succ]
                          refine txt_light ?_ rfl rfl ?_ ?_
                          rotate_left
                          · intro w' hS
                            obtain ⟨q0, q1, ⟨q2, q3⟩, q4, q5⟩ := HSC.out w' hS
                            obtain ⟨t0, t1, ⟨t2, t3⟩, t4, t5⟩ := HTI.out w' hS
                            clear hS
                            go_simp
                            try with_reducible rfl
                          try simp only [Act.put, List.getElem_toArray, List.getElem_cons_succ, List.getElem_cons_zero, List.setIfInBounds_toArray, List.set_cons_zero, List.set_cons_succ]
                          refine txt_light ?_ rfl rfl ?_ ?_
                          rotate_left
                          · intro w' hS
                            obtain ⟨q0, q1, ⟨q2, q3⟩, q4, q5⟩ := HSC.out w' hS
                            obtain ⟨t0, t1, ⟨t2, t3⟩, t4, t5⟩ := HTI.out w' hS
                            clear hS
                            go_simp
                            try with_reducible rfl
                          try simp only [Act.put, List.getElem_toArray, List.getElem_cons_succ, List.getElem_cons_zero, List.setIfInBounds_toArray, List.set_cons_zero, List.set_cons_succ]
                          refine txt_light ?_ rfl rfl ?_ ?_
                          rotate_left
                          · intro w' hS
                            obtain ⟨q0, q1, ⟨q2, q3⟩, q4, q5⟩ := HSC.out w' hS
                            obtain ⟨t0, t1, ⟨t2, t3⟩, t4, t5⟩ := HTI.out w' hS
                            clear hS
                            go_simp
                            try with_reducible rfl
                          try simp only [Act.put, List.getElem_toArray, List.getElem_cons_succ, List.getElem_cons_zero, List.setIfInBounds_toArray, List.set_cons_zero, List.set_cons_succ]
                          refine txt_light ?_ rfl rfl ?_ ?_
                          rotate_left
                          · intro w' hS
                            obtain ⟨q0, q1, ⟨q2, q3⟩, q4, q5⟩ := HSC.out w' hS
                            obtain ⟨t0, t1, ⟨t2, t3⟩, t4, t5⟩ := HTI.out w' hS
                            clear hS
                            go_simp
                            try with_reducible rfl
                          try simp only [Act.put, List.getElem_toArray, List.getElem_cons_succ, List.getElem_cons_zero, List.setIfInBounds_toArray, List.set_cons_zero, List.set_cons_succ]
                          refine txt_light ?_ rfl rfl ?_ ?_
                          rotate_left
                          · intro w' hS
                            obtain ⟨q0, q1, ⟨q2, q3⟩, q4, q5⟩ := HSC.out w' hS
                            obtain ⟨t0, t1, ⟨t2, t3⟩, t4, t5⟩ := HTI.out w' hS
                            clear hS
                            go_simp
                            try with_reducible rfl
                          try simp only [Act.put, List.getElem_toArray, List.getElem_cons_succ, List.getElem_cons_zero, List.setIfInBounds_toArray, List.set_cons_zero, List.set_cons_succ]
                          refine txt_light ?_ rfl rfl ?_ ?_
                          rotate_left
                          · intro w' hS
                            obtain ⟨q0, q1, ⟨q2, q3⟩, q4, q5⟩ := HSC.out w' hS
                            obtain ⟨t0, t1, ⟨t2, t3⟩, t4, t5⟩ := HTI.out w' hS
                            clear hS
                            go_simp
                            try with_reducible rfl
                          try simp only [Act.put, List.getElem_toArray, List.getElem_cons_succ, List.getElem_cons_zero, List.setIfInBounds_toArray, List.set_cons_zero, List.set_cons_succ]
                          refine txt_light ?_ rfl rfl ?_ ?_
                          rotate_left
                          · intro w' hS
                            obtain ⟨q0, q1, ⟨q2, q3⟩, q4, q5⟩ := HSC.out w' hS
                            obtain ⟨t0, t1, ⟨t2, t3⟩, t4, t5⟩ := HTI.out w' hS
                            clear hS
                            go_simp
                            try with_reducible rfl
                          try simp only [Act.put, List.getElem_toArray, List.getElem_cons_succ, List.getElem_cons_zero, List.setIfInBounds_toArray, List.set_cons_zero, List.set_cons_succ]
                          refine txt_light ?_ rfl rfl ?_ ?_
                          rotate_left
                          · intro w' hS
                            obtain ⟨q0, q1, ⟨q2, q3⟩, q4, q5⟩ := HSC.out w' hS
                            obtain ⟨t0, t1, ⟨t2, t3⟩, t4, t5⟩ := HTI.out w' hS
                            clear hS
                            go_simp
                            try with_reducible rfl
                          try simp only [Act.put, List.getElem_toArray, List.getElem_cons_succ, List.getElem_cons_zero, List.setIfInBounds_toArray, List.set_cons_zero, List.set_cons_succ]
                          refine txt_light ?_ rfl rfl ?_ ?_
                          rotate_left
                          · intro w' hS
                            obtain ⟨q0, q1, ⟨q2, q3⟩, q4, q5⟩ := HSC.out w' hS
                            obtain ⟨t0, t1, ⟨t2, t3⟩, t4, t5⟩ := HTI.out w' hS
                            clear hS
                            go_simp
                            try with_reducible rfl
                          try simp only [Act.put, List.getElem_toArray, List.getElem_cons_succ, List.getElem_cons_zero, List.setIfInBounds_toArray, List.set_cons_zero, List.set_cons_succ]
                          refine txt_light ?_ rfl rfl ?_ ?_
                          rotate_left
                          · intro w' hS
                            obtain ⟨q0, q1, ⟨q2, q3⟩, q4, q5⟩ := HSC.out w' hS
                            obtain ⟨t0, t1, ⟨t2, t3⟩, t4, t5⟩ := HTI.out w' hS
                            clear hS
                            go_simp
                            try with_reducible rfl
                          try simp only [Act.put, List.getElem_toArray, List.getElem_cons_succ, List.getElem_cons_zero, List.setIfInBounds_toArray, List.set_cons_zero, List.set_cons_succ]
                          refine txt_light ?_ rfl rfl ?_ ?_
                          rotate_left
                          · intro w' hS
                            obtain ⟨q0, q1, ⟨q2, q3⟩, q4, q5⟩ := HSC.out w' hS
                            obtain ⟨t0, t1, ⟨t2, t3⟩, t4, t5⟩ := HTI.out w' hS
                            clear hS
                            go_simp
                            try with_reducible rfl
                          try simp only [Act.put, List.getElem_toArray, List.getElem_cons_succ, List.getElem_cons_zero, List.setIfInBounds_toArray, List.set_cons_zero, List.set_cons_succ]
                          refine txt_light ?_ rfl rfl ?_ ?_
                          rotate_left
                          · intro w' hS
                            obtain ⟨q0, q1, ⟨q2, q3⟩, q4, q5⟩ := HSC.out w' hS
                            obtain ⟨t0, t1, ⟨t2, t3⟩, t4, t5⟩ := HTI.out w' hS
                            clear hS
                            go_simp
                            try with_reducible rfl
                          try simp only [Act.put, List.getElem_toArray, List.getElem_cons_succ, List.getElem_cons_zero, List.setIfInBounds_toArray, List.set_cons_zero, List.set_cons_succ]
                          refine txt_light ?_ rfl rfl ?_ ?_
                          rotate_left
                          · intro w' hS
                            obtain ⟨q0, q1, ⟨q2, q3⟩, q4, q5⟩ := HSC.out w' hS
                            obtain ⟨t0, t1, ⟨t2, t3⟩, t4, t5⟩ := HTI.out w' hS
                            clear hS
                            go_simp
                            try with_reducible rfl
                          try simp only [Act.put, List.getElem_toArray, List.getElem_cons_succ, List.getElem_cons_zero, List.setIfInBounds_toArray, List.set_cons_zero, List.set_cons_succ]
                          refine txt_light ?_ rfl rfl ?_ ?_
                          rotate_left
                          · intro w' hS
                            obtain ⟨q0, q1, ⟨q2, q3⟩, q4, q5⟩ := HSC.out w' hS
                            obtain ⟨t0, t1, ⟨t2, t3⟩, t4, t5⟩ := HTI.out w' hS
                            clear hS
                            go_simp
                            try with_reducible rfl
                          try simp only [Act.put, List.getElem_toArray, List.getElem_cons_succ, List.getElem_cons_zero, List.setIfInBounds_toArray, List.set_cons_zero, List.set_cons_succ]
                          refine txt_light ?_ rfl rfl ?_ ?_
                          rotate_left
                          · intro w' hS
                            obtain ⟨q0, q1, ⟨q2, q3⟩, q4, q5⟩ := HSC.out w' hS
                            obtain ⟨t0, t1, ⟨t2, t3⟩, t4, t5⟩ := HTI.out w' hS
                            clear hS
                            go_simp
                            try with_reducible rfl
                          try simp only [Act.put, List.getElem_toArray, List.getElem_cons_succ, List.getElem_cons_zero, List.setIfInBounds_toArray, List.set_cons_zero, List.set_cons_succ]
                          refine txt_light ?_ rfl rfl ?_ ?_
                          rotate_left
                          · intro w' hS
                            obtain ⟨q0, q1, ⟨q2, q3⟩, q4, q5⟩ := HSC.out w' hS
                            obtain ⟨t0, t1, ⟨t2, t3⟩, t4, t5⟩ := HTI.out w' hS
                            clear hS
                            go_simp
                            try with_reducible rfl
                          try simp only [Act.put, List.getElem_toArray, List.getElem_cons_succ, List.getElem_cons_zero, List.setIfInBounds_toArray, List.set_cons_zero, List.set_cons_succ]
                          refine txt_light ?_ rfl rfl ?_ ?_
                          rotate_left
                          · intro w' hS
                            obtain ⟨q0, q1, ⟨q2, q3⟩, q4, q5⟩ := HSC.out w' hS
                            obtain ⟨t0, t1, ⟨t2, t3⟩, t4, t5⟩ := HTI.out w' hS
                            clear hS
                            go_simp
                            try with_reducible rfl
                          try simp only [Act.put, List.getElem_toArray, List.getElem_cons_succ, List.getElem_cons_zero, List.setIfInBounds_toArray, List.set_cons_zero, List.set_cons_succ]
                          refine txt_light ?_ rfl rfl ?_ ?_
                          rotate_left
                          · intro w' hS
                            obtain ⟨q0, q1, ⟨q2, q3⟩, q4, q5⟩ := HSC.out w' hS
                            obtain ⟨t0, t1, ⟨t2, t3⟩, t4, t5⟩ := HTI.out w' hS
                            clear hS
                            go_simp
                            try with_reducible rfl
                          try simp only [Act.put, List.getElem_toArray, List.getElem_cons_succ, List.getElem_cons_zero, List.setIfInBounds_toArray, List.set_cons_zero, List.set_cons_succ]
                          refine txt_light ?_ rfl rfl ?_ ?_
                          rotate_left
                          · intro w' hS
                            obtain ⟨q0, q1, ⟨q2, q3⟩, q4, q5⟩ := HSC.out w' hS
                            obtain ⟨t0, t1, ⟨t2, t3⟩, t4, t5⟩ := HTI.out w' hS
                            clear hS
                            go_simp
                            try with_reducible rfl
                          try simp only [Act.put, List.getElem_toArray, List.getElem_cons_succ, List.getElem_cons_zero, List.setIfInBounds_toArray, List.set_cons_zero, List.set_cons_succ]
                          refine txt_skip rfl ?_
                          try simp only [Act.put, List.getElem_toArray, List.getElem_cons_succ, List.getElem_cons_zero, List.setIfInBounds_toArray, List.set_cons_zero, List.set_cons_succ]
                          refine txt_skip rfl ?_
                          try simp only [Act.put, List.getElem_toArray, List.getElem_cons_succ, List.getElem_cons_zero, List.setIfInBounds_toArray, List.set_cons_zero, List.set_cons_succ]
                          refine txt_skip rfl ?_
                          try simp only [Act.put, List.getElem_toArray, List.getElem_cons_succ, List.getElem_cons_zero, List.setIfInBounds_toArray, List.set_cons_zero, List.set_cons_succ]
                          refine txt_skip rfl ?_
                          try simp only [Act.put, List.getElem_toArray, List.getElem_cons_succ, List.getElem_cons_zero, List.setIfInBounds_toArray, List.set_cons_zero, List.set_cons_succ]
                          refine txt_skip rfl ?_
                          try simp only [Act.put, List.getElem_toArray, List.getElem_cons_succ, List.getElem_cons_zero, List.setIfInBounds_toArray, List.set_cons_zero, List.set_cons_succ]
                          refine txt_skip rfl ?_
                          try simp only [Act.put, List.getElem_toArray, List.getElem_cons_succ, List.getElem_cons_zero, List.setIfInBounds_toArray, List.set_cons_zero, List.set_cons_succ]
                          refine txt_skip rfl ?_
                          try simp only [Act.put, List.getElem_toArray, List.getElem_cons_succ, List.getElem_cons_zero, List.setIfInBounds_toArray, List.set_cons_zero, List.set_cons_succ]
                          refine txt_skip rfl ?_
                          try simp only [Act.put, List.getElem_toArray, List.getElem_cons_succ, List.getElem_cons_zero, List.setIfInBounds_toArray, List.set_cons_zero, List.set_cons_succ]
                          refine txt_skip rfl ?_
                          try simp only [Act.put, List.getElem_toArray, List.getElem_cons_succ, List.getElem_cons_zero, List.setIfInBounds_toArray, List.set_cons_zero, List.set_cons_succ]
                          refine txt_skip rfl ?_
                          try simp only [Act.put, List.getElem_toArray, List.getElem_cons_succ, List.getElem_cons_zero, List.setIfInBounds_toArray, List.set_cons_zero, List.set_cons_succ]
                          refine txt_skip rfl ?_
                          try simp only [Act.put, List.getElem_toArray, List.getElem_cons_succ, List.getElem_cons_zero, List.setIfInBounds_toArray, List.set_cons_zero, List.set_cons_succ]
                          refine txt_skip rfl ?_
                          try simp only [Act.put, List.getElem_toArray, List.getElem_cons_succ, List.getElem_cons_zero, List.setIfInBounds_toArray, List.set_cons_zero, List.set_cons_succ]
                          refine txt_light ?_ rfl rfl ?_ ?_
                          rotate_left
                          · intro w' hS
                            obtain ⟨q0, q1, ⟨q2, q3⟩, q4, q5⟩ := HSC.out w' hS
                            obtain ⟨t0, t1, ⟨t2, t3⟩, t4, t5⟩ := HTI.out w' hS
                            clear hS
                            go_simp
                            try with_reducible rfl
                          try simp only [Act.put, List.getElem_toArray, List.getElem_cons_succ, List.getElem_cons_zero, List.setIfInBounds_toArray, List.set_cons_zero, List.set_cons_succ]
                          refine txt_light ?_ rfl rfl ?_ ?_
                          rotate_left
                          · intro w' hS
                            obtain ⟨q0, q1, ⟨q2, q3⟩, q4, q5⟩ := HSC.out w' hS
                            obtain ⟨t0, t1, ⟨t2, t3⟩, t4, t5⟩ := HTI.out w' hS
                            clear hS
                            go_simp
                            try with_reducible rfl
                          try simp only [Act.put, List.getElem_toArray, List.getElem_cons_succ, List.getElem_cons_zero, List.setIfInBounds_toArray, List.set_cons_zero, List.set_cons_succ]
                          refine txt_skip rfl ?_
                          try simp only [Act.put, List.getElem_toArray, List.getElem_cons_succ, List.getElem_cons_zero, List.setIfInBounds_toArray, List.set_cons_zero, List.set_cons_succ]
                          refine txt_skip rfl ?_
                          try simp only [Act.put, List.getElem_toArray, List.getElem_cons_succ, List.getElem_cons_zero, List.setIfInBounds_toArray, List.set_cons_zero, List.set_cons_succ]
                          refine txt_skip rfl ?_
                          try simp only [Act.put, List.getElem_toArray, List.getElem_cons_succ, List.getElem_cons_zero, List.setIfInBounds_toArray, List.set_cons_zero, List.set_cons_succ]
                          refine txt_skip rfl ?_
                          try simp only [Act.put, List.getElem_toArray, List.getElem_cons_succ, List.getElem_cons_zero, List.setIfInBounds_toArray, List.set_cons_zero, List.set_cons_succ]
                          refine txt_skip rfl ?_
                          try simp only [Act.put, List.getElem_toArray, List.getElem_cons_succ, List.getElem_cons_zero, List.setIfInBounds_toArray, List.set_cons_zero, List.set_cons_succ]
                          refine txt_skip rfl ?_
                          try simp only [Act.put, List.getElem_toArray, List.getElem_cons_succ, List.getElem_cons_zero, List.setIfInBounds_toArray, List.set_cons_zero, List.set_cons_succ]
                          refine txt_skip rfl ?_
                          try simp only [Act.put, List.getElem_toArray, List.getElem_cons_succ, List.getElem_cons_zero, List.setIfInBounds_toArray, List.set_cons_zero, List.set_cons_succ]
                          refine txt_skip rfl ?_
                          try simp only [Act.put, List.getElem_toArray, List.getElem_cons_succ, List.getElem_cons_zero, List.setIfInBounds_toArray, List.set_cons_zero, List.set_cons_succ]
                          refine txt_skip rfl ?_
                          try simp only [Act.put, List.getElem_toArray, List.getElem_cons_succ, List.getElem_cons_zero, List.setIfInBounds_toArray, List.set_cons_zero, List.set_cons_succ]
                          refine txt_skip rfl ?_
                          try simp only [Act.put, List.getElem_toArray, List.getElem_cons_succ, List.getElem_cons_zero, List.setIfInBounds_toArray, List.set_cons_zero, List.set_cons_succ]
                          refine txt_skip rfl ?_
                          try simp only [Act.put, List.getElem_toArray, List.getElem_cons_succ, List.getElem_cons_zero, List.setIfInBounds_toArray, List.set_cons_zero, List.set_cons_succ]
                          refine txt_skip rfl ?_
                          try simp only [Act.put, List.getElem_toArray, List.getElem_cons_succ, List.getElem_cons_zero, List.setIfInBounds_toArray, List.set_cons_zero, List.set_cons_succ]
                          refine txt_light ?_ rfl rfl ?_ ?_
                          rotate_left
                          · intro w' hS
                            obtain ⟨q0, q1, ⟨q2, q3⟩, q4, q5⟩ := HSC.out w' hS
                            obtain ⟨t0, t1, ⟨t2, t3⟩, t4, t5⟩ := HTI.out w' hS
                            clear hS
                            go_simp
                            try with_reducible rfl
                          try simp only [Act.put, List.getElem_toArray, List.getElem_cons_succ, List.getElem_cons_zero, List.setIfInBounds_toArray, List.set_cons_zero, List.set_cons_succ]
                          refine txt_light ?_ rfl rfl ?_ ?_
                          rotate_left
                          · intro w' hS
                            obtain ⟨q0, q1, ⟨q2, q3⟩, q4, q5⟩ := HSC.out w' hS
                            obtain ⟨t0, t1, ⟨t2, t3⟩, t4, t5⟩ := HTI.out w' hS
                            clear hS
                            go_simp
                            try with_reducible rfl
                          try simp only [Act.put, List.getElem_toArray, List.getElem_cons_succ, List.getElem_cons_zero, List.setIfInBounds_toArray, List.set_cons_zero, List.set_cons_succ]
                          refine txt_nil ?_
                          go_wp2
                          go_roundw
                          case rel => exact ⟨m + 1, false, by omega, by go_num, rfl, HNX.out false (by simp [hrr]), Lib.hid (HBI.out.trans (hbi0.mono HBI.out.size))⟩
                          case measure => simp [intOf]; omega

                      · have hfb : (((sf : Nat) : Int) == ((tf : Nat) : Int)) = false := by simp; omega
                        as_aux_lemma =>
                        refine wp_region_lit_txt [0, 1, 2, 3, 4, 5, 6, 7, 8, 9, 10, 11, 12, 13, 14, 15, 16, 17, 18, 19, 20, 21, 22, 23, 24, 25, 26, 27, 28, 29, 30, 31, 32, 33, 34, 35, 37, 38, 39, 40, 41, 42, 43, 44, 45, 46, 47, 48, 49, 51, 52] (fun W => Below wr.heap.size wr W) (by kernel_rfl) (by kernel_rfl) (by kernel_rfl) hbi0 ?_
                        refine txt_light ?_ rfl rfl ?_ ?_
                        rotate_left
                        · intro w' hS
                          obtain ⟨q0, q1, ⟨q2, q3⟩, q4, q5⟩ := HSC.out w' hS
                          obtain ⟨t0, t1, ⟨t2, t3⟩, t4, t5⟩ := HTI.out w' hS
                          clear hS
                          go_simp
                          try with_reducible rfl
                        try simp only [Act.put, List.getElem_toArray, List.getElem_cons_succ, List.getElem_cons_zero, List.setIfInBounds_toArray, List.set_cons_zero, List.set_cons_succ]
                        refine txt_light ?_ rfl rfl ?_ ?_
                        rotate_left
                        · intro w' hS
                          obtain ⟨q0, q1, ⟨q2, q3⟩, q4, q5⟩ := HSC.out w' hS
                          obtain ⟨t0, t1, ⟨t2, t3⟩, t4, t5⟩ := HTI.out w' hS
                          clear hS
                          go_simp
                          try with_reducible rfl
                        try simp only [Act.put, List.getElem_toArray, List.getElem_cons_succ, List.getElem_cons_zero, List.setIfInBounds_toArray, List.set_cons_zero, List.set_cons_succ]
                        refine txt_light ?_ rfl rfl ?_ ?_
                        rotate_left
                        · intro w' hS
                          obtain ⟨q0, q1, ⟨q2, q3⟩, q4, q5⟩ := HSC.out w' hS
                          obtain ⟨t0, t1, ⟨t2, t3⟩, t4, t5⟩ := HTI.out w' hS
                          clear hS
                          go_simp
                          try with_reducible rfl
                        try simp only [Act.put, List.getElem_toArray, List.getElem_cons_succ, List.getElem_cons_zero, List.setIfInBounds_toArray, List.set_cons_zero, List.set_cons_succ]
                        refine txt_light ?_ rfl rfl ?_ ?_
                        rotate_left
                        · intro w' hS
                          obtain ⟨q0, q1, ⟨q2, q3⟩, q4, q5⟩ := HSC.out w' hS
                          obtain ⟨t0, t1, ⟨t2, t3⟩, t4, t5⟩ := HTI.out w' hS
                          clear hS
                          go_simp
                          try with_reducible rfl
                        try simp only [Act.put, List.getElem_toArray, List.getElem_cons_succ, List.getElem_cons_zero, List.setIfInBounds_toArray, List.set_cons_zero, List.set_cons_succ]
                        refine txt_light ?_ rfl rfl ?_ ?_
                        rotate_left
                        · intro w' hS
                          obtain ⟨q0, q1, ⟨q2, q3⟩, q4, q5⟩ := HSC.out w' hS
                          obtain ⟨t0, t1, ⟨t2, t3⟩, t4, t5⟩ := HTI.out w' hS
                          clear hS
                          go_simp
                          try with_reducible rfl
                        try simp only [Act.put, List.getElem_toArray, List.getElem_cons_succ, List.getElem_cons_zero, List.setIfInBounds_toArray, List.set_cons_zero, List.set_cons_succ]
                        refine txt_light ?_ rfl rfl ?_ ?_
                        rotate_left
                        · intro w' hS
                          obtain ⟨q0, q1, ⟨q2, q3⟩, q4, q5⟩ := HSC.out w' hS
                          obtain ⟨t0, t1, ⟨t2, t3⟩, t4, t5⟩ := HTI.out w' hS
                          clear hS
                          go_simp
                          try with_reducible rfl
                        try simp only [Act.put, List.getElem_toArray, List.getElem_cons_succ, List.getElem_cons_zero, List.setIfInBounds_toArray, List.set_cons_zero, List.set_cons_succ]
                        refine txt_light ?_ rfl rfl ?_ ?_
                        rotate_left
                        · intro w' hS
                          obtain ⟨q0, q1, ⟨q2, q3⟩, q4, q5⟩ := HSC.out w' hS
                          obtain ⟨t0, t1, ⟨t2, t3⟩, t4, t5⟩ := HTI.out w' hS
                          clear hS
                          go_simp
                          try with_reducible rfl
                        try simp only [Act.put, List.getElem_toArray, List.getElem_cons_succ, List.getElem_cons_zero, List.setIfInBounds_toArray, List.set_cons_zero, List.set_cons_succ]
                        refine txt_light ?_ rfl rfl ?_ ?_
                        rotate_left
                        · intro w' hS
                          obtain ⟨q0, q1, ⟨q2, q3⟩, q4, q5⟩ := HSC.out w' hS
                          obtain ⟨t0, t1, ⟨t2, t3⟩, t4, t5⟩ := HTI.out w' hS
                          clear hS
                          go_simp
                          try with_reducible rfl
                        try simp only [Act.put, List.getElem_toArray, List.getElem_cons_succ, List.getElem_cons_zero, List.setIfInBounds_toArray, List.set_cons_zero, List.set_cons_succ]
                        refine txt_light ?_ rfl rfl ?_ ?_
                        rotate_left
                        · intro w' hS
                          obtain ⟨q0, q1, ⟨q2, q3⟩, q4, q5⟩ := HSC.out w' hS
                          obtain ⟨t0, t1, ⟨t2, t3⟩, t4, t5⟩ := HTI.out w' hS
                          clear hS
                          go_simp
                          try with_reducible rfl
                        try simp only [Act.put, List.getElem_toArray, List.getElem_cons_succ, List.getElem_cons_zero, List.setIfInBounds_toArray, List.set_cons_zero, List.set_cons_succ]
                        refine txt_light ?_ rfl rfl ?_ ?_
                        rotate_left
                        · intro w' hS
                          obtain ⟨q0, q1, ⟨q2, q3⟩, q4, q5⟩ := HSC.out w' hS
                          obtain ⟨t0, t1, ⟨t2, t3⟩, t4, t5⟩ := HTI.out w' hS
                          clear hS
                          go_simp
                          try with_reducible rfl
                        try simp only [Act.put, List.getElem_toArray, List.getElem_cons_succ, List.getElem_cons_zero, List.setIfInBounds_toArray, List.set_cons_zero, List.set_cons_succ]
                        refine txt_light ?_ rfl rfl ?_ ?_
                        rotate_left
                        · intro w' hS
                          obtain ⟨q0, q1, ⟨q2, q3⟩, q4, q5⟩ := HSC.out w' hS
                          obtain ⟨t0, t1, ⟨t2, t3⟩, t4, t5⟩ := HTI.out w' hS
                          clear hS
                          go_simp
                          try with_reducible rfl
                        try simp only [Act.put, List.getElem_toArray, List.getElem_cons_succ, List.getElem_cons_zero, List.setIfInBounds_toArray, List.set_cons_zero, List.set_cons_succ]
                        refine txt_light ?_ rfl rfl ?_ ?_
                        rotate_left
                        · intro w' hS
                          obtain ⟨q0, q1, ⟨q2, q3⟩, q4, q5⟩ := HSC.out w' hS
                          obtain ⟨t0, t1, ⟨t2, t3⟩, t4, t5⟩ := HTI.out w' hS
                          clear hS
                          go_simp
                          try with_reducible rfl
                        try simp only [Act.put, List.getElem_toArray, List.getElem_cons_succ, List.getElem_cons_zero, List.setIfInBounds_toArray, List.set_cons_zero, List.set_cons_succ]
                        refine txt_skip rfl ?_
                        try simp only [Act.put, List.getElem_toArray, List.getElem_cons_succ, List.getElem_cons_zero, List.setIfInBounds_toArray, List.set_cons_zero, List.set_cons_succ]
                        refine txt_skip rfl ?_
                        try simp only [Act.put, List.getElem_toArray, List.getElem_cons_succ, List.getElem_cons_zero, List.setIfInBounds_toArray, List.set_cons_zero, List.set_cons_succ]
                        refine txt_skip rfl ?_
                        try simp only [Act.put, List.getElem_toArray, List.getElem_cons_succ, List.getElem_cons_zero, List.setIfInBounds_toArray, List.set_cons_zero, List.set_cons_succ]
                        refine txt_skip rfl ?_
                        try simp only [Act.put, List.getElem_toArray, List.getElem_cons_succ, List.getElem_cons_zero, List.setIfInBounds_toArray, List.set_cons_zero, List.set_cons_succ]
                        refine txt_skip rfl ?_
                        try simp only [Act.put, List.getElem_toArray, List.getElem_cons_succ, List.getElem_cons_zero, List.setIfInBounds_toArray, List.set_cons_zero, List.set_cons_succ]
                        refine txt_skip rfl ?_
                        try simp only [Act.put, List.getElem_toArray, List.getElem_cons_succ, List.getElem_cons_zero, List.setIfInBounds_toArray, List.set_cons_zero, List.set_cons_succ]
                        refine txt_skip rfl ?_
                        try simp only [Act.put, List.getElem_toArray, List.getElem_cons_succ, List.getElem_cons_zero, List.setIfInBounds_toArray, List.set_cons_zero, List.set_cons_succ]
                        refine txt_skip rfl ?_
                        try simp only [Act.put, List.getElem_toArray, List.getElem_cons_succ, List.getElem_cons_zero, List.setIfInBounds_toArray, List.set_cons_zero, List.set_cons_succ]
                        refine txt_skip rfl ?_
                        try simp only [Act.put, List.getElem_toArray, List.getElem_cons_succ, List.getElem_cons_zero, List.setIfInBounds_toArray, List.set_cons_zero, List.set_cons_succ]
                        refine txt_skip rfl ?_
                        try simp only [Act.put, List.getElem_toArray, List.getElem_cons_succ, List.getElem_cons_zero, List.setIfInBounds_toArray, List.set_cons_zero, List.set_cons_succ]
                        refine txt_skip rfl ?_
                        try simp only [Act.put, List.getElem_toArray, List.getElem_cons_succ, List.getElem_cons_zero, List.setIfInBounds_toArray, List.set_cons_zero, List.set_cons_succ]
                        refine txt_light ?_ rfl rfl ?_ ?_
                        rotate_left
                        · intro w' hS
                          obtain ⟨q0, q1, ⟨q2, q3⟩, q4, q5⟩ := HSC.out w' hS
                          obtain ⟨t0, t1, ⟨t2, t3⟩, t4, t5⟩ := HTI.out w' hS
                          clear hS
                          go_simp
                          try with_reducible rfl
                        try simp only [Act.put, List.getElem_toArray, List.getElem_cons_succ, List.getElem_cons_zero, List.setIfInBounds_toArray, List.set_cons_zero, List.set_cons_succ]
                        refine txt_light ?_ rfl rfl ?_ ?_
                        rotate_left
                        · intro w' hS
                          obtain ⟨q0, q1, ⟨q2, q3⟩, q4, q5⟩ := HSC.out w' hS
                          obtain ⟨t0, t1, ⟨t2, t3⟩, t4, t5⟩ := HTI.out w' hS
                          clear hS
                          go_simp
                          try with_reducible rfl
                        try simp only [Act.put, List.getElem_toArray, List.getElem_cons_succ, List.getElem_cons_zero, List.setIfInBounds_toArray, List.set_cons_zero, List.set_cons_succ]
                        refine txt_skip rfl ?_
                        try simp only [Act.put, List.getElem_toArray, List.getElem_cons_succ, List.getElem_cons_zero, List.setIfInBounds_toArray, List.set_cons_zero, List.set_cons_succ]
                        refine txt_skip rfl ?_
                        try simp only [Act.put, List.getElem_toArray, List.getElem_cons_succ, List.getElem_cons_zero, List.setIfInBounds_toArray, List.set_cons_zero, List.set_cons_succ]
                        refine txt_skip rfl ?_
                        try simp only [Act.put, List.getElem_toArray, List.getElem_cons_succ, List.getElem_cons_zero, List.setIfInBounds_toArray, List.set_cons_zero, List.set_cons_succ]
                        refine txt_skip rfl ?_
                        try simp only [Act.put, List.getElem_toArray, List.getElem_cons_succ, List.getElem_cons_zero, List.setIfInBounds_toArray, List.set_cons_zero, List.set_cons_succ]
                        refine txt_skip rfl ?_
                        try simp only [Act.put, List.getElem_toArray, List.getElem_cons_succ, List.getElem_cons_zero, List.setIfInBounds_toArray, List.set_cons_zero, List.set_cons_succ]
                        refine txt_skip rfl ?_
                        try simp only [Act.put, List.getElem_toArray, List.getElem_cons_succ, List.getElem_cons_zero, List.setIfInBounds_toArray, List.set_cons_zero, List.set_cons_succ]
                        refine txt_skip rfl ?_
                        try simp only [Act.put, List.getElem_toArray, List.getElem_cons_succ, List.getElem_cons_zero, List.setIfInBounds_toArray, List.set_cons_zero, List.set_cons_succ]
                        refine txt_skip rfl ?_
                        try simp only [Act.put, List.getElem_toArray, List.getElem_cons_succ, List.getElem_cons_zero, List.setIfInBounds_toArray, List.set_cons_zero, List.set_cons_succ]
                        refine txt_skip rfl ?_
                        try simp only [Act.put, List.getElem_toArray, List.getElem_cons_succ, List.getElem_cons_zero, List.setIfInBounds_toArray, List.set_cons_zero, List.set_cons_succ]
                        refine txt_skip rfl ?_
                        try simp only [Act.put, List.getElem_toArray, List.getElem_cons_succ, List.getElem_cons_zero, List.setIfInBounds_toArray, List.set_cons_zero, List.set_cons_succ]
                        refine txt_skip rfl ?_
                        try simp only [Act.put, List.getElem_toArray, List.getElem_cons_succ, List.getElem_cons_zero, List.setIfInBounds_toArray, List.set_cons_zero, List.set_cons_succ]
                        refine txt_skip rfl ?_
                        try simp only [Act.put, List.getElem_toArray, List.getElem_cons_succ, List.getElem_cons_zero, List.setIfInBounds_toArray, List.set_cons_zero, List.set_cons_succ]
                        refine txt_light ?_ rfl rfl ?_ ?_
                        rotate_left
                        · intro w' hS
                          obtain ⟨q0, q1, ⟨q2, q3⟩, q4, q5⟩ := HSC.out w' hS
                          obtain ⟨t0, t1, ⟨t2, t3⟩, t4, t5⟩ := HTI.out w' hS
                          clear hS
                          go_simp
                          try with_reducible rfl
                        try simp only [Act.put, List.getElem_toArray, List.getElem_cons_succ, List.getElem_cons_zero, List.setIfInBounds_toArray, List.set_cons_zero, List.set_cons_succ]
                        refine txt_light ?_ rfl rfl ?_ ?_
                        rotate_left
                        · intro w' hS
                          obtain ⟨q0, q1, ⟨q2, q3⟩, q4, q5⟩ := HSC.out w' hS
                          obtain ⟨t0, t1, ⟨t2, t3⟩, t4, t5⟩ := HTI.out w' hS
                          clear hS
                          go_simp
                          try with_reducible rfl
                        try simp only [Act.put, List.getElem_toArray, List.getElem_cons_succ, List.getElem_cons_zero, List.setIfInBounds_toArray, List.set_cons_zero, List.set_cons_succ]
                        refine txt_skip rfl ?_
                        try simp only [Act.put, List.getElem_toArray, List.getElem_cons_succ, List.getElem_cons_zero, List.setIfInBounds_toArray, List.set_cons_zero, List.set_cons_succ]
                        refine txt_skip rfl ?_
                        try simp only [Act.put, List.getElem_toArray, List.getElem_cons_succ, List.getElem_cons_zero, List.setIfInBounds_toArray, List.set_cons_zero, List.set_cons_succ]
                        refine txt_skip rfl ?_
                        try simp only [Act.put, List.getElem_toArray, List.getElem_cons_succ, List.getElem_cons_zero, List.setIfInBounds_toArray, List.set_cons_zero, List.set_cons_succ]
                        refine txt_skip rfl ?_
                        try simp only [Act.put, List.getElem_toArray, List.getElem_cons_succ, List.getElem_cons_zero, List.setIfInBounds_toArray, List.set_cons_zero, List.set_cons_succ]
                        refine txt_skip rfl ?_
                        try simp only [Act.put, List.getElem_toArray, List.getElem_cons_succ, List.getElem_cons_zero, List.setIfInBounds_toArray, List.set_cons_zero, List.set_cons_succ]
                        refine txt_skip rfl ?_
                        try simp only [Act.put, List.getElem_toArray, List.getElem_cons_succ, List.getElem_cons_zero, List.setIfInBounds_toArray, List.set_cons_zero, List.set_cons_succ]
                        refine txt_skip rfl ?_
                        try simp only [Act.put, List.getElem_toArray, List.getElem_cons_succ, List.getElem_cons_zero, List.setIfInBounds_toArray, List.set_cons_zero, List.set_cons_succ]
                        refine txt_skip rfl ?_
                        try simp only [Act.put, List.getElem_toArray, List.getElem_cons_succ, List.getElem_cons_zero, List.setIfInBounds_toArray, List.set_cons_zero, List.set_cons_succ]
                        refine txt_skip rfl ?_
                        try simp only [Act.put, List.getElem_toArray, List.getElem_cons_succ, List.getElem_cons_zero, List.setIfInBounds_toArray, List.set_cons_zero, List.set_cons_succ]
                        refine txt_skip rfl ?_
                        try simp only [Act.put, List.getElem_toArray, List.getElem_cons_succ, List.getElem_cons_zero, List.setIfInBounds_toArray, List.set_cons_zero, List.set_cons_succ]
                        refine txt_skip rfl ?_
                        try simp only [Act.put, List.getElem_toArray, List.getElem_cons_succ, List.getElem_cons_zero, List.setIfInBounds_toArray, List.set_cons_zero, List.set_cons_succ]
                        refine txt_skip rfl ?_
                        try simp only [Act.put, List.getElem_toArray, List.getElem_cons_succ, List.getElem_cons_zero, List.setIfInBounds_toArray, List.set_cons_zero, List.set_cons_succ]
                        refine txt_light ?_ rfl rfl ?_ ?_
                        rotate_left
                        · intro w' hS
                          obtain ⟨q0, q1, ⟨q2, q3⟩, q4, q5⟩ := HSC.out w' hS
                          obtain ⟨t0, t1, ⟨t2, t3⟩, t4, t5⟩ := HTI.out w' hS
                          clear hS
                          go_simp
                          try with_reducible rfl
                        try simp only [Act.put, List.getElem_toArray, List.getElem_cons_succ, List.getElem_cons_zero, List.setIfInBounds_toArray, List.set_cons_zero, List.set_cons_succ]
                        refine txt_light ?_ rfl rfl ?_ ?_
                        rotate_left
                        · intro w' hS
                          obtain ⟨q0, q1, ⟨q2, q3⟩, q4, q5⟩ := HSC.out w' hS
                          obtain ⟨t0, t1, ⟨t2, t3⟩, t4, t5⟩ := HTI.out w' hS
                          clear hS
                          go_simp
                          try with_reducible rfl
                        try simp only [Act.put, List.getElem_toArray, List.getElem_cons_succ, List.getElem_cons_zero, List.setIfInBounds_toArray, List.set_cons_zero, List.set_cons_succ]
                        refine txt_nil ?_
                        go_wp2
                        go_roundw
                        case rel => exact ⟨m + 1, false, by omega, by go_num, rfl, HNX.out false (by simp [hf]), Lib.hid (HBI.out.trans (hbi0.mono HBI.out.size))⟩
                        case measure => simp [intOf]; omega

                    · exfalso
                      obtain rfl : m = SL.length := by omega
                      rw [List.take_of_length_le (Nat.le_refl _)] at HN
                      obtain ⟨s, hs, hc⟩ := HFND.out
                      rcases HN.out with h0 | h0
                      · cases h0
                      · exact h0 s hs hc
              as_aux_lemma =>
              have HTR := Lib.hid (fun W (hW : Below wr.heap.size wr W) => HTC.out W (HB.out.trans (hW.mono HB.out.size)))
              refine wp_region_sched 38 [0, 1, 2, 3, 4, 5, 6, 7, 8, 9, 10, 11, 12, 13, 14, 15, 16, 17, 18, 19, 20, 21, 22, 23, 24, 25, 26, 27, 28, 29, 30, 31, 32, 33] (fun W => Below wr.heap.size wr W) rfl (by kernel_rfl) (by kernel_rfl) ?_
              have hb_0 : Below wr.heap.size wr wr.drew := (Below.refl _ _).drew
              generalize wr.drew = W0 at *
              refine sched_light 0 _ ?_ (by kernel_rfl) (by kernel_rfl) rfl rfl ?_ hb_0 ?_
              rotate_left
              · intro w' hS
                obtain ⟨-, -, c2, c3, c4, c5⟩ := HTR.out w' hS
                clear hS
                go_simp
                try with_reducible rfl
              try simp only [Act.put, List.getElem_toArray, List.getElem_cons_succ, List.getElem_cons_zero, List.setIfInBounds_toArray, List.set_cons_zero, List.set_cons_succ]
              refine sched_light 1 _ ?_ (by kernel_rfl) (by kernel_rfl) rfl rfl ?_ hb_0 ?_
              rotate_left
              · intro w' hS
                obtain ⟨-, -, c2, c3, c4, c5⟩ := HTR.out w' hS
                clear hS
                go_simp
                try with_reducible rfl
              try simp only [Act.put, List.getElem_toArray, List.getElem_cons_succ, List.getElem_cons_zero, List.setIfInBounds_toArray, List.set_cons_zero, List.set_cons_succ]
              refine sched_light 2 _ ?_ (by kernel_rfl) (by kernel_rfl) rfl rfl ?_ hb_0 ?_
              rotate_left
              · intro w' hS
                obtain ⟨-, -, c2, c3, c4, c5⟩ := HTR.out w' hS
                clear hS
                go_simp
                try with_reducible rfl
              try simp only [Act.put, List.getElem_toArray, List.getElem_cons_succ, List.getElem_cons_zero, List.setIfInBounds_toArray, List.set_cons_zero, List.set_cons_succ]
              refine sched_light 3 _ ?_ (by kernel_rfl) (by kernel_rfl) rfl rfl ?_ hb_0 ?_
              rotate_left
              · intro w' hS
                obtain ⟨-, -, c2, c3, c4, c5⟩ := HTR.out w' hS
                clear hS
                go_simp
                try with_reducible rfl
              try simp only [Act.put, List.getElem_toArray, List.getElem_cons_succ, List.getElem_cons_zero, List.setIfInBounds_toArray, List.set_cons_zero, List.set_cons_succ]
              refine sched_light 4 _ ?_ (by kernel_rfl) (by kernel_rfl) rfl rfl ?_ hb_0 ?_
              rotate_left
              · intro w' hS
                obtain ⟨-, -, c2, c3, c4, c5⟩ := HTR.out w' hS
                clear hS
                go_simp
                try with_reducible rfl
              try simp only [Act.put, List.getElem_toArray, List.getElem_cons_succ, List.getElem_cons_zero, List.setIfInBounds_toArray, List.set_cons_zero, List.set_cons_succ]
              refine sched_light 5 _ ?_ (by kernel_rfl) (by kernel_rfl) rfl rfl ?_ hb_0 ?_
              rotate_left
              · intro w' hS
                obtain ⟨-, -, c2, c3, c4, c5⟩ := HTR.out w' hS
                clear hS
                go_simp
                try with_reducible rfl
              try simp only [Act.put, List.getElem_toArray, List.getElem_cons_succ, List.getElem_cons_zero, List.setIfInBounds_toArray, List.set_cons_zero, List.set_cons_succ]
              refine sched_light 6 _ ?_ (by kernel_rfl) (by kernel_rfl) rfl rfl ?_ hb_0 ?_
              rotate_left
              · intro w' hS
                obtain ⟨-, -, c2, c3, c4, c5⟩ := HTR.out w' hS
                clear hS
                go_simp
                try with_reducible rfl
              try simp only [Act.put, List.getElem_toArray, List.getElem_cons_succ, List.getElem_cons_zero, List.setIfInBounds_toArray, List.set_cons_zero, List.set_cons_succ]
              refine sched_light 7 _ ?_ (by kernel_rfl) (by kernel_rfl) rfl rfl ?_ hb_0 ?_
              rotate_left
              · intro w' hS
                obtain ⟨-, -, c2, c3, c4, c5⟩ := HTR.out w' hS
                clear hS
                go_simp
                try with_reducible rfl
              try simp only [Act.put, List.getElem_toArray, List.getElem_cons_succ, List.getElem_cons_zero, List.setIfInBounds_toArray, List.set_cons_zero, List.set_cons_succ]
              refine sched_light 8 _ ?_ (by kernel_rfl) (by kernel_rfl) rfl rfl ?_ hb_0 ?_
              rotate_left
              · intro w' hS
                obtain ⟨-, -, c2, c3, c4, c5⟩ := HTR.out w' hS
                clear hS
                go_simp
                try with_reducible rfl
              try simp only [Act.put, List.getElem_toArray, List.getElem_cons_succ, List.getElem_cons_zero, List.setIfInBounds_toArray, List.set_cons_zero, List.set_cons_succ]
              refine sched_light 9 _ ?_ (by kernel_rfl) (by kernel_rfl) rfl rfl ?_ hb_0 ?_
              rotate_left
              · intro w' hS
                obtain ⟨-, -, c2, c3, c4, c5⟩ := HTR.out w' hS
                clear hS
                go_simp
                try with_reducible rfl
              try simp only [Act.put, List.getElem_toArray, List.getElem_cons_succ, List.getElem_cons_zero, List.setIfInBounds_toArray, List.set_cons_zero, List.set_cons_succ]
              refine sched_light 10 _ ?_ (by kernel_rfl) (by kernel_rfl) rfl rfl ?_ hb_0 ?_
              rotate_left
              · intro w' hS
                obtain ⟨-, -, c2, c3, c4, c5⟩ := HTR.out w' hS
                clear hS
                go_simp
                try with_reducible rfl
              try simp only [Act.put, List.getElem_toArray, List.getElem_cons_succ, List.getElem_cons_zero, List.setIfInBounds_toArray, List.set_cons_zero, List.set_cons_succ]
              refine sched_light 11 _ ?_ (by kernel_rfl) (by kernel_rfl) rfl rfl ?_ hb_0 ?_
              rotate_left
              · intro w' hS
                obtain ⟨-, -, c2, c3, c4, c5⟩ := HTR.out w' hS
                clear hS
                go_simp
                try with_reducible rfl
              try simp only [Act.put, List.getElem_toArray, List.getElem_cons_succ, List.getElem_cons_zero, List.setIfInBounds_toArray, List.set_cons_zero, List.set_cons_succ]
              refine sched_light 12 _ ?_ (by kernel_rfl) (by kernel_rfl) rfl rfl ?_ hb_0 ?_
              rotate_left
              · intro w' hS
                obtain ⟨-, -, c2, c3, c4, c5⟩ := HTR.out w' hS
                clear hS
                go_simp
                try with_reducible rfl
              try simp only [Act.put, List.getElem_toArray, List.getElem_cons_succ, List.getElem_cons_zero, List.setIfInBounds_toArray, List.set_cons_zero, List.set_cons_succ]
              refine sched_light 13 _ ?_ (by kernel_rfl) (by kernel_rfl) rfl rfl ?_ hb_0 ?_
              rotate_left
              · intro w' hS
                obtain ⟨-, -, c2, c3, c4, c5⟩ := HTR.out w' hS
                clear hS
                go_simp
                try with_reducible rfl
              try simp only [Act.put, List.getElem_toArray, List.getElem_cons_succ, List.getElem_cons_zero, List.setIfInBounds_toArray, List.set_cons_zero, List.set_cons_succ]
              refine sched_light 14 _ ?_ (by kernel_rfl) (by kernel_rfl) rfl rfl ?_ hb_0 ?_
              rotate_left
              · intro w' hS
                obtain ⟨-, -, c2, c3, c4, c5⟩ := HTR.out w' hS
                clear hS
                go_simp
                try with_reducible rfl
              try simp only [Act.put, List.getElem_toArray, List.getElem_cons_succ, List.getElem_cons_zero, List.setIfInBounds_toArray, List.set_cons_zero, List.set_cons_succ]
              refine sched_light 15 _ ?_ (by kernel_rfl) (by kernel_rfl) rfl rfl ?_ hb_0 ?_
              rotate_left
              · intro w' hS
                obtain ⟨-, -, c2, c3, c4, c5⟩ := HTR.out w' hS
                clear hS
                go_simp
                try with_reducible rfl
              try simp only [Act.put, List.getElem_toArray, List.getElem_cons_succ, List.getElem_cons_zero, List.setIfInBounds_toArray, List.set_cons_zero, List.set_cons_succ]
              refine sched_light 16 _ ?_ (by kernel_rfl) (by kernel_rfl) rfl rfl ?_ hb_0 ?_
              rotate_left
              · intro w' hS
                obtain ⟨-, -, c2, c3, c4, c5⟩ := HTR.out w' hS
                clear hS
                go_simp
                try with_reducible rfl
              try simp only [Act.put, List.getElem_toArray, List.getElem_cons_succ, List.getElem_cons_zero, List.setIfInBounds_toArray, List.set_cons_zero, List.set_cons_succ]
              refine sched_light 17 _ ?_ (by kernel_rfl) (by kernel_rfl) rfl rfl ?_ hb_0 ?_
              rotate_left
              · intro w' hS
                obtain ⟨-, -, c2, c3, c4, c5⟩ := HTR.out w' hS
                clear hS
                go_simp
                try with_reducible rfl
              try simp only [Act.put, List.getElem_toArray, List.getElem_cons_succ, List.getElem_cons_zero, List.setIfInBounds_toArray, List.set_cons_zero, List.set_cons_succ]
              refine sched_light 18 _ ?_ (by kernel_rfl) (by kernel_rfl) rfl rfl ?_ hb_0 ?_
              rotate_left
              · intro w' hS
                obtain ⟨-, -, c2, c3, c4, c5⟩ := HTR.out w' hS
                clear hS
                go_simp
                try with_reducible rfl
              try simp only [Act.put, List.getElem_toArray, List.getElem_cons_succ, List.getElem_cons_zero, List.setIfInBounds_toArray, List.set_cons_zero, List.set_cons_succ]
              refine sched_light 19 _ ?_ (by kernel_rfl) (by kernel_rfl) rfl rfl ?_ hb_0 ?_
              rotate_left
              · intro w' hS
                obtain ⟨-, -, c2, c3, c4, c5⟩ := HTR.out w' hS
                clear hS
                go_simp
                try with_reducible rfl
              try simp only [Act.put, List.getElem_toArray, List.getElem_cons_succ, List.getElem_cons_zero, List.setIfInBounds_toArray, List.set_cons_zero, List.set_cons_succ]
              refine sched_light 20 _ ?_ (by kernel_rfl) (by kernel_rfl) rfl rfl ?_ hb_0 ?_
              rotate_left
              · intro w' hS
                obtain ⟨-, -, c2, c3, c4, c5⟩ := HTR.out w' hS
                clear hS
                go_simp
                try with_reducible rfl
              try simp only [Act.put, List.getElem_toArray, List.getElem_cons_succ, List.getElem_cons_zero, List.setIfInBounds_toArray, List.set_cons_zero, List.set_cons_succ]
              refine sched_light 21 _ ?_ (by kernel_rfl) (by kernel_rfl) rfl rfl ?_ hb_0 ?_
              rotate_left
              · intro w' hS
                obtain ⟨-, -, c2, c3, c4, c5⟩ := HTR.out w' hS
                clear hS
                go_simp
                try with_reducible rfl
              try simp only [Act.put, List.getElem_toArray, List.getElem_cons_succ, List.getElem_cons_zero, List.setIfInBounds_toArray, List.set_cons_zero, List.set_cons_succ]
              refine sched_light 22 _ ?_ (by kernel_rfl) (by kernel_rfl) rfl rfl ?_ hb_0 ?_
              rotate_left
              · intro w' hS
                obtain ⟨-, -, c2, c3, c4, c5⟩ := HTR.out w' hS
                clear hS
                go_simp
                try with_reducible rfl
              try simp only [Act.put, List.getElem_toArray, List.getElem_cons_succ, List.getElem_cons_zero, List.setIfInBounds_toArray, List.set_cons_zero, List.set_cons_succ]
              refine sched_light 23 _ ?_ (by kernel_rfl) (by kernel_rfl) rfl rfl ?_ hb_0 ?_
              rotate_left
              · intro w' hS
                obtain ⟨-, -, c2, c3, c4, c5⟩ := HTR.out w' hS
                clear hS
                go_simp
                try with_reducible rfl
              try simp only [Act.put, List.getElem_toArray, List.getElem_cons_succ, List.getElem_cons_zero, List.setIfInBounds_toArray, List.set_cons_zero, List.set_cons_succ]
              refine sched_light 24 _ ?_ (by kernel_rfl) (by kernel_rfl) rfl rfl ?_ hb_0 ?_
              rotate_left
              · intro w' hS
                obtain ⟨-, -, c2, c3, c4, c5⟩ := HTR.out w' hS
                clear hS
                go_simp
                try with_reducible rfl
              try simp only [Act.put, List.getElem_toArray, List.getElem_cons_succ, List.getElem_cons_zero, List.setIfInBounds_toArray, List.set_cons_zero, List.set_cons_succ]
              refine sched_light 25 _ ?_ (by kernel_rfl) (by kernel_rfl) rfl rfl ?_ hb_0 ?_
              rotate_left
              · intro w' hS
                obtain ⟨-, -, c2, c3, c4, c5⟩ := HTR.out w' hS
                clear hS
                go_simp
                try with_reducible rfl
              try simp only [Act.put, List.getElem_toArray, List.getElem_cons_succ, List.getElem_cons_zero, List.setIfInBounds_toArray, List.set_cons_zero, List.set_cons_succ]
              refine sched_light 26 _ ?_ (by kernel_rfl) (by kernel_rfl) rfl rfl ?_ hb_0 ?_
              rotate_left
              · intro w' hS
                obtain ⟨-, -, c2, c3, c4, c5⟩ := HTR.out w' hS
                clear hS
                go_simp
                try with_reducible rfl
              try simp only [Act.put, List.getElem_toArray, List.getElem_cons_succ, List.getElem_cons_zero, List.setIfInBounds_toArray, List.set_cons_zero, List.set_cons_succ]
              refine sched_light 27 _ ?_ (by kernel_rfl) (by kernel_rfl) rfl rfl ?_ hb_0 ?_
              rotate_left
              · intro w' hS
                obtain ⟨-, -, c2, c3, c4, c5⟩ := HTR.out w' hS
                clear hS
                go_simp
                try with_reducible rfl
              try simp only [Act.put, List.getElem_toArray, List.getElem_cons_succ, List.getElem_cons_zero, List.setIfInBounds_toArray, List.set_cons_zero, List.set_cons_succ]
              refine sched_light 28 _ ?_ (by kernel_rfl) (by kernel_rfl) rfl rfl ?_ hb_0 ?_
              rotate_left
              · intro w' hS
                obtain ⟨-, -, c2, c3, c4, c5⟩ := HTR.out w' hS
                clear hS
                go_simp
                try with_reducible rfl
              try simp only [Act.put, List.getElem_toArray, List.getElem_cons_succ, List.getElem_cons_zero, List.setIfInBounds_toArray, List.set_cons_zero, List.set_cons_succ]
              refine sched_light 29 _ ?_ (by kernel_rfl) (by kernel_rfl) rfl rfl ?_ hb_0 ?_
              rotate_left
              · intro w' hS
                obtain ⟨-, -, c2, c3, c4, c5⟩ := HTR.out w' hS
                clear hS
                go_simp
                try with_reducible rfl
              try simp only [Act.put, List.getElem_toArray, List.getElem_cons_succ, List.getElem_cons_zero, List.setIfInBounds_toArray, List.set_cons_zero, List.set_cons_succ]
              refine sched_light 30 _ ?_ (by kernel_rfl) (by kernel_rfl) rfl rfl ?_ hb_0 ?_
              rotate_left
              · intro w' hS
                obtain ⟨-, -, c2, c3, c4, c5⟩ := HTR.out w' hS
                clear hS
                go_simp
                try with_reducible rfl
              try simp only [Act.put, List.getElem_toArray, List.getElem_cons_succ, List.getElem_cons_zero, List.setIfInBounds_toArray, List.set_cons_zero, List.set_cons_succ]
              refine sched_light 31 _ ?_ (by kernel_rfl) (by kernel_rfl) rfl rfl ?_ hb_0 ?_
              rotate_left
              · intro w' hS
                obtain ⟨-, -, c2, c3, c4, c5⟩ := HTR.out w' hS
                clear hS
                go_simp
                try with_reducible rfl
              try simp only [Act.put, List.getElem_toArray, List.getElem_cons_succ, List.getElem_cons_zero, List.setIfInBounds_toArray, List.set_cons_zero, List.set_cons_succ]
              refine sched_light 32 _ ?_ (by kernel_rfl) (by kernel_rfl) rfl rfl ?_ hb_0 ?_
              rotate_left
              · intro w' hS
                obtain ⟨-, -, c2, c3, c4, c5⟩ := HTR.out w' hS
                clear hS
                go_simp
                try with_reducible rfl
              try simp only [Act.put, List.getElem_toArray, List.getElem_cons_succ, List.getElem_cons_zero, List.setIfInBounds_toArray, List.set_cons_zero, List.set_cons_succ]
              refine sched_light 33 _ ?_ (by kernel_rfl) (by kernel_rfl) rfl rfl ?_ hb_0 ?_
              rotate_left
              · intro w' hS
                obtain ⟨-, -, c2, c3, c4, c5⟩ := HTR.out w' hS
                clear hS
                go_simp
                try with_reducible rfl
              try simp only [Act.put, List.getElem_toArray, List.getElem_cons_succ, List.getElem_cons_zero, List.setIfInBounds_toArray, List.set_cons_zero, List.set_cons_succ]
              clear c2 c3 c4 c5
              refine sched_fork [34, 35] (by kernel_rfl) (by kernel_rfl) (by decide) ?_
              intro i hi
              simp only [List.mem_cons, List.not_mem_nil, or_false] at hi
              rcases hi with rfl | rfl
              · refine sched_heavy 34 _ rfl rfl (fun K hK => ?_)
                go_step
                have hb_1 := hb_0.alloc hb_0.size (.cells #[.int .i64 0, .int .i64 0] 32)
                have hz_1 : (W0.alloc (.cells #[.int .i64 0, .int .i64 0] 32)).heap.size = W0.heap.size + 1 := by simp
                have kBa_1 := Blk.lit W0 (W0.heap.size) [.int .i64 0, .int .i64 0] 32 rfl
                refine hK.out _ _ hb_1 ?_
                clear hK K
                generalize W0.alloc (.cells #[.int .i64 0, .int .i64 0] 32) = W1 at *
                try simp only [Act.put, List.getElem_toArray, List.getElem_cons_succ, List.getElem_cons_zero, List.setIfInBounds_toArray, List.set_cons_zero, List.set_cons_succ]
                refine sched_fork [35] (by kernel_rfl) (by kernel_rfl) (by decide) ?_
                intro i hi
                simp only [List.mem_cons, List.not_mem_nil, or_false] at hi
                subst hi
                refine sched_heavy 35 _ rfl rfl (fun K hK => ?_)
                go_step
                have hb_2 := hb_1.alloc hb_1.size (.cells #[.int .i64 0, .int .i64 0] 32)
                have hz_2 : (W1.alloc (.cells #[.int .i64 0, .int .i64 0] 32)).heap.size = W1.heap.size + 1 := by simp
                have kBb_2 := Blk.lit W1 (W0.heap.size + 1) [.int .i64 0, .int .i64 0] 32 hz_1
                have kBa_2 := kBa_1.alloc (.cells #[.int .i64 0, .int .i64 0] 32)
                refine hK.out _ _ hb_2 ?_
                clear hK K
                generalize W1.alloc (.cells #[.int .i64 0, .int .i64 0] 32) = W2 at *
                try simp only [Act.put, List.getElem_toArray, List.getElem_cons_succ, List.getElem_cons_zero, List.setIfInBounds_toArray, List.set_cons_zero, List.set_cons_succ]
                refine sched_fork [36] (by kernel_rfl) (by kernel_rfl) (by decide) ?_
                intro i hi
                simp only [List.mem_cons, List.not_mem_nil, or_false] at hi
                subst hi
                refine sched_heavy 36 _ rfl rfl (fun K hK => ?_)
                have q0 := kBa_2.cell 0 rfl
                have q1 := kBa_2.cell 1 rfl
                have f0 := kBa_2.free 0
                have f1 := kBa_2.free 1
                go_step
                clear q0 q1 f0 f1
                have hb_3 := (hb_2.set_at (b := W0.heap.size) (o := 0) (by have := hb_0.size; omega) (.int .i64 ux)).set_at (b := W0.heap.size) (o := 1) (by have := hb_0.size; omega) (.int .i64 uy)
                have kBa_3 : Blk _ _ [.int .i64 ux, .int .i64 uy] := (kBa_2.set 0 (.int .i64 ux)).set 1 (.int .i64 uy)
                have kBb_3 := (kBb_2.set_at (b' := W0.heap.size) (o := 0) (by omega) (.int .i64 ux)).set_at (b' := W0.heap.size) (o := 1) (by omega) (.int .i64 uy)
                refine hK.out _ _ hb_3 ?_
                clear hK K
                generalize (W2.setCell ⟨W0.heap.size, 0, none⟩ (.int .i64 ux)).setCell ⟨W0.heap.size, 1, none⟩ (.int .i64 uy) = W3 at *
                try simp only [Act.put, List.getElem_toArray, List.getElem_cons_succ, List.getElem_cons_zero, List.setIfInBounds_toArray, List.set_cons_zero, List.set_cons_succ]
                refine sched_fork [37] (by kernel_rfl) (by kernel_rfl) (by decide) ?_
                intro i hi
                simp only [List.mem_cons, List.not_mem_nil, or_false] at hi
                subst hi
                refine sched_heavy 37 _ rfl rfl (fun K hK => ?_)
                have q0 := kBb_3.cell 0 rfl
                have q1 := kBb_3.cell 1 rfl
                have f0 := kBb_3.free 0
                have f1 := kBb_3.free 1
                go_step
                clear q0 q1 f0 f1
                have hb_4 := (hb_3.set_at (b := W0.heap.size + 1) (o := 0) (by have := hb_0.size; omega) (.int .i64 vx)).set_at (b := W0.heap.size + 1) (o := 1) (by have := hb_0.size; omega) (.int .i64 vy)
                have kBb_4 : Blk _ _ [.int .i64 vx, .int .i64 vy] := (kBb_3.set 0 (.int .i64 vx)).set 1 (.int .i64 vy)
                have kBa_4 := (kBa_3.set_at (b' := W0.heap.size + 1) (o := 0) (by omega) (.int .i64 vx)).set_at (b' := W0.heap.size + 1) (o := 1) (by omega) (.int .i64 vy)
                refine hK.out _ _ hb_4 ?_
                clear hK K
                generalize (W3.setCell ⟨W0.heap.size + 1, 0, none⟩ (.int .i64 vx)).setCell ⟨W0.heap.size + 1, 1, none⟩ (.int .i64 vy) = W4 at *
                try simp only [Act.put, List.getElem_toArray, List.getElem_cons_succ, List.getElem_cons_zero, List.setIfInBounds_toArray, List.set_cons_zero, List.set_cons_succ]
                refine sched_end (by kernel_rfl) ?_
                exact main _ _ _ hb_4 kBa_4 kBb_4
              · refine sched_heavy 35 _ rfl rfl (fun K hK => ?_)
                go_step
                have hb_1 := hb_0.alloc hb_0.size (.cells #[.int .i64 0, .int .i64 0] 32)
                have hz_1 : (W0.alloc (.cells #[.int .i64 0, .int .i64 0] 32)).heap.size = W0.heap.size + 1 := by simp
                have kBb_1 := Blk.lit W0 (W0.heap.size) [.int .i64 0, .int .i64 0] 32 rfl
                refine hK.out _ _ hb_1 ?_
                clear hK K
                generalize W0.alloc (.cells #[.int .i64 0, .int .i64 0] 32) = W1 at *
                try simp only [Act.put, List.getElem_toArray, List.getElem_cons_succ, List.getElem_cons_zero, List.setIfInBounds_toArray, List.set_cons_zero, List.set_cons_succ]
                refine sched_fork [34] (by kernel_rfl) (by kernel_rfl) (by decide) ?_
                intro i hi
                simp only [List.mem_cons, List.not_mem_nil, or_false] at hi
                subst hi
                refine sched_heavy 34 _ rfl rfl (fun K hK => ?_)
                go_step
                have hb_2 := hb_1.alloc hb_1.size (.cells #[.int .i64 0, .int .i64 0] 32)
                have hz_2 : (W1.alloc (.cells #[.int .i64 0, .int .i64 0] 32)).heap.size = W1.heap.size + 1 := by simp
                have kBa_2 := Blk.lit W1 (W0.heap.size + 1) [.int .i64 0, .int .i64 0] 32 hz_1
                have kBb_2 := kBb_1.alloc (.cells #[.int .i64 0, .int .i64 0] 32)
                refine hK.out _ _ hb_2 ?_
                clear hK K
                generalize W1.alloc (.cells #[.int .i64 0, .int .i64 0] 32) = W2 at *
                try simp only [Act.put, List.getElem_toArray, List.getElem_cons_succ, List.getElem_cons_zero, List.setIfInBounds_toArray, List.set_cons_zero, List.set_cons_succ]
                refine sched_fork [36] (by kernel_rfl) (by kernel_rfl) (by decide) ?_
                intro i hi
                simp only [List.mem_cons, List.not_mem_nil, or_false] at hi
                subst hi
                refine sched_heavy 36 _ rfl rfl (fun K hK => ?_)
                have q0 := kBa_2.cell 0 rfl
                have q1 := kBa_2.cell 1 rfl
                have f0 := kBa_2.free 0
                have f1 := kBa_2.free 1
                go_step
                clear q0 q1 f0 f1
                have hb_3 := (hb_2.set_at (b := W0.heap.size + 1) (o := 0) (by have := hb_0.size; omega) (.int .i64 ux)).set_at (b := W0.heap.size + 1) (o := 1) (by have := hb_0.size; omega) (.int .i64 uy)
                have kBa_3 : Blk _ _ [.int .i64 ux, .int .i64 uy] := (kBa_2.set 0 (.int .i64 ux)).set 1 (.int .i64 uy)
                have kBb_3 := (kBb_2.set_at (b' := W0.heap.size + 1) (o := 0) (by omega) (.int .i64 ux)).set_at (b' := W0.heap.size + 1) (o := 1) (by omega) (.int .i64 uy)
                refine hK.out _ _ hb_3 ?_
                clear hK K
                generalize (W2.setCell ⟨W0.heap.size + 1, 0, none⟩ (.int .i64 ux)).setCell ⟨W0.heap.size + 1, 1, none⟩ (.int .i64 uy) = W3 at *
                try simp only [Act.put, List.getElem_toArray, List.getElem_cons_succ, List.getElem_cons_zero, List.setIfInBounds_toArray, List.set_cons_zero, List.set_cons_succ]
                refine sched_fork [37] (by kernel_rfl) (by kernel_rfl) (by decide) ?_
                intro i hi
                simp only [List.mem_cons, List.not_mem_nil, or_false] at hi
                subst hi
                refine sched_heavy 37 _ rfl rfl (fun K hK => ?_)
                have q0 := kBb_3.cell 0 rfl
                have q1 := kBb_3.cell 1 rfl
                have f0 := kBb_3.free 0
                have f1 := kBb_3.free 1
                go_step
                clear q0 q1 f0 f1
                have hb_4 := (hb_3.set_at (b := W0.heap.size) (o := 0) (by have := hb_0.size; omega) (.int .i64 vx)).set_at (b := W0.heap.size) (o := 1) (by have := hb_0.size; omega) (.int .i64 vy)
                have kBb_4 : Blk _ _ [.int .i64 vx, .int .i64 vy] := (kBb_3.set 0 (.int .i64 vx)).set 1 (.int .i64 vy)
                have kBa_4 := (kBa_3.set_at (b' := W0.heap.size) (o := 0) (by omega) (.int .i64 vx)).set_at (b' := W0.heap.size) (o := 1) (by omega) (.int .i64 vy)
                refine hK.out _ _ hb_4 ?_
                clear hK K
                generalize (W3.setCell ⟨W0.heap.size, 0, none⟩ (.int .i64 vx)).setCell ⟨W0.heap.size, 1, none⟩ (.int .i64 vy) = W4 at *
                try simp only [Act.put, List.getElem_toArray, List.getElem_cons_succ, List.getElem_cons_zero, List.setIfInBounds_toArray, List.set_cons_zero, List.set_cons_succ]
                refine sched_end (by kernel_rfl) ?_
                exact main _ _ _ hb_4 kBa_4 kBb_4
            · obtain rfl : k = TL.length := by omega
              go_wp2_with fail
              refine (zknown_any _).mono ?_
              rintro e w6 ⟨rfl, hb6⟩
              have hbz := HBW5.out.trans ((HB.out.trans (hb6.mono HB.out.size)).mono HBW5.out.size)
              clear hb6
              go_wp2
              go_ret
              exact ⟨rfl, hbz⟩

  · have e1 : (E2 != 0) = true := by simpa using hE
    clear HEX HSD HF2 hE2 hb2
    go_wp2_with fail
    refine (zknown_any _).mono ?_
    rintro e w4 ⟨rfl, hb4⟩
    have hbz := hbw2.trans (hb4.mono hbw2.size)
    clear hb4
    go_wp2
    go_ret
    exact ⟨rfl, hbz⟩
end Go.Proofs.Ytediblljgakoeaa
