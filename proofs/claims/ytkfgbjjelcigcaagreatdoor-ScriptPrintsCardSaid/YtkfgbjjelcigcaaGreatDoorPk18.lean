/-
  graticuleref30.Word, fits, Check. The document's faces that grow, in memory. graticulelaw30.Of, Ofs. script.Print.
-/
import Derived.Test.YtkfgbjjelcigcaaGreatDoorPk10
import Derived.Test.YtkfgbjjelcigcaaGreatDoorPk17
import Derived.Test.YtkfgbjjelcigcaaGreatDoorPk14
import Derived.Test.YtkfgbjjelcigcaaGreatDoorPk15
import Derived.Test.YtkfgbjjelcigcaaGreatDoorPk3
import Derived.Test.YtkfgbjjelcigcaaGreatDoorPk7
import Derived.Test.YtkfgbjjelcigcaaGreatDoorPk12
import Derived.Test.YtkfgbjjelcigcaaGreatDoorPk9
import Derived.Shelf.Strings.MapGrows
/- graticuleref30.Word, fits, Check. -/
set_option linter.unusedVariables false
set_option linter.unusedSimpArgs false
set_option maxRecDepth 100000
namespace Go.Proofs.YtkfgbjjelcigcaaGreatDoor
open Go.RowKit
set_option maxHeartbeats 6400000 in
theorem rkword_any (k : Int) (w : World) :
    Calls Tryz.prog 18 #[.int .i64 k] w fun e w' => e = .returned (.string (kwS k)) ∧ Below w.heap.size w w' := by
  have HK := Lib.hid (kwS.eq_1 k)
  by_cases h1 : k < 1
  · rw [if_pos (.inl h1)] at HK; generalize kwS k = KS at *
    go_enter Tryz.func18, Tryz.ntmps18
    go_wp2; go_ret; exact ⟨by rw [HK.out]; rfl, Below.refl _ _⟩
  by_cases h2 : 11 < k
  · rw [if_pos (.inr h2)] at HK; generalize kwS k = KS at *
    go_enter Tryz.func18, Tryz.ntmps18
    go_wp2; go_ret; exact ⟨by rw [HK.out]; rfl, Below.refl _ _⟩
  have hk : k = 1 ∨ k = 2 ∨ k = 3 ∨ k = 4 ∨ k = 5 ∨ k = 6 ∨ k = 7 ∨ k = 8 ∨ k = 9 ∨ k = 10 ∨ k = 11 := by omega
  have q := Blk.new w [.string ⟨#[98, 117, 102, 102, 101, 114]⟩, .string ⟨#[116, 111, 108]⟩, .string ⟨#[122, 111, 111, 109, 115]⟩, .string ⟨#[102, 97, 99, 101]⟩, .string ⟨#[114, 105, 110, 103]⟩, .string ⟨#[97, 116, 116, 114]⟩, .string ⟨#[116, 105, 108, 101]⟩, .string ⟨#[108, 111, 99, 97, 116, 101]⟩, .string ⟨#[110, 101, 97, 114]⟩, .string ⟨#[115, 116, 97, 116, 117, 115]⟩, .string ⟨#[108, 101, 118, 101, 108]⟩] 9; have hb := Below.new w (.cells #[.string ⟨#[98, 117, 102, 102, 101, 114]⟩, .string ⟨#[116, 111, 108]⟩, .string ⟨#[122, 111, 111, 109, 115]⟩, .string ⟨#[102, 97, 99, 101]⟩, .string ⟨#[114, 105, 110, 103]⟩, .string ⟨#[97, 116, 116, 114]⟩, .string ⟨#[116, 105, 108, 101]⟩, .string ⟨#[108, 111, 99, 97, 116, 101]⟩, .string ⟨#[110, 101, 97, 114]⟩, .string ⟨#[115, 116, 97, 116, 117, 115]⟩, .string ⟨#[108, 101, 118, 101, 108]⟩] 9); clear HK h1 h2
  rcases hk with rfl | rfl | rfl | rfl | rfl | rfl | rfl | rfl | rfl | rfl | rfl
  all_goals
    have q0 := q.cell 0 rfl; have q1 := q.cell 1 rfl; have q2 := q.cell 2 rfl; have q3 := q.cell 3 rfl; have q4 := q.cell 4 rfl; have q5 := q.cell 5 rfl; have q6 := q.cell 6 rfl; have q7 := q.cell 7 rfl; have q8 := q.cell 8 rfl; have q9 := q.cell 9 rfl; have q10 := q.cell 10 rfl
    go_enter Tryz.func18, Tryz.ntmps18
    go_wp2; go_ret; exact ⟨rfl, hb⟩
set_option maxHeartbeats 6400000 in
theorem rkfits_any (k : Int) (hk : 1 ≤ k ∧ k ≤ 11) (n : Nat) (hn : n ≤ 1000000000) (w : World) :
    Calls Tryz.prog 30 #[.int .i64 k, .int .i64 n] w fun e w' => e = .returned (.bool (fitsF k n)) ∧ Below w.heap.size w w' := by
  have hk : k = 1 ∨ k = 2 ∨ k = 3 ∨ k = 4 ∨ k = 5 ∨ k = 6 ∨ k = 7 ∨ k = 8 ∨ k = 9 ∨ k = 10 ∨ k = 11 := by omega
  have q := (Blk.new w [.int .i64 1, .int .i64 1, .int .i64 0, .int .i64 0, .int .i64 0, .int .i64 0, .int .i64 3, .int .i64 4, .int .i64 2, .int .i64 1, .int .i64 1] 3).alloc (.cells #[.int .i64 1, .int .i64 1, .int .i64 16, .int .i64 0, .int .i64 600, .int .i64 0, .int .i64 3, .int .i64 4, .int .i64 2, .int .i64 1, .int .i64 1] 3); have r := Blk.lit (w.alloc (.cells #[.int .i64 1, .int .i64 1, .int .i64 0, .int .i64 0, .int .i64 0, .int .i64 0, .int .i64 3, .int .i64 4, .int .i64 2, .int .i64 1, .int .i64 1] 3)) (w.heap.size + 1) [.int .i64 1, .int .i64 1, .int .i64 16, .int .i64 0, .int .i64 600, .int .i64 0, .int .i64 3, .int .i64 4, .int .i64 2, .int .i64 1, .int .i64 1] 3 (by simp); have hb := (Below.new w (.cells #[.int .i64 1, .int .i64 1, .int .i64 0, .int .i64 0, .int .i64 0, .int .i64 0, .int .i64 3, .int .i64 4, .int .i64 2, .int .i64 1, .int .i64 1] 3)).alloc (by simp) (.cells #[.int .i64 1, .int .i64 1, .int .i64 16, .int .i64 0, .int .i64 600, .int .i64 0, .int .i64 3, .int .i64 4, .int .i64 2, .int .i64 1, .int .i64 1] 3); have HF := Lib.hid (fitsF.eq_1 k n); generalize fitsF k n = FF at *
  rcases hk with rfl | rfl | rfl | rfl | rfl | rfl | rfl | rfl | rfl | rfl | rfl
  all_goals
    have a0 := q.cell 0 rfl; have a1 := q.cell 1 rfl; have a2 := q.cell 2 rfl; have a3 := q.cell 3 rfl; have a4 := q.cell 4 rfl; have a5 := q.cell 5 rfl; have a6 := q.cell 6 rfl; have a7 := q.cell 7 rfl; have a8 := q.cell 8 rfl; have a9 := q.cell 9 rfl; have a10 := q.cell 10 rfl; have b0 := r.cell 0 rfl; have b1 := r.cell 1 rfl; have b2 := r.cell 2 rfl; have b3 := r.cell 3 rfl; have b4 := r.cell 4 rfl; have b5 := r.cell 5 rfl; have b6 := r.cell 6 rfl; have b7 := r.cell 7 rfl; have b8 := r.cell 8 rfl; have b9 := r.cell 9 rfl; have b10 := r.cell 10 rfl; have c0 := (Blk.new w [.int .i64 1, .int .i64 1, .int .i64 0, .int .i64 0, .int .i64 0, .int .i64 0, .int .i64 3, .int .i64 4, .int .i64 2, .int .i64 1, .int .i64 1] 3).cell 0 rfl; have c1 := (Blk.new w [.int .i64 1, .int .i64 1, .int .i64 0, .int .i64 0, .int .i64 0, .int .i64 0, .int .i64 3, .int .i64 4, .int .i64 2, .int .i64 1, .int .i64 1] 3).cell 1 rfl; have c2 := (Blk.new w [.int .i64 1, .int .i64 1, .int .i64 0, .int .i64 0, .int .i64 0, .int .i64 0, .int .i64 3, .int .i64 4, .int .i64 2, .int .i64 1, .int .i64 1] 3).cell 2 rfl; have c3 := (Blk.new w [.int .i64 1, .int .i64 1, .int .i64 0, .int .i64 0, .int .i64 0, .int .i64 0, .int .i64 3, .int .i64 4, .int .i64 2, .int .i64 1, .int .i64 1] 3).cell 3 rfl; have c4 := (Blk.new w [.int .i64 1, .int .i64 1, .int .i64 0, .int .i64 0, .int .i64 0, .int .i64 0, .int .i64 3, .int .i64 4, .int .i64 2, .int .i64 1, .int .i64 1] 3).cell 4 rfl; have c5 := (Blk.new w [.int .i64 1, .int .i64 1, .int .i64 0, .int .i64 0, .int .i64 0, .int .i64 0, .int .i64 3, .int .i64 4, .int .i64 2, .int .i64 1, .int .i64 1] 3).cell 5 rfl
    have c6 := (Blk.new w [.int .i64 1, .int .i64 1, .int .i64 0, .int .i64 0, .int .i64 0, .int .i64 0, .int .i64 3, .int .i64 4, .int .i64 2, .int .i64 1, .int .i64 1] 3).cell 6 rfl; have c7 := (Blk.new w [.int .i64 1, .int .i64 1, .int .i64 0, .int .i64 0, .int .i64 0, .int .i64 0, .int .i64 3, .int .i64 4, .int .i64 2, .int .i64 1, .int .i64 1] 3).cell 7 rfl; have c8 := (Blk.new w [.int .i64 1, .int .i64 1, .int .i64 0, .int .i64 0, .int .i64 0, .int .i64 0, .int .i64 3, .int .i64 4, .int .i64 2, .int .i64 1, .int .i64 1] 3).cell 8 rfl; have c9 := (Blk.new w [.int .i64 1, .int .i64 1, .int .i64 0, .int .i64 0, .int .i64 0, .int .i64 0, .int .i64 3, .int .i64 4, .int .i64 2, .int .i64 1, .int .i64 1] 3).cell 9 rfl; have c10 := (Blk.new w [.int .i64 1, .int .i64 1, .int .i64 0, .int .i64 0, .int .i64 0, .int .i64 0, .int .i64 3, .int .i64 4, .int .i64 2, .int .i64 1, .int .i64 1] 3).cell 10 rfl
    go_enter Tryz.func30, Tryz.ntmps30
    go_wp2
  all_goals (go_ret; refine ⟨ret_bool ?_, hb⟩; refine Eq.trans ?_ HF.out.symm; clear HF; first | (simp_all; done) | skip; rw [Bool.eq_iff_iff]; first | (simp_all; done) | (simp_all; omega))

set_option maxHeartbeats 6400000 in
theorem richeck_any (x : It) (hs : x.key.size ≤ 100000 ∧ x.v.2.1.size ≤ 100000) (hn : x.n.length ≤ 1000000) (w : World) (hok : x.Ok w) :
    Calls Tryz.prog 13 #[x.val] w fun e w' => e = .returned (.int .i64 (chkI x)) ∧ Below w.heap.size w w' := by
  have HC := Lib.hid (chkI.eq_1 x); have HKW := Lib.hid (fun W => rkword_any x.kind W); have HKC := Lib.hid (kwS_cases x.kind); have HFI := Lib.hid (fun h W => rkfits_any x.kind h x.n.length (by omega) W); have HNM := Lib.hid (fun W => rname_any x.key hs.1 W); have HVC := Lib.hid (fun W => rvchk_any x.v.1 x.v.2.2 x.v.2.1 hs.2 W); have HR := Lib.hid hok.1; obtain ⟨B, hB⟩ : ∃ B, w.heap.size = B := ⟨_, rfl⟩; have HBQ := Lib.hid hB; have hVE : vcF x.v.1 x.v.2.1 x.v.2.2 = vE x.v := rfl; rw [hVE] at HVC; generalize chkI x = CH at *; generalize vE x.v = VE at *; obtain ⟨FA, hFA⟩ : ∃ b, x.n.any farN = b := ⟨_, rfl⟩; have HFA := Lib.hid hFA; rw [hFA] at HC; generalize fitsF x.kind x.n.length = FI at *; generalize nameF x.key = NM at *; obtain ⟨kind, n, key, ⟨v1, v2, v3⟩, np, nc⟩ := x; dsimp only [It.val, It.nval] at *; have HVZ : Hid ((v1, v2, v3) = vZ ↔ v1 = 0 ∧ v2 = ⟨#[]⟩ ∧ v3 = 0) := Lib.hid (by simp [vZ]); have HVT : Hid (v2.toList = [] → v2 = ⟨#[]⟩) := Lib.hid (fun h => ba_eq v2 (by
    have := empty_txt v2; rw [h] at this
    simpa using this))
  obtain ⟨N, hN⟩ : ∃ N, n.length = N := ⟨_, rfl⟩; have HN := Lib.hid hN; rw [hN] at HFI hn ⊢; have hb0 := Below.new w (.cells #[.int .i64 kind, .slice np N nc, .string key, .int .i64 v1, .string v2, .int .i64 v3] 50); have k0 := Blk.lit w B [.int .i64 kind, .slice np N nc, .string key, .int .i64 v1, .string v2, .int .i64 v3] 50 hB; have hr0 := HR.out.keep hb0; clear hok hs hN hFA
  go_enter Tryz.func13, Tryz.ntmps13
  have x0 := k0.cell 0 rfl
  go_wp2_with fail
  generalize w.alloc (.cells #[.int .i64 kind, .slice np N nc, .string key, .int .i64 v1, .string v2, .int .i64 v3] 50) = w0 at *; clear hB; refine (HKW.out _).mono ?_; rintro e w1 ⟨rfl, hb1⟩; have k1 := k0.keep hb1; have hr1 := hr0.keep hb1; have hbw1 := hb0.trans (hb1.mono hb0.size); clear HKW k0 hr0 hb0 hb1 x0; have x0 := k1.cell 0 rfl; have x1 := k1.cell 1 rfl; generalize kwS kind = KS at *
  rcases HKC.out with ⟨rfl, -⟩ | ⟨hks, hkr⟩
  · have hV : Hid (CH = 14) := Lib.hid (by rw [HC.out, if_pos rfl]); clear HC; go_wp2; go_ret; exact ⟨ret_int hV.out.symm, by first | exact hbw1 | (rw [← HBQ.out]; exact hbw1)⟩
  · have hks2 := ba_ne KS (fun h => hks (ba_eq KS h)); have hC := HC.out; rw [if_neg hks] at hC; replace HC := Lib.hid hC; clear hC
    go_wp2_with fail
    refine (HFI.out hkr _).mono ?_; rintro e w2 ⟨rfl, hb2⟩; have k2 := k1.keep hb2; have hr2 := hr1.keep hb2; have hbw2 := hbw1.trans (hb2.mono hbw1.size); clear k1 hr1 hbw1 hb2 x0 x1 HFI
    cases FI with
    | false =>
      have hV : Hid (CH = 3) := Lib.hid (by rw [HC.out, if_pos rfl]); clear HC; go_wp2; go_ret; exact ⟨ret_int hV.out.symm, by first | exact hbw2 | (rw [← HBQ.out]; exact hbw2)⟩
    | true =>
      have hC := HC.out; rw [if_neg (by simp)] at hC; replace HC := Lib.hid hC; have HR2 := Lib.hid hr2; clear hC hr2; have x0 := k2.cell 0 rfl; have x1 := k2.cell 1 rfl; have x2 := k2.cell 2 rfl; have x3 := k2.cell 3 rfl; have x4 := k2.cell 4 rfl; have x5 := k2.cell 5 rfl; go_wp2
      go_loopw [3] (fun i wr => ∃ k : Nat, k ≤ N ∧ i = .int .i64 k ∧ wr = w2 ∧ Hid ((n.take k).any farN = false)) (fun i _ => N - (intOf i).toNat)
      case atStart => exact ⟨0, by omega, rfl, rfl, Lib.hid rfl⟩
      case round =>
        obtain ⟨k, hk, rfl, rfl, HA⟩ := hrel
        by_cases hlt : k < N
        · have hlt' : (k : Int) < (N : Int) := by omega
          have hkl : k < n.length := by rw [HN.out]; exact hlt
          obtain ⟨nb, no, rfl, c0, hnb⟩ := HR2.out.at (i := k) (v := .int .i64 n[k]) (by simp [hkl]); have HT : Hid (n.take (k + 1) = n.take k ++ [n[k]]) := Lib.hid (List.take_succ_eq_append_getElem hkl); have HM : Hid (farN n[k] = true → FA = true) := Lib.hid (fun h => by rw [← HFA.out]; exact List.any_eq_true.2 ⟨_, List.getElem_mem hkl, h⟩); have HFN := Lib.hid (farN.eq_1 n[k]); generalize n[k] = z at *
          by_cases hz1 : 1152921504606846976 < z
          · have hV : Hid (CH = 5) := Lib.hid (by rw [HC.out, if_pos (HM.out (by rw [HFN.out]; simp [hz1]))]); clear HC; go_wp2; go_ret; exact ⟨ret_int hV.out.symm, by first | exact hbw2 | (rw [← HBQ.out]; exact hbw2)⟩
          · by_cases hz2 : z < -1152921504606846976
            · have hV : Hid (CH = 5) := Lib.hid (by rw [HC.out, if_pos (HM.out (by rw [HFN.out]; simp [hz2]))]); clear HC; go_wp2; go_ret; exact ⟨ret_int hV.out.symm, by first | exact hbw2 | (rw [← HBQ.out]; exact hbw2)⟩
            · have HA2 : Hid ((n.take (k + 1)).any farN = false) := Lib.hid (by
                rw [HT.out, List.any_append, HA.out]; simp [HFN.out, hz1, hz2])
              go_wp2; go_roundw
              case rel => exact ⟨k + 1, by omega, by go_num, by first | rfl | trivial, HA2⟩
              case measure => simp [intOf]; omega
        · have hlt' : ¬ (k : Int) < (N : Int) := by omega
          have hFA2 : FA = false := by
            rw [← HFA.out, ← HA.out, List.take_of_length_le (by rw [HN.out]; omega)]
          have hC := HC.out; rw [hFA2, if_neg (by simp)] at hC; replace HC := Lib.hid hC; clear hC hFA2 HA
          by_cases h6 : kind = 6
          · subst h6; have hC := HC.out; rw [if_neg (by simp)] at hC; replace HC := Lib.hid hC; clear hC
            go_wp2_with fail
            refine (HNM.out _).mono ?_; rintro e w4 ⟨rfl, hb4⟩; have k4 := k2.keep hb4; have hbw4 := hbw2.trans (hb4.mono hbw2.size); clear k2 hbw2 hb4 x0 x1 x2 x3 x4 x5; have x3 := k4.cell 3 rfl; have x4 := k4.cell 4 rfl; have x5 := k4.cell 5 rfl
            cases NM with
            | false =>
              have hV : Hid (CH = 13) := Lib.hid (by rw [HC.out, if_pos rfl]); clear HC; go_wp2; go_ret; exact ⟨ret_int hV.out.symm, by first | exact hbw4 | (rw [← HBQ.out]; exact hbw4)⟩
            | true =>
              have hV : Hid (CH = VE) := Lib.hid (by rw [HC.out, if_neg (by simp)]); clear HC
              go_wp2_with fail
              refine (HVC.out _).mono ?_; rintro e w5 ⟨rfl, hb5⟩; have hbw5 := hbw4.trans (hb5.mono hbw4.size); go_wp2; go_ret; exact ⟨ret_int hV.out.symm, by first | exact hbw5 | (rw [← HBQ.out]; exact hbw5)⟩
          · have h6' : (kind == 6) = false := by rw [beq_eq_false_iff_ne]; exact h6
            have hC := HC.out; rw [if_pos h6] at hC; replace HC := Lib.hid hC; clear hC
            by_cases hkz : key.size = 0
            · obtain rfl := ba_eq key hkz
              by_cases hvz : v1 = 0 ∧ v2 = ⟨#[]⟩ ∧ v3 = 0
              · have hV : Hid (CH = 0) := Lib.hid (by rw [HC.out, if_neg]; rintro (h | h); exact h hkz; exact h (HVZ.out.2 hvz)); obtain ⟨rfl, rfl, rfl⟩ := hvz; clear HC HVZ; go_wp2; go_ret; exact ⟨ret_int hV.out.symm, by first | exact hbw2 | (rw [← HBQ.out]; exact hbw2)⟩
              · have hV : Hid (CH = 3) := Lib.hid (by rw [HC.out, if_pos]; right; intro h; exact hvz (HVZ.out.1 h)); have HVZ2 := Lib.hid hvz; clear HC HVZ hvz; go_wp2
                all_goals first
                  | (go_ret; exact ⟨ret_int hV.out.symm, by first | exact hbw2 | (rw [← HBQ.out]; exact hbw2)⟩)
                  | (exfalso; exact HVZ2.out ⟨‹v1 = 0›, HVT.out ‹v2.toList = []›, ‹v3 = 0›⟩)
            · have hkn := ba_ne key hkz; have hV : Hid (CH = 3) := Lib.hid (by rw [HC.out, if_pos (.inl hkz)]); clear HC; go_wp2; go_ret; exact ⟨ret_int hV.out.symm, by first | exact hbw2 | (rw [← HBQ.out]; exact hbw2)⟩
end Go.Proofs.YtkfgbjjelcigcaaGreatDoor
/- The document's faces that grow, in memory. -/
set_option linter.unusedVariables false
set_option linter.unusedSimpArgs false
set_option maxRecDepth 100000
namespace Go.Proofs.YtkfgbjjelcigcaaGreatDoor
open Go.RowKit
theorem Tryz.infoRIt : (Tryz.prog.info? 50).map (fun i => (i.zero, i.size, i.bytes)) = some (some (.agg #[.int .i64 0, .slice none 0 0, .string ⟨#[]⟩, .int .i64 0, .string ⟨#[]⟩, .int .i64 0]), 6, 80) := by kernel_rfl
theorem Tryz.infoRPt : (Tryz.prog.info? 77).map (fun i => (i.zero, i.size, i.bytes)) = some (some (.agg #[.int .i64 0, .int .i64 0]), 2, 16) := by kernel_rfl
def GrowR (base : Nat) (W : World) (LF : List Fc) : Prop :=
  LF = [] ∨ ∃ (L0 : List Fc) (f : Fc) (Wf : World), LF = L0 ++ [f] ∧ base ≤ Wf.heap.size ∧ (∀ x ∈ L0, RfT Wf x) ∧ KeepS refS Wf W ∧ W.ownsRow Wf.heap.size 76 1 f.rval f.rs.length (rcs f.rs) ∧ (∀ r ∈ f.rs, PrT W r) ∧ W.ownsRow Wf.heap.size 79 4 f.aval f.ls.length (ats f.ls)
theorem GrowR.keepS {base : Nat} {A B : World} {LF : List Fc} (h : GrowR base A LF) (k : KeepS refS A B) : GrowR base B LF := by
  rcases h with rfl | ⟨L0, f, Wf, rfl, h1, h2, h3, h4, h5, h6⟩
  · exact .inl rfl
  · exact .inr ⟨L0, f, Wf, rfl, h1, h2, h3.trans k, h4.keepS (.inr (.inl rfl)) k, fun r hr => (h5 r hr).keepS (S := refS) (.inl rfl) k, h6.keepS (.inr (.inr rfl)) k⟩
theorem GrowR.keep {base : Nat} {A B : World} {LF : List Fc} (h : GrowR base A LF) (hb : Below A.heap.size A B) : GrowR base B LF := h.keepS (KeepS.of_below hb)
theorem GrowR.all {base : Nat} {W : World} {LF : List Fc} (h : GrowR base W LF) : ∀ f ∈ LF, RfT W f := by
  rcases h with rfl | ⟨L0, f, Wf, rfl, h1, h2, h3, h4, h5, h6⟩
  · simp
  · intro x hx
    rcases List.mem_append.1 hx with hx | hx
    · exact (h2 x hx).keepS h3
    · rw [List.mem_singleton] at hx; subst hx; obtain ⟨ra, rc, e1, q1, q2, q3, q4, -⟩ := h4.form; obtain ⟨aa, ac, e2, p1, p2, p3, p4, -⟩ := h6.form; unfold Fc.rval at e1; unfold Fc.aval at e2
      cases e1
      cases e2
      exact ⟨⟨⟨q4, q1, q2, q3⟩, fun r hr => (h5 r hr).1, ⟨p4, p1, p2, p3⟩⟩, TypB.of_owns h4, h5, TypB.of_owns h6⟩
theorem GrowR.face {base : Nat} {W : World} {LF : List Fc} (h : GrowR base W LF) (hb : base ≤ W.heap.size) : GrowR base W (LF ++ [⟨[], none, 0, [], none, 0⟩]) :=
  .inr ⟨LF, _, W, rfl, hb, h.all, KeepS.refl W, World.ownsRow_nil _ _ _ _, by simp, World.ownsRow_nil _ _ _ _⟩
theorem rf33 : ∀ V, refS V → V ≠ 33 := by rintro V (rfl | rfl | rfl) <;> decide
theorem rf75 : ∀ V, refS V → V ≠ 75 := by rintro V (rfl | rfl | rfl) <;> decide
theorem rf50 : ∀ V, refS V → V ≠ 50 := by rintro V (rfl | rfl | rfl) <;> decide
end Go.Proofs.YtkfgbjjelcigcaaGreatDoor
/- graticulelaw30.Of, Ofs. -/
set_option linter.unusedVariables false
set_option linter.unusedSimpArgs false
set_option maxRecDepth 100000
namespace Go.Proofs.YtkfgbjjelcigcaaGreatDoor
open Go.RowKit
set_option maxHeartbeats 1600000 in
theorem of30r_any (x : It) (w : World) :
    Calls Tryz.prog 14 #[x.val] w fun e w' => e = .returned x.val ∧ Below w.heap.size w w' := by
  obtain ⟨kd, n, key, ⟨v1, v2, v3⟩, np, nc⟩ := x; dsimp only [It.val, It.nval]; generalize n.length = NL
  go_enter Tryz.func14, Tryz.ntmps14
  go_wp2; refine bodyPost_ret (v := .agg #[.int .i64 kd, .slice np NL nc, .string key, .int .i64 v1, .string v2, .int .i64 v3]) ?_ rfl ⟨rfl, (Below.new w _).alloc (by simp) _⟩; have q := Blk.lit (w.alloc (.cells #[.int .i64 kd, .slice np NL nc, .string key, .int .i64 v1, .string v2, .int .i64 v3] 46)) (w.heap.size + 1) [.int .i64 kd, .slice np NL nc, .string key, .int .i64 v1, .string v2, .int .i64 v3] 50 (by simp); have q0 := q.cell 0 rfl; have q1 := q.cell 1 rfl; have q2 := q.cell 2 rfl; have q3 := q.cell 3 rfl; have q4 := q.cell 4 rfl; have q5 := q.cell 5 rfl; simp [results, Tryz.results14, go_sem, q0, q1, q2, q3, q4, q5]
set_option maxHeartbeats 3200000 in
theorem iofs_any (a : Option Addr) (c : Nat) (l : List It) (hn : l.length ≤ 100000) (w : World) (hr : Rd w a (its l)) :
    Calls Tryz.prog 8 #[.slice a l.length c] w fun e w' => ∃ v, e = .returned v ∧ w'.ownsRow w.heap.size 50 6 v l.length (its l) ∧ Below w.heap.size w w' := by
  have HR := Lib.hid hr; obtain ⟨N, hN⟩ : ∃ N, l.length = N := ⟨_, rfl⟩; have HN := Lib.hid hN; have HTA : Hid (its (l.take N) = its l) := Lib.hid (by rw [← hN, List.take_length]); rw [hN] at hn ⊢; clear hr hN
  go_enter Tryz.func8, Tryz.ntmps8
  go_wp2
  go_loopw [3, 4] (fun o i wr => ∃ k : Nat, k ≤ N ∧ i = .int .i64 k ∧ wr.ownsRow w.heap.size 50 6 o k (its (l.take k)) ∧ Below w.heap.size w wr) (fun _ i _ => N - (intOf i).toNat)
  case atStart => exact ⟨0, by omega, rfl, World.ownsRow_nil _ _ _ _, Below.refl _ _⟩
  case round =>
    obtain ⟨i, hi, rfl, ho, hbl⟩ := hrel
    by_cases h1 : i < N
    · have h1' : (i : Int) < (N : Int) := by omega
      have hil : i < l.length := by rw [HN.out]; exact h1
      obtain ⟨b1, o1, rfl, hbb, c0, c1, c2, c3, c4, c5⟩ := (HR.out.keep hbl).it i hil; have HSN : Hid (its (l.take (i + 1)) = its (l.take i) ++ l[i].cells) := Lib.hid (by
        rw [List.take_succ_eq_append_getElem hil, its_snoc])
      have HM := Lib.hid (of30r_any l[i] wr); generalize l[i] = x at *; obtain ⟨kd, n, key, ⟨v1, v2, v3⟩, np, nc⟩ := x; dsimp only [It.val, It.nval, It.cells] at HM HSN c0 c1 c2 c3 c4 c5; generalize n.length = NL at *
      go_wp2_with fail
      refine HM.out.mono ?_; rintro e w1 ⟨rfl, hb1⟩; have hbl1 := hbl.trans (hb1.mono hbl.size); have ho1 := ho.below hb1; clear ho HM hb1 hbl c0 c1 c2 c3 c4 c5
      go_wp2_with (at_builtin; go_must (refine wpList_appLitAt w hbl1 rfl (.tmp 11) (.tmp 17) 34 rfl 50 (.agg #[.int .i64 0, .slice none 0 0, .string ⟨#[]⟩, .int .i64 0, .string ⟨#[]⟩, .int .i64 0]) 6 80 Tryz.underlying34 Tryz.infoRIt rfl (by decide) (by decide) u3 i (its (l.take i)) rfl ho1 1 1 w1.heap.size rfl [.int .i64 kd, .slice np NL nc, .string key, .int .i64 v1, .string v2, .int .i64 v3] _ rfl rfl (by simp [Value.oneCell']) (by omega) ?_); intro v9 w2 hown2 _ hbl2 _; clear ho1 hbl1)
      go_roundw
      case rel =>
        refine ⟨i + 1, by omega, by go_num, ?_, hbl2⟩; rw [HSN.out]; exact hown2
      case measure => simp [intOf]; omega
    · obtain rfl : i = N := by omega
      have HO9 := Lib.hid ho; rw [HTA.out] at HO9; go_wp2; go_ret; exact ⟨u3, rfl, HO9.out, hbl⟩
end Go.Proofs.YtkfgbjjelcigcaaGreatDoor
/- script.Print. -/
set_option linter.unusedVariables false
set_option linter.unusedSimpArgs false
set_option maxRecDepth 100000
namespace Go
open Go.RowKit
theorem BT.others {w w' : World} {b g : Nat} {vs : List Value} {T e : TypeId} (h : BT w b T vs) (k : Lib.OthersKept e (some g) w w') (hb : b ≠ g) (hT : T ≠ e) : BT w' b T vs := by
  unfold BT at *; exact k b _ h (by simpa using hb) (fun c fz e1 => by cases e1; exact hT rfl)
theorem bcat (l : List UInt8) (s : ByteArray) : Lib.byteCells l ++ Lib.strCells s = Lib.byteCells (l ++ s.data.toList) := by
  rw [Lib.byteCells_append]
  rfl
end Go
namespace Go.Proofs.YtkfgbjjelcigcaaGreatDoor
open Go.RowKit
set_option maxHeartbeats 12800000 in
theorem iprint_any (a : Option Addr) (c : Nat) (X : List It) (hN : X.length ≤ 1000) (hn : ∀ x ∈ X, x.n.length ≤ 100000) (hsz : ∀ x ∈ X, x.key.size ≤ 100000 ∧ x.v.2.1.size ≤ 100000) (w : World) (hr : Rd w a (its X)) (hok : ∀ x ∈ X, x.Ok w) (htab : TabOk w) :
    Calls Tryz.prog 15 #[.slice a X.length c] w fun e w' => e = .returned (.tuple #[.string (prS X), .int .i64 (badI X)]) ∧ Below w.heap.size w w' := by
  have HTB := Lib.hid (fun W (h : Below w.heap.size w W) => (Joins.tab_stays (B := w.heap.size) (by kernel_rfl : Tryz.prog.globalNamed "internal/strconv.uint64pow10" = some 0) htab h (Nat.le_refl _) : TabOk W))
  have HR := Lib.hid hr; have HOK := Lib.hid hok; have HSZ := Lib.hid hsz; have HNN := Lib.hid hn; have HB0 := Lib.hid (badI_ok X); have HB1 := Lib.hid (badI_at X); have HPS : Hid (prS X = if badI X = 0 then ⟨(textF X).toArray⟩ else ⟨#[]⟩) := Lib.hid rfl; obtain ⟨N, hNe⟩ : ∃ N, X.length = N := ⟨_, rfl⟩; have HN := Lib.hid hNe; rw [hNe] at hN ⊢; obtain ⟨BI, hBI⟩ : ∃ b, badI X = b := ⟨_, rfl⟩; obtain ⟨PS, hPS⟩ : ∃ b, prS X = b := ⟨_, rfl⟩; rw [hBI] at HB0 HPS ⊢; rw [hPS] at HPS ⊢; have HBI := Lib.hid hBI; clear hr hok hsz hn hNe hBI hPS htab; obtain ⟨B0, hB0⟩ : ∃ b, w.heap.size = b := ⟨_, rfl⟩; have hI0 : Lib.IsBuilderF 91 5 B0 B0 (Lib.byteCells []) (w.alloc (.cells #[.pointer none, .slice none 0 0] 91)) := by
    rw [← hB0]; exact Lib.IsBuilderF.of (Lib.fresh_isBuilder 91 5 w)
  have hbA : Below w.heap.size w (w.alloc (.cells #[.pointer none, .slice none 0 0] 91)) := Below.new _ _; have hlt0 : B0 < (w.alloc (.cells #[.pointer none, .slice none 0 0] 91)).heap.size := by simp [hB0]
  go_enter Tryz.func15, Tryz.ntmps15
  go_wp2
  try rw [hB0]
  generalize w.alloc (.cells #[.pointer none, .slice none 0 0] 91) = wA at *
  go_loopw [14] (fun i wr => ∃ k : Nat, k ≤ N ∧ i = .int .i64 k ∧ Lib.IsBuilderF 91 5 B0 B0 (Lib.byteCells (textF (X.take k))) wr ∧ Hid (∀ j (hj : j < X.length), j < k → chkI X[j] = 0) ∧ Below w.heap.size w wr ∧ B0 < wr.heap.size) (fun i _ => N - (intOf i).toNat)
  case atStart => exact ⟨0, Nat.zero_le _, rfl, hI0, Lib.hid (fun j _ h => absurd h (Nat.not_lt_zero _)), hbA, hlt0⟩
  case round =>
    clear hI0 hbA hlt0; obtain ⟨k, hk, rfl, hI, HZ, hbl, hlt0⟩ := hrel
    by_cases hlt : k < N
    · have hlt' : (k : Int) < (N : Int) := by omega
      have hkX : k < X.length := by rw [HN.out]; exact hlt
      obtain ⟨b1, o1, rfl, hbw, c0w, c1w, c2w, c3w, c4w, c5w⟩ := HR.out.it k hkX; obtain ⟨b1', o1', e1', hbb, c0, c1, c2, c3, c4, c5⟩ := (HR.out.keep hbl).it k hkX
      cases e1'
      have hmx := List.getElem_mem hkX; have HCK := Lib.hid (fun W h => icheck_any (X[k]'hkX) ⟨by have := (HSZ.out _ hmx).1; unfold maxLen; omega, by have := (HSZ.out _ hmx).2; unfold maxLen; omega⟩ (by have := HNN.out _ hmx; omega) W ((HOK.out _ hmx).keep h)); have HNX := HNN.out _ hmx; have HOX2 := Lib.hid (HOK.out _ hmx).1; have HB2 : Hid (chkI X[k] ≠ 0 → BI = chkI X[k]) := Lib.hid (fun h => by rw [← HBI.out]; exact HB1.out k hkX HZ.out h); have HTS : Hid (textF (X.take (k + 1)) = textF (X.take k) ++ lineF X[k] ++ [10]) := Lib.hid (by
        rw [List.take_succ_eq_append_getElem hkX, text_snoc])
      have HZ2 : Hid (chkI X[k] = 0 → ∀ j (hj : j < X.length), j < k + 1 → chkI X[j] = 0) := Lib.hid (fun h j hj hjk => by
        by_cases hj2 : j < k
        · exact HZ.out j hj hj2
        · obtain rfl : j = k := by omega
          exact h)
      have hTX := text_bd (X.take k) (fun y hy => by
        obtain ⟨j, hj, rfl⟩ := List.getElem_of_mem hy; rw [List.length_take] at hj; rw [List.getElem_take]; exact HZ.out j (by omega) (by omega))
      rw [List.length_take] at hTX; obtain ⟨TX, hTXe⟩ : ∃ T, textF (X.take k) = T := ⟨_, rfl⟩; rw [hTXe] at hI HTS hTX; clear HB1 hmx hTXe; generalize X[k] = x at *; obtain ⟨E, hE⟩ : ∃ E, chkI x = E := ⟨_, rfl⟩; have HE := Lib.hid hE; rw [hE] at HCK HB2 HZ2; clear hE; have HXV : Hid (x.val = .agg #[.int .i64 x.kind, x.nval, .string x.key, .int .i64 x.v.1, .string x.v.2.1, .int .i64 x.v.2.2]) := Lib.hid rfl; rw [HXV.out] at HCK; have HLF : Hid (lineF x = (kwS x.kind).data.toList ++ tl (rest6 x)) := Lib.hid rfl; have HR6 : Hid (rest6 x = if x.kind = 6 then [pw x.key.data.toList, vw x.v] else x.n.map (fun n => pw (Lib.itoa n))) := Lib.hid rfl; have HLL := Lib.hid (fun h => line_len x h); have HKW := Lib.hid (fun W => kword_any x.kind W); have hkw := kwS_size x.kind; have HTLE := Lib.hid (fun h => tl_le x h); have HTT := Lib.hid (fun j => tl_take x.n j); obtain ⟨LX, hLX⟩ : ∃ L, lineF x = L := ⟨_, rfl⟩; rw [hLX] at HLF HLL HTS; generalize kwS x.kind = KW at *; have hkwl : KW.data.toList.length = KW.size := by rw [Array.length_toList]; rfl
      clear HXV hLX; unfold It.nval at c1 c1w HCK; obtain ⟨n1, hn1⟩ : ∃ n, x.n.length = n := ⟨_, rfl⟩; have HN1 := Lib.hid hn1; rw [hn1] at c1 c1w HCK HNX; clear hn1; obtain ⟨B1, hB1⟩ : ∃ b, wr.heap.size = b := ⟨_, rfl⟩; have k1 := BT.lit wr B1 [.int .i64 x.kind, .slice x.np n1 x.nc, .string x.key, .int .i64 x.v.1, .string x.v.2.1, .int .i64 x.v.2.2] 46 hB1; have hb1 := Below.new wr (.cells #[.int .i64 x.kind, .slice x.np n1 x.nc, .string x.key, .int .i64 x.v.1, .string x.v.2.1, .int .i64 x.v.2.2] 46); have hbl1 := hbl.trans (hb1.mono hbl.size); have hI1 := hI.below hb1; have hne1 : B1 ≠ B0 := by omega
      have hl1 := Nat.lt_of_lt_of_le hlt0 hb1.size; have f0 := k1.blk.cell 0 rfl; have f1 := k1.blk.cell 1 rfl; have f2 := k1.blk.cell 2 rfl; have f3 := k1.blk.cell 3 rfl; have f4 := k1.blk.cell 4 rfl; have f5 := k1.blk.cell 5 rfl
      go_wp2_with fail
      try rw [hB1]
      generalize wr.alloc (.cells #[.int .i64 x.kind, .slice x.np n1 x.nc, .string x.key, .int .i64 x.v.1, .string x.v.2.1, .int .i64 x.v.2.2] 46) = w1 at *; clear c0 c1 c2 c3 c4 c5 c0w c1w c2w c3w c4w c5w hI hb1; refine (HCK.out _ hbl1).mono ?_; rintro e w2 ⟨rfl, hb2⟩; have k2 := k1.keep hb2; have hbl2 := hbl1.trans (hb2.mono hbl1.size); have hI2 := hI1.below hb2; have hl2 := Nat.lt_of_lt_of_le hl1 hb2.size; clear f0 f1 f2 f3 f4 f5 HCK k1 hI1 hb2 hl1
      by_cases hE0 : E = 0
      · subst hE0; have hz := chkI_zero x HE.out; have HZZ := Lib.hid hz.2.2.2; have HNB := Lib.hid hz.2.2.1; have HLE0 := Lib.hid (HLL.out HE.out); have f0 := k2.blk.cell 0 rfl; have HTLE := Lib.hid (HTLE.out HE.out); have hTX2 : TX.length ≤ 20001 * 1000 := by omega
        clear hz
        go_wp2_with fail
        refine (HKW.out _).mono ?_; rintro e w3 ⟨rfl, hb3⟩; have k3 := k2.keep hb3; have hbl3 := hbl2.trans (hb3.mono hbl2.size); have hI3 := hI2.below hb3; have hl3 := Nat.lt_of_lt_of_le hl2 hb3.size; clear f0 k2 hI2 hb3 hl2 hbl2
        go_wp2_with fail
        refine (Tryz.Builder_WriteString_k B0 B0 _ KW _ hI3 (by rw [Lib.byteCells_length]; omega) (by omega)).mono ?_; rintro e w4 ⟨rfl, h4, b4, o4⟩; have k4 := k3.others o4 hne1 (by decide); have hI4 : Lib.IsBuilderF 91 5 B0 B0 (Lib.byteCells (TX ++ KW.data.toList)) w4 := by rw [← bcat]; exact Or.inr h4
        have hbl4 := hbl3.trans (Below.mono b4 (by omega)); have hl4 := Nat.lt_of_lt_of_le hl3 b4.size; have f1 := k4.blk.cell 1 rfl; clear h4 b4 o4 k3 hI3 hbl3 hl3; go_wp2
        go_loopw [30] (fun m wr => ∃ j : Nat, j ≤ n1 ∧ m = .int .i64 j ∧ Lib.IsBuilderF 91 5 B0 B0 (Lib.byteCells (TX ++ KW.data.toList ++ tl ((x.n.take j).map (fun n => pw (Lib.itoa n))))) wr ∧ BT wr B1 46 [.int .i64 x.kind, .slice x.np n1 x.nc, .string x.key, .int .i64 x.v.1, .string x.v.2.1, .int .i64 x.v.2.2] ∧ Below w.heap.size w wr ∧ B0 < wr.heap.size) (fun m _ => n1 - (intOf m).toNat)
        case atStart => exact ⟨0, Nat.zero_le _, rfl, by simpa [tl] using hI4, k4, hbl4, hl4⟩
        case round =>
          clear k4 hI4 hbl4 hl4 f1; obtain ⟨j, hj, rfl, hI5, k5, hbj, hl5⟩ := hrel; have f0 := k5.blk.cell 0 rfl; have f2 := k5.blk.cell 2 rfl; have f3 := k5.blk.cell 3 rfl; have f4 := k5.blk.cell 4 rfl; have f5 := k5.blk.cell 5 rfl
          by_cases hjl : j < n1
          · have hjl' : (j : Int) < (n1 : Int) := by omega
            have hjn : j < x.n.length := by rw [HN1.out]; exact hjl
            obtain ⟨b3, o3, hnp, e0, hbn⟩ := (HOX2.out.keep hbj).at (i := j) (v := .int .i64 x.n[j]) (by simp [hjn]); have hnb := HNB.out x.n[j] (List.getElem_mem hjn); have HD := Lib.hid (fun W h => digits_any x.n[j] (by omega) (by omega) W (HTB.out W h)); have hl1 := HTT.out (j + 1); have hl2 := HTLE.out; have hst : tl ((x.n.take (j + 1)).map (fun n => pw (Lib.itoa n))) = tl ((x.n.take j).map (fun n => pw (Lib.itoa n))) ++ 32 :: Lib.itoa x.n[j] := by
              rw [List.take_succ_eq_append_getElem hjn, List.map_append, tl_app]; simp [tl, pw]
            have hdl : (tl ((x.n.take j).map (fun n => pw (Lib.itoa n)))).length + 1 + (Lib.itoa x.n[j]).length ≤ 20000 := by
              have := congrArg List.length hst; rw [List.length_append, List.length_cons] at this; omega
            have HST : Hid (TX ++ KW.data.toList ++ tl ((x.n.take (j + 1)).map (fun n => pw (Lib.itoa n))) = (TX ++ KW.data.toList ++ tl ((x.n.take j).map (fun n => pw (Lib.itoa n)))) ++ ((⟨#[32]⟩ : ByteArray) ++ ⟨(Lib.itoa x.n[j]).toArray⟩).data.toList) := Lib.hid (by rw [hst]; simp [ByteArray.data_append]); have hSl : (TX ++ KW.data.toList ++ tl ((x.n.take j).map (fun n => pw (Lib.itoa n)))).length ≤ 20001 * 1000 + 6 + 20000 := by
              rw [List.length_append, List.length_append]; omega
            obtain ⟨S, hS⟩ : ∃ S, TX ++ KW.data.toList ++ tl ((x.n.take j).map (fun n => pw (Lib.itoa n))) = S := ⟨_, rfl⟩; rw [hS] at HST hSl hI5; generalize x.n[j] = nj at *; generalize Lib.itoa nj = DG at *; have hdl2 : DG.length ≤ 20000 := by omega
            have hcat : ¬ 9223372036854775807 < 1 + DG.length := by omega
            have hsz2 : ((⟨#[32]⟩ : ByteArray) ++ ⟨DG.toArray⟩).size = 1 + DG.length := by rw [ByteArray.size_append]; rfl
            clear hst hl1 hl2 hS hdl; rw [hnp]
            go_wp2_with fail
            refine (HD.out _ hbj).mono ?_; rintro e w6 ⟨rfl, hb6⟩; have k6 := k5.keep hb6; have hbl6 := hbj.trans (hb6.mono hbj.size); have hI6 := hI5.below hb6; have hl6 := Nat.lt_of_lt_of_le hl5 hb6.size; clear e0 f0 f2 f3 f4 f5 k5 hI5 hb6
            go_wp2_with fail
            have hfit : (Lib.byteCells S).length + ((⟨#[32]⟩ : ByteArray) ++ ⟨DG.toArray⟩).size ≤ 140737488355328 := by
              rw [Lib.byteCells_length, hsz2]; omega
            generalize ((⟨#[32]⟩ : ByteArray) ++ ⟨DG.toArray⟩) = SS at *; refine (Tryz.Builder_WriteString_k B0 B0 _ SS _ hI6 hfit (by omega)).mono ?_; rintro e w7 ⟨rfl, h7, b7, o7⟩; have k7 := k6.others o7 hne1 (by decide); have hI7 : Lib.IsBuilderF 91 5 B0 B0 (Lib.byteCells (TX ++ KW.data.toList ++ tl ((x.n.take (j + 1)).map (fun n => pw (Lib.itoa n))))) w7 := by rw [HST.out, ← bcat]; exact Or.inr h7
            have hbl7 := hbl6.trans (Below.mono b7 (by omega)); have hl7 := Nat.lt_of_lt_of_le hl6 b7.size; clear h7 b7 o7 hI6; rw [← hnp]; go_wp2; go_roundw
            case rel => exact ⟨j + 1, by omega, by go_num, hI7, by rw [hnp] at k7; exact k7, hbl7, hl7⟩
            case measure => simp [intOf]; omega
          · obtain rfl : j = n1 := by omega
            have hjl' : ¬ (j : Int) < (j : Int) := by omega
            have ht : x.n.take j = x.n := List.take_of_length_le (by rw [HN1.out]; exact Nat.le_refl _); rw [ht] at hI5; have hZ := HZ2.out trivial; have hLXl := HLE0.out
            rcases HZZ.out with ⟨h6, hkey, hv⟩ | ⟨h6, hn6, hname, hv⟩
            · have hLE : TX ++ KW.data.toList ++ tl (x.n.map (fun n => pw (Lib.itoa n))) = TX ++ LX := by
                rw [HLF.out, HR6.out, if_neg h6, List.append_assoc]
              rw [hLE] at hI5; have h6' : (x.kind == 6) = false := by simpa using h6
              clear hkey hv
              go_wp2_with fail
              refine (Tryz.Builder_WriteString_k B0 B0 _ ⟨#[10]⟩ _ hI5 (by rw [Lib.byteCells_length, List.length_append]; show _ + 1 ≤ _; omega) (by omega)).mono ?_; rintro e w7 ⟨rfl, h7, b7, o7⟩; have hI7 : Lib.IsBuilderF 91 5 B0 B0 (Lib.byteCells (textF (X.take (k + 1)))) w7 := by rw [bcat] at h7; rw [HTS.out]; exact Or.inr h7
              have hbl7 := hbj.trans (Below.mono b7 (by omega)); have hl7 := Nat.lt_of_lt_of_le hl5 b7.size; go_wp2; go_roundw
              case rel => exact ⟨k + 1, by omega, by go_num, hI7, Lib.hid hZ, hbl7, hl7⟩
              case measure => simp [intOf]; omega
            · have hn0 : tl (x.n.map (fun n => pw (Lib.itoa n))) = [] := by rw [hn6]; rfl
              rw [hn0, List.append_nil] at hI5; obtain ⟨PV, hPV⟩ : ∃ P, prnF x.v = P := ⟨_, rfl⟩; have HPG := Lib.hid (fun W h => print_good x.v hv W (HTB.out W h)); have hvw := vw_prn x.v; rw [hPV] at HPG hvw; have hLE : LX = KW.data.toList ++ ((((⟨#[32]⟩ : ByteArray) ++ x.key) ++ ⟨#[32]⟩) ++ PV).data.toList := by
                rw [HLF.out, HR6.out, if_pos h6]; simp [tl, pw, hvw, ByteArray.data_append]
              have hsz3 : ((((⟨#[32]⟩ : ByteArray) ++ x.key) ++ ⟨#[32]⟩) ++ PV).size = 2 + x.key.size + PV.size := by
                rw [ByteArray.size_append, ByteArray.size_append, ByteArray.size_append]; have h4 : (⟨#[32]⟩ : ByteArray).size = 1 := rfl; omega
              have hPl : 2 + x.key.size + PV.size ≤ 20000 := by
                have h3 : ((((⟨#[32]⟩ : ByteArray) ++ x.key) ++ ⟨#[32]⟩) ++ PV).data.toList.length = 2 + x.key.size + PV.size := by rw [Array.length_toList]; exact hsz3
                have := congrArg List.length hLE; rw [List.length_append, h3] at this; omega
              have hc1 : ¬ 9223372036854775807 < 1 + x.key.size := by omega
              have hc2 : ¬ 9223372036854775807 < 1 + x.key.size + 1 := by omega
              have hc3 : ¬ 9223372036854775807 < 1 + x.key.size + 1 + PV.size := by omega
              have HLE := Lib.hid hLE; rw [h6] at f0; dsimp only [vVal] at HPG; clear hPV hvw hLE hn0 hn6 hv hname
              go_wp2_with fail
              refine (HPG.out _ hbj).mono ?_; rintro e w6 ⟨rfl, hb6⟩; have k6 := k5.keep hb6; have hbl6 := hbj.trans (hb6.mono hbj.size); have hI6 := hI5.below hb6; have hl6 := Nat.lt_of_lt_of_le hl5 hb6.size; have f2 := k6.blk.cell 2 rfl; clear f0 f3 f4 f5
              go_wp2_with fail
              have hfit : (Lib.byteCells (TX ++ KW.data.toList)).length + ((((⟨#[32]⟩ : ByteArray) ++ x.key) ++ ⟨#[32]⟩) ++ PV).size ≤ 140737488355328 := by
                rw [Lib.byteCells_length, hsz3, List.length_append]; omega
              generalize ((((⟨#[32]⟩ : ByteArray) ++ x.key) ++ ⟨#[32]⟩) ++ PV) = SS at *; refine (Tryz.Builder_WriteString_k B0 B0 _ SS _ hI6 hfit (by omega)).mono ?_; rintro e w7 ⟨rfl, h7, b7, o7⟩; have hI7 : Lib.IsBuilderF 91 5 B0 B0 (Lib.byteCells (TX ++ LX)) w7 := by rw [HLE.out, ← List.append_assoc, ← bcat]; exact Or.inr h7
              have hbl7 := hbl6.trans (Below.mono b7 (by omega)); have hl7 := Nat.lt_of_lt_of_le hl6 b7.size
              go_wp2_with fail
              refine (Tryz.Builder_WriteString_k B0 B0 _ ⟨#[10]⟩ _ hI7 (by rw [Lib.byteCells_length, List.length_append]; show _ + 1 ≤ _; omega) (by omega)).mono ?_; rintro e w8 ⟨rfl, h8, b8, o8⟩; have hI8 : Lib.IsBuilderF 91 5 B0 B0 (Lib.byteCells (textF (X.take (k + 1)))) w8 := by rw [bcat] at h8; rw [HTS.out]; exact Or.inr h8
              have hbl8 := hbl7.trans (Below.mono b8 (by omega)); have hl8 := Nat.lt_of_lt_of_le hl7 b8.size; go_wp2; go_roundw
              case rel => exact ⟨k + 1, by omega, by go_num, hI8, Lib.hid hZ, hbl8, hl8⟩
              case measure => simp [intOf]; omega
      · have hbi := HB2.out hE0; have hp := HPS.out; rw [if_neg (by rw [hbi]; exact hE0)] at hp; subst hbi; subst hp; go_wp2; refine bodyPost_ret (v := .tuple #[.string ⟨#[]⟩, .int .i64 BI]) (by simp [results, Tryz.results15, go_sem]) rfl ⟨rfl, hbl2⟩
    · obtain rfl : k = N := by omega
      have hlt' : ¬ (k : Int) < (k : Int) := by omega
      have hb := HB0.out (fun x hx => by
        obtain ⟨j, hj, rfl⟩ := List.getElem_of_mem hx; exact HZ.out j hj (by rw [HN.out] at hj; exact hj))
      have hp := HPS.out; rw [if_pos hb] at hp; have ht : X.take k = X := List.take_of_length_le (by rw [HN.out]; exact Nat.le_refl _); rw [ht] at hI; subst hb; clear HPS
      go_wp2_with fail
      refine (Tryz.Builder_String_any_k B0 B0 _ _ hI (by omega)).mono ?_; rintro e w6 ⟨rfl, h6, b6, k6⟩; have hbz := hbl.trans (Below.mono b6 (by omega)); go_wp2; refine bodyPost_ret (v := .tuple #[.string ⟨(textF X).toArray⟩, .int .i64 0]) (by simp [results, Tryz.results15, go_sem]) rfl ⟨by rw [hp], hbz⟩
end Go.Proofs.YtkfgbjjelcigcaaGreatDoor
