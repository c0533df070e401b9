/-
  text.word. append of a literal: where it lies, and where the new row lies.
-/
import Derived.Test.YtkfgbjjelcigcaaGreatDoorPk6
import Derived.Test.YtkfgbjjelcigcaaGreatDoorPk1
import Derived.Maps.AppendAt
/- text.word. -/
set_option linter.unusedVariables false
set_option linter.unusedSimpArgs false
set_option maxRecDepth 100000
namespace Go.Proofs.YtkfgbjjelcigcaaGreatDoor
open Go.RowKit

set_option maxHeartbeats 6400000 in
theorem word_any (t : ByteArray) (hs : t.size ≤ 100000) (w : World) :
    Calls Tryz.prog 71 #[.string t] w fun e w' => e = .returned (.tuple #[.agg #[.string ⟨(wordF t).1.toArray⟩, .bool (wordF t).2.1], .int .i64 (wordF t).2.2.1, .int .i64 (wordF t).2.2.2]) ∧ Below w.heap.size w w' := by
  have hF := Lib.hid (wordF.eq_1 t); obtain ⟨R, hR⟩ : ∃ R, wordF t = R := ⟨_, rfl⟩; rw [hR] at hF ⊢; clear hR; obtain ⟨R1, R2, R3, R4⟩ := R; dsimp only; have HIX := Lib.hid (fun w => Tryz.strings_IndexByte t 32 w); have HPX := Lib.hid (fun w => Tryz.strings_HasPrefix t ⟨#[34]⟩ w); have hp34 : Lib.hasPrefix t.data.toList (⟨#[34]⟩ : ByteArray).data.toList = decide (0 < t.size ∧ byt t 0 = 34) := pre_34 t; rw [hp34] at HPX; clear hp34; have hend := endF_spec t; obtain ⟨I, hI⟩ : ∃ I : Int, Lib.indexByte t.data.toList (32 : Int).toNat.toUInt8 = I := ⟨_, rfl⟩; have hE : Hid (endF t = if I < 0 then t.size else I.toNat) := Lib.hid (by rw [← hI]; rfl); rw [hI] at HIX; clear hI; have hbA := Below.new w (.cells #[.string ⟨#[]⟩, .bool false] 126); have hF0 := Blk.lit w w.heap.size [.string ⟨#[]⟩, .bool false] 126 rfl
  go_enter Tryz.func71, Tryz.ntmps71
  go_wp2_with fail
  refine (HIX.out _).mono ?_; rintro e w1 ⟨rfl, rfl⟩; clear HIX; generalize w.alloc (.cells #[.string ⟨#[]⟩, .bool false] 126) = w1 at *
  by_cases hi : I < 0
  · have hE2 := hE.out; rw [if_pos hi] at hE2; rw [hE2] at hend hF; clear hE2
    by_cases hq : 0 < t.size ∧ byt t 0 = 34
    · have hR := hF.out; rw [if_pos hq] at hR; have HP2 : Hid (∀ w, Calls Tryz.prog 75 #[.string t, .string ⟨#[34]⟩] w fun e w' => e = .returned (.bool true) ∧ w' = w) := Lib.hid (fun w => by
        have := HPX.out w; rw [decide_eq_true hq] at this; exact this)
      have huq := unq_any t hs; have hle := unquoteF_le t; generalize unquoteF t = U at *; obtain ⟨U1, U2, U3⟩ := U; dsimp only at hR huq hle; have HUQ := Lib.hid huq; clear hF; have hF := Lib.hid hR; have HLE := Lib.hid hle; clear hR huq hle HPX hend hE
      go_wp2_with fail
      refine (HP2.out _).mono ?_; rintro e w2 ⟨rfl, rfl⟩
      go_wp2_with fail
      refine (HUQ.out _).mono ?_; rintro e w3 ⟨rfl, hb3⟩; have hbC := hbA.trans (hb3.mono hbA.size); have k0 := hF0.keep hb3; have c0 := k0.cell 0 rfl; have c1 := k0.cell 1 rfl; have f0 := k0.free 0; have f1 := k0.free 1; have hlt0 := k0.lt; clear HP2 HUQ
      by_cases u3 : U3 = 0
      · subst u3; have hR := hF.out; rw [if_neg (show ¬ ((0 : Nat) ≠ 0) by decide)] at hR; have hU := HLE.out rfl
        by_cases u2 : U2 < t.size
        · have hg := byt_get u2; have u2i : (U2 : Int) < (t.size : Int) := by omega
          by_cases u4 : byt t U2 = 32
          · rw [if_neg (show ¬ (U2 < t.size ∧ byt t U2 ≠ 32) from fun h => h.2 u4)] at hR
            cases hR
            rw [u4] at hg; clear hF HLE; go_wp2; have k1 := ((k0.set 0 (.string ⟨R1.toArray⟩)).set 1 (.bool true) : Blk _ _ [.string ⟨R1.toArray⟩, .bool true]); have q0 := k1.cell 0 rfl; have q1 := k1.cell 1 rfl; refine bodyPost_ret (v := .tuple #[.agg #[.string ⟨R1.toArray⟩, .bool true], .int .i64 (R3 : Int), .int .i64 0]) (by simp [results, Tryz.results71, go_sem, q0, q1]) rfl ⟨rfl, ((hbC.set_at (b := w.heap.size) (o := 0) (Nat.le_refl _) _).set_at (b := w.heap.size) (o := 1) (Nat.le_refl _) _)⟩
          · rw [if_pos (show U2 < t.size ∧ byt t U2 ≠ 32 from ⟨u2, u4⟩)] at hR
            cases hR
            have hbl := byt_lt t U2; generalize byt t U2 = c at *; have u5 : ((c : Int) != 32) = true := bne_iff_ne.2 (by omega); clear hF HLE; go_wp2; have k1 := ((k0.set 0 (.string ⟨#[]⟩)).set 1 (.bool false) : Blk _ _ [.string ⟨#[]⟩, .bool false]); have q0 := k1.cell 0 rfl; have q1 := k1.cell 1 rfl; refine bodyPost_ret (v := .tuple #[.agg #[.string ⟨#[]⟩, .bool false], .int .i64 0, .int .i64 3]) (by simp [results, Tryz.results71, go_sem, q0, q1]) rfl ⟨rfl, ((hbC.set_at (b := w.heap.size) (o := 0) (Nat.le_refl _) _).set_at (b := w.heap.size) (o := 1) (Nat.le_refl _) _)⟩
        · have u2i : ¬ (U2 : Int) < (t.size : Int) := by omega
          rw [if_neg (show ¬ (U2 < t.size ∧ byt t U2 ≠ 32) from fun h => u2 h.1)] at hR
          cases hR
          clear hF HLE; go_wp2; have k1 := ((k0.set 0 (.string ⟨R1.toArray⟩)).set 1 (.bool true) : Blk _ _ [.string ⟨R1.toArray⟩, .bool true]); have q0 := k1.cell 0 rfl; have q1 := k1.cell 1 rfl; refine bodyPost_ret (v := .tuple #[.agg #[.string ⟨R1.toArray⟩, .bool true], .int .i64 (R3 : Int), .int .i64 0]) (by simp [results, Tryz.results71, go_sem, q0, q1]) rfl ⟨rfl, ((hbC.set_at (b := w.heap.size) (o := 0) (Nat.le_refl _) _).set_at (b := w.heap.size) (o := 1) (Nat.le_refl _) _)⟩
      · have hR := hF.out; rw [if_pos (show U3 ≠ 0 from u3)] at hR
        cases hR
        have u4 : ((R4 : Int) == 0) = false := by rw [beq_eq_false_iff_ne]; omega
        have u5 : ((R4 : Int) != 0) = true := bne_iff_ne.2 (by omega); clear hF HLE; go_wp2; have k1 := ((k0.set 0 (.string ⟨#[]⟩)).set 1 (.bool false) : Blk _ _ [.string ⟨#[]⟩, .bool false]); have q0 := k1.cell 0 rfl; have q1 := k1.cell 1 rfl; refine bodyPost_ret (v := .tuple #[.agg #[.string ⟨#[]⟩, .bool false], .int .i64 0, .int .i64 (R4 : Int)]) (by simp [results, Tryz.results71, go_sem, q0, q1]) rfl ⟨rfl, ((hbC.set_at (b := w.heap.size) (o := 0) (Nat.le_refl _) _).set_at (b := w.heap.size) (o := 1) (Nat.le_refl _) _)⟩
    · have hR := hF.out; rw [if_neg hq] at hR; have HP2 : Hid (∀ w, Calls Tryz.prog 75 #[.string t, .string ⟨#[34]⟩] w fun e w' => e = .returned (.bool false) ∧ w' = w) := Lib.hid (fun w => by
        have := HPX.out w; rw [decide_eq_false hq] at this; exact this)
      clear HPX; have hszE := pre_size t t.size hend.1; have h34 := Lib.hid (fun w => Tryz.strings_Contains_one (t.extract 0 t.size) 34 w); rw [has34_eq t t.size hend.1] at h34; have HRI := Lib.hid (right_any (t.extract 0 t.size) (by rw [hszE]; have := hend.1; unfold maxLen; omega)); have hen := hend.1; clear hF; have hF := Lib.hid hR; clear hR hE hend; obtain ⟨S, hS⟩ : ∃ S, t.extract 0 t.size = S := ⟨_, rfl⟩; rw [hS] at hszE h34 HRI hF; obtain ⟨H, hH⟩ : ∃ H, has34 t t.size = H := ⟨_, rfl⟩; rw [hH] at h34 hF; obtain ⟨T, hT⟩ : ∃ T, rightF S = T := ⟨_, rfl⟩; rw [hT] at HRI hF; have hei : (t.size : Int) ≤ (t.size : Int) := by omega
      go_wp2_with fail
      refine (HP2.out _).mono ?_; rintro e w2 ⟨rfl, rfl⟩; clear HP2 hH hT
      by_cases e0 : t.size = 0
      · have hR := hF.out; rw [if_pos (show t.size = 0 ∨ H = true from .inl e0)] at hR
        cases hR
        have hte : S.toList.isEmpty = true := by rw [empty_dec, hszE]; simp [e0]
        have hbC := hbA; have k0 := hF0; have c0 := k0.cell 0 rfl; have c1 := k0.cell 1 rfl; have f0 := k0.free 0; have f1 := k0.free 1; have hlt0 := k0.lt; clear hF h34 HRI; go_wp2; have k1 := ((k0.set 0 (.string ⟨#[]⟩)).set 1 (.bool false) : Blk _ _ [.string ⟨#[]⟩, .bool false]); have q0 := k1.cell 0 rfl; have q1 := k1.cell 1 rfl; refine bodyPost_ret (v := .tuple #[.agg #[.string ⟨#[]⟩, .bool false], .int .i64 0, .int .i64 3]) (by simp [results, Tryz.results71, go_sem, q0, q1]) rfl ⟨rfl, ((hbC.set_at (b := w.heap.size) (o := 0) (Nat.le_refl _) _).set_at (b := w.heap.size) (o := 1) (Nat.le_refl _) _)⟩
      · have hte : S.toList.isEmpty = false := by rw [empty_dec, hszE]; simp [e0]
        cases H with
        | true =>
          have hR := hF.out; rw [if_pos (show t.size = 0 ∨ true = true from .inr rfl)] at hR
          cases hR
          have hbC := hbA; have k0 := hF0; have c0 := k0.cell 0 rfl; have c1 := k0.cell 1 rfl; have f0 := k0.free 0; have f1 := k0.free 1; have hlt0 := k0.lt; clear hF HRI
          go_wp2_with fail
          refine (h34.out _).mono ?_; rintro e w3 ⟨rfl, rfl⟩; go_wp2; have k1 := ((k0.set 0 (.string ⟨#[]⟩)).set 1 (.bool false) : Blk _ _ [.string ⟨#[]⟩, .bool false]); have q0 := k1.cell 0 rfl; have q1 := k1.cell 1 rfl; refine bodyPost_ret (v := .tuple #[.agg #[.string ⟨#[]⟩, .bool false], .int .i64 0, .int .i64 3]) (by simp [results, Tryz.results71, go_sem, q0, q1]) rfl ⟨rfl, ((hbC.set_at (b := w.heap.size) (o := 0) (Nat.le_refl _) _).set_at (b := w.heap.size) (o := 1) (Nat.le_refl _) _)⟩
        | false =>
          have hR := hF.out; rw [if_neg (show ¬ (t.size = 0 ∨ false = true) by simp [e0])] at hR; clear hF; have hF := Lib.hid hR; clear hR
          go_wp2_with fail
          refine (h34.out _).mono ?_; rintro e w3 ⟨rfl, rfl⟩
          go_wp2_with fail
          refine (HRI.out _).mono ?_; rintro e w3 ⟨rfl, hb3⟩; have hbC := hbA.trans (hb3.mono hbA.size); have k0 := hF0.keep hb3; have c0 := k0.cell 0 rfl; have c1 := k0.cell 1 rfl; have f0 := k0.free 0; have f1 := k0.free 1; have hlt0 := k0.lt; clear h34 HRI
          cases T with
          | true =>
            have hR := hF.out; rw [if_neg (show ¬ (true = false) by decide)] at hR
            cases hR
            clear hF; go_wp2; have k1 := ((k0.set 0 (.string S)).set 1 (.bool false) : Blk _ _ [.string S, .bool false]); have q0 := k1.cell 0 rfl; have q1 := k1.cell 1 rfl; refine bodyPost_ret (v := .tuple #[.agg #[.string S, .bool false], .int .i64 (t.size : Int), .int .i64 0]) (by simp [results, Tryz.results71, go_sem, q0, q1]) rfl ⟨by simp, ((hbC.set_at (b := w.heap.size) (o := 0) (Nat.le_refl _) _).set_at (b := w.heap.size) (o := 1) (Nat.le_refl _) _)⟩
          | false =>
            have hR := hF.out; rw [if_pos (show false = false from rfl)] at hR
            cases hR
            clear hF; go_wp2; have k1 := ((k0.set 0 (.string ⟨#[]⟩)).set 1 (.bool false) : Blk _ _ [.string ⟨#[]⟩, .bool false]); have q0 := k1.cell 0 rfl; have q1 := k1.cell 1 rfl; refine bodyPost_ret (v := .tuple #[.agg #[.string ⟨#[]⟩, .bool false], .int .i64 0, .int .i64 13]) (by simp [results, Tryz.results71, go_sem, q0, q1]) rfl ⟨rfl, ((hbC.set_at (b := w.heap.size) (o := 0) (Nat.le_refl _) _).set_at (b := w.heap.size) (o := 1) (Nat.le_refl _) _)⟩
  · have hE2 := hE.out; rw [if_neg hi] at hE2; obtain ⟨n, rfl⟩ : ∃ n : Nat, I = n := ⟨I.toNat, by omega⟩; rw [Int.toNat_natCast] at hE2; rw [hE2] at hend hF; clear hE2 hi
    by_cases hq : 0 < t.size ∧ byt t 0 = 34
    · have hR := hF.out; rw [if_pos hq] at hR; have HP2 : Hid (∀ w, Calls Tryz.prog 75 #[.string t, .string ⟨#[34]⟩] w fun e w' => e = .returned (.bool true) ∧ w' = w) := Lib.hid (fun w => by
        have := HPX.out w; rw [decide_eq_true hq] at this; exact this)
      have huq := unq_any t hs; have hle := unquoteF_le t; generalize unquoteF t = U at *; obtain ⟨U1, U2, U3⟩ := U; dsimp only at hR huq hle; have HUQ := Lib.hid huq; clear hF; have hF := Lib.hid hR; have HLE := Lib.hid hle; clear hR huq hle HPX hend hE
      go_wp2_with fail
      refine (HP2.out _).mono ?_; rintro e w2 ⟨rfl, rfl⟩
      go_wp2_with fail
      refine (HUQ.out _).mono ?_; rintro e w3 ⟨rfl, hb3⟩; have hbC := hbA.trans (hb3.mono hbA.size); have k0 := hF0.keep hb3; have c0 := k0.cell 0 rfl; have c1 := k0.cell 1 rfl; have f0 := k0.free 0; have f1 := k0.free 1; have hlt0 := k0.lt; clear HP2 HUQ
      by_cases u3 : U3 = 0
      · subst u3; have hR := hF.out; rw [if_neg (show ¬ ((0 : Nat) ≠ 0) by decide)] at hR; have hU := HLE.out rfl
        by_cases u2 : U2 < t.size
        · have hg := byt_get u2; have u2i : (U2 : Int) < (t.size : Int) := by omega
          by_cases u4 : byt t U2 = 32
          · rw [if_neg (show ¬ (U2 < t.size ∧ byt t U2 ≠ 32) from fun h => h.2 u4)] at hR
            cases hR
            rw [u4] at hg; clear hF HLE; go_wp2; have k1 := ((k0.set 0 (.string ⟨R1.toArray⟩)).set 1 (.bool true) : Blk _ _ [.string ⟨R1.toArray⟩, .bool true]); have q0 := k1.cell 0 rfl; have q1 := k1.cell 1 rfl; refine bodyPost_ret (v := .tuple #[.agg #[.string ⟨R1.toArray⟩, .bool true], .int .i64 (R3 : Int), .int .i64 0]) (by simp [results, Tryz.results71, go_sem, q0, q1]) rfl ⟨rfl, ((hbC.set_at (b := w.heap.size) (o := 0) (Nat.le_refl _) _).set_at (b := w.heap.size) (o := 1) (Nat.le_refl _) _)⟩
          · rw [if_pos (show U2 < t.size ∧ byt t U2 ≠ 32 from ⟨u2, u4⟩)] at hR
            cases hR
            have hbl := byt_lt t U2; generalize byt t U2 = c at *; have u5 : ((c : Int) != 32) = true := bne_iff_ne.2 (by omega); clear hF HLE; go_wp2; have k1 := ((k0.set 0 (.string ⟨#[]⟩)).set 1 (.bool false) : Blk _ _ [.string ⟨#[]⟩, .bool false]); have q0 := k1.cell 0 rfl; have q1 := k1.cell 1 rfl; refine bodyPost_ret (v := .tuple #[.agg #[.string ⟨#[]⟩, .bool false], .int .i64 0, .int .i64 3]) (by simp [results, Tryz.results71, go_sem, q0, q1]) rfl ⟨rfl, ((hbC.set_at (b := w.heap.size) (o := 0) (Nat.le_refl _) _).set_at (b := w.heap.size) (o := 1) (Nat.le_refl _) _)⟩
        · have u2i : ¬ (U2 : Int) < (t.size : Int) := by omega
          rw [if_neg (show ¬ (U2 < t.size ∧ byt t U2 ≠ 32) from fun h => u2 h.1)] at hR
          cases hR
          clear hF HLE; go_wp2; have k1 := ((k0.set 0 (.string ⟨R1.toArray⟩)).set 1 (.bool true) : Blk _ _ [.string ⟨R1.toArray⟩, .bool true]); have q0 := k1.cell 0 rfl; have q1 := k1.cell 1 rfl; refine bodyPost_ret (v := .tuple #[.agg #[.string ⟨R1.toArray⟩, .bool true], .int .i64 (R3 : Int), .int .i64 0]) (by simp [results, Tryz.results71, go_sem, q0, q1]) rfl ⟨rfl, ((hbC.set_at (b := w.heap.size) (o := 0) (Nat.le_refl _) _).set_at (b := w.heap.size) (o := 1) (Nat.le_refl _) _)⟩
      · have hR := hF.out; rw [if_pos (show U3 ≠ 0 from u3)] at hR
        cases hR
        have u4 : ((R4 : Int) == 0) = false := by rw [beq_eq_false_iff_ne]; omega
        have u5 : ((R4 : Int) != 0) = true := bne_iff_ne.2 (by omega); clear hF HLE; go_wp2; have k1 := ((k0.set 0 (.string ⟨#[]⟩)).set 1 (.bool false) : Blk _ _ [.string ⟨#[]⟩, .bool false]); have q0 := k1.cell 0 rfl; have q1 := k1.cell 1 rfl; refine bodyPost_ret (v := .tuple #[.agg #[.string ⟨#[]⟩, .bool false], .int .i64 0, .int .i64 (R4 : Int)]) (by simp [results, Tryz.results71, go_sem, q0, q1]) rfl ⟨rfl, ((hbC.set_at (b := w.heap.size) (o := 0) (Nat.le_refl _) _).set_at (b := w.heap.size) (o := 1) (Nat.le_refl _) _)⟩
    · have hR := hF.out; rw [if_neg hq] at hR; have HP2 : Hid (∀ w, Calls Tryz.prog 75 #[.string t, .string ⟨#[34]⟩] w fun e w' => e = .returned (.bool false) ∧ w' = w) := Lib.hid (fun w => by
        have := HPX.out w; rw [decide_eq_false hq] at this; exact this)
      clear HPX; have hszE := pre_size t n hend.1; have h34 := Lib.hid (fun w => Tryz.strings_Contains_one (t.extract 0 n) 34 w); rw [has34_eq t n hend.1] at h34; have HRI := Lib.hid (right_any (t.extract 0 n) (by rw [hszE]; have := hend.1; unfold maxLen; omega)); have hen := hend.1; clear hF; have hF := Lib.hid hR; clear hR hE hend; obtain ⟨S, hS⟩ : ∃ S, t.extract 0 n = S := ⟨_, rfl⟩; rw [hS] at hszE h34 HRI hF; obtain ⟨H, hH⟩ : ∃ H, has34 t n = H := ⟨_, rfl⟩; rw [hH] at h34 hF; obtain ⟨T, hT⟩ : ∃ T, rightF S = T := ⟨_, rfl⟩; rw [hT] at HRI hF; have hei : (n : Int) ≤ (t.size : Int) := by omega
      go_wp2_with fail
      refine (HP2.out _).mono ?_; rintro e w2 ⟨rfl, rfl⟩; clear HP2 hH hT
      by_cases e0 : n = 0
      · have hR := hF.out; rw [if_pos (show n = 0 ∨ H = true from .inl e0)] at hR
        cases hR
        have hte : S.toList.isEmpty = true := by rw [empty_dec, hszE]; simp [e0]
        have hbC := hbA; have k0 := hF0; have c0 := k0.cell 0 rfl; have c1 := k0.cell 1 rfl; have f0 := k0.free 0; have f1 := k0.free 1; have hlt0 := k0.lt; clear hF h34 HRI; go_wp2; have k1 := ((k0.set 0 (.string ⟨#[]⟩)).set 1 (.bool false) : Blk _ _ [.string ⟨#[]⟩, .bool false]); have q0 := k1.cell 0 rfl; have q1 := k1.cell 1 rfl; refine bodyPost_ret (v := .tuple #[.agg #[.string ⟨#[]⟩, .bool false], .int .i64 0, .int .i64 3]) (by simp [results, Tryz.results71, go_sem, q0, q1]) rfl ⟨rfl, ((hbC.set_at (b := w.heap.size) (o := 0) (Nat.le_refl _) _).set_at (b := w.heap.size) (o := 1) (Nat.le_refl _) _)⟩
      · have hte : S.toList.isEmpty = false := by rw [empty_dec, hszE]; simp [e0]
        cases H with
        | true =>
          have hR := hF.out; rw [if_pos (show n = 0 ∨ true = true from .inr rfl)] at hR
          cases hR
          have hbC := hbA; have k0 := hF0; have c0 := k0.cell 0 rfl; have c1 := k0.cell 1 rfl; have f0 := k0.free 0; have f1 := k0.free 1; have hlt0 := k0.lt; clear hF HRI
          go_wp2_with fail
          refine (h34.out _).mono ?_; rintro e w3 ⟨rfl, rfl⟩; go_wp2; have k1 := ((k0.set 0 (.string ⟨#[]⟩)).set 1 (.bool false) : Blk _ _ [.string ⟨#[]⟩, .bool false]); have q0 := k1.cell 0 rfl; have q1 := k1.cell 1 rfl; refine bodyPost_ret (v := .tuple #[.agg #[.string ⟨#[]⟩, .bool false], .int .i64 0, .int .i64 3]) (by simp [results, Tryz.results71, go_sem, q0, q1]) rfl ⟨rfl, ((hbC.set_at (b := w.heap.size) (o := 0) (Nat.le_refl _) _).set_at (b := w.heap.size) (o := 1) (Nat.le_refl _) _)⟩
        | false =>
          have hR := hF.out; rw [if_neg (show ¬ (n = 0 ∨ false = true) by simp [e0])] at hR; clear hF; have hF := Lib.hid hR; clear hR
          go_wp2_with fail
          refine (h34.out _).mono ?_; rintro e w3 ⟨rfl, rfl⟩
          go_wp2_with fail
          refine (HRI.out _).mono ?_; rintro e w3 ⟨rfl, hb3⟩; have hbC := hbA.trans (hb3.mono hbA.size); have k0 := hF0.keep hb3; have c0 := k0.cell 0 rfl; have c1 := k0.cell 1 rfl; have f0 := k0.free 0; have f1 := k0.free 1; have hlt0 := k0.lt; clear h34 HRI
          cases T with
          | true =>
            have hR := hF.out; rw [if_neg (show ¬ (true = false) by decide)] at hR
            cases hR
            clear hF; go_wp2; have k1 := ((k0.set 0 (.string S)).set 1 (.bool false) : Blk _ _ [.string S, .bool false]); have q0 := k1.cell 0 rfl; have q1 := k1.cell 1 rfl; refine bodyPost_ret (v := .tuple #[.agg #[.string S, .bool false], .int .i64 (R3 : Int), .int .i64 0]) (by simp [results, Tryz.results71, go_sem, q0, q1]) rfl ⟨by simp, ((hbC.set_at (b := w.heap.size) (o := 0) (Nat.le_refl _) _).set_at (b := w.heap.size) (o := 1) (Nat.le_refl _) _)⟩
          | false =>
            have hR := hF.out; rw [if_pos (show false = false from rfl)] at hR
            cases hR
            clear hF; go_wp2; have k1 := ((k0.set 0 (.string ⟨#[]⟩)).set 1 (.bool false) : Blk _ _ [.string ⟨#[]⟩, .bool false]); have q0 := k1.cell 0 rfl; have q1 := k1.cell 1 rfl; refine bodyPost_ret (v := .tuple #[.agg #[.string ⟨#[]⟩, .bool false], .int .i64 0, .int .i64 13]) (by simp [results, Tryz.results71, go_sem, q0, q1]) rfl ⟨rfl, ((hbC.set_at (b := w.heap.size) (o := 0) (Nat.le_refl _) _).set_at (b := w.heap.size) (o := 1) (Nat.le_refl _) _)⟩
end Go.Proofs.YtkfgbjjelcigcaaGreatDoor
/- append of a literal: where it lies, and where the new row lies. -/
set_option linter.unusedVariables false
set_option linter.unusedSimpArgs false
namespace Go
open Go.RowKit
theorem wpList_appLitAt {P : Program} {w : World} {ops : Array Oper} {rest : List Oper} {o : Oper} {a : Act} {Q : Exit → Act → World → Prop} (w0 : World) (hb : Below w0.heap.size w0 w) (hgd : o.guard = none) (s x : Operand) (t : TypeId)
    (ho : o.op = .call { callee := .builtin .append, args := #[s, x], argTypes := #[t, t] })
    (e : TypeId) (z : Value) (size bytes : Nat) (ht : P.underlying t = some (.slice e)) (hinfo : (P.info? e).map (fun i => (i.zero, i.size, i.bytes)) = some (some z, size, bytes))
    (hzs : z.cells.size = size) (hsz : 0 < size) (hb1 : 0 < bytes)
    (v : Value) (n : Nat) (xs : List Value) (hs : a.eval s = v) (hown : w.ownsRow w0.heap.size e size v n xs)
    (m c B : Nat) (hB : w.heap.size = B) (vs : List Value) (te : TypeId) (hx : a.eval x = .slice (some ⟨B, 0, none⟩) m c) (hl : vs.length = m * size) (h1 : ∀ u ∈ vs, u.oneCell' = true)
    (hbytes : (n + m) * bytes ≤ 140737488355328)
    (h : ∀ v' w', w'.ownsRow w0.heap.size e size v' (n + m) (xs ++ vs) → w.grownBy w' v.ownBlock → Below w0.heap.size w0 w' → (v'.ownBlock = v.ownBlock ∨ v'.ownBlock = some (B + 1)) → wpList P ops Q rest (a.put o.dst v') w') :
    wpList P ops Q (o :: rest) a (w.alloc (.cells vs.toArray te)) := by
  subst hB; obtain ⟨i, hi, hz, hsize, hby⟩ := info_parts hinfo; have h63 : n + m ≤ maxLen := by
    have : (n + m) * 1 ≤ (n + m) * bytes := Nat.mul_le_mul_left _ hb1; unfold maxLen; omega
  have hw1 : w.grownBy (w.alloc (.cells vs.toArray te)) v.ownBlock := World.grownBy_alloc w _ _; refine wpList_append_own_at (w.alloc (.cells vs.toArray te)) hgd s x t ho w0.heap.size e i z size bytes ht hi hz hsize hby hzs hsz v n xs hs (hown.below (Below.new _ _)) ⟨w.heap.size, 0, none⟩ m c vs hx hl ?_ h1 h63 hbytes (by have := hb.size; simp; omega) ?_
  · exact (Rd.new w vs te).add
  · intro v' w' h2 h3 _ h5; have h4 := hw1.trans h3; exact h v' w' h2 h4 (hb.grown h4 hb.size (fun k hk => (hown.lt k hk).1)) (by simpa using h5)
end Go
