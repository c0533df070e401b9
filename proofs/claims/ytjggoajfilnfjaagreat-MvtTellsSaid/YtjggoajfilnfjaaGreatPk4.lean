/-
  proto.Read.
-/
import Derived.Test.YtjggoajfilnfjaaGreatPk2
import Derived.Test.YtjggoajfilnfjaaGreatPk3
import Derived.BigRegion
import Derived.RegionTactic
set_option linter.unusedVariables false
set_option linter.unusedSimpArgs false
set_option maxRecDepth 100000
namespace Go.Proofs.YtjggoajfilnfjaaGreat
open Go.RowKit Go.Vint Go.Proto

def Typed (T : TypeId) (w : World) (b : Nat) : Prop := ∃ cs fr, w.heap[b]? = some (.cells cs T fr)
theorem Typed.set_at {T : TypeId} {w : World} {b : Nat} (h : Typed T w b) {b' o : Nat} (hp : b ≠ b') (u : Value) : Typed T (w.setCell ⟨b', o, none⟩ u) b := by
 obtain ⟨cs, fr, h⟩ := h; exact ⟨cs, fr, (Below.heap_setCell _ ⟨b', o, none⟩ _ _ hp).trans h⟩

def IsFldRes (r : Fld × Int × Int) (e : Ending) (w' : World) : Prop :=
 ∃ a c, e = .returned (.tuple #[.agg #[.int .i64 r.1.num, .int .i64 r.1.kind, .int .u64 r.1.n, .slice a r.1.bs.length c], .int .i64 r.2.1, .int .i64 r.2.2]) ∧
  Rd w' a (r.1.bs.map (Value.int .u8)) ∧ r.1.bs.length ≤ c ∧ c ≤ maxLen ∧ (a = none → c = 0) ∧ (∀ b, a.map (·.block) = some b → Typed 5 w' b)

set_option maxHeartbeats 4000000 in
theorem pread_any (a : Option Addr) (c : Nat) (L : List Int) (hb : ∀ x ∈ L, 0 ≤ x ∧ x ≤ 255) (hlen : L.length ≤ 1073741824) (hlc : L.length ≤ c) (hcm : c ≤ maxLen) (w : World) (hr : Rd w a (L.map (Value.int .u8))) :
  Calls Tryz.prog 87 #[.slice a L.length c] w fun e w' => IsFldRes (prd L) e w' ∧ Below w.heap.size w w' := by
 have hv := fun W h => vread_any a c L hb (by omega) W h; obtain ⟨key, pk, re, hrd⟩ : ∃ key pk re, rd L = (key, pk, re) := ⟨_, _, _, rfl⟩; have HV := Lib.hid hv; have HRD := Lib.hid hrd; clear hv hrd
 go_enter Tryz.func87, Tryz.ntmps87
 go_wp2; refine wp_goto_fwd 0 rfl ?_; intro J HJ
 go_wp2_with fail
 refine (HV.out _ ((hr.alloc _).alloc _)).mono ?_; rintro e w1 ⟨he, rfl⟩; rw [HRD.out] at he; simp only [Rd3] at he; subst he; clear HV
 by_cases h0 : re = 0
 ·have hkb := rd_bd L hb (by rw [HRD.out]; exact h0); obtain ⟨k, hk, hrk, -⟩ := rd_ok L (by rw [HRD.out]; exact h0); rw [HRD.out] at hkb hrk; simp only [Prod.mk.injEq] at hkb hrk; obtain ⟨-, rfl, -⟩ := hrk; have hand : bits BinOp.and IntKind.u64 key 7 = key % 8 := u64_and7 key hkb.1 (by omega); have hb0 : (re != 0) = false := by simp [h0]
  have HB : Hid (¬ (key / 8 < 1 ∨ 536870911 < key / 8) → prd L = body L key (k + 1)) := by
   intro h; unfold prd; rw [HRD.out, if_pos h0, if_neg h]; have : ((k : Int) + 1).toNat = k + 1 := by omega
   rw [this]
  have HX : Hid ((key / 8 < 1 ∨ 536870911 < key / 8) → prd L = (Fld.zero, 0, 5)) := by
   intro h; unfold prd; rw [HRD.out, if_pos h0, if_pos h]
  clear h0 HRD; obtain ⟨b0, off0, rfl, -, -⟩ := hr.at (i := k) (v := .int .u8 L[k]) (by simp [hk]); obtain ⟨D, hD⟩ : ∃ D, D = L.drop (k + 1) := ⟨_, rfl⟩; have hDl : D.length = L.length - (k + 1) := by rw [hD]; simp
  have hDb : ∀ x ∈ D, 0 ≤ x ∧ x ≤ 255 := by rw [hD]; exact fun x hx => hb x (List.mem_of_mem_drop hx)
  have hDr : ∀ W, Rd W (some ⟨b0, off0, none⟩) (L.map (Value.int .u8)) → Rd W (some ⟨b0, off0 + (k + 1), none⟩) (D.map (Value.int .u8)) := by
   intro W h; rw [hD, List.map_drop]; exact h.drop (k + 1)
  have hDz : c = k + 1 → D = [] := by intro h; exact List.length_eq_zero_iff.1 (by omega)
  have hv2 : ∀ (a' : Option Addr) W, Rd W a' (D.map (Value.int .u8)) → Calls Tryz.prog 106 #[.slice a' (L.length - (k + 1)) (c - (k + 1))] W fun e w' => e = Rd3 (rd D) ∧ W = w' := by
   intro a' W h; have := vread_any a' (c - (k + 1)) D hDb (by omega) W h; rw [hDl] at this; exact this
  have HV2 := Lib.hid hv2; have HDR := Lib.hid hDr; have HDZ := Lib.hid hDz; have HD := Lib.hid hD; have HDL := Lib.hid hDl; clear hv2 hDr hDz hD hDl
  by_cases h1 : key / 8 < 1
  ·have HP := Lib.hid (HX.out (.inl h1)); clear HB HX; go_wp2
   go_step3
   show (0 : Nat) = 0 ∧ J _ _; refine ⟨by decide, HJ.out _ _ ?_⟩; clear HJ; go_wp2; rw [Exit.jump_ret]; refine bodyPost_ret (v := .tuple #[.agg #[.int .i64 0, .int .i64 0, .int .u64 0, .slice none 0 0], .int .i64 0, .int .i64 5]) (by simp [results, Tryz.results87, go_sem]) rfl ⟨?_, (Below.new w _).alloc (by simp) _⟩; rw [HP.out]; exact ⟨none, 0, rfl, .inl rfl, Nat.le_refl _, by decide, fun _ => rfl, fun _ h => by cases h⟩
  ·by_cases h2 : 536870911 < key / 8
   ·have HP := Lib.hid (HX.out (.inr h2)); clear HB HX; go_wp2
    go_step3
    show (0 : Nat) = 0 ∧ J _ _; refine ⟨by decide, HJ.out _ _ ?_⟩; clear HJ; go_wp2; rw [Exit.jump_ret]; refine bodyPost_ret (v := .tuple #[.agg #[.int .i64 0, .int .i64 0, .int .u64 0, .slice none 0 0], .int .i64 0, .int .i64 5]) (by simp [results, Tryz.results87, go_sem]) rfl ⟨?_, (Below.new w _).alloc (by simp) _⟩; rw [HP.out]; exact ⟨none, 0, rfl, .inl rfl, Nat.le_refl _, by decide, fun _ => rfl, fun _ h => by cases h⟩
   ·have HP := Lib.hid (HB.out (by omega)); clear HB HX
    by_cases k1 : key % 8 = 1
    ·have hb1 : (key % 8 == 1) = true := by simp [k1]
     have hb5 : (key % 8 == 5) = false := by simp [k1]
     have KK := Lib.hid k1; clear k1 HV2 HDR HDZ
     by_cases hn : (L.length : Int) - ((k : Int) + 1) < 8
     ·have HP : Hid (prd L = (Fld.zero, 0, 4)) := by
       show _ = _; rw [HP.out]; unfold body; rw [if_neg (by have := KK.out; omega), if_pos KK.out, if_pos (by omega)]
      clear HD HDL; go_wp2
      go_step3
      show (0 : Nat) = 0 ∧ J _ _; refine ⟨by decide, HJ.out _ _ ?_⟩; go_wp2; rw [Exit.jump_ret]; refine bodyPost_ret (v := .tuple #[.agg #[.int .i64 0, .int .i64 0, .int .u64 0, .slice none 0 0], .int .i64 0, .int .i64 4]) (by simp [results, Tryz.results87, go_sem]) rfl ⟨?_, (Below.new w _).alloc (by simp) _⟩; rw [HP.out]; exact ⟨none, 0, rfl, .inl rfl, Nat.le_refl _, by decide, fun _ => rfl, fun _ h => by cases h⟩
     ·have HP : Hid (prd L = (⟨key / 8, 1, le ((L.drop (k + 1)).take 8), []⟩, (k : Int) + 1 + 8, 0)) := by
       show _ = _; rw [HP.out]; unfold body; rw [if_neg (by have := KK.out; omega), if_pos KK.out, if_neg (by omega)]; simp
      obtain ⟨T, hT⟩ : ∃ T, T = (L.drop (k + 1)).take 8 := ⟨_, rfl⟩; rw [← hT] at HP; have hTl : T.length = 8 := by rw [hT]; simp; omega
      have hTb : ∀ x ∈ T, 0 ≤ x ∧ x ≤ 255 := by rw [hT]; exact fun x hx => hb x (List.mem_of_mem_drop (List.mem_of_mem_take hx))
      have hTg : ∀ j, j < 8 → T[j]? = L[k + 1 + j]? := by
       intro j hj; rw [hT, List.getElem?_take, if_pos (by omega), List.getElem?_drop]
      have HTL := Lib.hid hTl; have HTB := Lib.hid hTb; have HTG := Lib.hid hTg; clear hT hTl hTb hTg HD HDL; have hF := Blk.lit (w.alloc (.cells #[.int .i64 0, .int .i64 0, .int .u64 0, .slice none 0 0] 72)) (w.heap.size + 1) [.int .i64 (key / 8), .int .i64 (key % 8), .int .u64 0, .slice none 0 0] 72 (by simp); have hR := (Blk.lit w w.heap.size [.int .i64 0, .int .i64 0, .int .u64 0, .slice none 0 0] 72 rfl).alloc (.cells #[.int .i64 (key / 8), .int .i64 (key % 8), .int .u64 0, .slice none 0 0] 72); have hB : Below w.heap.size w ((w.alloc (.cells #[.int .i64 0, .int .i64 0, .int .u64 0, .slice none 0 0] 72)).alloc (.cells #[.int .i64 (key / 8), .int .i64 (key % 8), .int .u64 0, .slice none 0 0] 72)) := (Below.new w _).alloc (by simp) _; go_wp2
      go_loopw [11] (fun d wr => ∃ j : Nat, j ≤ 8 ∧ d = .int .i64 ((j : Int) - 1) ∧ Blk wr (w.heap.size + 1) [.int .i64 (key / 8), .int .i64 (key % 8), .int .u64 (le (T.drop j)), .slice none 0 0] ∧
       Blk wr w.heap.size [.int .i64 0, .int .i64 0, .int .u64 0, .slice none 0 0] ∧ Below w.heap.size w wr) (fun d _ => (intOf d + 1).toNat)
      case atStart =>
       have h0 : T.drop 8 = [] := List.drop_of_length_le (by rw [HTL.out]; exact Nat.le_refl _); exact ⟨8, Nat.le_refl _, by go_num, by rw [h0]; exact hF, hR, hB⟩
      case round =>
       obtain ⟨j, hj, rfl, hF1, hR1, htrue⟩ := hrel; clear hF hR hB
       by_cases hj0 : j ≤ 0
       ·obtain rfl : j = 0 := by omega
        rw [List.drop_zero] at hF1; have d0 := hF1.cell 0 rfl; have d1 := hF1.cell 1 rfl; have d2 := hF1.cell 2 rfl; have d3 := hF1.cell 3 rfl; have r0 := hR1.cell 0 rfl; have r1 := hR1.cell 1 rfl; have r2 := hR1.cell 2 rfl; have r3 := hR1.cell 3 rfl; have s0 := hR1.free 0; have s1 := hR1.free 1; have s2 := hR1.free 2; have s3 := hR1.free 3; go_wp2; rw [Exit.jump_ret]; clear d0 d1 d2 d3 r0 r1 r2 r3 s0 s1 s2 s3; have hR5 := (((hR1.set 0 (.int .i64 (key / 8))).set 1 (.int .i64 (key % 8))).set 2 (.int .u64 (le T))).set 3 (.slice none 0 0); have q0 := hR5.cell 0 rfl; have q1 := hR5.cell 1 rfl; have q2 := hR5.cell 2 rfl; have q3 := hR5.cell 3 rfl; have hB5 := (((htrue.set_at (b := w.heap.size) (o := 0) (Nat.le_refl _) (.int .i64 (key / 8))).set_at (b := w.heap.size) (o := 1) (Nat.le_refl _) (.int .i64 (key % 8))).set_at (b := w.heap.size) (o := 2) (Nat.le_refl _) (.int .u64 (le T))).set_at (b := w.heap.size) (o := 3) (Nat.le_refl _) (.slice none 0 0); clear hR5 hR1 hF1 htrue; generalize (((wr.setCell ⟨w.heap.size, 0, none⟩ (.int .i64 (key / 8))).setCell ⟨w.heap.size, 1, none⟩ (.int .i64 (key % 8))).setCell ⟨w.heap.size, 2, none⟩ (.int .u64 (le T))).setCell ⟨w.heap.size, 3, none⟩ (.slice none 0 0) = w5 at *; refine bodyPost_ret (v := .tuple #[.agg #[.int .i64 (key / 8), .int .i64 (key % 8), .int .u64 (le T), .slice none 0 0], .int .i64 ((k : Int) + 1 + 8), .int .i64 0]) (by simp [results, Tryz.results87, go_sem, q0, q1, q2, q3]) rfl ⟨?_, hB5⟩; rw [HP.out, KK.out]; exact ⟨none, 0, rfl, .inl rfl, Nat.le_refl _, by decide, fun _ => rfl, fun _ h => by cases h⟩
       ·obtain ⟨i, rfl⟩ : ∃ i, j = i + 1 := ⟨j - 1, by omega⟩; have hip : k + 1 + i < L.length := by omega
        have hLe := le_drop T i (by rw [HTL.out]; omega); have hTi : T[i]'(by rw [HTL.out]; omega) = L[k + 1 + i] := by
         have h1 := HTG.out i (by omega); rw [List.getElem?_eq_getElem (by rw [HTL.out]; omega), List.getElem?_eq_getElem hip] at h1; exact Option.some.inj h1
        have hbn := le_8 (T.drop (i + 1)) (fun x hx => HTB.out x (List.mem_of_mem_drop hx)) 7 (by rw [List.length_drop, HTL.out]; omega) (by omega); simp only [Int.reducePow] at hbn; rw [hTi] at hLe; obtain ⟨b1, off1, hao, hcell, _⟩ := (hr.keep htrue).at (i := k + 1 + i) (v := .int .u8 L[k + 1 + i]) (by simp [hip])
        cases hao
        have hx := hb L[k + 1 + i] (by simp); have HLE := Lib.hid hLe; clear hLe hTi; generalize le (T.drop (i + 1)) = nv at *; have hor : bits BinOp.or IntKind.u64 (nv * 256) L[k + 1 + i] = nv * 256 + L[k + 1 + i] := u64_or_hi 8 _ _ (by omega) (by omega) (by omega) (by omega) hx.1 (by omega); have d2 := hF1.cell 2 rfl; have f2 := hF1.free 2; have hi1 : ((i + 1 : Nat) : Int) - 1 = (i : Int) := by omega
        rw [hi1]; go_wp2
        go_region
        have hF2 := (hF1.set 2 (.int .u64 (nv * 256 + L[k + 1 + i]))).drew; have hR2 := (hR1.set_at (b' := w.heap.size + 1) (o := 2) (by omega) (.int .u64 (nv * 256 + L[k + 1 + i]))).drew; have hB2 := (htrue.set_at (b := w.heap.size + 1) (o := 2) (by omega) (.int .u64 (nv * 256 + L[k + 1 + i]))).drew; go_wp2; go_roundw
        case rel =>
         refine ⟨i, by omega, rfl, ?_, hR2, hB2⟩; rw [show le (T.drop i) = nv * 256 + L[k + 1 + i] by rw [HLE.out]; omega]; exact hF2
        case measure => simp [intOf] <;> omega
    ·by_cases k5 : key % 8 = 5
     ·have hb1 : (key % 8 == 1) = false := by simp [k5]
      have hb5 : (key % 8 == 5) = true := by simp [k5]
      have KK := Lib.hid k5; clear k5 k1 HV2 HDR HDZ
      by_cases hn : (L.length : Int) - ((k : Int) + 1) < 4
      ·have HP : Hid (prd L = (Fld.zero, 0, 4)) := by
        show _ = _; rw [HP.out]; unfold body; rw [if_neg (by have := KK.out; omega), if_neg (by have := KK.out; omega), if_pos KK.out, if_pos (by omega)]
       clear HD HDL; go_wp2
       go_step3
       show (0 : Nat) = 0 ∧ J _ _; refine ⟨by decide, HJ.out _ _ ?_⟩; go_wp2; rw [Exit.jump_ret]; refine bodyPost_ret (v := .tuple #[.agg #[.int .i64 0, .int .i64 0, .int .u64 0, .slice none 0 0], .int .i64 0, .int .i64 4]) (by simp [results, Tryz.results87, go_sem]) rfl ⟨?_, (Below.new w _).alloc (by simp) _⟩; rw [HP.out]; exact ⟨none, 0, rfl, .inl rfl, Nat.le_refl _, by decide, fun _ => rfl, fun _ h => by cases h⟩
      ·have HP : Hid (prd L = (⟨key / 8, 5, le ((L.drop (k + 1)).take 4), []⟩, (k : Int) + 1 + 4, 0)) := by
        show _ = _; rw [HP.out]; unfold body; rw [if_neg (by have := KK.out; omega), if_neg (by have := KK.out; omega), if_pos KK.out, if_neg (by omega)]; simp
       obtain ⟨T, hT⟩ : ∃ T, T = (L.drop (k + 1)).take 4 := ⟨_, rfl⟩; rw [← hT] at HP; have hTl : T.length = 4 := by rw [hT]; simp; omega
       have hTb : ∀ x ∈ T, 0 ≤ x ∧ x ≤ 255 := by rw [hT]; exact fun x hx => hb x (List.mem_of_mem_drop (List.mem_of_mem_take hx))
       have hTg : ∀ j, j < 4 → T[j]? = L[k + 1 + j]? := by
        intro j hj; rw [hT, List.getElem?_take, if_pos (by omega), List.getElem?_drop]
       have HTL := Lib.hid hTl; have HTB := Lib.hid hTb; have HTG := Lib.hid hTg; clear hT hTl hTb hTg HD HDL; have hF := Blk.lit (w.alloc (.cells #[.int .i64 0, .int .i64 0, .int .u64 0, .slice none 0 0] 72)) (w.heap.size + 1) [.int .i64 (key / 8), .int .i64 (key % 8), .int .u64 0, .slice none 0 0] 72 (by simp); have hR := (Blk.lit w w.heap.size [.int .i64 0, .int .i64 0, .int .u64 0, .slice none 0 0] 72 rfl).alloc (.cells #[.int .i64 (key / 8), .int .i64 (key % 8), .int .u64 0, .slice none 0 0] 72); have hB : Below w.heap.size w ((w.alloc (.cells #[.int .i64 0, .int .i64 0, .int .u64 0, .slice none 0 0] 72)).alloc (.cells #[.int .i64 (key / 8), .int .i64 (key % 8), .int .u64 0, .slice none 0 0] 72)) := (Below.new w _).alloc (by simp) _; go_wp2
       go_loopw [11] (fun d wr => ∃ j : Nat, j ≤ 4 ∧ d = .int .i64 ((j : Int) - 1) ∧ Blk wr (w.heap.size + 1) [.int .i64 (key / 8), .int .i64 (key % 8), .int .u64 (le (T.drop j)), .slice none 0 0] ∧
        Blk wr w.heap.size [.int .i64 0, .int .i64 0, .int .u64 0, .slice none 0 0] ∧ Below w.heap.size w wr) (fun d _ => (intOf d + 1).toNat)
       case atStart =>
        have h0 : T.drop 4 = [] := List.drop_of_length_le (by rw [HTL.out]; exact Nat.le_refl _); exact ⟨4, Nat.le_refl _, by go_num, by rw [h0]; exact hF, hR, hB⟩
       case round =>
        obtain ⟨j, hj, rfl, hF1, hR1, htrue⟩ := hrel; clear hF hR hB
        by_cases hj0 : j ≤ 0
        ·obtain rfl : j = 0 := by omega
         rw [List.drop_zero] at hF1; have d0 := hF1.cell 0 rfl; have d1 := hF1.cell 1 rfl; have d2 := hF1.cell 2 rfl; have d3 := hF1.cell 3 rfl; have r0 := hR1.cell 0 rfl; have r1 := hR1.cell 1 rfl; have r2 := hR1.cell 2 rfl; have r3 := hR1.cell 3 rfl; have s0 := hR1.free 0; have s1 := hR1.free 1; have s2 := hR1.free 2; have s3 := hR1.free 3; go_wp2; rw [Exit.jump_ret]; clear d0 d1 d2 d3 r0 r1 r2 r3 s0 s1 s2 s3; have hR5 := (((hR1.set 0 (.int .i64 (key / 8))).set 1 (.int .i64 (key % 8))).set 2 (.int .u64 (le T))).set 3 (.slice none 0 0); have q0 := hR5.cell 0 rfl; have q1 := hR5.cell 1 rfl; have q2 := hR5.cell 2 rfl; have q3 := hR5.cell 3 rfl; have hB5 := (((htrue.set_at (b := w.heap.size) (o := 0) (Nat.le_refl _) (.int .i64 (key / 8))).set_at (b := w.heap.size) (o := 1) (Nat.le_refl _) (.int .i64 (key % 8))).set_at (b := w.heap.size) (o := 2) (Nat.le_refl _) (.int .u64 (le T))).set_at (b := w.heap.size) (o := 3) (Nat.le_refl _) (.slice none 0 0); clear hR5 hR1 hF1 htrue; generalize (((wr.setCell ⟨w.heap.size, 0, none⟩ (.int .i64 (key / 8))).setCell ⟨w.heap.size, 1, none⟩ (.int .i64 (key % 8))).setCell ⟨w.heap.size, 2, none⟩ (.int .u64 (le T))).setCell ⟨w.heap.size, 3, none⟩ (.slice none 0 0) = w5 at *; refine bodyPost_ret (v := .tuple #[.agg #[.int .i64 (key / 8), .int .i64 (key % 8), .int .u64 (le T), .slice none 0 0], .int .i64 ((k : Int) + 1 + 4), .int .i64 0]) (by simp [results, Tryz.results87, go_sem, q0, q1, q2, q3]) rfl ⟨?_, hB5⟩; rw [HP.out, KK.out]; exact ⟨none, 0, rfl, .inl rfl, Nat.le_refl _, by decide, fun _ => rfl, fun _ h => by cases h⟩
        ·obtain ⟨i, rfl⟩ : ∃ i, j = i + 1 := ⟨j - 1, by omega⟩; have hip : k + 1 + i < L.length := by omega
         have hLe := le_drop T i (by rw [HTL.out]; omega); have hTi : T[i]'(by rw [HTL.out]; omega) = L[k + 1 + i] := by
          have h1 := HTG.out i (by omega); rw [List.getElem?_eq_getElem (by rw [HTL.out]; omega), List.getElem?_eq_getElem hip] at h1; exact Option.some.inj h1
         have hbn := le_8 (T.drop (i + 1)) (fun x hx => HTB.out x (List.mem_of_mem_drop hx)) 7 (by rw [List.length_drop, HTL.out]; omega) (by omega); simp only [Int.reducePow] at hbn; rw [hTi] at hLe; obtain ⟨b1, off1, hao, hcell, _⟩ := (hr.keep htrue).at (i := k + 1 + i) (v := .int .u8 L[k + 1 + i]) (by simp [hip])
         cases hao
         have hx := hb L[k + 1 + i] (by simp); have HLE := Lib.hid hLe; clear hLe hTi; generalize le (T.drop (i + 1)) = nv at *; have hor : bits BinOp.or IntKind.u64 (nv * 256) L[k + 1 + i] = nv * 256 + L[k + 1 + i] := u64_or_hi 8 _ _ (by omega) (by omega) (by omega) (by omega) hx.1 (by omega); have d2 := hF1.cell 2 rfl; have f2 := hF1.free 2; have hi1 : ((i + 1 : Nat) : Int) - 1 = (i : Int) := by omega
         rw [hi1]; go_wp2
         go_region
         have hF2 := (hF1.set 2 (.int .u64 (nv * 256 + L[k + 1 + i]))).drew; have hR2 := (hR1.set_at (b' := w.heap.size + 1) (o := 2) (by omega) (.int .u64 (nv * 256 + L[k + 1 + i]))).drew; have hB2 := (htrue.set_at (b := w.heap.size + 1) (o := 2) (by omega) (.int .u64 (nv * 256 + L[k + 1 + i]))).drew; go_wp2; go_roundw
         case rel =>
          refine ⟨i, by omega, rfl, ?_, hR2, hB2⟩; rw [show le (T.drop i) = nv * 256 + L[k + 1 + i] by rw [HLE.out]; omega]; exact hF2
         case measure => simp [intOf] <;> omega
     ·by_cases k0 : key % 8 = 0
      ·have hb1 : (key % 8 == 1) = false := by simp [k1]
       have hb5 : (key % 8 == 5) = false := by simp [k5]
       have hbz : (key % 8 == 0) = true := by simp [k0]
       by_cases hD0 : L.length = k + 1
       ·have HP : Hid (prd L = (Fld.zero, 0, 4)) := by
         show _ = _; have h0 : D = [] := List.length_eq_zero_iff.1 (by have := HDL.out; omega); rw [HP.out]; unfold body; rw [if_pos (by omega), ← HD.out, h0, if_neg (by decide)]; rfl
        clear HV2 HDR HDZ HD HDL k1 k5 k0
        go_wp2_with fail
        all_goals
         refine (vread_any _ _ [] (by simp) (by simp) _ (.inl rfl)).mono ?_; rintro e w1 ⟨he, rfl⟩; have h4 : rd [] = (0, 0, 4) := by decide
         rw [h4] at he; simp only [Rd3] at he; subst he; go_wp2
         go_step3
         show (0 : Nat) = 0 ∧ J _ _; refine ⟨by decide, HJ.out _ _ ?_⟩; go_wp2; rw [Exit.jump_ret]; refine bodyPost_ret (v := .tuple #[.agg #[.int .i64 0, .int .i64 0, .int .u64 0, .slice none 0 0], .int .i64 0, .int .i64 4]) (by simp [results, Tryz.results87, go_sem]) rfl ⟨?_, (Below.new w _).alloc (by simp) _⟩; rw [HP.out]; exact ⟨none, 0, rfl, .inl rfl, Nat.le_refl _, by decide, fun _ => rfl, fun _ h => by cases h⟩
       have hck : ¬ c = k + 1 := by omega
       have KK := Lib.hid k0; clear k1 k5 k0; obtain ⟨n, k2, e2, hrd2⟩ : ∃ n k2 e2, rd D = (n, k2, e2) := ⟨_, _, _, rfl⟩; have hrdw : ∀ W, Below w.heap.size w W → Rd W (some ⟨b0, off0, none⟩) (L.map (Value.int .u8)) := fun W h => hr.keep h; have HRW := Lib.hid hrdw; have HR2 := Lib.hid hrd2; clear hrdw hrd2
       by_cases he2 : e2 = 0
       ·have hbd2 := rd_bd D hDb (by rw [HR2.out]; exact he2); obtain ⟨m, hm, hrm, -⟩ := rd_ok D (by rw [HR2.out]; exact he2); rw [HR2.out] at hbd2 hrm; simp only [Prod.mk.injEq] at hbd2 hrm; obtain ⟨-, rfl, -⟩ := hrm; have hml : m + 1 ≤ L.length - (k + 1) := by have := HDL.out; omega
        have hb2e : (e2 != 0) = false := by simp [he2]
        have HP : Hid (prd L = (⟨key / 8, 0, n, []⟩, (k : Int) + 1 + ((m : Int) + 1), 0)) := by
         show _ = _; rw [HP.out]; unfold body; rw [if_pos (by have := KK.out; omega), ← HD.out, HR2.out, if_pos (by exact he2), if_pos KK.out]; simp
        have HK := Lib.hid KK.out; clear he2
        go_wp2_with fail
        all_goals
         refine (HV2.out _ _ (HDR.out _ ((hr.alloc _).alloc _))).mono ?_; rintro e w1 ⟨he, rfl⟩; rw [HR2.out] at he; simp only [Rd3] at he; subst he; go_wp2; rw [Exit.jump_ret]; refine bodyPost_ret (v := .tuple #[.agg #[.int .i64 (key / 8), .int .i64 (key % 8), .int .u64 n, .slice none 0 0], .int .i64 ((k : Int) + 1 + ((m : Int) + 1)), .int .i64 0]) (by simp [results, Tryz.results87, go_sem]) rfl ⟨?_, (Below.new w _).alloc (by simp) _⟩; rw [HP.out, HK.out]; exact ⟨none, 0, rfl, .inl rfl, Nat.le_refl _, by decide, fun _ => rfl, fun _ h => by cases h⟩
       ·have hb2e : (e2 != 0) = true := by simpa using he2
        have HP : Hid (prd L = (Fld.zero, 0, e2)) := by
         show _ = _; rw [HP.out]; unfold body; rw [if_pos (by have := KK.out; omega), ← HD.out, HR2.out, if_neg (by exact he2)]
        clear he2
        go_wp2_with fail
        all_goals
         refine (HV2.out _ _ (HDR.out _ ((hr.alloc _).alloc _))).mono ?_; rintro e w1 ⟨he, rfl⟩; rw [HR2.out] at he; simp only [Rd3] at he; subst he; go_wp2
         go_step3
         show (0 : Nat) = 0 ∧ J _ _; refine ⟨by decide, HJ.out _ _ ?_⟩; go_wp2; rw [Exit.jump_ret]; refine bodyPost_ret (v := .tuple #[.agg #[.int .i64 0, .int .i64 0, .int .u64 0, .slice none 0 0], .int .i64 0, .int .i64 e2]) (by simp [results, Tryz.results87, go_sem]) rfl ⟨?_, (Below.new w _).alloc (by simp) _⟩; rw [HP.out]; exact ⟨none, 0, rfl, .inl rfl, Nat.le_refl _, by decide, fun _ => rfl, fun _ h => by cases h⟩
      ·by_cases k2 : key % 8 = 2
       ·have hb1 : (key % 8 == 1) = false := by simp [k1]
        have hb5 : (key % 8 == 5) = false := by simp [k5]
        have hbz : (key % 8 == 0) = false := by simp [k0]
        have hbt : (key % 8 == 2) = true := by simp [k2]
        by_cases hD0 : L.length = k + 1
        ·have HP : Hid (prd L = (Fld.zero, 0, 4)) := by
          show _ = _; have h0 : D = [] := List.length_eq_zero_iff.1 (by have := HDL.out; omega); rw [HP.out]; unfold body; rw [if_pos (by omega), ← HD.out, h0, if_neg (by decide)]; rfl
         clear HV2 HDR HDZ HD HDL k1 k5 k0 k2
         go_wp2_with fail
         all_goals
          refine (vread_any _ _ [] (by simp) (by simp) _ (.inl rfl)).mono ?_; rintro e w1 ⟨he, rfl⟩; have h4 : rd [] = (0, 0, 4) := by decide
          rw [h4] at he; simp only [Rd3] at he; subst he; go_wp2
          go_step3
          show (0 : Nat) = 0 ∧ J _ _; refine ⟨by decide, HJ.out _ _ ?_⟩; go_wp2; rw [Exit.jump_ret]; refine bodyPost_ret (v := .tuple #[.agg #[.int .i64 0, .int .i64 0, .int .u64 0, .slice none 0 0], .int .i64 0, .int .i64 4]) (by simp [results, Tryz.results87, go_sem]) rfl ⟨?_, (Below.new w _).alloc (by simp) _⟩; rw [HP.out]; exact ⟨none, 0, rfl, .inl rfl, Nat.le_refl _, by decide, fun _ => rfl, fun _ h => by cases h⟩
        have hck : ¬ c = k + 1 := by omega
        have KK := Lib.hid k2; clear k1 k5 k0 k2; obtain ⟨n, k2, e2, hrd2⟩ : ∃ n k2 e2, rd D = (n, k2, e2) := ⟨_, _, _, rfl⟩; have hrdw : ∀ W, Below w.heap.size w W → Rd W (some ⟨b0, off0, none⟩) (L.map (Value.int .u8)) := fun W h => hr.keep h; have HRW := Lib.hid hrdw; have HR2 := Lib.hid hrd2; clear hrdw hrd2
        by_cases he2 : e2 = 0
        ·have hbd2 := rd_bd D hDb (by rw [HR2.out]; exact he2); obtain ⟨m, hm, hrm, -⟩ := rd_ok D (by rw [HR2.out]; exact he2); rw [HR2.out] at hbd2 hrm; simp only [Prod.mk.injEq] at hbd2 hrm; obtain ⟨-, rfl, -⟩ := hrm; have hml : m + 1 ≤ L.length - (k + 1) := by have := HDL.out; omega
         have hb2e : (e2 != 0) = false := by simp [he2]
         by_cases hn : (L.length : Int) - ((k : Int) + 1 + ((m : Int) + 1)) < n
         ·have HP : Hid (prd L = (Fld.zero, 0, 4)) := by
           show _ = _; rw [HP.out]; unfold body; rw [if_pos (by have := KK.out; omega), ← HD.out, HR2.out, if_pos (by exact he2), if_neg (by have := KK.out; omega), if_pos (by simp only; omega)]
          clear he2
          go_wp2_with fail
          all_goals
           refine (HV2.out _ _ (HDR.out _ ((hr.alloc _).alloc _))).mono ?_; rintro e w1 ⟨he, rfl⟩; rw [HR2.out] at he; simp only [Rd3] at he; subst he; go_wp2
           go_step3
           show (0 : Nat) = 0 ∧ J _ _; refine ⟨by decide, HJ.out _ _ ?_⟩; go_wp2; rw [Exit.jump_ret]; refine bodyPost_ret (v := .tuple #[.agg #[.int .i64 0, .int .i64 0, .int .u64 0, .slice none 0 0], .int .i64 0, .int .i64 4]) (by simp [results, Tryz.results87, go_sem]) rfl ⟨?_, (Below.new w _).alloc (by simp) _⟩; rw [HP.out]; exact ⟨none, 0, rfl, .inl rfl, Nat.le_refl _, by decide, fun _ => rfl, fun _ h => by cases h⟩
         ·have HP : Hid (prd L = (⟨key / 8, 2, 0, (L.drop (k + 1 + (m + 1))).take n.toNat⟩, (k : Int) + 1 + ((m : Int) + 1) + n, 0)) := by
           show _ = _; rw [HP.out]; unfold body; rw [if_pos (by have := KK.out; omega), ← HD.out, HR2.out, if_pos (by exact he2), if_neg (by have := KK.out; omega), if_neg (by simp only; omega)]; have : ((m : Int) + 1).toNat = m + 1 := by omega
           simp only [this]; simp
          clear he2
          go_wp2_with fail
          all_goals
           refine (HV2.out _ _ (HDR.out _ ((hr.alloc _).alloc _))).mono ?_; rintro e w1 ⟨he, rfl⟩; rw [HR2.out] at he; simp only [Rd3] at he; subst he; obtain ⟨nn, rfl⟩ := Int.eq_ofNat_of_zero_le hbd2.1; obtain ⟨q, hq⟩ : ∃ q, q = k + 1 + (m + 1) := ⟨_, rfl⟩; have hqn : q + nn ≤ L.length := by omega
           have hqL : q ≤ L.length := by omega
           have hqi : ((k : Int) + 1 + ((m : Int) + 1)) = (q : Int) := by omega
           rw [Int.toNat_natCast, ← hq, hqi] at HP; have HQ := Lib.hid hq; clear hq; obtain ⟨iu, hi, hz0, hz1, hz2⟩ := info_parts Tryz.infoU8; have hF := Blk.lit (w.alloc (.cells #[.int .i64 0, .int .i64 0, .int .u64 0, .slice none 0 0] 72)) (w.heap.size + 1) [.int .i64 (key / 8), .int .i64 (key % 8), .int .u64 0, .slice none 0 0] 72 (by simp); have hR := Blk.lit w w.heap.size [.int .i64 0, .int .i64 0, .int .u64 0, .slice none 0 0] 72 rfl
           go_wp2_with (at_make; go_must (refine wpList_make_full _ rfl (.tmp 72) (.tmp 72) 31 rfl (w.heap.size + 2) 5 iu (.int .u8 0) 1 Tryz.underlying31 hi hz0 hz1 .u64 .u64 (nn : Int) (nn : Int) nn rfl rfl rfl rfl (by rw [hz2]; omega) (by unfold maxLen; omega) (by simp only [World.size_alloc]; omega) ?_); intro w2 hown2 hgrow2; have hB2 : Below w.heap.size w w2 := ((Below.new w _).alloc (by simp) _).grown hgrow2 (by simp only [World.size_alloc]; omega) (fun k hk => by cases hk); have hF2 := hF.grown hgrow2 (by simp); have hR2 := (hR.alloc (.cells #[.int .i64 (key / 8), .int .i64 (key % 8), .int .u64 0, .slice none 0 0] 72)).grown hgrow2 (by simp); simp only [World.size_alloc] at hown2; clear hgrow2 hF hR hi hz0 hz1 hz2 hr HDR HV2 HD HDL HDZ HR2; have c3 := hF2.cell 3 rfl; have f3 := hF2.free 3)
           have hF3 := hF2.set 3 (.slice (some ⟨w.heap.size + 1 + 1, 0, none⟩) nn nn); have hR3 := hR2.set_at (b' := w.heap.size + 1) (o := 3) (by omega) (.slice (some ⟨w.heap.size + 1 + 1, 0, none⟩) nn nn); have hown3 := hown2.set_lt (b := w.heap.size + 1) (o := 3) (by omega) (.slice (some ⟨w.heap.size + 1 + 1, 0, none⟩) nn nn); have hB3 := hB2.set_at (b := w.heap.size + 1) (o := 3) (by omega) (.slice (some ⟨w.heap.size + 1 + 1, 0, none⟩) nn nn); clear hown2 hF2 hR2 hB2 c3 f3; generalize w2.setCell ⟨w.heap.size + 1, 3, none⟩ (.slice (some ⟨w.heap.size + 1 + 1, 0, none⟩) nn nn) = w3 at *; have hblk := hown3.block; have hZl : (madeCells (Value.int IntKind.u8 0).cells (nn * 1)).toList.length = nn := by simpa using hown3.1
           generalize (madeCells (Value.int IntKind.u8 0).cells (nn * 1)).toList = Z at *; have hsrc := ((HRW.out w3 hB3).drop q).take nn; rw [← List.map_drop, ← List.map_take] at hsrc; have hcl : (((L.drop q).take nn).map (Value.int .u8)).length = nn := by simp; omega
           have c3 := hF3.cell 3 rfl; have HZL := Lib.hid hZl; have HCL := Lib.hid hcl; have HBLK := Lib.hid hblk; clear hZl hcl hblk hown3 HRW
           by_cases hcq : c = q
           ·have hnn0 : nn = 0 := by omega
            have HNN := Lib.hid hnn0; have hnn1 : nn ≤ 0 := by omega
            clear hnn0; refine wp_region_lit_txt [0, 1, 2, 3, 4] (fun W => W.cell? ⟨w.heap.size + 1, 3, none⟩ = some (.slice (some ⟨w.heap.size + 1 + 1, 0, none⟩) nn nn)) (by kernel_rfl) (by kernel_rfl) (by kernel_rfl) c3 ?_
            iterate 5 ((refine txt_light ?_ rfl rfl ?_ ?_; rotate_left; · (intro w' hS; (try dsimp only at hS); go_simp; with_reducible rfl)); try simp only [Act.put, List.setIfInBounds_toArray, List.set_cons_zero, List.set_cons_succ])
            clear hcq; refine txt_copy rfl rfl (.tmp 76) (.tmp 79) 31 31 rfl 5 Tryz.underlying31 (by kernel_rfl) (some ⟨w.heap.size + 1 + 1, 0, none⟩) (some ⟨b0, off0, none⟩) nn nn (L.length - q) 0 rfl rfl (w.heap.size + 1 + 1) 0 Z 5 HBLK.out (((L.drop q).take nn).map (Value.int .u8)) (by rw [HCL.out]; show nn = min (L.length - q) nn; omega) (fun h => absurd h (by rw [HCL.out]; omega)) (by rw [HCL.out, HZL.out]; omega) (ints_one .u8 _) (w.heap.size + 1 + 1) w3.drew (Below.refl _ _) (Nat.le_refl _) ?_; intro w4 hg4 hb4; have hF4 := (hF3.drew).below hb4 (by omega); have hR4 := (hR3.drew).below hb4 (by omega); have hB4 := hB3.drew.trans (hb4.mono (by omega)); refine ⟨hF4.cell 3 rfl, ?_⟩
            try simp only [Act.put, List.setIfInBounds_toArray, List.set_cons_zero, List.set_cons_succ]
            have hsp := splice_all Z (((L.drop q).take nn).map (Value.int .u8)) (by rw [HZL.out, HCL.out]); have hG4 : Blk w4 (w.heap.size + 1 + 1) (((L.drop q).take nn).map (Value.int .u8)) := ⟨5, by rw [← hsp]; exact hg4.out⟩; have hU4 : Typed 5 w4 (w.heap.size + 1 + 1) := ⟨_, _, hg4.out⟩; clear hg4 hb4 hF3 hR3 hB3 c3 HBLK hsrc hsp; have d0 := hF4.cell 0 rfl; have d1 := hF4.cell 1 rfl; have d2 := hF4.cell 2 rfl; have d3 := hF4.cell 3 rfl; have r0 := hR4.cell 0 rfl; have r1 := hR4.cell 1 rfl; have r2 := hR4.cell 2 rfl; have r3 := hR4.cell 3 rfl; have s0 := hR4.free 0; have s1 := hR4.free 1; have s2 := hR4.free 2; have s3 := hR4.free 3; refine txt_nil ?_; go_wp2; rw [Exit.jump_ret]; clear d0 d1 d2 d3 r0 r1 r2 r3 s0 s1 s2 s3; have hR5 := (((hR4.set 0 (.int .i64 (key / 8))).set 1 (.int .i64 (key % 8))).set 2 (.int .u64 0)).set 3 (.slice (some ⟨w.heap.size + 1 + 1, 0, none⟩) nn nn); have hG5 := (((hG4.set_at (b' := w.heap.size) (o := 0) (by omega) (.int .i64 (key / 8))).set_at (b' := w.heap.size) (o := 1) (by omega) (.int .i64 (key % 8))).set_at (b' := w.heap.size) (o := 2) (by omega) (.int .u64 0)).set_at (b' := w.heap.size) (o := 3) (by omega) (.slice (some ⟨w.heap.size + 1 + 1, 0, none⟩) nn nn); have hU5 := (((hU4.set_at (b' := w.heap.size) (o := 0) (by omega) (.int .i64 (key / 8))).set_at (b' := w.heap.size) (o := 1) (by omega) (.int .i64 (key % 8))).set_at (b' := w.heap.size) (o := 2) (by omega) (.int .u64 0)).set_at (b' := w.heap.size) (o := 3) (by omega) (.slice (some ⟨w.heap.size + 1 + 1, 0, none⟩) nn nn)
            have q0 := hR5.cell 0 rfl; have q1 := hR5.cell 1 rfl; have q2 := hR5.cell 2 rfl; have q3 := hR5.cell 3 rfl; have hB5 := (((hB4.set_at (b := w.heap.size) (o := 0) (Nat.le_refl _) (.int .i64 (key / 8))).set_at (b := w.heap.size) (o := 1) (Nat.le_refl _) (.int .i64 (key % 8))).set_at (b := w.heap.size) (o := 2) (Nat.le_refl _) (.int .u64 0)).set_at (b := w.heap.size) (o := 3) (Nat.le_refl _) (.slice (some ⟨w.heap.size + 1 + 1, 0, none⟩) nn nn); clear hR5 hR4 hG4 hB4 hF4 hU4; generalize (((w4.setCell ⟨w.heap.size, 0, none⟩ (.int .i64 (key / 8))).setCell ⟨w.heap.size, 1, none⟩ (.int .i64 (key % 8))).setCell ⟨w.heap.size, 2, none⟩ (.int .u64 0)).setCell ⟨w.heap.size, 3, none⟩ (.slice (some ⟨w.heap.size + 1 + 1, 0, none⟩) nn nn) = w5 at *; refine bodyPost_ret (v := .tuple #[.agg #[.int .i64 (key / 8), .int .i64 (key % 8), .int .u64 0, .slice (some ⟨w.heap.size + 1 + 1, 0, none⟩) nn nn], .int .i64 ((q : Int) + (nn : Int)), .int .i64 0]) (by simp [results, Tryz.results87, go_sem, q0, q1, q2, q3]) rfl ⟨?_, hB5⟩; rw [HP.out, KK.out]; refine ⟨some ⟨w.heap.size + 1 + 1, 0, none⟩, nn, ?_, Rd.of_blk hG5, by simp; omega, by unfold maxLen; omega, (fun h => by cases h), (fun b hb => by cases hb; exact hU5)⟩; have : ((L.drop q).take nn).length = nn := by simp; omega
            rw [this]
           ·have hck2 := hcq; refine wp_region_lit_txt [0, 1, 2, 3, 4] (fun W => W.cell? ⟨w.heap.size + 1, 3, none⟩ = some (.slice (some ⟨w.heap.size + 1 + 1, 0, none⟩) nn nn)) (by kernel_rfl) (by kernel_rfl) (by kernel_rfl) c3 ?_
            iterate 5 ((refine txt_light ?_ rfl rfl ?_ ?_; rotate_left; · (intro w' hS; (try dsimp only at hS); go_simp; with_reducible rfl)); try simp only [Act.put, List.setIfInBounds_toArray, List.set_cons_zero, List.set_cons_succ])
            refine txt_copy rfl rfl (.tmp 76) (.tmp 79) 31 31 rfl 5 Tryz.underlying31 (by kernel_rfl) (some ⟨w.heap.size + 1 + 1, 0, none⟩) (some ⟨b0, off0 + q, none⟩) nn nn (L.length - q) (c - q) rfl rfl (w.heap.size + 1 + 1) 0 Z 5 HBLK.out (((L.drop q).take nn).map (Value.int .u8)) (by rw [HCL.out]; show nn = min (L.length - q) nn; omega) (fun _ => ⟨rfl, _, rfl, hsrc.add⟩) (by rw [HCL.out, HZL.out]; omega) (ints_one .u8 _) (w.heap.size + 1 + 1) w3.drew (Below.refl _ _) (Nat.le_refl _) ?_; intro w4 hg4 hb4; have hF4 := (hF3.drew).below hb4 (by omega); have hR4 := (hR3.drew).below hb4 (by omega); have hB4 := hB3.drew.trans (hb4.mono (by omega)); refine ⟨hF4.cell 3 rfl, ?_⟩
            try simp only [Act.put, List.setIfInBounds_toArray, List.set_cons_zero, List.set_cons_succ]
            have hsp := splice_all Z (((L.drop q).take nn).map (Value.int .u8)) (by rw [HZL.out, HCL.out]); have hG4 : Blk w4 (w.heap.size + 1 + 1) (((L.drop q).take nn).map (Value.int .u8)) := ⟨5, by rw [← hsp]; exact hg4.out⟩; have hU4 : Typed 5 w4 (w.heap.size + 1 + 1) := ⟨_, _, hg4.out⟩; clear hg4 hb4 hF3 hR3 hB3 c3 HBLK hsrc hsp; have d0 := hF4.cell 0 rfl; have d1 := hF4.cell 1 rfl; have d2 := hF4.cell 2 rfl; have d3 := hF4.cell 3 rfl; have r0 := hR4.cell 0 rfl; have r1 := hR4.cell 1 rfl; have r2 := hR4.cell 2 rfl; have r3 := hR4.cell 3 rfl; have s0 := hR4.free 0; have s1 := hR4.free 1; have s2 := hR4.free 2; have s3 := hR4.free 3; refine txt_nil ?_; go_wp2; rw [Exit.jump_ret]; clear d0 d1 d2 d3 r0 r1 r2 r3 s0 s1 s2 s3; have hR5 := (((hR4.set 0 (.int .i64 (key / 8))).set 1 (.int .i64 (key % 8))).set 2 (.int .u64 0)).set 3 (.slice (some ⟨w.heap.size + 1 + 1, 0, none⟩) nn nn); have hG5 := (((hG4.set_at (b' := w.heap.size) (o := 0) (by omega) (.int .i64 (key / 8))).set_at (b' := w.heap.size) (o := 1) (by omega) (.int .i64 (key % 8))).set_at (b' := w.heap.size) (o := 2) (by omega) (.int .u64 0)).set_at (b' := w.heap.size) (o := 3) (by omega) (.slice (some ⟨w.heap.size + 1 + 1, 0, none⟩) nn nn); have hU5 := (((hU4.set_at (b' := w.heap.size) (o := 0) (by omega) (.int .i64 (key / 8))).set_at (b' := w.heap.size) (o := 1) (by omega) (.int .i64 (key % 8))).set_at (b' := w.heap.size) (o := 2) (by omega) (.int .u64 0)).set_at (b' := w.heap.size) (o := 3) (by omega) (.slice (some ⟨w.heap.size + 1 + 1, 0, none⟩) nn nn)
            have q0 := hR5.cell 0 rfl; have q1 := hR5.cell 1 rfl; have q2 := hR5.cell 2 rfl; have q3 := hR5.cell 3 rfl; have hB5 := (((hB4.set_at (b := w.heap.size) (o := 0) (Nat.le_refl _) (.int .i64 (key / 8))).set_at (b := w.heap.size) (o := 1) (Nat.le_refl _) (.int .i64 (key % 8))).set_at (b := w.heap.size) (o := 2) (Nat.le_refl _) (.int .u64 0)).set_at (b := w.heap.size) (o := 3) (Nat.le_refl _) (.slice (some ⟨w.heap.size + 1 + 1, 0, none⟩) nn nn); clear hR5 hR4 hG4 hB4 hF4 hU4; generalize (((w4.setCell ⟨w.heap.size, 0, none⟩ (.int .i64 (key / 8))).setCell ⟨w.heap.size, 1, none⟩ (.int .i64 (key % 8))).setCell ⟨w.heap.size, 2, none⟩ (.int .u64 0)).setCell ⟨w.heap.size, 3, none⟩ (.slice (some ⟨w.heap.size + 1 + 1, 0, none⟩) nn nn) = w5 at *; refine bodyPost_ret (v := .tuple #[.agg #[.int .i64 (key / 8), .int .i64 (key % 8), .int .u64 0, .slice (some ⟨w.heap.size + 1 + 1, 0, none⟩) nn nn], .int .i64 ((q : Int) + (nn : Int)), .int .i64 0]) (by simp [results, Tryz.results87, go_sem, q0, q1, q2, q3]) rfl ⟨?_, hB5⟩; rw [HP.out, KK.out]; refine ⟨some ⟨w.heap.size + 1 + 1, 0, none⟩, nn, ?_, Rd.of_blk hG5, by simp; omega, by unfold maxLen; omega, (fun h => by cases h), (fun b hb => by cases hb; exact hU5)⟩; have : ((L.drop q).take nn).length = nn := by simp; omega
            rw [this]
        ·have hb2e : (e2 != 0) = true := by simpa using he2
         have HP : Hid (prd L = (Fld.zero, 0, e2)) := by
          show _ = _; rw [HP.out]; unfold body; rw [if_pos (by have := KK.out; omega), ← HD.out, HR2.out, if_neg (by exact he2)]
         clear he2
         go_wp2_with fail
         all_goals
          refine (HV2.out _ _ (HDR.out _ ((hr.alloc _).alloc _))).mono ?_; rintro e w1 ⟨he, rfl⟩; rw [HR2.out] at he; simp only [Rd3] at he; subst he; go_wp2
          go_step3
          show (0 : Nat) = 0 ∧ J _ _; refine ⟨by decide, HJ.out _ _ ?_⟩; go_wp2; rw [Exit.jump_ret]; refine bodyPost_ret (v := .tuple #[.agg #[.int .i64 0, .int .i64 0, .int .u64 0, .slice none 0 0], .int .i64 0, .int .i64 e2]) (by simp [results, Tryz.results87, go_sem]) rfl ⟨?_, (Below.new w _).alloc (by simp) _⟩; rw [HP.out]; exact ⟨none, 0, rfl, .inl rfl, Nat.le_refl _, by decide, fun _ => rfl, fun _ h => by cases h⟩
       ·have hb1 : (key % 8 == 1) = false := by simp [k1]
        have hb5 : (key % 8 == 5) = false := by simp [k5]
        have hbz : (key % 8 == 0) = false := by simp [k0]
        have hb2 : (key % 8 == 2) = false := by simp [k2]
        have HP : Hid (prd L = (Fld.zero, 0, 14)) := by
         show _ = _; rw [HP.out]; unfold body; rw [if_neg (by omega), if_neg k1, if_neg k5]
        clear k1 k5 k0 k2; go_wp2
        go_step3
        show (0 : Nat) = 0 ∧ J _ _; refine ⟨by decide, HJ.out _ _ ?_⟩; clear HJ; go_wp2; rw [Exit.jump_ret]; refine bodyPost_ret (v := .tuple #[.agg #[.int .i64 0, .int .i64 0, .int .u64 0, .slice none 0 0], .int .i64 0, .int .i64 14]) (by simp [results, Tryz.results87, go_sem]) rfl ⟨?_, (Below.new w _).alloc (by simp) _⟩; rw [HP.out]; exact ⟨none, 0, rfl, .inl rfl, Nat.le_refl _, by decide, fun _ => rfl, fun _ h => by cases h⟩
 ·have hb0 : (re != 0) = true := by simpa using h0
  have HP : Hid (prd L = (Fld.zero, 0, re)) := by show _ = _; unfold prd; rw [HRD.out]; simp [h0]
  clear h0; go_wp2
  go_step3
  show (0 : Nat) = 0 ∧ J _ _; refine ⟨by decide, HJ.out _ _ ?_⟩; clear HJ; go_wp2; rw [Exit.jump_ret]; refine bodyPost_ret (v := .tuple #[.agg #[.int .i64 0, .int .i64 0, .int .u64 0, .slice none 0 0], .int .i64 0, .int .i64 re]) (by simp [results, Tryz.results87, go_sem]) rfl ⟨?_, (Below.new w _).alloc (by simp) _⟩; rw [HP.out]; exact ⟨none, 0, rfl, .inl rfl, Nat.le_refl _, by decide, fun _ => rfl, fun _ h => by cases h⟩
end Go.Proofs.YtjggoajfilnfjaaGreat
